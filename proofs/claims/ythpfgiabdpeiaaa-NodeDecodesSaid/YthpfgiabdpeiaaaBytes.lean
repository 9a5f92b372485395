
/- Numbers of bytes. -/
import Derived.Test.YthpfgiabdpeiaaaBox
import Derived.Laws.StructEq
namespace Go.Proofs.Ythpfgiabdpeiaaa.Abs
open Go Go.Proofs
noncomputable section
variable {call : Abs.Callee}
set_option maxRecDepth 10000
theorem ft18 : T0.ft.get 18 = some Try.f18 := by kernel_rfl
theorem ft8 : T0.ft.get 8 = some Try.f8 := by kernel_rfl
theorem ft10 : T0.ft.get 10 = some Try.f10 := by kernel_rfl
theorem ft13 : T0.ft.get 13 = some Try.f13 := by kernel_rfl
def num2 (x y : Nat) : Nat := x + 256 * y
theorem or_num (x y : Nat) (hx : x < 256) : x ||| y <<< 8 = num2 x y := by
  unfold num2
  rw [Nat.or_comm, Nat.shiftLeft_eq, show 2 ^ 8 = 256 by decide, Nat.mul_comm y 256]
  have := Nat.two_pow_add_eq_or_of_lt (i := 8) (b := x) (by omega) y
  rw [show 2 ^ 8 = 256 by decide] at this
  omega
theorem get_S (x y : Nat) (hx : x < 256) (hy : y < 256) (v : Value) (n0 : Nat) (h : AH) (hv : Row n0 h v (bytesV [x, y]) 5) : frameB T0 X0 call 3000 18 [v] h = some (iv (num2 x y), h) := by
  obtain ⟨p0, a0, b0⟩ := hv.at und_bytes sz_u8 agg_u8 (i := 0) rfl
  obtain ⟨p1, a1, b1⟩ := hv.at und_bytes sz_u8 agg_u8 (i := 1) rfl
  have a0 : evIndexAddr T0 22 v (iv 0) = some p0 := a0
  have a1 : evIndexAddr T0 22 v (iv 1) = some p1 := a1
  have hl : ∀ ty h', evBuiltin T0 .len #[22] ty [v] h' = some (.value (iv 2), h') := fun ty h' => hv.len und_bytes
  have wx : IntKind.i64.wrap (x : Int) = x := wz (by omega)
  have wy : IntKind.i64.wrap (y : Int) = y := wz (by omega)
  have s0 : ∀ p q, evBin T0 .shl 3 p q (iv x) (iv 0) h = some (iv x) := fun p q => by
    rw [show iv 0 = .int .i64 ((0 : Nat) : Int) from rfl, bin_shl (by decide), Nat.shiftLeft_zero, wx]
  have s1 : ∀ p q, evBin T0 .shl 3 p q (iv y) (iv 8) h = some (iv (y <<< 8 : Nat)) := fun p q => by
    rw [show iv 8 = .int .i64 ((8 : Nat) : Int) from rfl, bin_shl (by decide), wz (by rw [Nat.shiftLeft_eq]; omega)]
  have hsh : y <<< 8 < 65536 := by rw [Nat.shiftLeft_eq]; omega
  have o0 : ∀ p q, evBin T0 .or 3 p q (iv 0) (iv x) h = some (iv x) := fun p q => by
    rw [show iv 0 = .int .i64 ((0 : Nat) : Int) from rfl, bin_or (Nat.lt_trans (show 0 < 65536 by decide) (by decide)) (Nat.lt_trans (show x < 65536 by omega) (by decide)), Nat.zero_or, wx]
  have o1 : ∀ p q, evBin T0 .or 3 p q (iv x) (iv (y <<< 8 : Nat)) h = some (iv (num2 x y)) := fun p q => by
    rw [bin_or (Nat.lt_trans (show x < 65536 by omega) (by decide)) (Nat.lt_trans hsh (by decide)), or_num x y hx, wz (by unfold num2; omega)]
  have z0 : IntKind.i64.wrap 0 = 0 := by decide
  have z1 : IntKind.i64.wrap 1 = 1 := by decide
  have z2 : IntKind.i64.wrap 2 = 2 := by decide
  have z8 : IntKind.i64.wrap 8 = 8 := by decide
  rw [frameB_eq ft18 rfl rfl]
  simp only [Try.f18, symM, opFn, Nat.reduceLT, Nat.reduceBEq, symL, hl, codeB_loop, bin_lss, a0, a1, b0, b1, conv_i2i und_u8 und_int, wx, wy, bin_mul, bin_add, s0, s1, o0, o1, z0, z1, z2, z8, Int.mul_zero, Int.mul_one, Int.zero_add, show (1 : Int) + 1 = 2 from rfl, show decide ((0 : Int) < 2) = true from rfl, show decide ((1 : Int) < 2) = true from rfl, show decide ((2 : Int) < 2) = false from rfl]
  exact retB_one ft18 rfl get_same
/-- A slice of bytes that came in, or a window of it. -/
def RowX (n : Nat) (h : AH) (v : Value) (bs : List Nat) : Prop :=
  ∃ b o cap c m lo hi kd el, v = .slice (some ⟨b, o, none⟩) bs.length cap ∧ cap < XB ∧ bs.length ≤ cap ∧ b < n ∧ h.get b = some (.cells c m el lo hi kd) ∧ o + bs.length ≤ m ∧ ∀ (i x : Nat), bs[i]? = some x → c.get (o + i) = some (.int .u8 (x : Int))
theorem bytesV_at {bs : List Nat} {i : Nat} {y : Value} (h : (bytesV bs)[i]? = some y) : ∃ x : Nat, bs[i]? = some x ∧ y = .int .u8 (x : Int) := by
  simp only [bytesV, List.getElem?_map, Option.map_eq_some_iff] at h
  obtain ⟨x, h1, h2⟩ := h
  exact ⟨x, h1, h2.symm⟩
theorem bytesV_len (bs : List Nat) : (bytesV bs).length = bs.length := by simp [bytesV]
theorem RowX.row {n : Nat} {h : AH} {v : Value} {bs : List Nat} (hv : RowX n h v bs) : Row n h v (bytesV bs) 5 := by
  obtain ⟨b, o, cap, c, m, lo, hi, kd, el, h1, h2, h3, h4, h5, h6, h7⟩ := hv
  exact .inr ⟨b, o, cap, c, m, lo, hi, kd, el, by rw [bytesV_len]; exact h1, h4, h5, by rw [bytesV_len]; exact h6, fun i y hi => by obtain ⟨x, q1, rfl⟩ := bytesV_at hi; exact h7 i x q1⟩
theorem RowX.grow {n m : Nat} {h h' : AH} {v : Value} {bs : List Nat} (hr : RowX n h v bs) (g : Grow m h h') (hn : n ≤ m) : RowX n h' v bs := by
  obtain ⟨b, o, cap, c, k, lo, hi, kd, el, h1, h2, h3, h4, h5, h6, h7⟩ := hr
  exact ⟨b, o, cap, c, k, lo, hi, kd, el, h1, h2, h3, h4, (g.keep b (by omega)).trans h5, h6, h7⟩
theorem RowX.more {n k : Nat} {h : AH} {v : Value} {bs : List Nat} (hr : RowX n h v bs) (hn : n ≤ k) : RowX k h v bs := by
  obtain ⟨b, o, cap, c, m, lo, hi, kd, el, h1, h2, h3, h4, h5⟩ := hr
  exact ⟨b, o, cap, c, m, lo, hi, kd, el, h1, h2, h3, by omega, h5⟩
theorem RowX.eqv {n : Nat} {h : AH} {v : Value} {bs : List Nat} (hr : RowX n h v bs) : eqV v v = true := by
  obtain ⟨b, o, cap, c, m, lo, hi, kd, el, rfl, _⟩ := hr
  exact eqV_slice
theorem RowX.win {n : Nat} {h : AH} {v : Value} {bs : List Nat} (hr : RowX n h v bs) {hi : Option Value} {lo hh : Nat} (hhi : hi = some (iv hh) ∨ (hi = none ∧ hh = bs.length)) (hlo : lo < hh) (hle : hh ≤ bs.length) :
    ∃ w, evSliceX T0 22 v (some (iv lo)) hi none h = some (w, h) ∧ RowX n h w ((bs.drop lo).take (hh - lo)) := by
  obtain ⟨b, o, cap, c, m, l0, h0, kd, el, rfl, h2, h3, h4, h5, h6, h7⟩ := hr
  refine ⟨.slice (some ⟨b, o + lo, none⟩) (hh - lo) (cap - lo), ?_, b, o + lo, cap - lo, c, m, l0, h0, kd, el, by simp; omega, by omega, by simp; omega, h4, h5, by simp; omega, ?_⟩
  · have hbnd : boundsA bs.length cap (some (iv lo)) hi none = some (lo, hh, cap) := by
      have hlo' : Nat.ble lo hh = true := Nat.ble_eq_true_of_le (by omega)
      have hhh : Nat.ble hh cap = true := Nat.ble_eq_true_of_le (by omega)
      rcases hhi with rfl | ⟨rfl, rfl⟩
      · simp only [boundsA, boundA, show natOf (iv (lo : Int)) = some lo from rfl, show natOf (iv (hh : Int)) = some hh from rfl, hlo', hhh, ifB_true]
      · simp only [boundsA, boundA, show natOf (iv (lo : Int)) = some lo from rfl, hlo', ifB_true]
    simp only [evSliceX, evSlice, und_bytes, sz_u8, evSliceS, capOf_lt h2, hbnd, Nat.ble_eq_true_of_le (show hh ≤ cap by omega), ifB_true, ble_lt' h2, ifB_false, offS, show Nat.beq cap lo = false from nbF (by simp; omega), Nat.mul_one]
  · intro i x hi
    rw [List.getElem?_take] at hi
    split at hi
    · rw [List.getElem?_drop] at hi
      rw [Nat.add_assoc]
      exact h7 _ _ hi
    · cases hi
def byteAt (bs : List Nat) (i : Nat) : Nat := bs.getD i 0
theorem byteAt_get {bs : List Nat} {i : Nat} (h : i < bs.length) : bs[i]? = some (byteAt bs i) := by
  rw [byteAt, List.getD_eq_getElem?_getD, List.getElem?_eq_getElem h]; rfl
theorem byteAt_lt {bs : List Nat} (hbs : ∀ x ∈ bs, x < 256) {i : Nat} : byteAt bs i < 256 := by
  by_cases h : i < bs.length
  · exact hbs _ (List.mem_of_getElem? (byteAt_get h))
  · rw [byteAt, List.getD_eq_getElem?_getD, List.getElem?_eq_none (by omega)]; decide
/-- Two bytes at a place. -/
def numAt (bs : List Nat) (i : Nat) : Nat := num2 (byteAt bs i) (byteAt bs (i + 1))
theorem numAt_lt {bs : List Nat} (hbs : ∀ x ∈ bs, x < 256) {i : Nat} : numAt bs i < 65536 := by
  have := byteAt_lt hbs (i := i); have := byteAt_lt hbs (i := i + 1)
  unfold numAt num2; omega
theorem win2 {bs : List Nat} {i : Nat} (h : i + 2 ≤ bs.length) : (bs.drop i).take (i + 2 - i) = [byteAt bs i, byteAt bs (i + 1)] := by
  rw [show i + 2 - i = 2 by omega]
  have h0 := byteAt_get (bs := bs) (i := i) (by omega)
  have h1 := byteAt_get (bs := bs) (i := i + 1) (by omega)
  apply List.ext_getElem?
  intro j
  match j with
  | 0 => simpa using h0
  | 1 => simpa using h1
  | j + 2 => simp [List.getElem?_take]; omega
theorem Num_S (hg : ∀ (x y : Nat) v n0 h, x < 256 → y < 256 → Row n0 h v (bytesV [x, y]) 5 → call 18 [v] h = some (iv (num2 x y), h)) (bs : List Nat) (hbs : ∀ x ∈ bs, x < 256) (i : Nat) (hi : i + 2 ≤ bs.length) (hl : bs.length < 1000) (v : Value) (n0 : Nat) (h : AH) (hv : RowX n0 h v bs) :
    frameB T0 X0 call 3000 8 [v, iv i, iv 2] h = some (iv (numAt bs i), h) := by
  obtain ⟨w, e1, e2⟩ := hv.win (hi := some (iv ((i + 2 : Nat) : Int))) (lo := i) (hh := i + 2) (.inl rfl) (by omega) hi
  rw [win2 hi] at e2
  have hw : IntKind.i64.wrap ((i : Int) + 2) = ((i + 2 : Nat) : Int) := by rw [wz (by omega)]; rfl
  rw [frameB_eq ft8 rfl rfl]
  simp only [Try.f8, symM, opFn, Nat.reduceLT, Nat.reduceBEq, ev3, evOpt, bin_add, hw, e1, evCall_fn ft18 rfl, hg _ _ w n0 h (byteAt_lt hbs) (byteAt_lt hbs) e2.row]
  exact retB_one ft8 rfl get_same
theorem rNum_S (bs : List Nat) (hbs : ∀ x ∈ bs, x < 256) (i : Nat) (hi : i + 2 ≤ bs.length) (hl : bs.length < 1000) (v : Value) (n0 : Nat) (h : AH) (hv : RowX n0 h v bs) :
    frameB T0 X0 call 3000 13 [v, iv i, iv 2] h = some (iv (numAt bs i), h) := by
  have hb0 := byteAt_lt hbs (i := i)
  have hb1 := byteAt_lt hbs (i := i + 1)
  obtain ⟨p0, a0, b0⟩ := hv.row.at und_bytes sz_u8 agg_u8 (i := i) (x := .int .u8 (byteAt bs i : Int)) (by simp [bytesV, byteAt_get (show i < bs.length by omega)])
  obtain ⟨p1, a1, b1⟩ := hv.row.at und_bytes sz_u8 agg_u8 (i := i + 1) (x := .int .u8 (byteAt bs (i + 1) : Int)) (by simp [bytesV, byteAt_get (show i + 1 < bs.length by omega)])
  have w0 : IntKind.i64.wrap ((i : Int) + 0) = (i : Int) := by rw [wz (by omega)]; omega
  have w1 : IntKind.i64.wrap ((i : Int) + 1) = ((i + 1 : Nat) : Int) := by rw [wz (by omega)]; rfl
  have v0 : IntKind.i64.wrap (byteAt bs i : Int) = byteAt bs i := wz (by omega)
  have v1 : IntKind.i64.wrap (byteAt bs (i + 1) : Int) = byteAt bs (i + 1) := wz (by omega)
  have k1 : IntKind.i64.wrap ((byteAt bs (i + 1) : Int) * 256) = (byteAt bs (i + 1) : Int) * 256 := wz (by omega)
  have k2 : IntKind.i64.wrap ((byteAt bs (i + 1) : Int) * 256 + byteAt bs i) = (numAt bs i : Int) := by rw [wz (by omega)]; unfold numAt num2; omega
  have c0 : IntKind.i64.wrap (2 - 1) = 1 := by decide
  have c1 : IntKind.i64.wrap (1 - 1) = 0 := by decide
  have c2 : IntKind.i64.wrap (0 - 1) = -1 := by decide
  have c3 : IntKind.i64.wrap (0 * 256) = 0 := by decide
  rw [frameB_eq ft13 rfl rfl]
  simp only [Try.f13, symM, opFn, Nat.reduceLT, Nat.reduceBEq, symL, codeB_loop, bin_sub, bin_geq, bin_mul, bin_add, c0, c1, c2, c3, w0, w1, a0, a1, b0, b1, conv_i2i und_u8 und_int, v0, v1, Int.zero_add, k1, k2, show decide ((0 : Int) ≤ 1) = true from rfl, show decide ((0 : Int) ≤ 0) = true from rfl, show decide ((0 : Int) ≤ -1) = false from rfl]
  exact retB_one ft13 rfl get_same
end
end Go.Proofs.Ythpfgiabdpeiaaa.Abs
namespace Go.Proofs.Ythpfgiabdpeiaaa.Abs
open Go Go.Proofs
noncomputable section
variable {call : Abs.Callee}
set_option maxRecDepth 10000
theorem prun_bind {α β : Type} {P : Program} (s : Sem α) (k : α → Sem β) : prun P (s >>= k) = (prun P s).bind fun a => prun P (k a) := by
  show prun P (Sem.bind s k) = _
  induction s with
  | pure a => rfl
  | program f ih => exact ih P
  | mark m s ih => exact ih
  | _ => rfl
theorem prun_pure {α : Type} {P : Program} (a : α) : prun P (pure a) = some a := rfl
theorem prun_ite {α : Type} {P : Program} {c : Prop} [Decidable c] (a b : Sem α) : prun P (if c then a else b) = if c then prun P a else prun P b := by split <;> rfl
theorem prun_program {P : Program} : prun P program = some P := rfl
theorem prun_struct {P : Program} (d : Nat) (t : TypeId) (xs ys : Array Value) {fs : Array Field} (ht : prun P (underlying t) = some (.struct fs)) (hp : P.stoodInHeld t = false) :
    prun P (Op.equalIn (d + 1) t (.agg xs) (.agg ys)) = prun P (Op.eqFields d xs ys fs.toList) := by
  simp only [Op.equalIn, prun_bind, ht, Option.bind_some, prun_program, hp, Bool.false_eq_true, if_false]
  rw [← Array.forIn_toList]
  generalize fs.toList = fs
  clear ht
  induction fs with
  | nil => rfl
  | cons f fs ih =>
    simp only [List.forIn_cons, Op.eqFields, prun_bind, prun_ite]
    split
    · generalize prun P (Go.part f.type xs f.offset) = r1
      cases r1 with
      | none => rfl
      | some a =>
        generalize prun P (Go.part f.type ys f.offset) = r2
        cases r2 with
        | none => rfl
        | some b =>
          simp only [Option.bind_some]
          generalize prun P (Op.equalIn d f.type a b) = r3
          cases r3 with
          | none => rfl
          | some r =>
            cases r
            · rfl
            · exact ih
    · exact ih
theorem prun_int {P : Program} (d : Nat) {t : TypeId} {k k' : IntKind} (a b : Int) (h : prun P (underlying t) = some (.int k')) : prun P (Op.equalIn (d + 1) t (.int k a) (.int k b)) = some (a == b) := by
  simp only [Op.equalIn, prun_bind, h, Option.bind_some]
  rw [if_pos trivial]; rfl
theorem floatEq_zd {x u : Int} (hx : zok x = true) (hu : zok u = true) : Op.floatEq .f64 (zd x) (zd u) = decide (x = u) := by
  have ho : (FloatKind.format .f64).order (zd x) (zd u) = some (compare x u) := order_zd hx hu
  simp only [Op.floatEq, ho, Int.compare_eq_ite_lt]
  rcases Int.lt_trichotomy x u with h1 | h1 | h1
  · have h3 : ¬ x = u := by omega
    simp only [h1, h3, if_true, decide_false]; rfl
  · subst h1
    have h2 : ¬ x < x := by omega
    simp only [h2, if_false, decide_true]; rfl
  · have h2 : ¬ x < u := by omega
    have h3 : ¬ x = u := by omega
    simp only [h1, h2, h3, if_true, if_false, decide_false]; rfl
theorem prun_complex {P : Program} (d : Nat) {t : TypeId} {k : FloatKind} {x y u v : Int} (hx : zok x = true) (hy : zok y = true) (hu : zok u = true) (hv : zok v = true) (h : prun P (underlying t) = some (.complex k)) :
    prun P (Op.equalIn (d + 1) t (cx x y) (cx u v)) = some (decide (x = u) && decide (y = v)) := by
  simp only [Op.equalIn, prun_bind, h, Option.bind_some]
  rw [if_pos trivial, floatEq_zd hx hu, floatEq_zd hy hv]; rfl
theorem pu_int : prun T0.P (underlying 3) = some (.int .i64) := by kernel_rfl
theorem pu_c128 : prun T0.P (underlying 34) = some (.complex .f64) := by kernel_rfl
def fsE : Array Field := match prun T0.P (underlying 36) with | some (.struct fs) => fs | _ => #[]
theorem pu_Ext : prun T0.P (underlying 36) = some (.struct fsE) := by kernel_rfl
theorem si_Ext : T0.P.stoodInHeld 36 = false := by kernel_rfl
theorem gd_Ext : T0.P.eqGuardType T0.P.depth 36 = false := by kernel_rfl
theorem gd_arr4 : T0.P.eqGuardType T0.P.depth 23 = false := by kernel_rfl
theorem fsE_eq : ∃ f0 f1 : Field, fsE.toList = [f0, f1] ∧ (f0.name ≠ "_" ∧ f0.type = 3 ∧ f0.offset = 0) ∧ (f1.name ≠ "_" ∧ f1.type = 34 ∧ f1.offset = 1) := by
  refine ⟨fsE.toList.getD 0 default, fsE.toList.getD 1 default, by kernel_rfl, ⟨?_, by kernel_rfl, by kernel_rfl⟩, ⟨?_, by kernel_rfl, by kernel_rfl⟩⟩
  · have : decide ((fsE.toList.getD 0 default).name = "_") = false := by kernel_rfl
    exact of_decide_eq_false this
  · have : decide ((fsE.toList.getD 1 default).name = "_") = false := by kernel_rfl
    exact of_decide_eq_false this
theorem part_i {x : Int} {c : Value} : prun T0.P (Go.part 3 #[iv x, c] 0) = some (iv x) := by kernel_rfl
theorem part_c {x y : Int} {c : Value} : prun T0.P (Go.part 34 #[c, cx x y] 1) = some (cx x y) := by kernel_rfl
def okE (x : XV) : Prop := x.a < 65536 ∧ x.x ≤ 1048576 ∧ x.y ≤ 1048576
def eqE (x y : XV) : Bool := decide (x.a = y.a) && (decide (x.x = y.x) && decide (x.y = y.y))
theorem okE_z {x : XV} (h : okE x) : zok (x.x : Int) = true ∧ zok (x.y : Int) = true := ⟨zok_k (by have := h.2.1; omega), zok_k (by have := h.2.2; omega)⟩
theorem eq_Ext {x y : XV} (hx : okE x) (hy : okE y) : prun T0.P (Op.equalIn 10000 36 (extV x) (extV y)) = some (eqE x y) := by
  obtain ⟨f0, f1, e, ⟨n0, t0, o0⟩, ⟨n1, t1, o1⟩⟩ := fsE_eq
  obtain ⟨x1, x2⟩ := okE_z hx
  obtain ⟨y1, y2⟩ := okE_z hy
  rw [show (10000 : Nat) = 9999 + 1 from rfl, prun_struct _ _ _ _ pu_Ext si_Ext, e]
  simp only [Op.eqFields, n0, n1, t0, t1, o0, o1, ne_eq, not_false_eq_true, if_true, prun_bind, prun_ite, part_i, part_c, Option.bind_some]
  rw [show (9999 : Nat) = 9998 + 1 from rfl, prun_int _ _ _ pu_int, prun_complex _ x1 x2 y1 y2 pu_c128]
  unfold eqE
  simp only [Option.bind_some, Bool.not_eq_true', prun_pure]
  by_cases h1 : x.a = y.a <;> by_cases h2 : x.x = y.x <;> by_cases h3 : x.y = y.y <;> simp [h1, h2, h3] <;> omega
theorem prun_guard {op : BinOp} {t : TypeId} {p q : Operand} {xs ys : Array Value} (hg : T0.P.eqGuardType T0.P.depth t = false) : prun T0.P (eqGuard op t p q (.agg xs) (.agg ys)) = some () := by
  unfold eqGuard
  cases op <;> simp [prun_bind, prun_program, hg, prun_pure] <;> rfl
theorem flat_ext (x : XV) : flat (extV x) = true := rfl
theorem E_neq {p q : Operand} {h : AH} {x y : XV} (hx : okE x) (hy : okE y) : evBin T0 .neq 36 p q (extV x) (extV y) h = some (.bool (!eqE x y)) := by
  show ifB (flat (extV x) && flat (extV y)) (slowBin T0 .neq 36 p q (extV x) (extV y)) none = _
  rw [flat_ext, flat_ext]
  show slowBin T0 .neq 36 p q (extV x) (extV y) = _
  unfold slowBin
  rw [prun_bind, prun_guard gd_Ext, Option.bind_some]
  simp only [binOp, prun_bind, Op.equal, Op.maxDepth]
  rw [eq_Ext hx hy]
  rfl
theorem extV_zero : (.agg #[iv 0, .complex .f64 0 0] : Value) = extV ⟨0, 0, 0⟩ := rfl
theorem pu_arr4 : prun T0.P (underlying 23) = some (.array 4 3) := by kernel_rfl
theorem ps_int : prun T0.P (sizeOf 3) = some 1 := by kernel_rfl
theorem part_a {a b c d : Int} : prun T0.P (Go.part 3 #[iv a, iv b, iv c, iv d] 0) = some (iv a) ∧ prun T0.P (Go.part 3 #[iv a, iv b, iv c, iv d] 1) = some (iv b) ∧ prun T0.P (Go.part 3 #[iv a, iv b, iv c, iv d] 2) = some (iv c) ∧ prun T0.P (Go.part 3 #[iv a, iv b, iv c, iv d] 3) = some (iv d) := ⟨by kernel_rfl, by kernel_rfl, by kernel_rfl, by kernel_rfl⟩
def eqA (n m : NV) : Bool := decide (n.d0 = m.d0 ∧ n.d1 = m.d1 ∧ n.d2 = m.d2 ∧ n.d3 = m.d3)
theorem eq_arr4 (n m : NV) : prun T0.P (Op.equalIn 10000 23 (arrV n) (arrV m)) = some (eqA n m) := by
  have pi : ∀ a b : Nat, prun T0.P (Op.equalIn 9999 3 (iv a) (iv b)) = some (decide (a = b)) := fun a b => by
    rw [show (9999 : Nat) = 9998 + 1 from rfl, prun_int _ _ _ pu_int]
    by_cases h : a = b
    · simp [h]
    · have : ¬ (a : Int) = b := by omega
      simp [h, this]
  rw [show (10000 : Nat) = 9999 + 1 from rfl, Op.equalIn]
  simp only [prun_bind, pu_arr4, Option.bind_some, ps_int]
  simp only [Std.Legacy.Range.forIn_eq_forIn_range', Std.Legacy.Range.size, Nat.sub_zero, Nat.add_sub_cancel, Nat.div_one, List.range'_succ, List.range'_zero, List.forIn_cons, List.forIn_nil, prun_bind, Nat.zero_add, Nat.mul_one, part_a, Option.bind_some, pi]
  unfold eqA
  by_cases h1 : n.d0 = m.d0 <;> by_cases h2 : n.d1 = m.d1 <;> by_cases h3 : n.d2 = m.d2 <;> by_cases h4 : n.d3 = m.d3 <;> simp [h1, h2, h3, h4, prun_pure, prun_bind, prun_ite, part_a, pi]
theorem A_eql {p q : Operand} {h : AH} {n m : NV} : evBin T0 .eql 23 p q (arrV n) (arrV m) h = some (.bool (eqA n m)) := by
  show slowBin T0 .eql 23 p q (arrV n) (arrV m) = _
  unfold slowBin
  rw [prun_bind, prun_guard gd_arr4, Option.bind_some]
  simp only [binOp, prun_bind, Op.equal, Op.maxDepth]
  rw [eq_arr4]
  rfl
end
end Go.Proofs.Ythpfgiabdpeiaaa.Abs
namespace Go.Proofs.Ythpfgiabdpeiaaa.Abs
open Go Go.Proofs
noncomputable section
variable {call : Abs.Callee}
set_option maxRecDepth 10000
def regOps (c : Func) (p : List Nat) : Array Oper := part c p |> fun | .region _ ops _ => ops | _ => #[]
theorem retB_cell {T : Tab} {f : Nat} {tm : PM Value} {h : AH} {fd : Func} {t : Nat} {ty : TypeId} {p v : Value} (hf : T.ft.get f = some fd) (hr : fd.results = #[.cell t ty]) (hp : tm.get t = some p) (hv : evLoad T ty p h = some v) : retB T f tm h [] = some (v, h) := by
  unfold retB undef1
  simp only [resultA, hf, hr]
  show (match (match resultsA T h tm [.cell t ty] with | some l => some (one l) | none => none) with | some v => some (v, h) | none => none) = _
  unfold evLoad at hv
  split at hv
  · simp only [resultsA, hp, hv]
    rfl
  · cases hv
theorem eqV_ext {x : XV} : eqV (extV x) (extV x) = true := by simp [eqV, eqVs]
theorem BoxE.store {n : Nat} {h : AH} {b : Nat} {u v : Value} (hb : BoxL h b 36 [u, v]) (x : XV) (hn : n ≤ b) : ∃ h', evStore T0 36 (pv b 0) (extV x) h = some h' ∧ BoxL h' b 36 [iv x.a, cx x.x x.y] ∧ Grow n h h' ∧ h'.next = h.next :=
  hb.store (ws := [iv x.a, cx x.x x.y]) (o := 0) sz_Ext rfl (by simp) rfl (by simp) hn
theorem BoxE.load {h : AH} {b : Nat} {x : XV} (hb : BoxL h b 36 [iv x.a, cx x.x x.y]) : evLoad T0 36 (pv b 0) h = some (extV x) ∧ evLoad T0 3 (pv b 0) h = some (iv x.a) ∧ evLoad T0 34 (pv b 1) h = some (cx x.x x.y) :=
  ⟨hb.loadA (ws := [iv x.a, cx x.x x.y]) agg_Ext sz_Ext (by simp) (fun i y hi => by rwa [Nat.zero_add]), hb.load agg_int rfl, hb.load agg_c128 rfl⟩
theorem ft9 : T0.ft.get 9 = some Try.f9 := by kernel_rfl
theorem ft14 : T0.ft.get 14 = some Try.f14 := by kernel_rfl
/-- The extent that four bytes are. -/
def extAt (bs : List Nat) (i : Nat) : XV := ⟨byteAt bs i, numAt bs (i + 1), byteAt bs (i + 3)⟩
theorem extAt_ok {bs : List Nat} (hbs : ∀ x ∈ bs, x < 256) {i : Nat} : okE (extAt bs i) := by
  have h1 := byteAt_lt hbs (i := i); have h2 := numAt_lt hbs (i := i + 1); have h3 := byteAt_lt hbs (i := i + 3)
  unfold okE extAt
  simp only
  omega
theorem ok_zero : okE ⟨0, 0, 0⟩ := by unfold okE; simp
theorem plan_GE1 : planB (regOps Try.f9 [1, 0]) 34 = some ([.one 0, .one 1, .one 2, .one 3, .one 4, .one 5, .one 6, .one 7, .one 8, .one 9, .one 10, .one 11, .one 12, .one 13, .one 14, .one 15], []) := by kernel_rfl
theorem plan_GE3 : planB (regOps Try.f9 [1, 1, 1, 0]) 34 = some ([.one 0, .one 1, .one 2, .one 3, .eff [] 4 [2, 3], .one 5], []) := by kernel_rfl
theorem zd_zero' : (0 : Nat) = zd ((0 : Nat) : Int) := by decide
theorem GetExt_S (bs : List Nat) (hbs : ∀ x ∈ bs, x < 256) (hl : 4 ≤ bs.length) (v : Value) (n0 : Nat) (h : AH) (hv : RowX n0 h v bs) (hn : n0 ≤ h.next) :
    ∃ h', frameB T0 X0 call 3000 9 [v] h = some (.tuple #[extV (extAt bs 0), .bool (!eqE (extAt bs 0) ⟨0, 0, 0⟩)], h') ∧ Grow h.next h h' := by
  generalize hh1 : h.new (.cells (PM.ofList [iv 0, .complex .f64 0 0]) 2 36 0 0 .ex) = h1
  have g1 : Grow h.next h h1 := by rw [← hh1]; exact Grow.new _ _
  have hb1 : BoxL h1 h.next 36 [iv 0, .complex .f64 0 0] := by rw [← hh1]; exact BoxL.new _ _ _
  have r1 := hv.grow g1 hn
  have hrd : ∀ (i j : Nat), j = i → i < 4 → ∃ p, evIndexAddr T0 22 v (iv (j : Nat)) = some p ∧ evLoad T0 5 p h1 = some (.int .u8 (byteAt bs i : Int)) := fun i j e hi => by subst e; exact r1.row.at und_bytes sz_u8 agg_u8 (i := j) (by simp [bytesV, byteAt_get (show j < bs.length by omega)])
  obtain ⟨p0, a0, b0⟩ := hrd 0 0 rfl (by omega)
  obtain ⟨p1, a1, b1⟩ := hrd 1 1 rfl (by omega)
  obtain ⟨p2, a2, b2⟩ := hrd 2 2 rfl (by omega)
  obtain ⟨p3, a3, b3⟩ := hrd 3 3 rfl (by omega)
  have a0 : evIndexAddr T0 22 v (iv 0) = some p0 := a0
  have a1 : evIndexAddr T0 22 v (iv 1) = some p1 := a1
  have a2 : evIndexAddr T0 22 v (iv 2) = some p2 := a2
  have a3 : evIndexAddr T0 22 v (iv 3) = some p3 := a3
  have l0 := byteAt_lt hbs (i := 0); have l1 := byteAt_lt hbs (i := 1); have l2 := byteAt_lt hbs (i := 2); have l3 := byteAt_lt hbs (i := 3)
  have w0 : IntKind.i64.wrap (byteAt bs 0 : Int) = byteAt bs 0 := wz (by omega)
  have w1 : IntKind.i64.wrap (byteAt bs 1 : Int) = byteAt bs 1 := wz (by omega)
  have w2 : IntKind.i64.wrap (byteAt bs 2 : Int) = byteAt bs 2 := wz (by omega)
  have w3 : IntKind.i64.wrap (byteAt bs 3 : Int) = byteAt bs 3 := wz (by omega)
  have s1 : ∀ p q h, evBin T0 .shl 3 p q (iv (byteAt bs 2)) (.int .u64 8) h = some (iv (byteAt bs 2 <<< 8 : Nat)) := fun p q h => by
    rw [show (.int .u64 8 : Value) = .int .u64 ((8 : Nat) : Int) from rfl, bin_shl (by decide), wz (by rw [Nat.shiftLeft_eq]; omega)]
  have hsh : byteAt bs 2 <<< 8 < 65536 := by rw [Nat.shiftLeft_eq]; omega
  have o1 : ∀ p q h, evBin T0 .or 3 p q (iv (byteAt bs 1)) (iv (byteAt bs 2 <<< 8 : Nat)) h = some (iv (numAt bs 1)) := fun p q h => by
    rw [bin_or (Nat.lt_trans (show byteAt bs 1 < 65536 by omega) (by decide)) (Nat.lt_trans hsh (by decide)), or_num _ _ l1, wz (by unfold num2; omega)]; rfl
  have hok := extAt_ok hbs (i := 0)
  have z1 : zok (numAt bs 1 : Int) = true := (okE_z hok).1
  have z2 : zok (byteAt bs 3 : Int) = true := (okE_z hok).2
  obtain ⟨h2, t1, t2, t3, t4⟩ := BoxE.store hb1 (extAt bs 0) (Nat.le_refl _)
  obtain ⟨h3, u1, u2, u3, u4⟩ := BoxE.store t2 (extAt bs 0) (Nat.le_refl _)
  refine ⟨h3, ?_, (g1.trans t3 (Nat.le_refl _)).trans u3 (Nat.le_refl _)⟩
  have hp1 := plan_GE1
  have hp3 := plan_GE3
  simp only [regOps, part, Try.f9, sub] at hp1 hp3
  rw [frameB_eq ft9 rfl rfl]
  simp only [Try.f9, symM, opFn, Nat.reduceLT, alloc_E, hh1]
  rw [codeB_draw, draw_plan hp1 rfl]
  simp only [drawAll, opFn, Nat.reduceLT, Nat.reduceBEq, a1, a2, a3, b1, b2, b3, conv_i2i und_u8 und_int, w1, w2, w3, s1, o1]
  have e1 : (extV (extAt bs 0)) = .agg #[iv (byteAt bs 0), cx (numAt bs 1) (byteAt bs 3)] := rfl
  rw [e1] at t1
  simp only [symM, opFn, Nat.reduceLT, Nat.reduceBEq, a0, b0, conv_i2i und_u8 und_int, w0, conv_i2f und_int und_f64 z1, conv_i2f und_int und_f64 z2, build_E, t1]
  rw [codeB_draw, draw_plan hp3 rfl]
  obtain ⟨q1, q2, q3⟩ := BoxE.load t2
  simp only [drawAll, opFn, Nat.reduceBEq, q1, build_E0, extV_zero, E_neq hok ok_zero, u1, effE_cons, eqV_ext]
  exact retB_cell1 ft9 rfl (by simp only [symM, Nat.reduceBEq]) (BoxE.load u2).1 get_same
theorem plan_rGE : planB (regOps Try.f14 [1, 0]) 16 = some ([.one 0, .one 1, .one 2, .one 3, .one 4, .one 7, .one 8, .one 9, .one 10, .eff [] 5 [0, 1, 2, 3, 7, 8, 9, 10], .one 6, .one 11, .one 12, .eff [] 13 []], []) := by kernel_rfl
theorem rGetExt_S (hN : ∀ (bs : List Nat) (i : Nat) v n0 h, (∀ x ∈ bs, x < 256) → i + 2 ≤ bs.length → bs.length < 1000 → RowX n0 h v bs → call 13 [v, iv i, iv 2] h = some (iv (numAt bs i), h))
    (bs : List Nat) (hbs : ∀ x ∈ bs, x < 256) (hl : 4 ≤ bs.length) (hl2 : bs.length < 1000) (v : Value) (n0 : Nat) (h : AH) (hv : RowX n0 h v bs) (hn : n0 ≤ h.next) :
    ∃ h', frameB T0 X0 call 3000 14 [v] h = some (extV (extAt bs 0), h') ∧ Grow h.next h h' := by
  generalize hh1 : h.new (.cells (PM.ofList [iv 0, .complex .f64 0 0]) 2 36 0 0 .ex) = h1
  have g1 : Grow h.next h h1 := by rw [← hh1]; exact Grow.new _ _
  have hb1 : BoxL h1 h.next 36 [iv 0, .complex .f64 0 0] := by rw [← hh1]; exact BoxL.new _ _ _
  have r1 := hv.grow g1 hn
  have hrd : ∀ (i j : Nat), j = i → i < 4 → ∃ p, evIndexAddr T0 22 v (iv (j : Nat)) = some p ∧ evLoad T0 5 p h1 = some (.int .u8 (byteAt bs i : Int)) ∧ eqV p p = true := fun i j e hi => by subst e; exact r1.row.at3 und_bytes sz_u8 agg_u8 (i := j) (by simp [bytesV, byteAt_get (show j < bs.length by omega)])
  obtain ⟨p0, a0, b0, c0⟩ := hrd 0 0 rfl (by omega)
  obtain ⟨p3, a3, b3, c3⟩ := hrd 3 3 rfl (by omega)
  have a0 : evIndexAddr T0 22 v (iv 0) = some p0 := a0
  have a3 : evIndexAddr T0 22 v (iv 3) = some p3 := a3
  have l0 := byteAt_lt hbs (i := 0)
  have w0 : IntKind.i64.wrap (byteAt bs 0 : Int) = byteAt bs 0 := wz (by omega)
  have hN1 : call 13 [v, iv 1, iv 2] h1 = some (iv (numAt bs 1), h1) := hN bs 1 v n0 h1 hbs (by omega) hl2 r1
  have hok := extAt_ok hbs (i := 0)
  have z1 : zok (numAt bs 1 : Int) = true := (okE_z hok).1
  have z2 : zok (byteAt bs 3 : Int) = true := (okE_z hok).2
  obtain ⟨h2, t1, t2, t3, t4⟩ := BoxE.store hb1 (extAt bs 0) (Nat.le_refl _)
  refine ⟨h2, ?_, g1.trans t3 (Nat.le_refl _)⟩
  have hp := plan_rGE
  simp only [regOps, part, Try.f14, sub] at hp
  have e1 : (extV (extAt bs 0)) = .agg #[iv (byteAt bs 0), cx (numAt bs 1) (byteAt bs 3)] := rfl
  rw [e1] at t1
  rw [frameB_eq ft14 rfl rfl]
  simp only [Try.f14, symM, opFn, Nat.reduceLT, alloc_E, hh1]
  rw [codeB_draw, draw_plan hp rfl]
  simp only [drawAll, opFn, Nat.reduceBEq, a0, a3, b0, b3, c0, c3, hv.eqv, conv_i2i und_u8 und_int, w0, evCall_fn ft13 rfl, hN1, effE_cons, conv_i2f und_int und_f64 z1, conv_i2f und_u8 und_f64 z2, build_E, t1]
  exact retB_cell ft14 rfl (by simp only [symM, Nat.reduceBEq]) (BoxE.load t2).1
end
end Go.Proofs.Ythpfgiabdpeiaaa.Abs
