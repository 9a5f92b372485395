
/- Numbers of bytes. -/
import Derived.Test.YtjdhdhmoedlfdaaGreatNum
import Derived.Laws.StructEq
namespace Go.Proofs.YtjdhdhmoedlfdaaGreat.Abs
open Go Go.Proofs
noncomputable section
variable {call : Abs.Callee}
set_option maxRecDepth 10000
theorem ft75 : T0.ft.get 75 = some Tryz.f75 := by kernel_rfl
theorem ft73 : T0.ft.get 73 = some Tryz.f73 := by kernel_rfl
theorem ft78 : T0.ft.get 78 = some Tryz.f78 := by kernel_rfl
theorem ft81 : T0.ft.get 81 = some Tryz.f81 := by kernel_rfl
def num2 (x y : Nat) : Nat := x + 256 * y
theorem or_num (x y : Nat) (hx : x < 256) : x ||| y <<< 8 = num2 x y := by
  unfold num2
  rw [Nat.or_comm, Nat.shiftLeft_eq, show 2 ^ 8 = 256 by decide, Nat.mul_comm y 256]
  have := Nat.two_pow_add_eq_or_of_lt (i := 8) (b := x) (by omega) y
  rw [show 2 ^ 8 = 256 by decide] at this
  omega
theorem get_S (x y : Nat) (hx : x < 256) (hy : y < 256) (v : Value) (n0 : Nat) (h : AH) (hv : Row n0 h v (bytesV [x, y]) 5) : frameB T0 X0 call 3000 75 [v] h = some (iv (num2 x y), h) := by
  obtain ⟨p0, a0, b0⟩ := hv.at und_bytes sz_u8 agg_u8 (i := 0) rfl
  obtain ⟨p1, a1, b1⟩ := hv.at und_bytes sz_u8 agg_u8 (i := 1) rfl
  have a0 : evIndexAddr T0 57 v (iv 0) = some p0 := a0
  have a1 : evIndexAddr T0 57 v (iv 1) = some p1 := a1
  have hl : ∀ ty h', evBuiltin T0 .len #[57] ty [v] h' = some (.value (iv 2), h') := fun ty h' => hv.len und_bytes
  have wx : IntKind.i64.wrap (x : Int) = x := wz (by omega)
  have wy : IntKind.i64.wrap (y : Int) = y := wz (by omega)
  have s0 : ∀ p q, evBin T0 .shl 3 p q (iv x) (iv 0) h = some (iv x) := fun p q => by
    rw [show iv 0 = .int .i64 ((0 : Nat) : Int) from rfl, bin_shl (by decide), Nat.shiftLeft_zero, wx]
  have s1 : ∀ p q, evBin T0 .shl 3 p q (iv y) (iv 8) h = some (iv (y <<< 8 : Nat)) := fun p q => by
    rw [show iv 8 = .int .i64 ((8 : Nat) : Int) from rfl, bin_shl (by decide), wz (by rw [Nat.shiftLeft_eq]; omega)]
  have hsh : y <<< 8 < 65536 := by rw [Nat.shiftLeft_eq]; omega
  have o0 : ∀ p q, evBin T0 .or 3 p q (iv 0) (iv x) h = some (iv x) := fun p q => by
    rw [show iv 0 = .int .i64 ((0 : Nat) : Int) from rfl, bin_or (Nat.lt_trans (show 0 < 65536 by decide) (by decide)) (Nat.lt_trans (show x < 65536 by omega) (by decide)), Nat.zero_or, wx]
  have o1 : ∀ p q, evBin T0 .or 3 p q (iv x) (iv (y <<< 8 : Nat)) h = some (iv (num2 x y)) := fun p q => by
    rw [bin_or (Nat.lt_trans (show x < 65536 by omega) (by decide)) (Nat.lt_trans hsh (by decide)), or_num x y hx, wz (by unfold num2; omega)]
  have z0 : IntKind.i64.wrap 0 = 0 := by decide
  have z1 : IntKind.i64.wrap 1 = 1 := by decide
  have z2 : IntKind.i64.wrap 2 = 2 := by decide
  have z8 : IntKind.i64.wrap 8 = 8 := by decide
  rw [frameB_eq ft75 rfl rfl]
  simp only [Tryz.f75, symM, opFn, Nat.reduceLT, Nat.reduceBEq, symL, hl, codeB_loop, bin_lss, a0, a1, b0, b1, conv_i2i und_u8 und_int, wx, wy, bin_mul, bin_add, s0, s1, o0, o1, z0, z1, z2, z8, Int.mul_zero, Int.mul_one, Int.zero_add, show (1 : Int) + 1 = 2 from rfl, show decide ((0 : Int) < 2) = true from rfl, show decide ((1 : Int) < 2) = true from rfl, show decide ((2 : Int) < 2) = false from rfl]
  exact retB_one ft75 rfl get_same
def RowX (n : Nat) (h : AH) (v : Value) (bs : List Nat) : Prop :=
  ∃ b o cap c m lo hi kd el k, v = .slice (some ⟨b, o, none⟩) bs.length cap ∧ ((cap < XB ∧ k = cap) ∨ (cap = XB + k ∧ looseSz T0 h b 1 = true)) ∧ bs.length ≤ k ∧ b < n ∧ h.get b = some (.cells c m el lo hi kd) ∧ o + bs.length ≤ m ∧ ∀ (i x : Nat), bs[i]? = some x → c.get (o + i) = some (.int .u8 (x : Int))
theorem bytesV_at {bs : List Nat} {i : Nat} {y : Value} (h : (bytesV bs)[i]? = some y) : ∃ x : Nat, bs[i]? = some x ∧ y = .int .u8 (x : Int) := by
  simp only [bytesV, List.getElem?_map, Option.map_eq_some_iff] at h
  obtain ⟨x, h1, h2⟩ := h
  exact ⟨x, h1, h2.symm⟩
theorem bytesV_len (bs : List Nat) : (bytesV bs).length = bs.length := by simp [bytesV]
theorem RowX.row {n : Nat} {h : AH} {v : Value} {bs : List Nat} (hv : RowX n h v bs) : Row n h v (bytesV bs) 5 := by
  obtain ⟨b, o, cap, c, m, lo, hi, kd, el, k, h1, h2, h3, h4, h5, h6, h7⟩ := hv
  exact .inr ⟨b, o, cap, c, m, lo, hi, kd, el, by rw [bytesV_len]; exact h1, h4, h5, by rw [bytesV_len]; exact h6, fun i y hi => by obtain ⟨x, q1, rfl⟩ := bytesV_at hi; exact h7 i x q1⟩
theorem RowX.grow {n m : Nat} {h h' : AH} {v : Value} {bs : List Nat} (hr : RowX n h v bs) (g : Grow m h h') (hn : n ≤ m) : RowX n h' v bs := by
  obtain ⟨b, o, cap, c, k, lo, hi, kd, el, kk, h1, h2, h3, h4, h5, h6, h7⟩ := hr
  have e := g.keep b (by omega)
  refine ⟨b, o, cap, c, k, lo, hi, kd, el, kk, h1, ?_, h3, h4, e.trans h5, h6, h7⟩
  rcases h2 with q | ⟨q1, q2⟩
  · exact .inl q
  · refine .inr ⟨q1, ?_⟩
    unfold looseSz at q2 ⊢
    rw [e]; exact q2
theorem RowX.more {n k : Nat} {h : AH} {v : Value} {bs : List Nat} (hr : RowX n h v bs) (hn : n ≤ k) : RowX k h v bs := by
  obtain ⟨b, o, cap, c, m, lo, hi, kd, el, kk, h1, h2, h3, h4, h5⟩ := hr
  exact ⟨b, o, cap, c, m, lo, hi, kd, el, kk, h1, h2, h3, by omega, h5⟩
theorem RowX.eqv {n : Nat} {h : AH} {v : Value} {bs : List Nat} (hr : RowX n h v bs) : eqV v v = true := by
  obtain ⟨b, o, cap, c, m, lo, hi, kd, el, kk, rfl, _⟩ := hr
  exact eqV_slice
theorem RowX.win2 {n : Nat} {h : AH} {v : Value} {bs : List Nat} (hr : RowX n h v bs) {lov hi : Option Value} {lo hh : Nat} (hlov : lov = some (iv lo) ∨ (lov = none ∧ lo = 0)) (hhi : hi = some (iv hh) ∨ (hi = none ∧ hh = bs.length)) (hlo : lo < hh) (hle : hh ≤ bs.length) :
    ∃ w, evSliceX T0 57 v lov hi none h = some (w, h) ∧ RowX n h w ((bs.drop lo).take (hh - lo)) := by
  obtain ⟨b, o, cap, c, m, l0, h0, kd, el, k, rfl, h2, h3, h4, h5, h6, h7⟩ := hr
  have hk : capOf cap = k := by
    rcases h2 with ⟨q, rfl⟩ | ⟨rfl, _⟩
    · exact capOf_lt q
    · unfold capOf; rw [Nat.ble_eq_true_of_le (by omega), ifB_true]; omega
  have hbnd : boundsA bs.length k lov hi none = some (lo, hh, k) := by
    have hlo' : Nat.ble lo hh = true := Nat.ble_eq_true_of_le (by omega)
    have hhh : Nat.ble hh k = true := Nat.ble_eq_true_of_le (by omega)
    rcases hlov with rfl | ⟨rfl, rfl⟩ <;> rcases hhi with rfl | ⟨rfl, rfl⟩ <;>
      simp only [boundsA, boundA, show natOf (iv (lo : Int)) = some lo from rfl, show natOf (iv (hh : Int)) = some hh from rfl, hlo', hhh, ifB_true]
  have hc : ∀ (i x : Nat), ((bs.drop lo).take (hh - lo))[i]? = some x → c.get (o + lo + i) = some (.int .u8 (x : Int)) := by
    intro i x hi
    rw [List.getElem?_take] at hi
    split at hi
    · rw [List.getElem?_drop] at hi
      rw [Nat.add_assoc]
      exact h7 _ _ hi
    · cases hi
  have hlen : ((bs.drop lo).take (hh - lo)).length = hh - lo := by simp; omega
  have hbq : Nat.beq k lo = false := nbF (by simp; omega)
  rcases h2 with ⟨q, rfl⟩ | ⟨rfl, q⟩
  · refine ⟨.slice (some ⟨b, o + lo, none⟩) (hh - lo) (k - lo), ?_, b, o + lo, k - lo, c, m, l0, h0, kd, el, k - lo, by rw [hlen], .inl ⟨by omega, rfl⟩, by omega, h4, h5, by omega, hc⟩
    simp only [evSliceX, evSlice, und_bytes, sz_u8, evSliceS, hk, hbnd, Nat.ble_eq_true_of_le (show hh ≤ k by omega), ifB_true, ble_lt' q, ifB_false, offS, hbq, Nat.mul_one]
  · refine ⟨.slice (some ⟨b, o + lo, none⟩) (hh - lo) (XB + (k - lo)), ?_, b, o + lo, XB + (k - lo), c, m, l0, h0, kd, el, k - lo, by rw [hlen], .inr ⟨rfl, q⟩, by omega, h4, h5, by omega, hc⟩
    simp only [evSliceX, evSlice, und_bytes, sz_u8, evSliceS, hk, hbnd, Nat.ble_eq_true_of_le (show hh ≤ k by omega), ifB_true, Nat.ble_eq_true_of_le (show XB ≤ XB + k by omega), q, offS, hbq, ifB_false, Nat.mul_one]
theorem RowX.win {n : Nat} {h : AH} {v : Value} {bs : List Nat} (hr : RowX n h v bs) {hi : Option Value} {lo hh : Nat} (hhi : hi = some (iv hh) ∨ (hi = none ∧ hh = bs.length)) (hlo : lo < hh) (hle : hh ≤ bs.length) :
    ∃ w, evSliceX T0 57 v (some (iv lo)) hi none h = some (w, h) ∧ RowX n h w ((bs.drop lo).take (hh - lo)) := hr.win2 (.inl rfl) hhi hlo hle
def byteAt (bs : List Nat) (i : Nat) : Nat := bs.getD i 0
theorem byteAt_get {bs : List Nat} {i : Nat} (h : i < bs.length) : bs[i]? = some (byteAt bs i) := by
  rw [byteAt, List.getD_eq_getElem?_getD, List.getElem?_eq_getElem h]; rfl
theorem byteAt_lt {bs : List Nat} (hbs : ∀ x ∈ bs, x < 256) {i : Nat} : byteAt bs i < 256 := by
  by_cases h : i < bs.length
  · exact hbs _ (List.mem_of_getElem? (byteAt_get h))
  · rw [byteAt, List.getD_eq_getElem?_getD, List.getElem?_eq_none (by omega)]; decide
def numAt (bs : List Nat) (i : Nat) : Nat := num2 (byteAt bs i) (byteAt bs (i + 1))
theorem numAt_lt {bs : List Nat} (hbs : ∀ x ∈ bs, x < 256) {i : Nat} : numAt bs i < 65536 := by
  have := byteAt_lt hbs (i := i); have := byteAt_lt hbs (i := i + 1)
  unfold numAt num2; omega
theorem win2 {bs : List Nat} {i : Nat} (h : i + 2 ≤ bs.length) : (bs.drop i).take (i + 2 - i) = [byteAt bs i, byteAt bs (i + 1)] := by
  rw [show i + 2 - i = 2 by omega]
  have h0 := byteAt_get (bs := bs) (i := i) (by omega)
  have h1 := byteAt_get (bs := bs) (i := i + 1) (by omega)
  apply List.ext_getElem?
  intro j
  match j with
  | 0 => simpa using h0
  | 1 => simpa using h1
  | j + 2 => simp [List.getElem?_take]; omega
theorem Num_S (hg : ∀ (x y : Nat) v n0 h, x < 256 → y < 256 → Row n0 h v (bytesV [x, y]) 5 → call 75 [v] h = some (iv (num2 x y), h)) (bs : List Nat) (hbs : ∀ x ∈ bs, x < 256) (i : Nat) (hi : i + 2 ≤ bs.length) (hl : bs.length < 1000) (v : Value) (n0 : Nat) (h : AH) (hv : RowX n0 h v bs) :
    frameB T0 X0 call 3000 73 [v, iv i, iv 2] h = some (iv (numAt bs i), h) := by
  obtain ⟨w, e1, e2⟩ := hv.win (hi := some (iv ((i + 2 : Nat) : Int))) (lo := i) (hh := i + 2) (.inl rfl) (by omega) hi
  rw [win2 hi] at e2
  have hw : IntKind.i64.wrap ((i : Int) + 2) = ((i + 2 : Nat) : Int) := by rw [wz (by omega)]; rfl
  rw [frameB_eq ft73 rfl rfl]
  simp only [Tryz.f73, symM, opFn, Nat.reduceLT, Nat.reduceBEq, ev3, evOpt, bin_add, hw, e1, evCall_fn ft75 rfl, hg _ _ w n0 h (byteAt_lt hbs) (byteAt_lt hbs) e2.row]
  exact retB_one ft73 rfl get_same
theorem rNum_S (bs : List Nat) (hbs : ∀ x ∈ bs, x < 256) (i : Nat) (hi : i + 2 ≤ bs.length) (hl : bs.length < 1000) (v : Value) (n0 : Nat) (h : AH) (hv : RowX n0 h v bs) :
    frameB T0 X0 call 3000 81 [v, iv i, iv 2] h = some (iv (numAt bs i), h) := by
  have hb0 := byteAt_lt hbs (i := i)
  have hb1 := byteAt_lt hbs (i := i + 1)
  obtain ⟨p0, a0, b0⟩ := hv.row.at und_bytes sz_u8 agg_u8 (i := i) (x := .int .u8 (byteAt bs i : Int)) (by simp [bytesV, byteAt_get (show i < bs.length by omega)])
  obtain ⟨p1, a1, b1⟩ := hv.row.at und_bytes sz_u8 agg_u8 (i := i + 1) (x := .int .u8 (byteAt bs (i + 1) : Int)) (by simp [bytesV, byteAt_get (show i + 1 < bs.length by omega)])
  have w0 : IntKind.i64.wrap ((i : Int) + 0) = (i : Int) := by rw [wz (by omega)]; omega
  have w1 : IntKind.i64.wrap ((i : Int) + 1) = ((i + 1 : Nat) : Int) := by rw [wz (by omega)]; rfl
  have v0 : IntKind.i64.wrap (byteAt bs i : Int) = byteAt bs i := wz (by omega)
  have v1 : IntKind.i64.wrap (byteAt bs (i + 1) : Int) = byteAt bs (i + 1) := wz (by omega)
  have k1 : IntKind.i64.wrap ((byteAt bs (i + 1) : Int) * 256) = (byteAt bs (i + 1) : Int) * 256 := wz (by omega)
  have k2 : IntKind.i64.wrap ((byteAt bs (i + 1) : Int) * 256 + byteAt bs i) = (numAt bs i : Int) := by rw [wz (by omega)]; unfold numAt num2; omega
  have c0 : IntKind.i64.wrap (2 - 1) = 1 := by decide
  have c1 : IntKind.i64.wrap (1 - 1) = 0 := by decide
  have c2 : IntKind.i64.wrap (0 - 1) = -1 := by decide
  have c3 : IntKind.i64.wrap (0 * 256) = 0 := by decide
  rw [frameB_eq ft81 rfl rfl]
  simp only [Tryz.f81, symM, opFn, Nat.reduceLT, Nat.reduceBEq, symL, codeB_loop, bin_sub, bin_geq, bin_mul, bin_add, c0, c1, c2, c3, w0, w1, a0, a1, b0, b1, conv_i2i und_u8 und_int, v0, v1, Int.zero_add, k1, k2, show decide ((0 : Int) ≤ 1) = true from rfl, show decide ((0 : Int) ≤ 0) = true from rfl, show decide ((0 : Int) ≤ -1) = false from rfl]
  exact retB_one ft81 rfl get_same
end
end Go.Proofs.YtjdhdhmoedlfdaaGreat.Abs
namespace Go.Proofs.YtjdhdhmoedlfdaaGreat.Abs
open Go Go.Proofs
noncomputable section
variable {call : Abs.Callee}
set_option maxRecDepth 10000
theorem prun_bind {α β : Type} {P : Program} (s : Sem α) (k : α → Sem β) : prun P (s >>= k) = (prun P s).bind fun a => prun P (k a) := by
  show prun P (Sem.bind s k) = _
  induction s with
  | pure a => rfl
  | program f ih => exact ih P
  | mark m s ih => exact ih
  | _ => rfl
theorem prun_pure {α : Type} {P : Program} (a : α) : prun P (pure a) = some a := rfl
theorem prun_ite {α : Type} {P : Program} {c : Prop} [Decidable c] (a b : Sem α) : prun P (if c then a else b) = if c then prun P a else prun P b := by split <;> rfl
theorem prun_program {P : Program} : prun P program = some P := rfl
theorem prun_struct {P : Program} (d : Nat) (t : TypeId) (xs ys : Array Value) {fs : Array Field} (ht : prun P (underlying t) = some (.struct fs)) (hp : P.stoodInHeld t = false) :
    prun P (Op.equalIn (d + 1) t (.agg xs) (.agg ys)) = prun P (Op.eqFields d xs ys fs.toList) := by
  simp only [Op.equalIn, prun_bind, ht, Option.bind_some, prun_program, hp, Bool.false_eq_true, if_false]
  rw [← Array.forIn_toList]
  generalize fs.toList = fs
  clear ht
  induction fs with
  | nil => rfl
  | cons f fs ih =>
    simp only [List.forIn_cons, Op.eqFields, prun_bind, prun_ite]
    split
    · generalize prun P (Go.part f.type xs f.offset) = r1
      cases r1 with
      | none => rfl
      | some a =>
        generalize prun P (Go.part f.type ys f.offset) = r2
        cases r2 with
        | none => rfl
        | some b =>
          simp only [Option.bind_some]
          generalize prun P (Op.equalIn d f.type a b) = r3
          cases r3 with
          | none => rfl
          | some r =>
            cases r
            · rfl
            · exact ih
    · exact ih
theorem prun_int {P : Program} (d : Nat) {t : TypeId} {k k' : IntKind} (a b : Int) (h : prun P (underlying t) = some (.int k')) : prun P (Op.equalIn (d + 1) t (.int k a) (.int k b)) = some (a == b) := by
  simp only [Op.equalIn, prun_bind, h, Option.bind_some]
  rw [if_pos trivial]; rfl
theorem floatEq_zd {x u : Int} (hx : zok x = true) (hu : zok u = true) : Op.floatEq .f64 (zd x) (zd u) = decide (x = u) := by
  have ho : (FloatKind.format .f64).order (zd x) (zd u) = some (compare x u) := order_zd hx hu
  simp only [Op.floatEq, ho, Int.compare_eq_ite_lt]
  rcases Int.lt_trichotomy x u with h1 | h1 | h1
  · have h3 : ¬ x = u := by omega
    simp only [h1, h3, if_true, decide_false]; rfl
  · subst h1
    have h2 : ¬ x < x := by omega
    simp only [h2, if_false, decide_true]; rfl
  · have h2 : ¬ x < u := by omega
    have h3 : ¬ x = u := by omega
    simp only [h1, h2, h3, if_true, if_false, decide_false]; rfl
theorem prun_complex {P : Program} (d : Nat) {t : TypeId} {k : FloatKind} {x y u v : Int} (hx : zok x = true) (hy : zok y = true) (hu : zok u = true) (hv : zok v = true) (h : prun P (underlying t) = some (.complex k)) :
    prun P (Op.equalIn (d + 1) t (cx x y) (cx u v)) = some (decide (x = u) && decide (y = v)) := by
  simp only [Op.equalIn, prun_bind, h, Option.bind_some]
  rw [if_pos trivial, floatEq_zd hx hu, floatEq_zd hy hv]; rfl
theorem pu_int : prun T0.P (underlying 3) = some (.int .i64) := by kernel_rfl
theorem pu_c128 : prun T0.P (underlying 84) = some (.complex .f64) := by kernel_rfl
def fsE : Array Field := match prun T0.P (underlying 107) with | some (.struct fs) => fs | _ => #[]
theorem pu_Ext : prun T0.P (underlying 107) = some (.struct fsE) := by kernel_rfl
theorem si_Ext : T0.P.stoodInHeld 107 = false := by kernel_rfl
theorem gd_Ext : T0.P.eqGuardType T0.P.depth 107 = false := by kernel_rfl
theorem gd_arr4 : T0.P.eqGuardType T0.P.depth 45 = false := by kernel_rfl
theorem fsE_eq : ∃ f0 f1 : Field, fsE.toList = [f0, f1] ∧ (f0.name ≠ "_" ∧ f0.type = 3 ∧ f0.offset = 0) ∧ (f1.name ≠ "_" ∧ f1.type = 84 ∧ f1.offset = 1) := by
  refine ⟨fsE.toList.getD 0 default, fsE.toList.getD 1 default, by kernel_rfl, ⟨?_, by kernel_rfl, by kernel_rfl⟩, ⟨?_, by kernel_rfl, by kernel_rfl⟩⟩
  · have : decide ((fsE.toList.getD 0 default).name = "_") = false := by kernel_rfl
    exact of_decide_eq_false this
  · have : decide ((fsE.toList.getD 1 default).name = "_") = false := by kernel_rfl
    exact of_decide_eq_false this
theorem part_i {x : Int} {c : Value} : prun T0.P (Go.part 3 #[iv x, c] 0) = some (iv x) := by kernel_rfl
theorem part_c {x y : Int} {c : Value} : prun T0.P (Go.part 84 #[c, cx x y] 1) = some (cx x y) := by kernel_rfl
def okE (x : XV) : Prop := x.a < 65536 ∧ x.x ≤ 1048576 ∧ x.y ≤ 1048576
def eqE (x y : XV) : Bool := decide (x.a = y.a) && (decide (x.x = y.x) && decide (x.y = y.y))
theorem okE_z {x : XV} (h : okE x) : zok (x.x : Int) = true ∧ zok (x.y : Int) = true := ⟨zok_k (by have := h.2.1; omega), zok_k (by have := h.2.2; omega)⟩
theorem eq_Ext {x y : XV} (hx : okE x) (hy : okE y) : prun T0.P (Op.equalIn 10000 107 (extV x) (extV y)) = some (eqE x y) := by
  obtain ⟨f0, f1, e, ⟨n0, t0, o0⟩, ⟨n1, t1, o1⟩⟩ := fsE_eq
  obtain ⟨x1, x2⟩ := okE_z hx
  obtain ⟨y1, y2⟩ := okE_z hy
  rw [show (10000 : Nat) = 9999 + 1 from rfl, prun_struct _ _ _ _ pu_Ext si_Ext, e]
  simp only [Op.eqFields, n0, n1, t0, t1, o0, o1, ne_eq, not_false_eq_true, if_true, prun_bind, prun_ite, part_i, part_c, Option.bind_some]
  rw [show (9999 : Nat) = 9998 + 1 from rfl, prun_int _ _ _ pu_int, prun_complex _ x1 x2 y1 y2 pu_c128]
  unfold eqE
  simp only [Option.bind_some, Bool.not_eq_true', prun_pure]
  by_cases h1 : x.a = y.a <;> by_cases h2 : x.x = y.x <;> by_cases h3 : x.y = y.y <;> simp [h1, h2, h3] <;> omega
theorem prun_guard {op : BinOp} {t : TypeId} {p q : Operand} {xs ys : Array Value} (hg : T0.P.eqGuardType T0.P.depth t = false) : prun T0.P (eqGuard op t p q (.agg xs) (.agg ys)) = some () := by
  unfold eqGuard
  cases op <;> simp [prun_bind, prun_program, hg, prun_pure] <;> rfl
theorem flat_ext (x : XV) : flat (extV x) = true := rfl
theorem E_neq {p q : Operand} {h : AH} {x y : XV} (hx : okE x) (hy : okE y) : evBin T0 .neq 107 p q (extV x) (extV y) h = some (.bool (!eqE x y)) := by
  show ifB (flat (extV x) && flat (extV y)) (slowBin T0 .neq 107 p q (extV x) (extV y)) none = _
  rw [flat_ext, flat_ext]
  show slowBin T0 .neq 107 p q (extV x) (extV y) = _
  unfold slowBin
  rw [prun_bind, prun_guard gd_Ext, Option.bind_some]
  simp only [binOp, prun_bind, Op.equal, Op.maxDepth]
  rw [eq_Ext hx hy]
  rfl
theorem extV_zero : (.agg #[iv 0, .complex .f64 0 0] : Value) = extV ⟨0, 0, 0⟩ := rfl
theorem pu_arr4 : prun T0.P (underlying 45) = some (.array 4 3) := by kernel_rfl
theorem ps_int : prun T0.P (sizeOf 3) = some 1 := by kernel_rfl
theorem part_a {a b c d : Int} : prun T0.P (Go.part 3 #[iv a, iv b, iv c, iv d] 0) = some (iv a) ∧ prun T0.P (Go.part 3 #[iv a, iv b, iv c, iv d] 1) = some (iv b) ∧ prun T0.P (Go.part 3 #[iv a, iv b, iv c, iv d] 2) = some (iv c) ∧ prun T0.P (Go.part 3 #[iv a, iv b, iv c, iv d] 3) = some (iv d) := ⟨by kernel_rfl, by kernel_rfl, by kernel_rfl, by kernel_rfl⟩
def eqA (n m : NV) : Bool := decide (n.d0 = m.d0 ∧ n.d1 = m.d1 ∧ n.d2 = m.d2 ∧ n.d3 = m.d3)
theorem eq_arr4 (n m : NV) : prun T0.P (Op.equalIn 10000 45 (arrV n) (arrV m)) = some (eqA n m) := by
  have pi : ∀ a b : Nat, prun T0.P (Op.equalIn 9999 3 (iv a) (iv b)) = some (decide (a = b)) := fun a b => by
    rw [show (9999 : Nat) = 9998 + 1 from rfl, prun_int _ _ _ pu_int]
    by_cases h : a = b
    · simp [h]
    · have : ¬ (a : Int) = b := by omega
      simp [h, this]
  rw [show (10000 : Nat) = 9999 + 1 from rfl, Op.equalIn]
  simp only [prun_bind, pu_arr4, Option.bind_some, ps_int]
  simp only [Std.Legacy.Range.forIn_eq_forIn_range', Std.Legacy.Range.size, Nat.sub_zero, Nat.add_sub_cancel, Nat.div_one, List.range'_succ, List.range'_zero, List.forIn_cons, List.forIn_nil, prun_bind, Nat.zero_add, Nat.mul_one, part_a, Option.bind_some, pi]
  unfold eqA
  by_cases h1 : n.d0 = m.d0 <;> by_cases h2 : n.d1 = m.d1 <;> by_cases h3 : n.d2 = m.d2 <;> by_cases h4 : n.d3 = m.d3 <;> simp [h1, h2, h3, h4, prun_pure, prun_bind, prun_ite, part_a, pi]
theorem A_eql {p q : Operand} {h : AH} {n m : NV} : evBin T0 .eql 45 p q (arrV n) (arrV m) h = some (.bool (eqA n m)) := by
  show slowBin T0 .eql 45 p q (arrV n) (arrV m) = _
  unfold slowBin
  rw [prun_bind, prun_guard gd_arr4, Option.bind_some]
  simp only [binOp, prun_bind, Op.equal, Op.maxDepth]
  rw [eq_arr4]
  rfl
end
end Go.Proofs.YtjdhdhmoedlfdaaGreat.Abs
namespace Go.Proofs.YtjdhdhmoedlfdaaGreat.Abs
open Go Go.Proofs
noncomputable section
variable {call : Abs.Callee}
set_option maxRecDepth 10000
def regOps (c : Func) (p : List Nat) : Array Oper := part c p |> fun | .region _ ops _ => ops | _ => #[]
theorem retB_cell {T : Tab} {f : Nat} {tm : PM Value} {h : AH} {fd : Func} {t : Nat} {ty : TypeId} {p v : Value} (hf : T.ft.get f = some fd) (hr : fd.results = #[.cell t ty]) (hp : tm.get t = some p) (hv : evLoad T ty p h = some v) : retB T f tm h [] = some (v, h) := by
  unfold retB undef1
  simp only [resultA, hf, hr]
  show (match (match resultsA T h tm [.cell t ty] with | some l => some (one l) | none => none) with | some v => some (v, h) | none => none) = _
  unfold evLoad at hv
  split at hv
  · simp only [resultsA, hp, hv]
    rfl
  · cases hv
theorem eqV_ext {x : XV} : eqV (extV x) (extV x) = true := by simp [eqV, eqVs]
theorem BoxE.store {n : Nat} {h : AH} {b : Nat} {u v : Value} (hb : BoxL h b 107 [u, v]) (x : XV) (hn : n ≤ b) : ∃ h', evStore T0 107 (pv b 0) (extV x) h = some h' ∧ BoxL h' b 107 [iv x.a, cx x.x x.y] ∧ Grow n h h' ∧ h'.next = h.next :=
  hb.store (ws := [iv x.a, cx x.x x.y]) (o := 0) sz_Ext rfl (by simp) rfl (by simp) hn
theorem BoxE.load {h : AH} {b : Nat} {x : XV} (hb : BoxL h b 107 [iv x.a, cx x.x x.y]) : evLoad T0 107 (pv b 0) h = some (extV x) ∧ evLoad T0 3 (pv b 0) h = some (iv x.a) ∧ evLoad T0 84 (pv b 1) h = some (cx x.x x.y) :=
  ⟨hb.loadA (ws := [iv x.a, cx x.x x.y]) agg_Ext sz_Ext (by simp) (fun i y hi => by rwa [Nat.zero_add]), hb.load agg_int rfl, hb.load agg_c128 rfl⟩
theorem ft77 : T0.ft.get 77 = some Tryz.f77 := by kernel_rfl
theorem ft84 : T0.ft.get 84 = some Tryz.f84 := by kernel_rfl
def extAt (bs : List Nat) (i : Nat) : XV := ⟨byteAt bs i, numAt bs (i + 1), byteAt bs (i + 3)⟩
theorem extAt_ok {bs : List Nat} (hbs : ∀ x ∈ bs, x < 256) {i : Nat} : okE (extAt bs i) := by
  have h1 := byteAt_lt hbs (i := i); have h2 := numAt_lt hbs (i := i + 1); have h3 := byteAt_lt hbs (i := i + 3)
  unfold okE extAt
  simp only
  omega
theorem ok_zero : okE ⟨0, 0, 0⟩ := by unfold okE; simp
theorem plan_GE1 : planB (regOps Tryz.f77 [1, 0]) 34 = some ([.one 0, .one 1, .one 2, .one 3, .one 4, .one 5, .one 6, .one 7, .one 8, .one 9, .one 10, .one 11, .one 12, .one 13, .one 14, .one 15], []) := by kernel_rfl
theorem plan_GE3 : planB (regOps Tryz.f77 [1, 1, 1, 0]) 34 = some ([.one 0, .one 1, .one 2, .one 3, .eff [] 4 [2, 3], .one 5], []) := by kernel_rfl
theorem GetExt_S (bs : List Nat) (hbs : ∀ x ∈ bs, x < 256) (hl : 4 ≤ bs.length) (v : Value) (n0 : Nat) (h : AH) (hv : RowX n0 h v bs) (hn : n0 ≤ h.next) :
    ∃ h', frameB T0 X0 call 3000 77 [v] h = some (.tuple #[extV (extAt bs 0), .bool (!eqE (extAt bs 0) ⟨0, 0, 0⟩)], h') ∧ Grow h.next h h' := by
  generalize hh1 : h.new (.cells (PM.ofList [iv 0, .complex .f64 0 0]) 2 107 0 0 .ex) = h1
  have g1 : Grow h.next h h1 := by rw [← hh1]; exact Grow.new _ _
  have hb1 : BoxL h1 h.next 107 [iv 0, .complex .f64 0 0] := by rw [← hh1]; exact BoxL.new _ _ _
  have r1 := hv.grow g1 hn
  have hrd : ∀ (i j : Nat), j = i → i < 4 → ∃ p, evIndexAddr T0 57 v (iv (j : Nat)) = some p ∧ evLoad T0 5 p h1 = some (.int .u8 (byteAt bs i : Int)) := fun i j e hi => by subst e; exact r1.row.at und_bytes sz_u8 agg_u8 (i := j) (by simp [bytesV, byteAt_get (show j < bs.length by omega)])
  obtain ⟨p0, a0, b0⟩ := hrd 0 0 rfl (by omega)
  obtain ⟨p1, a1, b1⟩ := hrd 1 1 rfl (by omega)
  obtain ⟨p2, a2, b2⟩ := hrd 2 2 rfl (by omega)
  obtain ⟨p3, a3, b3⟩ := hrd 3 3 rfl (by omega)
  have a0 : evIndexAddr T0 57 v (iv 0) = some p0 := a0
  have a1 : evIndexAddr T0 57 v (iv 1) = some p1 := a1
  have a2 : evIndexAddr T0 57 v (iv 2) = some p2 := a2
  have a3 : evIndexAddr T0 57 v (iv 3) = some p3 := a3
  have l0 := byteAt_lt hbs (i := 0); have l1 := byteAt_lt hbs (i := 1); have l2 := byteAt_lt hbs (i := 2); have l3 := byteAt_lt hbs (i := 3)
  have w0 : IntKind.i64.wrap (byteAt bs 0 : Int) = byteAt bs 0 := wz (by omega)
  have w1 : IntKind.i64.wrap (byteAt bs 1 : Int) = byteAt bs 1 := wz (by omega)
  have w2 : IntKind.i64.wrap (byteAt bs 2 : Int) = byteAt bs 2 := wz (by omega)
  have w3 : IntKind.i64.wrap (byteAt bs 3 : Int) = byteAt bs 3 := wz (by omega)
  have s1 : ∀ p q h, evBin T0 .shl 3 p q (iv (byteAt bs 2)) (.int .u64 8) h = some (iv (byteAt bs 2 <<< 8 : Nat)) := fun p q h => by
    rw [show (.int .u64 8 : Value) = .int .u64 ((8 : Nat) : Int) from rfl, bin_shl (by decide), wz (by rw [Nat.shiftLeft_eq]; omega)]
  have hsh : byteAt bs 2 <<< 8 < 65536 := by rw [Nat.shiftLeft_eq]; omega
  have o1 : ∀ p q h, evBin T0 .or 3 p q (iv (byteAt bs 1)) (iv (byteAt bs 2 <<< 8 : Nat)) h = some (iv (numAt bs 1)) := fun p q h => by
    rw [bin_or (Nat.lt_trans (show byteAt bs 1 < 65536 by omega) (by decide)) (Nat.lt_trans hsh (by decide)), or_num _ _ l1, wz (by unfold num2; omega)]; rfl
  have hok := extAt_ok hbs (i := 0)
  have z1 : zok (numAt bs 1 : Int) = true := (okE_z hok).1
  have z2 : zok (byteAt bs 3 : Int) = true := (okE_z hok).2
  obtain ⟨h2, t1, t2, t3, t4⟩ := BoxE.store hb1 (extAt bs 0) (Nat.le_refl _)
  obtain ⟨h3, u1, u2, u3, u4⟩ := BoxE.store t2 (extAt bs 0) (Nat.le_refl _)
  refine ⟨h3, ?_, (g1.trans t3 (Nat.le_refl _)).trans u3 (Nat.le_refl _)⟩
  have hp1 := plan_GE1
  have hp3 := plan_GE3
  simp only [regOps, part, Tryz.f77, sub] at hp1 hp3
  rw [frameB_eq ft77 rfl rfl]
  simp only [Tryz.f77, symM, opFn, Nat.reduceLT, alloc_E, hh1]
  rw [codeB_draw, draw_plan hp1 rfl]
  simp only [drawAll, opFn, Nat.reduceLT, Nat.reduceBEq, a1, a2, a3, b1, b2, b3, conv_i2i und_u8 und_int, w1, w2, w3, s1, o1]
  have e1 : (extV (extAt bs 0)) = .agg #[iv (byteAt bs 0), cx (numAt bs 1) (byteAt bs 3)] := rfl
  rw [e1] at t1
  simp only [symM, opFn, Nat.reduceLT, Nat.reduceBEq, a0, b0, conv_i2i und_u8 und_int, w0, conv_i2f und_int und_f64 z1, conv_i2f und_int und_f64 z2, build_E, t1]
  rw [codeB_draw, draw_plan hp3 rfl]
  obtain ⟨q1, q2, q3⟩ := BoxE.load t2
  simp only [drawAll, opFn, Nat.reduceBEq, q1, build_E0, extV_zero, E_neq hok ok_zero, u1, effE_cons, eqV_ext]
  exact retB_cell1 ft77 rfl (by simp only [symM, Nat.reduceBEq]) (BoxE.load u2).1 get_same
theorem plan_rGE : planB (regOps Tryz.f84 [1, 0]) 16 = some ([.one 0, .one 1, .one 2, .one 3, .one 4, .one 7, .one 8, .one 9, .one 10, .eff [] 5 [0, 1, 2, 3, 7, 8, 9, 10], .one 6, .one 11, .one 12, .eff [] 13 []], []) := by kernel_rfl
theorem rGetExt_S (hN : ∀ (bs : List Nat) (i : Nat) v n0 h, (∀ x ∈ bs, x < 256) → i + 2 ≤ bs.length → bs.length < 1000 → RowX n0 h v bs → call 81 [v, iv i, iv 2] h = some (iv (numAt bs i), h))
    (bs : List Nat) (hbs : ∀ x ∈ bs, x < 256) (hl : 4 ≤ bs.length) (hl2 : bs.length < 1000) (v : Value) (n0 : Nat) (h : AH) (hv : RowX n0 h v bs) (hn : n0 ≤ h.next) :
    ∃ h', frameB T0 X0 call 3000 84 [v] h = some (extV (extAt bs 0), h') ∧ Grow h.next h h' := by
  generalize hh1 : h.new (.cells (PM.ofList [iv 0, .complex .f64 0 0]) 2 107 0 0 .ex) = h1
  have g1 : Grow h.next h h1 := by rw [← hh1]; exact Grow.new _ _
  have hb1 : BoxL h1 h.next 107 [iv 0, .complex .f64 0 0] := by rw [← hh1]; exact BoxL.new _ _ _
  have r1 := hv.grow g1 hn
  have hrd : ∀ (i j : Nat), j = i → i < 4 → ∃ p, evIndexAddr T0 57 v (iv (j : Nat)) = some p ∧ evLoad T0 5 p h1 = some (.int .u8 (byteAt bs i : Int)) ∧ eqV p p = true := fun i j e hi => by subst e; exact r1.row.at3 und_bytes sz_u8 agg_u8 (i := j) (by simp [bytesV, byteAt_get (show j < bs.length by omega)])
  obtain ⟨p0, a0, b0, c0⟩ := hrd 0 0 rfl (by omega)
  obtain ⟨p3, a3, b3, c3⟩ := hrd 3 3 rfl (by omega)
  have a0 : evIndexAddr T0 57 v (iv 0) = some p0 := a0
  have a3 : evIndexAddr T0 57 v (iv 3) = some p3 := a3
  have l0 := byteAt_lt hbs (i := 0)
  have w0 : IntKind.i64.wrap (byteAt bs 0 : Int) = byteAt bs 0 := wz (by omega)
  have hN1 : call 81 [v, iv 1, iv 2] h1 = some (iv (numAt bs 1), h1) := hN bs 1 v n0 h1 hbs (by omega) hl2 r1
  have hok := extAt_ok hbs (i := 0)
  have z1 : zok (numAt bs 1 : Int) = true := (okE_z hok).1
  have z2 : zok (byteAt bs 3 : Int) = true := (okE_z hok).2
  obtain ⟨h2, t1, t2, t3, t4⟩ := BoxE.store hb1 (extAt bs 0) (Nat.le_refl _)
  refine ⟨h2, ?_, g1.trans t3 (Nat.le_refl _)⟩
  have hp := plan_rGE
  simp only [regOps, part, Tryz.f84, sub] at hp
  have e1 : (extV (extAt bs 0)) = .agg #[iv (byteAt bs 0), cx (numAt bs 1) (byteAt bs 3)] := rfl
  rw [e1] at t1
  rw [frameB_eq ft84 rfl rfl]
  simp only [Tryz.f84, symM, opFn, Nat.reduceLT, alloc_E, hh1]
  rw [codeB_draw, draw_plan hp rfl]
  simp only [drawAll, opFn, Nat.reduceBEq, a0, a3, b0, b3, c0, c3, hv.eqv, conv_i2i und_u8 und_int, w0, evCall_fn ft81 rfl, hN1, effE_cons, conv_i2f und_int und_f64 z1, conv_i2f und_u8 und_f64 z2, build_E, t1]
  exact retB_cell ft84 rfl (by simp only [symM, Nat.reduceBEq]) (BoxE.load t2).1
end
end Go.Proofs.YtjdhdhmoedlfdaaGreat.Abs
namespace Go.Proofs.YtjdhdhmoedlfdaaGreat.Abs
open Go Go.Proofs
noncomputable section
variable {call : Abs.Callee}
set_option maxRecDepth 10000
theorem ft66 : T0.ft.get 66 = some Tryz.f66 := by kernel_rfl
theorem ft162 : T0.ft.get 162 = some Tryz.f162 := by kernel_rfl
theorem ft140 : T0.ft.get 140 = some Tryz.f140 := by kernel_rfl
theorem und_u32' : und T0 122 = some (.int .u32) := by kernel_rfl
theorem wu8m (n : Nat) : IntKind.u8.wrap (n : Int) = ((n % 256 : Nat) : Int) := by rw [IntKind.wrap]; simp [IntKind.bits, IntKind.signed]
theorem wu64n {n : Nat} (h : n < 18446744073709551616) : IntKind.u64.wrap (n : Int) = (n : Int) := by rw [IntKind.wrap]; simp [IntKind.bits, IntKind.signed]; omega
theorem bs_u8 {x : Nat} {h : AH} : evBuildSlice T0 57 1 [(0, .int .u8 (x : Int))] h = some (.slice (some ⟨h.next, 0, none⟩) 1 1, h.new (.cells (PM.ofList [.int .u8 (x : Int)]) 1 5 0 0 .ex)) := bs_one und_bytes sz_u8 zero_u8 rfl rfl
theorem app_u8 {n : Nat} {h : AH} {v : Value} {l : List Nat} (ho : Own n h v (bytesV l) 5) (x : Nat) (hl : l.length < 1000) (hn : n ≤ h.next) (ty : TypeId) :
    ∃ v' h', evBuiltin T0 .append #[57, 57] ty [v, .slice (some ⟨h.next, 0, none⟩) 1 1] (h.new (.cells (PM.ofList [.int .u8 (x : Int)]) 1 5 0 0 .ex)) = some (.value v', h') ∧ Own h.next h' v' (bytesV (l ++ [x])) 5 ∧ Grow n h h' ∧ (∀ k, k < h.next → Off v k → h'.get k = h.get k) := by
  obtain ⟨v', h', e1, e2, e3, e4⟩ := append_one2 und_bytes tt_u8 ti_u8.1 ti_u8.2.1 ti_u8.2.2 ho (x := .int .u8 (x : Int)) rfl (by rw [bytesV_len]; omega) hn ty
  exact ⟨v', h', e1, by simpa [bytesV] using e2, e3, e4⟩
def leF (n i k : Nat) : List Nat := (List.range' i k).map fun j => n / 256 ^ j % 256
def leN (n k : Nat) : List Nat := leF n 0 k
theorem leF_succ (n i k : Nat) : leF n i (k + 1) = n / 256 ^ i % 256 :: leF n (i + 1) k := rfl
theorem shr_pow (n i : Nat) : n >>> (8 * i) = n / 256 ^ i := by rw [Nat.shiftRight_eq_div_pow, Nat.pow_mul]
noncomputable def bodyPut : Code := part Tryz.f66 [1, 0, 1, 0, 0]
abbrev EPut : Env := ⟨66, 24, none⟩
theorem rpL (n size : Nat) (hn32 : n < 4294967296) (hs : size ≤ 4) : ∀ (k i n0 : Nat) (bs : List Nat) (v : Value) (h : AH) (tm : PM Value) (N : Nat), i + k = size → bs.length + k < 500 → n0 ≤ h.next → k + 30 ≤ N → Own n0 h v (bytesV bs) 5 →
    tm.get 0 = some v → tm.get 1 = some (iv n) → tm.get 2 = some (iv size) → tm.get 7 = some (iv i) →
    ∃ tm' h', codeB T0 X0 call N EPut (.loop bodyPut) tm h [] = .jump (.exit 0) tm' h' [] ∧ (∃ v', tm'.get 0 = some v' ∧ Own n0 h' v' (bytesV (bs ++ leF n i k)) 5 ∧ Grow n0 h h' ∧ (∀ k, k < h.next → Off v k → h'.get k = h.get k) ∧ (0 < k → Own h.next h' v' (bytesV (bs ++ leF n i k)) 5)) := by
  intro k
  induction k with
  | zero =>
    intro i n0 bs v h tm N hi hl hn hN ho g0 g1 g2 g7
    obtain ⟨N, rfl⟩ : ∃ a, N = a + 30 := ⟨N - 30, by omega⟩
    apply Exists.intro; apply Exists.intro; apply And.intro
    · rw [codeB_loop]
      simp only [bodyPut, part, Tryz.f66, sub, symM, opFn, Nat.reduceLT, Nat.reduceBEq, g2, g7, bin_lss, decide_eq_false (show ¬ (i : Int) < (size : Int) by omega)]
      rfl
    · exact ⟨v, by simp only [symM, Nat.reduceBEq, g0], by simpa [leF] using ho, Grow.refl _ _, fun _ _ _ => rfl, fun q => absurd q (by omega)⟩
  | succ k ih =>
    intro i n0 bs v h tm N hi hl hn hN ho g0 g1 g2 g7
    obtain ⟨N, rfl⟩ : ∃ a, N = a + 30 := ⟨N - 30, by omega⟩
    obtain ⟨v1, h1, e1, e2', e3, e4⟩ := app_u8 ho (n / 256 ^ i % 256) (by omega) hn 57
    obtain ⟨tm2, h2, q1, v2, q2, q3, q4, q5, q6⟩ := ih (i + 1) h.next (bs ++ [n / 256 ^ i % 256]) v1 h1
      ((((((((((((((((tm.set 8 (iv i)).set 9 (iv size)).set 10 (.bool true)).set 13 v).set 14 (iv n)).set 15 (uv n)).set 16 (iv i)).set 17 (uv i)).set 18 (uv (8 * i : Nat))).set 19 (uv (n / 256 ^ i : Nat))).set 20 (.int .u8 (n / 256 ^ i % 256 : Nat))).set 21 (.slice (some ⟨h.next, 0, none⟩) 1 1)).set 22 v1).set 0 v1).set 11 (iv i)).set 12 (iv ((i + 1 : Nat) : Int)) |>.set 7 (iv ((i + 1 : Nat) : Int))) (N + 29) (by omega) (by simp; omega) e3.next (by omega) e2'
      (by simp only [symM, Nat.reduceBEq]) (by simp only [symM, Nat.reduceBEq, g1]) (by simp only [symM, Nat.reduceBEq, g2]) get_same
    have q3' : Own h.next h2 v2 (bytesV (bs ++ leF n i (k + 1))) 5 := by rw [leF_succ]; simpa using q3
    refine ⟨tm2, h2, ?_, v2, q2, q3'.less hn, e3.trans (q4.less hn) (Nat.le_refl _), fun j hj ho => (q5 j (Nat.lt_of_lt_of_le hj e3.next) (e2'.off hj)).trans (e4 j hj ho), fun _ => q3'⟩
    rw [show N + 30 = (N + 29) + 1 from rfl, codeB_loop, ← q1]
    have m8 : IntKind.u64.wrap (8 * (i : Int)) = ((8 * i : Nat) : Int) := by rw [show (8 * (i : Int)) = ((8 * i : Nat) : Int) by omega]; exact wu64n (by omega)
    have s8 : ∀ p q h, evBin T0 .shr 176 p q (uv n) (uv (8 * i : Nat)) h = some (uv (n / 256 ^ i : Nat)) := fun p q h => by
      rw [bin_shr (show 8 * i < IntKind.u64.bits by show 8 * i < 64; omega), shr_pow]
    simp only [bodyPut, part, Tryz.f66, sub, symM, opFn, Nat.reduceLT, Nat.reduceBEq, symM, g0, g1, g2, g7, bin_lss, decide_eq_true (show (i : Int) < (size : Int) by omega), conv_i2i und_int und_uint, conv_i2i und_uint und_u8, wu64n (show n < 18446744073709551616 by omega), wu64n (show i < 18446744073709551616 by omega), bin_mul, m8, s8, wu8m, bs_u8, e1, bin_add, wadd1 (show i ≤ 400000 by omega)]
theorem rPut_S (n size : Nat) (hn32 : n < 4294967296) (hs : size ≤ 4) (n0 : Nat) (bs : List Nat) (v : Value) (h : AH) (hl : bs.length < 400) (hn : n0 ≤ h.next) (ho : Own n0 h v (bytesV bs) 5) :
    ∃ v' h', frameB T0 X0 call 3000 66 [v, iv n, iv size] h = some (v', h') ∧ Own n0 h' v' (bytesV (bs ++ leN n size)) 5 ∧ Grow n0 h h' ∧ (∀ k, k < h.next → Off v k → h'.get k = h.get k) ∧ (0 < size → Own h.next h' v' (bytesV (bs ++ leN n size)) 5) := by
  rw [frameB_eq ft66 rfl rfl]
  simp only [Tryz.f66, symM, opFn, Nat.reduceLT, symL]
  generalize hX : codeB T0 X0 call _ EPut (.loop _) _ _ _ = X
  obtain ⟨t1, h1, e1, v1, e2, e3, e4⟩ := use_exit hX (rpL n size hn32 hs size 0 n0 bs v h _ _ (by omega) (by omega) hn (by omega) ho (by simp only [symM, Nat.reduceBEq]) (by simp only [symM, Nat.reduceBEq]) (by simp only [symM, Nat.reduceBEq]) (by simp only [symM]; rfl))
  clear hX
  subst e1
  refine ⟨v1, h1, ?_, e3, e4⟩
  simp only [symM, opFn, Nat.reduceLT, symL, e2]
  exact retB_one ft66 rfl get_same
theorem make_bytes {h : AH} {k : Nat} (hk : k ≤ 1000) : ∃ h', evMakeSlice T0 57 (iv k) (iv k) h = some (.slice (some ⟨h.next, 0, none⟩) k k, h') ∧ Own h.next h' (.slice (some ⟨h.next, 0, none⟩) k k) (bytesV (List.replicate k 0)) 5 ∧ Grow h.next h h' := by
  have hlen : (bytesV (List.replicate k 0)).length = k := by simp [bytesV]
  refine ⟨newCells h 5 (fillPM (.int .u8 0) (k * (infoOf 5).size)) (k * (infoOf 5).size), ?_, ?_, Grow.new _ _⟩
  · have hb : (Nat.ble k k && (Nat.ble ((infoOf 5).bytes * k) 17592186044416 && Nat.ble k 17592186044416)) = true := by
      have h2 : (infoOf 5).bytes * k ≤ 64 * 1000 := Nat.mul_le_mul ti_u8.2.2 hk
      rw [Nat.ble_eq_true_of_le (Nat.le_refl _), Nat.ble_eq_true_of_le (by omega), Nat.ble_eq_true_of_le (by omega)]
      rfl
    unfold evMakeSlice
    simp only [und_bytes, tt_u8, ti_u8.1]
    rw [show natOf (iv k) = some k from rfl]
    simp only
    rw [hb, ifB_true]
  · rw [ti_u8.2.1, Nat.mul_one]
    refine .inr ⟨h.next, fillPM (.int .u8 0) k, .ex, k, Nat.le_refl _, Nat.lt_succ_self _, by rw [hlen], ?_, ?_, .inl ⟨rfl, by rw [hlen]⟩⟩
    · unfold newCells
      rw [get_new_same, hlen]
    · intro i x hx
      have hi : i < k := by
        have := (List.getElem?_eq_some_iff.1 hx).1
        rwa [hlen] at this
      have hx2 : x = .int .u8 0 := by
        simp [bytesV, hi] at hx
        exact hx.symm
      rw [hx2, fillPM_get _ _ _ hi]
      show some ((#[Value.int .u8 0] : Array Value)[i % 1]!) = _
      rw [Nat.mod_one]
      rfl
noncomputable def bodyput : Code := part Tryz.f162 [1, 0, 0]
abbrev Eput : Env := ⟨162, 19, none⟩
theorem leF_snoc (n k : Nat) : leF n 0 (k + 1) = leF n 0 k ++ [n / 256 ^ k % 256] := by
  unfold leF
  rw [List.range'_concat]; simp
theorem putLp (n : Nat) (hn32 : n < 4294967296) (n0 : Nat) (v : Value) : ∀ (k i : Nat) (rest : List Nat) (h : AH) (tm : PM Value) (N : Nat), i + k = 4 → rest.length = k → n0 ≤ h.next → k + 30 ≤ N → Own n0 h v (bytesV (leF n 0 i ++ rest)) 5 →
    tm.get 0 = some v → tm.get 1 = some (wv n) → tm.get 6 = some (iv 4) → tm.get 7 = some (iv i) →
    ∃ tm' h', codeB T0 X0 call N Eput (.loop bodyput) tm h [] = .jump (.exit 0) tm' h' [] ∧ (Own n0 h' v (bytesV (leN n 4)) 5 ∧ Grow n0 h h') := by
  intro k
  induction k with
  | zero =>
    intro i rest h tm N hi hr hn hN ho g0 g1 g6 g7
    obtain ⟨N, rfl⟩ : ∃ a, N = a + 30 := ⟨N - 30, by omega⟩
    have hi4 : i = 4 := by omega
    subst hi4
    rw [List.length_eq_zero_iff.1 hr, List.append_nil] at ho
    apply Exists.intro; apply Exists.intro; apply And.intro
    · rw [codeB_loop]
      simp only [bodyput, part, Tryz.f162, sub, symM, opFn, Nat.reduceLT, g6, g7, bin_lss, decide_eq_false (show ¬ ((4 : Nat) : Int) < 4 by omega)]
      rfl
    · exact ⟨ho, Grow.refl _ _⟩
  | succ k ih =>
    intro i rest h tm N hi hr hn hN ho g0 g1 g6 g7
    obtain ⟨N, rfl⟩ : ∃ a, N = a + 30 := ⟨N - 30, by omega⟩
    obtain ⟨y, rest, rfl⟩ : ∃ y r, rest = y :: r := by cases rest with | nil => simp at hr | cons y r => exact ⟨y, r, rfl⟩
    have hli : (leF n 0 i).length = i := by simp [leF]
    have hget : (bytesV (leF n 0 i ++ y :: rest))[i]? = some (.int .u8 (y : Int)) := by
      simp only [bytesV, List.map_append, List.map_cons]
      rw [List.getElem?_append_right (by simp [hli])]
      simp [hli]
    obtain ⟨p, h1, e1, e2, e3, e4, e5⟩ := ho.store und_bytes sz_u8 (x := .int .u8 ((n / 256 ^ i % 256 : Nat) : Int)) rfl hget
    have hset : (bytesV (leF n 0 i ++ y :: rest)).set i (.int .u8 ((n / 256 ^ i % 256 : Nat) : Int)) = bytesV (leF n 0 (i + 1) ++ rest) := by
      rw [leF_snoc]
      simp only [bytesV, List.map_append, List.map_cons, List.append_assoc, List.cons_append, List.nil_append]
      rw [List.set_append_right _ _ (by simp [hli])]
      simp [hli]
    rw [hset] at e3
    obtain ⟨tm2, h2, q1, q3, q4⟩ := ih (i + 1) rest h1
      (((((((((((tm.set 8 (.bool true)).set 9 (iv i)).set 4 (iv i)).set 10 v).set 11 (iv i)).set 12 (wv n)).set 13 (iv i)).set 14 (iv (8 * i : Nat))).set 15 (wv (n / 256 ^ i : Nat))).set 16 (.int .u8 (n / 256 ^ i % 256 : Nat))).set 17 p |>.set 18 (iv ((i + 1 : Nat) : Int)) |>.set 7 (iv ((i + 1 : Nat) : Int))) (N + 29) (by omega) (by simpa using hr) (Nat.le_trans hn e4.next) (by omega) e3
      (by simp only [symM, Nat.reduceBEq, g0]) (by simp only [symM, Nat.reduceBEq, g1]) (by simp only [symM, Nat.reduceBEq, g6]) get_same
    refine ⟨tm2, h2, ?_, q3, e4.trans q4 (Nat.le_refl _)⟩
    rw [show N + 30 = (N + 29) + 1 from rfl, codeB_loop, ← q1]
    have m8 : IntKind.i64.wrap (8 * (i : Int)) = ((8 * i : Nat) : Int) := by rw [wz (by omega)]; omega
    have s8 : ∀ p q h, evBin T0 .shr 122 p q (wv n) (iv (8 * i : Nat)) h = some (wv (n / 256 ^ i : Nat)) := fun p q h => by
      rw [bin_shr (show 8 * i < IntKind.u32.bits by show 8 * i < 32; omega), shr_pow]
    simp only [bodyput, part, Tryz.f162, sub, symM, opFn, Nat.reduceLT, Nat.reduceBEq, symM, g0, g1, g6, g7, bin_lss, decide_eq_true (show (i : Int) < 4 by omega), conv_i2i und_u32' und_u8, bin_mul, m8, s8, wu8m, e1, e2, bin_add, wadd1 (show i ≤ 400000 by omega)]
theorem put_S (n : Nat) (hn32 : n < 4294967296) (n0 : Nat) (rest : List Nat) (hr : rest.length = 4) (v : Value) (h : AH) (hn : n0 ≤ h.next) (ho : Own n0 h v (bytesV rest) 5) :
    ∃ h', frameB T0 X0 call 3000 162 [v, wv n] h = some (.tuple #[], h') ∧ Own n0 h' v (bytesV (leN n 4)) 5 ∧ Grow n0 h h' := by
  rw [frameB_eq ft162 rfl rfl]
  have hlen : ∀ ty h', evBuiltin T0 .len #[57] ty [v] h' = some (.value (iv 4), h') := fun ty h' => by rw [ho.row.len und_bytes, bytesV_len, hr]; rfl
  simp only [Tryz.f162, symM, opFn, Nat.reduceLT, symL, hlen]
  generalize hX : codeB T0 X0 call _ Eput (.loop _) _ _ _ = X
  obtain ⟨t1, h1, e1, e3, e4⟩ := use_exit hX (putLp n hn32 n0 v 4 0 rest h _ _ (by omega) hr hn (by omega) (by simpa [leF] using ho) (by simp only [symM, Nat.reduceBEq]) (by simp only [symM, Nat.reduceBEq]) (by simp only [symM, Nat.reduceBEq]) (by simp only [symM]; rfl))
  clear hX
  subst e1
  refine ⟨h1, ?_, e3, e4⟩
  simp only [symM, symL]
  exact retB_zero ft162 rfl
theorem Put32_S (hp : ∀ (n n0 : Nat) (rest : List Nat) (v : Value) (h : AH), n < 4294967296 → rest.length = 4 → n0 ≤ h.next → Own n0 h v (bytesV rest) 5 → ∃ h', call 162 [v, wv n] h = some (.tuple #[], h') ∧ Own n0 h' v (bytesV (leN n 4)) 5 ∧ Grow n0 h h')
    (n : Nat) (hn32 : n < 4294967296) (h : AH) : ∃ v' h', frameB T0 X0 call 3000 140 [wv n] h = some (v', h') ∧ Own h.next h' v' (bytesV (leN n 4)) 5 ∧ Grow h.next h h' := by
  obtain ⟨h1, e1, e2, e3⟩ := make_bytes (h := h) (k := 4) (by omega)
  obtain ⟨h2, q1, q2, q3⟩ := hp n h.next _ _ h1 hn32 (by simp) e3.next e2
  have e1 : evMakeSlice T0 57 (iv 4) (iv 4) h = _ := e1
  refine ⟨_, h2, ?_, q2, e3.trans q3 (Nat.le_refl _)⟩
  rw [frameB_eq ft140 rfl rfl]
  simp only [Tryz.f140, symM, opFn, Nat.reduceLT, Nat.reduceBEq, symM, e1, evCall_fn ft162 rfl, q1]
  exact retB_one ft140 rfl get_same
end
end Go.Proofs.YtjdhdhmoedlfdaaGreat.Abs
namespace Go.Proofs.YtjdhdhmoedlfdaaGreat.Abs
open Go Go.Proofs
noncomputable section
variable {call : Abs.Callee}
set_option maxRecDepth 10000
def goBSX (T : Tab) (t : TypeId) (n : Nat) (h : AH) : Option (List (Nat × Value)) → Res
  | some vs => rp (evBuildSlice T t n vs h)
  | none => none
theorem bsx_gen {T : Tab} {tm : PM Value} {t : TypeId} {n : Nat} {ps : List (Nat × Operand)} {h : AH} : evBuildSliceX T tm t n ps h = goBSX T t n h (evParts T tm ps) := rfl
theorem goBSX_some {T : Tab} {t : TypeId} {n : Nat} {vs : List (Nat × Value)} {h : AH} : goBSX T t n h (some vs) = rp (evBuildSlice T t n vs h) := rfl
theorem goA_alloc {T : Tab} {ops : Array Oper} {tm : PM Value} {h h' : AH} {al : List Nat} {d : Nat} {t : TypeId} {ty : TypeId} {pos : String} {after : Array Edge} {g : Option (Nat × Bool)} {w : Value} (he : evAlloc T t h = some (w, h')) :
    goA T ops al tm h (some ⟨some d, .alloc t, ty, pos, after, g⟩) = runAl T ops al (tm.set d w) h' := by
  unfold goA
  simp only [allocOf]
  unfold evAlloc at he
  cases hz : zeroOf T t with
  | none => rw [hz] at he; cases he
  | some z =>
    rw [hz] at he
    cases he
    rfl
theorem goA_bsn {T : Tab} {ops : Array Oper} {tm : PM Value} {h h' : AH} {al : List Nat} {d n : Nat} {t : TypeId} {ps : List (Nat × Operand)} {vs : List (Nat × Value)} {ty : TypeId} {pos : String} {after : Array Edge} {g : Option (Nat × Bool)} {w : Value} (hp : evParts T tm ps = some vs) (he : evBuildSlice T t n vs h = some (w, h')) :
    goA T ops al tm h (some ⟨some d, .buildSlice t n ps.toArray, ty, pos, after, g⟩) = runAl T ops al (tm.set d w) h' := by
  unfold goA
  simp only [allocOf, hp]
  unfold evBuildSlice at he
  cases h1 : und T t with
  | none => rw [h1] at he; cases he
  | some ds =>
    rw [h1] at he
    cases ds <;> try (cases he; done)
    rename_i e
    simp only at he ⊢
    cases h2 : szOf T e with
    | none => rw [h2] at he; cases he
    | some s =>
      rw [h2] at he
      simp only at he ⊢
      cases h3 : zeroOf T e with
      | none => rw [h3] at he; cases he
      | some z =>
        rw [h3] at he
        simp only at he ⊢
        cases hc : (Nat.ble (n * s) 16777216 && Nat.blt n XB) with
        | false => rw [hc] at he; cases he
        | true =>
          rw [hc, ifB_true] at he
          rw [ifB_true]
          cases h4 : fillA (fun i => some (i * s, s)) (zeros z (n * s)) vs with
          | none => rw [h4] at he; cases he
          | some l => rw [h4] at he; cases he; rfl
abbrev bv (x : Nat) : Value := .int .u8 (x : Int)
theorem bs_u82 {a b : Nat} {h : AH} : evBuildSlice T0 57 2 [(0, bv a), (1, bv b)] h = some (.slice (some ⟨h.next, 0, none⟩) 2 2, h.new (.cells (PM.ofList [bv a, bv b]) 2 5 0 0 .ex)) := by
  unfold evBuildSlice
  simp only [und_bytes, sz_u8, zero_u8]
  rfl
theorem bs_u84 {a b c d : Nat} {h : AH} : evBuildSlice T0 57 4 [(0, bv a), (1, bv b), (2, bv c), (3, bv d)] h = some (.slice (some ⟨h.next, 0, none⟩) 4 4, h.new (.cells (PM.ofList [bv a, bv b, bv c, bv d]) 4 5 0 0 .ex)) := by
  unfold evBuildSlice
  simp only [und_bytes, sz_u8, zero_u8]
  rfl
theorem bs_u86 {a b c d e f : Nat} {h : AH} : evBuildSlice T0 57 6 [(0, bv a), (1, bv b), (2, bv c), (3, bv d), (4, bv e), (5, bv f)] h = some (.slice (some ⟨h.next, 0, none⟩) 6 6, h.new (.cells (PM.ofList [bv a, bv b, bv c, bv d, bv e, bv f]) 6 5 0 0 .ex)) := by
  unfold evBuildSlice
  simp only [und_bytes, sz_u8, zero_u8]
  rfl
theorem bs_int1 {a : Int} {h : AH} : evBuildSlice T0 31 1 [(0, iv a)] h = some (.slice (some ⟨h.next, 0, none⟩) 1 1, h.new (.cells (PM.ofList [iv a]) 1 3 0 0 .ex)) := bs_one und_ints sz_int zero_int rfl rfl
theorem bs_int2 {a b : Int} {h : AH} : evBuildSlice T0 31 2 [(0, iv a), (1, iv b)] h = some (.slice (some ⟨h.next, 0, none⟩) 2 2, h.new (.cells (PM.ofList [iv a, iv b]) 2 3 0 0 .ex)) := by
  unfold evBuildSlice
  simp only [und_ints, sz_int, zero_int]
  rfl
theorem bs_int6 {a b c d e f : Int} {h : AH} : evBuildSlice T0 31 6 [(0, iv a), (1, iv b), (2, iv c), (3, iv d), (4, iv e), (5, iv f)] h = some (.slice (some ⟨h.next, 0, none⟩) 6 6, h.new (.cells (PM.ofList [iv a, iv b, iv c, iv d, iv e, iv f]) 6 3 0 0 .ex)) := by
  unfold evBuildSlice
  simp only [und_ints, sz_int, zero_int]
  rfl
theorem Own.built {n : Nat} {h : AH} {e : Nat} (l : List Value) (hn : n ≤ h.next) : Own n (h.new (.cells (PM.ofList l) l.length e 0 0 .ex)) (.slice (some ⟨h.next, 0, none⟩) l.length l.length) l e :=
  .inr ⟨h.next, PM.ofList l, .ex, l.length, hn, Nat.lt_succ_self _, rfl, get_new_same _ _, fun i x hi => by rw [PM.get_ofList]; exact hi, .inl ⟨rfl, rfl⟩⟩
theorem bytesV_one (l : List Nat) : (bytesV l).all oneCell = true := by
  rw [List.all_eq_true]
  intro x hx
  simp only [bytesV, List.mem_map] at hx
  obtain ⟨y, _, rfl⟩ := hx
  rfl
theorem app_own {n m : Nat} {h : AH} {v x : Value} {l r : List Nat} (ho : Own n h v (bytesV l) 5) (hx : Own m h x (bytesV r) 5) (hl : l.length + r.length < 1000) (hn : n ≤ h.next) (ty : TypeId) :
    ∃ v' h', evBuiltin T0 .append #[57, 57] ty [v, x] h = some (.value v', h') ∧ Own n h' v' (bytesV (l ++ r)) 5 ∧ Grow n h h' ∧ (∀ k, k < h.next → Off v k → h'.get k = h.get k) ∧ (0 < r.length → Own h.next h' v' (bytesV (l ++ r)) 5) := by
  have hx2 := hx.c
  rw [← ti_u8.2.1] at hx2
  obtain ⟨v', h', e1, e2, e3, e4, e5⟩ := append_gen und_bytes tt_u8 ti_u8.1 ti_u8.2.1 ti_u8.2.2 ho.c (appended_own und_bytes hx2) (Nat.mul_one _).symm (bytesV_one r) (by rw [bytesV_len, bytesV_len]; omega) hn ty
  exact ⟨v', h', e1, by have := e2.own; simpa [bytesV] using this, e3, e4, fun q => by have := (e5 (by rw [bytesV_len]; exact q)).own; simpa [bytesV] using this⟩
theorem app_zeros {n : Nat} {h : AH} {v : Value} {l : List Nat} (ho : Own n h v (bytesV l) 5) (m : Nat) (hl : l.length + m < 1000) (hn : n ≤ h.next) (ty : TypeId) :
    ∃ v' h', evBuiltin T0 .append #[57, 3] ty [v, iv m] h = some (.value v', h') ∧ Own n h' v' (bytesV (l ++ List.replicate m 0)) 5 ∧ Grow n h h' ∧ (∀ k, k < h.next → Off v k → h'.get k = h.get k) := by
  have hz : zeros (.int .u8 0) (m * (infoOf 5).size) = bytesV (List.replicate m 0) := by
    rw [ti_u8.2.1, Nat.mul_one]
    apply List.ext_getElem
    · simp [zeros, bytesV]
    · intro i h1 h2
      simp only [zeros, bytesV, List.getElem_map, List.getElem_replicate]
      show (#[Value.int .u8 0] : Array Value)[_ % 1]! = _
      rw [Nat.mod_one]
      rfl
  have happ := appended_zeros (T := T0) (i := infoOf 5) (z := .int .u8 0) (h := h) (m := m) und_int (by omega) (Nat.le_trans (Nat.mul_le_mul (show m ≤ 1000 by omega) ti_u8.2.2) (by omega))
  rw [hz] at happ
  obtain ⟨v', h', e1, e2, e3, e4, e5⟩ := append_gen und_bytes tt_u8 ti_u8.1 ti_u8.2.1 ti_u8.2.2 ho.c happ (by simp [bytesV]) (bytesV_one _) (by rw [bytesV_len]; omega) hn ty
  exact ⟨v', h', e1, by have := e2.own; simpa [bytesV] using this, e3, e4⟩
theorem ft138 : T0.ft.get 138 = some Tryz.f138 := by kernel_rfl
theorem ft143 : T0.ft.get 143 = some Tryz.f143 := by kernel_rfl
def okX (x : XV) : Prop := x.a < 256 ∧ x.x < 65536 ∧ x.y < 256
theorem okX.e {x : XV} (h : okX x) : okE x := by unfold okX at h; unfold okE; omega
theorem extAt_okX {bs : List Nat} (hbs : ∀ x ∈ bs, x < 256) {i : Nat} : okX (extAt bs i) := ⟨byteAt_lt hbs, numAt_lt hbs, byteAt_lt hbs⟩
def encX (x : XV) : List Nat := leN x.a 1 ++ leN x.x 2 ++ leN x.y 1
theorem leN1 (n : Nat) : leN n 1 = [n % 256] := by show [n / 256 ^ 0 % 256] = _; rw [Nat.pow_zero, Nat.div_one]
theorem leN2 (n : Nat) : leN n 2 = [n % 256, n / 256 % 256] := by show [n / 256 ^ 0 % 256, n / 256 ^ 1 % 256] = _; rw [Nat.pow_zero, Nat.div_one, Nat.pow_one]
theorem shr256 (n : Nat) : n >>> 8 = n / 256 := by rw [Nat.shiftRight_eq_div_pow]
theorem s_shr8 {p q : Operand} {h : AH} {n : Nat} : evBin T0 .shr 3 p q (iv n) (.int .u64 8) h = some (iv (n / 256 : Nat)) := by
  rw [show (.int .u64 8 : Value) = .int .u64 ((8 : Nat) : Int) from rfl, bin_shr (by decide), shr256]
theorem u8_range {x : Nat} (h : x < 256) : IntKind.u8.min ≤ (x : Int) ∧ (x : Int) ≤ IntKind.u8.max := by
  have e1 : IntKind.u8.min = 0 := by decide
  have e2 : IntKind.u8.max = 255 := by decide
  omega
theorem PutExt_S (x : XV) (hx : okX x) (h : AH) : ∃ v' h', frameB T0 X0 call 3000 138 [extV x] h = some (v', h') ∧ Own h.next h' v' (bytesV (encX x)) 5 ∧ Grow h.next h h' := by
  generalize hh1 : h.new (.cells (PM.ofList [iv x.a, cx x.x x.y]) [iv x.a, cx x.x x.y].length 107 0 0 .ex) = h1
  have g1 : Grow h.next h h1 := by rw [← hh1]; exact Grow.new _ _
  have hb1 : BoxL h1 h.next 107 [iv x.a, cx x.x x.y] := by rw [← hh1]; exact BoxL.new _ _ _
  obtain ⟨z1, z2⟩ := okE_z hx.e
  obtain ⟨q1, q2, q3⟩ := BoxE.load hb1
  obtain ⟨k1, k2, k3⟩ := hx
  have hy : x.y % 256 = x.y := Nat.mod_eq_of_lt k3
  have hbuilt := Own.built (n := h1.next) (h := h1) (e := 5) [bv (x.a % 256), bv (x.x % 256), bv (x.x / 256 % 256), bv x.y] (Nat.le_refl _)
  refine ⟨.slice (some ⟨h1.next, 0, none⟩) 4 4, h1.new (.cells (PM.ofList [bv (x.a % 256), bv (x.x % 256), bv (x.x / 256 % 256), bv x.y]) 4 5 0 0 .ex), ?_, ?_, g1.trans ((Grow.new _ _).less g1.next) (Nat.le_refl _)⟩
  · rw [frameB_eq ft138 rfl rfl]
    simp only [Tryz.f138, symM, opFn, Nat.reduceLT, Nat.reduceBEq, symM, box_agg, hh1, field_E1, field_E0, Nat.zero_add, q2, q3, conv_f2i und_f64 und_int z1 (i64_range (show x.x ≤ 1048576 by omega)), conv_f2i und_f64 und_u8 z2 (u8_range k3), conv_i2i und_int und_u8, wu8m, s_shr8, bsx_gen, goBSX_some, bs_u84]
    exact retB_one ft138 rfl get_same
  · have := hbuilt.less g1.next
    rw [show bytesV (encX x) = [bv (x.a % 256), bv (x.x % 256), bv (x.x / 256 % 256), bv x.y] from by simp only [encX, leN1, leN2, hy]; rfl]
    exact this
theorem rPutExt_S (hP : ∀ (n size n0 : Nat) (bs : List Nat) (v : Value) (h : AH), n < 4294967296 → size ≤ 4 → bs.length < 400 → n0 ≤ h.next → Own n0 h v (bytesV bs) 5 → ∃ v' h', call 66 [v, iv n, iv size] h = some (v', h') ∧ Own n0 h' v' (bytesV (bs ++ leN n size)) 5 ∧ Grow n0 h h' ∧ (∀ k, k < h.next → Off v k → h'.get k = h.get k) ∧ (0 < size → Own h.next h' v' (bytesV (bs ++ leN n size)) 5))
    (hR : ∀ (x y : Nat) (h : AH), x ≤ 1048576 → y ≤ 1048576 → ∃ h', call 132 [cx x y] h = some (.tuple #[iv x, iv y, .bool (runOK x y)], h') ∧ Grow h.next h h')
    (x : XV) (hx : okX x) (n0 : Nat) (bs : List Nat) (v : Value) (h : AH) (hl : bs.length < 300) (hn : n0 ≤ h.next) (ho : Own n0 h v (bytesV bs) 5) :
    ∃ v' h', frameB T0 X0 call 3000 143 [v, extV x] h = some (v', h') ∧ Own n0 h' v' (bytesV (bs ++ encX x)) 5 ∧ Grow n0 h h' := by
  generalize hh1 : h.new (.cells (PM.ofList [iv x.a, cx x.x x.y]) [iv x.a, cx x.x x.y].length 107 0 0 .ex) = h1
  have g1 : Grow h.next h h1 := by rw [← hh1]; exact Grow.new _ _
  have hb1 : BoxL h1 h.next 107 [iv x.a, cx x.x x.y] := by rw [← hh1]; exact BoxL.new _ _ _
  have hnx : h.next < h1.next := by rw [← hh1]; exact Nat.lt_succ_self _
  obtain ⟨q1, q2, q3⟩ := BoxE.load hb1
  obtain ⟨k1, k2, k3⟩ := hx
  obtain ⟨h2, e2, g2⟩ := hR x.x x.y h1 (by omega) (by omega)
  have hb2 := hb1.grow g2 hnx
  obtain ⟨r1, r2, r3⟩ := BoxE.load hb2
  have o2 := (ho.grow g1).grow g2
  have n2 : n0 ≤ h2.next := Nat.le_trans hn (Nat.le_trans g1.next g2.next)
  obtain ⟨v3, h3, e3, o3, g3, _⟩ := hP x.a 1 n0 bs v h2 (by omega) (by omega) (by omega) n2 o2
  obtain ⟨v4, h4, e4, o4, g4, _⟩ := hP x.x 2 n0 _ v3 h3 (by omega) (by omega) (by simp [leN1]; omega) (Nat.le_trans n2 g3.next) o3
  obtain ⟨v5, h5, e5, o5, g5, _⟩ := hP x.y 1 n0 _ v4 h4 (by omega) (by omega) (by simp [leN1, leN2]; omega) (Nat.le_trans n2 (Nat.le_trans g3.next g4.next)) o4
  have e3 : call 66 [v, iv x.a, iv 1] h2 = _ := e3
  have e4 : call 66 [v3, iv x.x, iv 2] h3 = _ := e4
  have e5 : call 66 [v4, iv x.y, iv 1] h4 = _ := e5
  refine ⟨v5, h5, ?_, by simpa [encX] using o5, ((((g1.less hn).trans (g2.less (Nat.le_trans hn g1.next)) (Nat.le_refl _)).trans g3 (Nat.le_refl _)).trans g4 (Nat.le_refl _)).trans g5 (Nat.le_refl _)⟩
  rw [frameB_eq ft143 rfl rfl]
  simp only [Tryz.f143, symM, opFn, Nat.reduceLT, Nat.reduceBEq, symM, box_agg, hh1, field_E1, field_E0, Nat.zero_add, q3, evCall_fn ft132 rfl, e2, r2, evCall_fn ft66 rfl, e3, e4, e5]
  exact retB_one ft143 rfl get_same
end
end Go.Proofs.YtjdhdhmoedlfdaaGreat.Abs
namespace Go.Proofs.YtjdhdhmoedlfdaaGreat.Abs
open Go Go.Proofs
noncomputable section
variable {call : Abs.Callee}
set_option maxRecDepth 10000
theorem ft178 : T0.ft.get 178 = some Tryz.f178 := by kernel_rfl
theorem ft63 : T0.ft.get 63 = some Tryz.f63 := by kernel_rfl
def eqL : List XV → List XV → Bool
  | [], [] => true
  | x :: l, y :: m => eqE x y && eqL l m
  | _, _ => false
theorem eqL_len : ∀ {l m : List XV}, l.length ≠ m.length → eqL l m = false
  | [], [], h => absurd rfl h
  | [], _ :: _, _ => rfl
  | _ :: _, [], _ => rfl
  | x :: l, y :: m, h => by
    rw [eqL, eqL_len (l := l) (m := m) (by simpa using h), Bool.and_false]
theorem eqF {a b : Int} (h : ¬ a = b) : (a == b) = false := by simpa using h
theorem eqT {a b : Int} (h : a = b) : (a == b) = true := by simpa using h
noncomputable def bodyEq : Code := part Tryz.f178 [1, 1, 0, 1, 0, 0]
abbrev EEq : Env := ⟨178, 26, none⟩
theorem plan_Eq : planB (regOps Tryz.f178 [1, 1, 0, 1, 0, 0, 1, 1, 0, 0, 1, 0]) 26 = some ([.one 0, .one 1, .one 2, .one 3, .one 4, .one 5, .one 6, .one 7, .one 8], []) := by kernel_rfl
theorem eqLoop (v w : Value) (xs ys : List XV) (n0 : Nat) (h : AH) (hv : RowE n0 h v xs) (hw : RowE n0 h w ys) (hx : ∀ x ∈ xs, okE x) (hy : ∀ y ∈ ys, okE y) (hl : xs.length = ys.length) (hL : xs.length < 1000) :
    ∀ (l m : List XV) (i : Nat) (tm : PM Value) (N : Nat), xs.drop i = l → ys.drop i = m → i + l.length = xs.length → l.length + 30 ≤ N → tm.get 0 = some v → tm.get 1 = some w → tm.get 12 = some (iv xs.length) → tm.get 13 = some (iv i) →
      ∃ tm', (codeB T0 X0 call N EEq (.loop bodyEq) tm h [] = .jump .ret tm' h [] ∧ tm'.get 4 = some (.bool false) ∧ eqL l m = false) ∨ (codeB T0 X0 call N EEq (.loop bodyEq) tm h [] = .jump (.exit 0) tm' h [] ∧ eqL l m = true) := by
  intro l
  induction l with
  | nil =>
    intro m i tm N hd hd2 hi hN g0 g1 g12 g13
    obtain ⟨N, rfl⟩ : ∃ a, N = a + 30 := ⟨N - 30, by simp at hN; omega⟩
    have hm : m = [] := by rw [← hd2]; simp at hi ⊢; omega
    subst hm
    apply Exists.intro
    right
    refine ⟨?_, rfl⟩
    rw [codeB_loop]
    simp only [bodyEq, part, Tryz.f178, sub, symM, opFn, Nat.reduceLT, g12, g13, bin_lss, decide_eq_false (show ¬ (i : Int) < (xs.length : Nat) by simp at hi; omega)]
    rfl
  | cons x l ih =>
    intro m i tm N hd hd2 hi hN g0 g1 g12 g13
    obtain ⟨N, rfl⟩ : ∃ a, N = a + 30 := ⟨N - 30, by simp at hN; omega⟩
    have hx1 : xs[i]? = some x := by have := congrArg (fun l => l[0]?) hd; simpa using this
    have hil : i < xs.length := by simp at hi; omega
    obtain ⟨y, m, rfl⟩ : ∃ y r, m = y :: r := by
      cases m with
      | nil => have := congrArg List.length hd2; simp at this; omega
      | cons y r => exact ⟨y, r, rfl⟩
    have hy1 : ys[i]? = some y := by have := congrArg (fun l => l[0]?) hd2; simpa using this
    obtain ⟨b1, o1, p1, p2, _, _⟩ := hv.at hx1
    obtain ⟨b2, o2, q1, q2, _, _⟩ := hw.at hy1
    have hxo := hx x (List.mem_of_getElem? hx1)
    have hyo := hy y (List.mem_of_getElem? hy1)
    have hp := plan_Eq
    simp only [regOps, part, Tryz.f178, sub] at hp
    cases hb : eqE x y with
    | false =>
      apply Exists.intro
      left
      refine ⟨?_, ?_, by rw [eqL, hb]; rfl⟩
      rw [codeB_loop]
      simp only [bodyEq, part, Tryz.f178, sub, symM, opFn, Nat.reduceLT, Nat.reduceBEq, g12, g13, bin_lss, decide_eq_true (show (i : Int) < (xs.length : Nat) by omega)]
      rw [codeB_draw, draw_plan hp rfl]
      simp only [drawAll, opFn, Nat.reduceLT, Nat.reduceBEq, g0, g1, p1, p2, q1, q2, E_neq hxo hyo, hb]
      rfl
      simp only [symM]
    | true =>
      rw [show N + 30 = (N + 29) + 1 from rfl, codeB_loop]
      simp only [bodyEq, part, Tryz.f178, sub, symM, opFn, Nat.reduceLT, Nat.reduceBEq, g12, g13, bin_lss, decide_eq_true (show (i : Int) < (xs.length : Nat) by omega)]
      rw [codeB_draw, draw_plan hp rfl]
      simp only [drawAll, opFn, Nat.reduceLT, Nat.reduceBEq, g0, g1, g13, p1, p2, q1, q2, E_neq hxo hyo, hb, bin_add, wadd1 (show i ≤ 400000 by omega)]
      rw [show eqL (x :: l) (y :: m) = eqL l m by rw [eqL, hb]; rfl]
      refine ih m (i + 1) _ (N + 29) (by rw [← List.drop_drop, hd]; rfl) (by rw [← List.drop_drop, hd2]; rfl) (by simp at hi ⊢; omega) (by simp at hN ⊢; omega) (by simp only [symM, Nat.reduceBEq, g0]) (by simp only [symM, Nat.reduceBEq, g1]) (by simp only [symM, Nat.reduceBEq, g12]) get_same
theorem Equal_S (v w : Value) (xs ys : List XV) (n0 : Nat) (h : AH) (hv : RowE n0 h v xs) (hw : RowE n0 h w ys) (hx : ∀ x ∈ xs, okE x) (hy : ∀ y ∈ ys, okE y) (hL : xs.length < 1000) :
    frameB T0 X0 call 3000 178 [v, w] h = some (.bool (eqL xs ys), h) := by
  rw [frameB_eq ft178 rfl rfl]
  by_cases hl : xs.length = ys.length
  · have hL2 := fun tm N => eqLoop (call := call) v w xs ys n0 h hv hw hx hy hl hL xs ys 0 tm N rfl rfl (by simp)
    simp only [Tryz.f178, symM, opFn, Nat.reduceLT, Nat.reduceBEq, hv.len, hw.len, bin_neq, hl, beq_self_eq_true]
    rw [← hl]
    refine bind_loopJ (b := bodyEq) (Q := fun x => ∃ tm', (x = .jump .ret tm' h [] ∧ tm'.get 4 = some (.bool false) ∧ eqL xs ys = false) ∨ (x = .jump (.exit 0) tm' h [] ∧ eqL xs ys = true)) (P := fun x => endF T0 178 x = some (.bool (eqL xs ys), h)) ?_ ?_
    · exact hL2 _ _ (by omega) (by simp only [symM, Nat.reduceBEq]) (by simp only [symM, Nat.reduceBEq]) (by simp only [symM, Nat.reduceBEq]) (by simp only [symM]; rfl)
    · intro x ⟨tm', hx⟩
      rcases hx with ⟨rfl, h4, h5⟩ | ⟨rfl, h4⟩
      · rw [h5]
        simp only [symM]
        exact retB_one ft178 rfl h4
      · rw [h4]
        simp only [symM]
        exact retB_one ft178 rfl get_same
  · have hne : ¬ ((xs.length : Nat) : Int) = (ys.length : Nat) := by omega
    rw [eqL_len hl]
    simp only [Tryz.f178, symM, opFn, Nat.reduceLT, Nat.reduceBEq, hv.len, hw.len, bin_neq, eqF hne]
    exact retB_one ft178 rfl get_same
noncomputable def bodySE : Code := part Tryz.f63 [1, 1, 0, 1, 0, 0]
abbrev ESE : Env := ⟨63, 41, none⟩
theorem plan_SE : planB (regOps Tryz.f63 [1, 1, 0, 1, 0, 0, 1, 0, 0, 0]) 41 = some ([.one 0, .one 1, .one 2, .one 3, .one 4, .one 5, .one 6, .one 7, .one 8, .one 9, .one 10, .one 11, .one 12, .one 13, .one 14, .one 15, .one 16, .one 17, .one 18, .one 19, .one 20, .one 21, .one 22, .one 23], []) := by kernel_rfl
theorem seLoop (v w : Value) (xs ys : List XV) (n0 : Nat) (h : AH) (hv : RowE n0 h v xs) (hw : RowE n0 h w ys) (hx : ∀ x ∈ xs, okE x) (hy : ∀ y ∈ ys, okE y) (hl : xs.length = ys.length) (hL : xs.length < 1000) :
    ∀ (l m : List XV) (i : Nat) (tm : PM Value) (N : Nat), xs.drop i = l → ys.drop i = m → i + l.length = xs.length → l.length + 30 ≤ N → tm.get 0 = some v → tm.get 1 = some w → tm.get 5 = some (iv i) →
      ∃ tm', (codeB T0 X0 call N ESE (.loop bodySE) tm h [] = .jump .ret tm' h [] ∧ tm'.get 4 = some (.bool false) ∧ eqL l m = false) ∨ (codeB T0 X0 call N ESE (.loop bodySE) tm h [] = .jump (.exit 0) tm' h [] ∧ eqL l m = true) := by
  intro l
  induction l with
  | nil =>
    intro m i tm N hd hd2 hi hN g0 g1 g5
    obtain ⟨N, rfl⟩ : ∃ a, N = a + 30 := ⟨N - 30, by simp at hN; omega⟩
    have hm : m = [] := by rw [← hd2]; simp at hi ⊢; omega
    subst hm
    apply Exists.intro
    right
    refine ⟨?_, rfl⟩
    rw [codeB_loop]
    simp only [bodySE, part, Tryz.f63, sub, symM, opFn, Nat.reduceLT, Nat.reduceBEq, g0, g5, hv.len, bin_lss, decide_eq_false (show ¬ (i : Int) < (xs.length : Nat) by simp at hi; omega)]
    rfl
  | cons x l ih =>
    intro m i tm N hd hd2 hi hN g0 g1 g5
    obtain ⟨N, rfl⟩ : ∃ a, N = a + 30 := ⟨N - 30, by simp at hN; omega⟩
    have hx1 : xs[i]? = some x := by have := congrArg (fun l => l[0]?) hd; simpa using this
    have hil : i < xs.length := by simp at hi; omega
    obtain ⟨y, m, rfl⟩ : ∃ y r, m = y :: r := by
      cases m with
      | nil => have := congrArg List.length hd2; simp at this; omega
      | cons y r => exact ⟨y, r, rfl⟩
    have hy1 : ys[i]? = some y := by have := congrArg (fun l => l[0]?) hd2; simpa using this
    obtain ⟨b1, o1, p1, _, p2, p3⟩ := hv.at hx1
    obtain ⟨b2, o2, q1, _, q2, q3⟩ := hw.at hy1
    obtain ⟨x1, x2⟩ := okE_z (hx x (List.mem_of_getElem? hx1))
    obtain ⟨y1, y2⟩ := okE_z (hy y (List.mem_of_getElem? hy1))
    have hp := plan_SE
    simp only [regOps, part, Tryz.f63, sub] at hp
    have hc : (decide ((x.x : Int) = y.x) && decide ((x.y : Int) = y.y)) = (decide (x.x = y.x) && decide (x.y = y.y)) := by
      rw [decide_eq_decide.2 (show ((x.x : Int) = y.x) ↔ x.x = y.x by omega), decide_eq_decide.2 (show ((x.y : Int) = y.y) ↔ x.y = y.y by omega)]
    by_cases ha : x.a = y.a
    · have hab : ((x.a : Int) == (y.a : Int)) = true := eqT (by omega)
      cases hb : (decide (x.x = y.x) && decide (x.y = y.y)) with
      | false =>
        apply Exists.intro
        left
        refine ⟨?_, ?_, by rw [eqL, eqE, hb, Bool.and_false]; rfl⟩
        rw [codeB_loop]
        simp only [bodySE, part, Tryz.f63, sub, symM, opFn, Nat.reduceLT, Nat.reduceBEq, g0, g5, hv.len, bin_lss, decide_eq_true (show (i : Int) < (xs.length : Nat) by omega)]
        rw [codeB_draw, draw_plan hp rfl]
        simp only [drawAll, opFn, Nat.reduceLT, Nat.reduceBEq, g0, g1, g5, p1, p2, p3, q1, q2, q3, field_E0, field_E1, bin_neq, hab, c_neq x1 x2 y1 y2, hc, hb]
        rfl
        simp only [symM]
      | true =>
        rw [show N + 30 = (N + 29) + 1 from rfl, codeB_loop]
        simp only [bodySE, part, Tryz.f63, sub, symM, opFn, Nat.reduceLT, Nat.reduceBEq, g0, g5, hv.len, bin_lss, decide_eq_true (show (i : Int) < (xs.length : Nat) by omega)]
        rw [codeB_draw, draw_plan hp rfl]
        simp only [drawAll, opFn, Nat.reduceLT, Nat.reduceBEq, g0, g1, g5, p1, p2, p3, q1, q2, q3, field_E0, field_E1, bin_neq, hab, c_neq x1 x2 y1 y2, hc, hb, bin_add, wadd1 (show i ≤ 400000 by omega)]
        rw [show eqL (x :: l) (y :: m) = eqL l m by rw [eqL, eqE, hb, decide_eq_true ha]; rfl]
        exact ih m (i + 1) _ (N + 29) (by rw [← List.drop_drop, hd]; rfl) (by rw [← List.drop_drop, hd2]; rfl) (by simp at hi ⊢; omega) (by simp at hN ⊢; omega) (by simp only [symM, Nat.reduceBEq, g0]) (by simp only [symM, Nat.reduceBEq, g1]) get_same
    · have hab : ((x.a : Int) == (y.a : Int)) = false := eqF (by omega)
      apply Exists.intro
      left
      refine ⟨?_, ?_, by rw [eqL, eqE, decide_eq_false ha]; rfl⟩
      rw [codeB_loop]
      simp only [bodySE, part, Tryz.f63, sub, symM, opFn, Nat.reduceLT, Nat.reduceBEq, g0, g5, hv.len, bin_lss, decide_eq_true (show (i : Int) < (xs.length : Nat) by omega)]
      rw [codeB_draw, draw_plan hp rfl]
      simp only [drawAll, opFn, Nat.reduceLT, Nat.reduceBEq, g0, g1, g5, p1, p2, q1, q2, field_E0, bin_neq, hab]
      rfl
      simp only [symM]
theorem SameE_S (v w : Value) (xs ys : List XV) (n0 : Nat) (h : AH) (hv : RowE n0 h v xs) (hw : RowE n0 h w ys) (hx : ∀ x ∈ xs, okE x) (hy : ∀ y ∈ ys, okE y) (hL : xs.length < 1000) :
    frameB T0 X0 call 3000 63 [v, w] h = some (.bool (eqL xs ys), h) := by
  rw [frameB_eq ft63 rfl rfl]
  by_cases hl : xs.length = ys.length
  · have hL2 := fun tm N => seLoop (call := call) v w xs ys n0 h hv hw hx hy hl hL xs ys 0 tm N rfl rfl (by simp)
    simp only [Tryz.f63, symM, opFn, Nat.reduceLT, Nat.reduceBEq, hv.len, hw.len, bin_neq, hl, beq_self_eq_true]
    refine bind_loopJ (b := bodySE) (Q := fun x => ∃ tm', (x = .jump .ret tm' h [] ∧ tm'.get 4 = some (.bool false) ∧ eqL xs ys = false) ∨ (x = .jump (.exit 0) tm' h [] ∧ eqL xs ys = true)) (P := fun x => endF T0 63 x = some (.bool (eqL xs ys), h)) ?_ ?_
    · exact hL2 _ _ (by omega) (by simp only [symM, Nat.reduceBEq]) (by simp only [symM, Nat.reduceBEq]) (by simp only [symM]; rfl)
    · intro x ⟨tm', hx⟩
      rcases hx with ⟨rfl, h4, h5⟩ | ⟨rfl, h4⟩
      · rw [h5]
        simp only [symM]
        exact retB_one ft63 rfl h4
      · rw [h4]
        simp only [symM]
        exact retB_one ft63 rfl get_same
  · have hne : ¬ ((xs.length : Nat) : Int) = (ys.length : Nat) := by omega
    rw [eqL_len hl]
    simp only [Tryz.f63, symM, opFn, Nat.reduceLT, Nat.reduceBEq, hv.len, hw.len, bin_neq, eqF hne]
    exact retB_one ft63 rfl get_same
end
end Go.Proofs.YtjdhdhmoedlfdaaGreat.Abs
namespace Go.Proofs.YtjdhdhmoedlfdaaGreat.Abs
open Go Go.Proofs
noncomputable section
variable {call : Abs.Callee}
set_option maxRecDepth 10000
theorem ft145 : T0.ft.get 145 = some Tryz.f145 := by kernel_rfl
theorem ft18 : T0.ft.get 18 = some Tryz.f18 := by kernel_rfl
def sameN (n m : NV) : Bool := decide (n.k = m.k) && (decide (n.f = m.f) && (decide (n.l = m.l) && (decide (n.s = m.s) && (eqA n m && (decide (n.si = m.si) && (decide (n.du = m.du) && decide (n.c = m.c)))))))
theorem Same_S (hE : ∀ (v w : Value) (xs ys : List XV) (n0 : Nat) (h : AH), RowE n0 h v xs → RowE n0 h w ys → (∀ x ∈ xs, okE x) → (∀ y ∈ ys, okE y) → xs.length < 1000 → call 178 [v, w] h = some (.bool (eqL xs ys), h))
    (n m : NV) (v w : Value) (xs ys : List XV) (n0 : Nat) (h : AH) (hv : RowE n0 h v xs) (hw : RowE n0 h w ys) (hx : ∀ x ∈ xs, okE x) (hy : ∀ y ∈ ys, okE y) (hL : xs.length < 1000) (hn : n0 ≤ h.next) :
    ∃ h', frameB T0 X0 call 3000 145 [nodeV n v, nodeV m w] h = some (.bool (sameN n m && eqL xs ys), h') ∧ Grow h.next h h' := by
  generalize hh1 : h.new (.cells (PM.ofList (nodeL n v)) (nodeL n v).length 48 0 0 .ex) = h1
  have g1 : Grow h.next h h1 := by rw [← hh1]; exact Grow.new _ _
  have hb1 : NodeB h1 h.next n v := by rw [← hh1]; exact NodeB.new _ _ _
  have l1 : h.next < h1.next := by rw [← hh1]; exact Nat.lt_succ_self _
  generalize hh2 : h1.new (.cells (PM.ofList (nodeL m w)) (nodeL m w).length 48 0 0 .ex) = h2
  have g2 : Grow h1.next h1 h2 := by rw [← hh2]; exact Grow.new _ _
  have hb2 : NodeB h2 h1.next m w := by rw [← hh2]; exact NodeB.new _ _ _
  have q := (hb1.grow g2 l1).loads
  have r := hb2.loads
  have hcall := hE v w xs ys n0 h2 ((hv.grow g1 hn).grow g2 (Nat.le_trans hn g1.next)) ((hw.grow g1 hn).grow g2 (Nat.le_trans hn g1.next)) hx hy hL
  refine ⟨h2, ?_, g1.trans g2 (g1.next)⟩
  have hbn : ∀ h, rp (some (evNewVar h 48 (nodeV n v))) = some (.value (pv h.next 0), h.new (.cells (PM.ofList (nodeL n v)) (nodeL n v).length 48 0 0 .ex)) := fun h => box_agg
  have hbm : ∀ h, rp (some (evNewVar h 48 (nodeV m w))) = some (.value (pv h.next 0), h.new (.cells (PM.ofList (nodeL m w)) (nodeL m w).length 48 0 0 .ex)) := fun h => box_agg
  rw [frameB_eq ft145 rfl rfl]
  simp only [Tryz.f145, symM, opFn, Nat.reduceLT, Nat.reduceBEq, symM, hbn, hbm, hh1, hh2]
  by_cases e0 : n.k = m.k
  rotate_left
  · rw [show sameN n m = false from by unfold sameN; simp [e0]]
    simp only [symM, opFn, Nat.reduceLT, Nat.reduceBEq, symM, field_N, q, r, bin_eql, eqF (a := (n.k : Int)) (b := m.k) (by omega)]
    exact retB_one ft145 rfl get_same
  by_cases e1 : n.f = m.f
  rotate_left
  · rw [show sameN n m = false from by unfold sameN; simp [e1]]
    simp only [symM, opFn, Nat.reduceLT, Nat.reduceBEq, symM, field_N, q, r, bin_eql, eqT (a := (n.k : Int)) (b := m.k) (by omega), eqF (a := (n.f : Int)) (b := m.f) (by omega)]
    exact retB_one ft145 rfl get_same
  by_cases e2 : n.l = m.l
  rotate_left
  · rw [show sameN n m = false from by unfold sameN; simp [e2]]
    simp only [symM, opFn, Nat.reduceLT, Nat.reduceBEq, symM, field_N, q, r, bin_eql, eqT (a := (n.k : Int)) (b := m.k) (by omega), eqT (a := (n.f : Int)) (b := m.f) (by omega), eqF (a := (n.l : Int)) (b := m.l) (by omega)]
    exact retB_one ft145 rfl get_same
  by_cases e3 : n.s = m.s
  rotate_left
  · rw [show sameN n m = false from by unfold sameN; simp [e3]]
    simp only [symM, opFn, Nat.reduceLT, Nat.reduceBEq, symM, field_N, q, r, bin_eql, eqT (a := (n.k : Int)) (b := m.k) (by omega), eqT (a := (n.f : Int)) (b := m.f) (by omega), eqT (a := (n.l : Int)) (b := m.l) (by omega), eqF (a := (n.s : Int)) (b := m.s) (by omega)]
    exact retB_one ft145 rfl get_same
  by_cases e4 : eqA n m = true
  rotate_left
  · rw [show sameN n m = false from by unfold sameN; simp [e4]]
    simp only [symM, opFn, Nat.reduceLT, Nat.reduceBEq, symM, field_N, q, r, bin_eql, A_eql, eqT (a := (n.k : Int)) (b := m.k) (by omega), eqT (a := (n.f : Int)) (b := m.f) (by omega), eqT (a := (n.l : Int)) (b := m.l) (by omega), eqT (a := (n.s : Int)) (b := m.s) (by omega), Bool.eq_false_iff.2 e4]
    exact retB_one ft145 rfl get_same
  by_cases e5 : n.si = m.si
  rotate_left
  · rw [show sameN n m = false from by unfold sameN; simp [e5]]
    simp only [symM, opFn, Nat.reduceLT, Nat.reduceBEq, symM, field_N, q, r, bin_eql, A_eql, eqT (a := (n.k : Int)) (b := m.k) (by omega), eqT (a := (n.f : Int)) (b := m.f) (by omega), eqT (a := (n.l : Int)) (b := m.l) (by omega), eqT (a := (n.s : Int)) (b := m.s) (by omega), e4, eqF (a := (n.si : Int)) (b := m.si) (by omega)]
    exact retB_one ft145 rfl get_same
  by_cases e6 : n.du = m.du
  rotate_left
  · rw [show sameN n m = false from by unfold sameN; simp [e6]]
    simp only [symM, opFn, Nat.reduceLT, Nat.reduceBEq, symM, field_N, q, r, bin_eql, A_eql, eqT (a := (n.k : Int)) (b := m.k) (by omega), eqT (a := (n.f : Int)) (b := m.f) (by omega), eqT (a := (n.l : Int)) (b := m.l) (by omega), eqT (a := (n.s : Int)) (b := m.s) (by omega), e4, eqT (a := (n.si : Int)) (b := m.si) (by omega), eqF (a := (n.du : Int)) (b := m.du) (by omega)]
    exact retB_one ft145 rfl get_same
  by_cases e7 : n.c = m.c
  rotate_left
  · rw [show sameN n m = false from by unfold sameN; simp [e7]]
    simp only [symM, opFn, Nat.reduceLT, Nat.reduceBEq, symM, field_N, q, r, bin_eql, A_eql, eqT (a := (n.k : Int)) (b := m.k) (by omega), eqT (a := (n.f : Int)) (b := m.f) (by omega), eqT (a := (n.l : Int)) (b := m.l) (by omega), eqT (a := (n.s : Int)) (b := m.s) (by omega), e4, eqT (a := (n.si : Int)) (b := m.si) (by omega), eqT (a := (n.du : Int)) (b := m.du) (by omega), eqF (a := (n.c : Int)) (b := m.c) (by omega)]
    exact retB_one ft145 rfl get_same
  rw [show sameN n m = true from by unfold sameN; simp [e0, e1, e2, e3, e4, e5, e6, e7]]
  simp only [symM, opFn, Nat.reduceLT, Nat.reduceBEq, symM, field_N, q, r, bin_eql, A_eql, eqT (a := (n.k : Int)) (b := m.k) (by omega), eqT (a := (n.f : Int)) (b := m.f) (by omega), eqT (a := (n.l : Int)) (b := m.l) (by omega), eqT (a := (n.s : Int)) (b := m.s) (by omega), e4, eqT (a := (n.si : Int)) (b := m.si) (by omega), eqT (a := (n.du : Int)) (b := m.du) (by omega), eqT (a := (n.c : Int)) (b := m.c) (by omega), evCall_fn ft178 rfl, hcall]
  exact retB_one ft145 rfl get_same
theorem rSame_S (hE : ∀ (v w : Value) (xs ys : List XV) (n0 : Nat) (h : AH), RowE n0 h v xs → RowE n0 h w ys → (∀ x ∈ xs, okE x) → (∀ y ∈ ys, okE y) → xs.length < 1000 → call 63 [v, w] h = some (.bool (eqL xs ys), h))
    (n m : NV) (v w : Value) (xs ys : List XV) (n0 : Nat) (h : AH) (hv : RowE n0 h v xs) (hw : RowE n0 h w ys) (hx : ∀ x ∈ xs, okE x) (hy : ∀ y ∈ ys, okE y) (hL : xs.length < 1000) (hn : n0 ≤ h.next) :
    ∃ h', frameB T0 X0 call 3000 18 [nodeV n v, nodeV m w] h = some (.bool (sameN n m && eqL xs ys), h') ∧ Grow h.next h h' := by
  generalize hh1 : h.new (.cells (PM.ofList (nodeL n v)) (nodeL n v).length 48 0 0 .ex) = h1
  have g1 : Grow h.next h h1 := by rw [← hh1]; exact Grow.new _ _
  have hb1 : NodeB h1 h.next n v := by rw [← hh1]; exact NodeB.new _ _ _
  have l1 : h.next < h1.next := by rw [← hh1]; exact Nat.lt_succ_self _
  generalize hh2 : h1.new (.cells (PM.ofList (nodeL m w)) (nodeL m w).length 48 0 0 .ex) = h2
  have g2 : Grow h1.next h1 h2 := by rw [← hh2]; exact Grow.new _ _
  have hb2 : NodeB h2 h1.next m w := by rw [← hh2]; exact NodeB.new _ _ _
  have q := (hb1.grow g2 l1).loads
  have r := hb2.loads
  have hcall := hE v w xs ys n0 h2 ((hv.grow g1 hn).grow g2 (Nat.le_trans hn g1.next)) ((hw.grow g1 hn).grow g2 (Nat.le_trans hn g1.next)) hx hy hL
  refine ⟨h2, ?_, g1.trans g2 (g1.next)⟩
  have hbn : ∀ h, rp (some (evNewVar h 48 (nodeV n v))) = some (.value (pv h.next 0), h.new (.cells (PM.ofList (nodeL n v)) (nodeL n v).length 48 0 0 .ex)) := fun h => box_agg
  have hbm : ∀ h, rp (some (evNewVar h 48 (nodeV m w))) = some (.value (pv h.next 0), h.new (.cells (PM.ofList (nodeL m w)) (nodeL m w).length 48 0 0 .ex)) := fun h => box_agg
  rw [frameB_eq ft18 rfl rfl]
  simp only [Tryz.f18, symM, opFn, Nat.reduceLT, Nat.reduceBEq, symM, hbn, hbm, hh1, hh2]
  by_cases e0 : n.k = m.k
  rotate_left
  · rw [show sameN n m = false from by unfold sameN; simp [e0]]
    simp only [symM, opFn, Nat.reduceLT, Nat.reduceBEq, symM, field_N, q, r, bin_eql, eqF (a := (n.k : Int)) (b := m.k) (by omega)]
    exact retB_one ft18 rfl get_same
  by_cases e1 : n.f = m.f
  rotate_left
  · rw [show sameN n m = false from by unfold sameN; simp [e1]]
    simp only [symM, opFn, Nat.reduceLT, Nat.reduceBEq, symM, field_N, q, r, bin_eql, eqT (a := (n.k : Int)) (b := m.k) (by omega), eqF (a := (n.f : Int)) (b := m.f) (by omega)]
    exact retB_one ft18 rfl get_same
  by_cases e2 : n.l = m.l
  rotate_left
  · rw [show sameN n m = false from by unfold sameN; simp [e2]]
    simp only [symM, opFn, Nat.reduceLT, Nat.reduceBEq, symM, field_N, q, r, bin_eql, eqT (a := (n.k : Int)) (b := m.k) (by omega), eqT (a := (n.f : Int)) (b := m.f) (by omega), eqF (a := (n.l : Int)) (b := m.l) (by omega)]
    exact retB_one ft18 rfl get_same
  by_cases e3 : n.s = m.s
  rotate_left
  · rw [show sameN n m = false from by unfold sameN; simp [e3]]
    simp only [symM, opFn, Nat.reduceLT, Nat.reduceBEq, symM, field_N, q, r, bin_eql, eqT (a := (n.k : Int)) (b := m.k) (by omega), eqT (a := (n.f : Int)) (b := m.f) (by omega), eqT (a := (n.l : Int)) (b := m.l) (by omega), eqF (a := (n.s : Int)) (b := m.s) (by omega)]
    exact retB_one ft18 rfl get_same
  by_cases e4 : eqA n m = true
  rotate_left
  · rw [show sameN n m = false from by unfold sameN; simp [e4]]
    simp only [symM, opFn, Nat.reduceLT, Nat.reduceBEq, symM, field_N, q, r, bin_eql, A_eql, eqT (a := (n.k : Int)) (b := m.k) (by omega), eqT (a := (n.f : Int)) (b := m.f) (by omega), eqT (a := (n.l : Int)) (b := m.l) (by omega), eqT (a := (n.s : Int)) (b := m.s) (by omega), Bool.eq_false_iff.2 e4]
    exact retB_one ft18 rfl get_same
  by_cases e5 : n.si = m.si
  rotate_left
  · rw [show sameN n m = false from by unfold sameN; simp [e5]]
    simp only [symM, opFn, Nat.reduceLT, Nat.reduceBEq, symM, field_N, q, r, bin_eql, A_eql, eqT (a := (n.k : Int)) (b := m.k) (by omega), eqT (a := (n.f : Int)) (b := m.f) (by omega), eqT (a := (n.l : Int)) (b := m.l) (by omega), eqT (a := (n.s : Int)) (b := m.s) (by omega), e4, eqF (a := (n.si : Int)) (b := m.si) (by omega)]
    exact retB_one ft18 rfl get_same
  by_cases e6 : n.du = m.du
  rotate_left
  · rw [show sameN n m = false from by unfold sameN; simp [e6]]
    simp only [symM, opFn, Nat.reduceLT, Nat.reduceBEq, symM, field_N, q, r, bin_eql, A_eql, eqT (a := (n.k : Int)) (b := m.k) (by omega), eqT (a := (n.f : Int)) (b := m.f) (by omega), eqT (a := (n.l : Int)) (b := m.l) (by omega), eqT (a := (n.s : Int)) (b := m.s) (by omega), e4, eqT (a := (n.si : Int)) (b := m.si) (by omega), eqF (a := (n.du : Int)) (b := m.du) (by omega)]
    exact retB_one ft18 rfl get_same
  by_cases e7 : n.c = m.c
  rotate_left
  · rw [show sameN n m = false from by unfold sameN; simp [e7]]
    simp only [symM, opFn, Nat.reduceLT, Nat.reduceBEq, symM, field_N, q, r, bin_eql, A_eql, eqT (a := (n.k : Int)) (b := m.k) (by omega), eqT (a := (n.f : Int)) (b := m.f) (by omega), eqT (a := (n.l : Int)) (b := m.l) (by omega), eqT (a := (n.s : Int)) (b := m.s) (by omega), e4, eqT (a := (n.si : Int)) (b := m.si) (by omega), eqT (a := (n.du : Int)) (b := m.du) (by omega), eqF (a := (n.c : Int)) (b := m.c) (by omega)]
    exact retB_one ft18 rfl get_same
  rw [show sameN n m = true from by unfold sameN; simp [e0, e1, e2, e3, e4, e5, e6, e7]]
  simp only [symM, opFn, Nat.reduceLT, Nat.reduceBEq, symM, field_N, q, r, bin_eql, A_eql, eqT (a := (n.k : Int)) (b := m.k) (by omega), eqT (a := (n.f : Int)) (b := m.f) (by omega), eqT (a := (n.l : Int)) (b := m.l) (by omega), eqT (a := (n.s : Int)) (b := m.s) (by omega), e4, eqT (a := (n.si : Int)) (b := m.si) (by omega), eqT (a := (n.du : Int)) (b := m.du) (by omega), eqT (a := (n.c : Int)) (b := m.c) (by omega), evCall_fn ft63 rfl, hcall]
  exact retB_one ft18 rfl get_same
end
end Go.Proofs.YtjdhdhmoedlfdaaGreat.Abs
