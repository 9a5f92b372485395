
/- Ground for the texts about nodes: what the choose texts have of general use. -/
import Derived.Test.YthpfgiabdpeiaaaNum
namespace Go.Proofs.Ythpfgiabdpeiaaa.Abs
open Go Go.Proofs
noncomputable section
variable {call : Abs.Callee}
set_option maxRecDepth 10000
theorem und_u8 : und T0 5 = some (.int .u8) := by kernel_rfl
theorem und_bytes : und T0 22 = some (.slice 5) := by kernel_rfl
theorem und_c128s : und T0 65 = some (.slice 34) := by kernel_rfl
theorem sz_u8 : szOf T0 5 = some 1 := by kernel_rfl
theorem sz_c128 : szOf T0 34 = some 1 := by kernel_rfl
theorem agg_u8 : aggT T0 5 = some false := by kernel_rfl
theorem agg_c128 : aggT T0 34 = some false := by kernel_rfl
theorem zero_c128 : zeroOf T0 34 = some (.complex .f64 0 0) := by kernel_rfl
def infoOf (t : Nat) : TypeInfo := (Try.prog.types[t]?).getD default
theorem tt_c128 : T0.tt.get 34 = some (infoOf 34) := by kernel_rfl
theorem ti_c128 : (infoOf 34).zero = some (.complex .f64 0 0) ∧ (infoOf 34).size = 1 ∧ (infoOf 34).bytes ≤ 64 := ⟨by kernel_rfl, by kernel_rfl, Nat.le_of_ble_eq_true (by kernel_rfl)⟩
def bytesV (bs : List Nat) : List Value := bs.map fun (x : Nat) => .int .u8 (x : Int)
theorem bs_cx {a b : Int} {h : AH} : evBuildSlice T0 65 1 [(0, cx a b)] h = some (.slice (some ⟨h.next, 0, none⟩) 1 1, h.new (.cells (PM.ofList [cx a b]) 1 34 0 0 .ex)) := bs_one und_c128s sz_c128 zero_c128 rfl rfl
theorem ft53 : T0.ft.get 53 = some Try.f53 := by kernel_rfl
theorem agg_int : aggT T0 3 = some false := by kernel_rfl
/-- A box that bears a number. -/
def Box (h : AH) (p v : Value) : Prop := ∃ b c el, p = .pointer (some ⟨b, 0, none⟩) ∧ h.get b = some (.cells c 1 el 0 0 .ex) ∧ c.get 0 = some v
/-- Where it holds first; -1: nowhere. -/
def idxF (p : Value → Bool) : List Value → Nat → Int
  | [], _ => -1
  | x :: l, i => bif p x then (i : Int) else idxF p l (i + 1)
noncomputable def bodyI : Code := part Try.f53 [1, 0, 1, 0, 0]
abbrev EIdx : Env := ⟨53, 19, none⟩
theorem loopI (s : Value) (L : List Value) (n0 : Nat) (h : AH) (g : Nat) (cap : List Value) (fd : Func) (c : Code) (hg : T0.ft.get g = some fd) (hgb : fd.body = some c) (p : Value → Bool) (hs : Row n0 h s L 34) (hL : L.length < 1000000)
    (hp : ∀ x ∈ L, call g (x :: cap) h = some (.bool (p x), h)) :
    ∀ (l : List Value) (i : Nat) (tm : PM Value) (N : Nat), L.drop i = l → i + l.length = L.length → l.length + 20 ≤ N → tm.get 0 = some s → tm.get 1 = some (.func (.func g) #[] cap.toArray) → tm.get 7 = some (iv L.length) → tm.get 8 = some (iv i) →
      ∃ tm', (codeB T0 X0 call N EIdx (.loop bodyI) tm h [] = .jump .ret tm' h [] ∧ tm'.get 4 = some (iv (idxF p l i))) ∨ (codeB T0 X0 call N EIdx (.loop bodyI) tm h [] = .jump (.exit 0) tm' h [] ∧ idxF p l i = -1) := by
  intro l
  induction l with
  | nil =>
    intro i tm N hd hi hN h0 h1 h7 h8
    obtain ⟨N, rfl⟩ : ∃ a, N = a + 20 := ⟨N - 20, by simp at hN; omega⟩
    have hlt : decide ((i : Int) < (L.length : Nat)) = false := decide_eq_false (by simp at hi; omega)
    apply Exists.intro
    right
    refine ⟨?_, rfl⟩
    rw [codeB_loop]
    simp only [bodyI, part, Try.f53, sub, symM, opFn, Nat.reduceLT, h7, h8, bin_lss, hlt]
    rfl
  | cons x l ih =>
    intro i tm N hd hi hN h0 h1 h7 h8
    obtain ⟨N, rfl⟩ : ∃ a, N = a + 20 := ⟨N - 20, by simp at hN; omega⟩
    have hlt : decide ((i : Int) < (L.length : Nat)) = true := decide_eq_true (by simp at hi; omega)
    have hx : L[i]? = some x := by have := congrArg (fun l => l[0]?) hd; simpa using this
    obtain ⟨q, e1, e2⟩ := hs.at und_c128s sz_c128 agg_c128 hx
    have hcall := hp x (List.mem_of_getElem? hx)
    have hw : IntKind.i64.wrap ((i : Int) + 1) = ((i + 1 : Nat) : Int) := by rw [IntWalk.i64_in _ (by simp at hi; omega)]; simp
    cases hb : p x with
    | true =>
      apply Exists.intro
      left
      apply And.intro
      · rw [codeB_loop]
        simp only [bodyI, part, Try.f53, sub, symM, opFn, Nat.reduceLT, Nat.reduceBEq, h0, h1, h7, h8, bin_lss, hlt, e1, e2, evCall_clo hg hgb, List.cons_append, List.nil_append, hcall, hb]
        rfl
      · simp only [symM, idxF, hb, cond_true]
    | false =>
      rw [show N + 20 = (N + 19) + 1 from rfl, codeB_loop]
      simp only [bodyI, part, Try.f53, sub, symM, opFn, Nat.reduceLT, Nat.reduceBEq, h0, h1, h7, h8, bin_lss, hlt, e1, e2, evCall_clo hg hgb, List.cons_append, List.nil_append, hcall, hb, bin_add, hw]
      rw [show idxF p (x :: l) i = idxF p l (i + 1) from by rw [idxF, hb]; rfl]
      exact ih (i + 1) _ (N + 19) (by rw [← List.drop_drop, hd]; rfl) (by simp at hi ⊢; omega) (by simp at hN ⊢; omega) (by simp only [symM, Nat.reduceBEq, h0]) (by simp only [symM, Nat.reduceBEq, h1]) (by simp only [symM, Nat.reduceBEq, h7]) get_same
theorem Index_S (s : Value) (L : List Value) (n0 : Nat) (h : AH) (g : Nat) (cap : List Value) (fd : Func) (c : Code) (hg : T0.ft.get g = some fd) (hgb : fd.body = some c) (p : Value → Bool) (hs : Row n0 h s L 34) (hL : L.length < 900)
    (hp : ∀ x ∈ L, call g (x :: cap) h = some (.bool (p x), h)) : frameB T0 X0 call 3000 53 [s, .func (.func g) #[] cap.toArray] h = some (iv (idxF p L 0), h) := by
  rw [frameB_eq ft53 rfl rfl]
  have hL2 := fun tm N => loopI s L n0 h g cap fd c hg hgb p hs (by omega) hp L 0 tm N rfl (by simp)
  simp only [Try.f53, symM, opFn, Nat.reduceLT, Nat.reduceBEq, hs.len und_c128s]
  refine bind_loopJ (b := bodyI) (Q := fun x => ∃ tm', (x = .jump .ret tm' h [] ∧ tm'.get 4 = some (iv (idxF p L 0))) ∨ (x = .jump (.exit 0) tm' h [] ∧ idxF p L 0 = -1)) (P := fun x => endF T0 53 x = some (iv (idxF p L 0), h)) ?_ ?_
  · exact hL2 _ _ (by omega) (by simp only [symM, Nat.reduceBEq]) (by simp only [symM, Nat.reduceBEq]) (by simp only [symM, Nat.reduceBEq]) (by simp only [symM]; rfl)
  · intro x ⟨tm', hx⟩
    rcases hx with ⟨rfl, h4⟩ | ⟨rfl, h4⟩
    · simp only [symM]
      exact retB_one ft53 rfl h4
    · rw [h4]
      simp only [symM]
      exact retB_one ft53 rfl get_same
theorem ft56 : T0.ft.get 56 = some Try.f56 := by kernel_rfl
theorem ft50 : T0.ft.get 50 = some Try.f50 := by kernel_rfl
theorem ft39 : T0.ft.get 39 = some Try.f39 := by kernel_rfl
theorem zd_m1m : zd (-1048576) = 13920626448202203136 := by decide
theorem rpart_S (x : Nat) (hx : x ≤ 1048576) (h : AH) : frameB T0 X0 call 3000 56 [fl x] h = some (.tuple #[iv x, .bool true], h) := by
  have zx : zok (x : Int) = true := zok_k (by omega)
  have hge : ∀ p q, evBin T0 .geq 48 p q (fl x) (.float .f64 13920626448202203136) h = some (.bool true) := fun p q => by
    rw [← zd_m1m, f_geq zx (by decide), decide_eq_true (by omega)]
  have hle : ∀ p q, evBin T0 .leq 48 p q (fl x) (.float .f64 4697254411347427328) h = some (.bool true) := fun p q => by
    rw [← zd_1m, f_leq zx (by decide), decide_eq_true (by omega)]
  have heq : ∀ p q, evBin T0 .eql 48 p q (fl x) (fl x) h = some (.bool true) := fun p q => by rw [f_eql zx zx, decide_eq_true rfl]
  rw [frameB_eq ft56 rfl rfl]
  simp only [Try.f56, symM, opFn, Nat.reduceLT, Nat.reduceBEq, hge, hle, heq, conv_f2i und_f64 und_int zx (i64_range hx), conv_i2f und_int und_f64 zx]
  exact retB_two ft56 rfl (by simp only [symM, Nat.reduceBEq]) get_same
abbrev zv (x y : Int) : Value := .agg #[iv x, iv y]
theorem alloc_Z {h : AH} : evAlloc T0 77 h = some (.pointer (some ⟨h.next, 0, none⟩), h.new (.cells (PM.ofList [iv 0, iv 0]) 2 77 0 0 .ex)) := by
  unfold evAlloc
  rw [show zeroOf T0 77 = some (zv 0 0) from by kernel_rfl]
  rfl
theorem build_Z {x y : Int} {h : AH} : evBuild T0 77 [(0, iv x), (1, iv y)] h = some (zv x y, h) := by kernel_rfl
/-- A pair of numbers in a cell. -/
def BoxZ (h : AH) (b : Nat) (x y : Int) : Prop := ∃ c, h.get b = some (.cells c 2 77 0 0 .ex) ∧ c.get 0 = some (iv x) ∧ c.get 1 = some (iv y)
theorem sz_Z : szOf T0 77 = some 2 := by kernel_rfl
theorem agg_Z : aggT T0 77 = some true := by kernel_rfl
theorem BoxZ.new (h : AH) (x y : Int) : BoxZ (h.new (.cells (PM.ofList [iv x, iv y]) 2 77 0 0 .ex)) h.next x y := ⟨_, get_new_same _ _, by rw [PM.get_ofList]; rfl, by rw [PM.get_ofList]; rfl⟩
theorem BoxZ.grow {n : Nat} {h h' : AH} {b : Nat} {x y : Int} (hb : BoxZ h b x y) (g : Grow n h h') (hn : b < n) : BoxZ h' b x y := by
  obtain ⟨c, h1, h2⟩ := hb
  exact ⟨c, (g.keep b hn).trans h1, h2⟩
theorem BoxZ.store {h : AH} {b : Nat} {x y u v : Int} {n : Nat} (hb : BoxZ h b x y) (hn : n ≤ b) : ∃ h', evStore T0 77 (.pointer (some ⟨b, 0, none⟩)) (zv u v) h = some h' ∧ BoxZ h' b u v ∧ Grow n h h' ∧ h'.next = h.next := by
  obtain ⟨c, h1, h2, h3⟩ := hb
  refine ⟨h.set b (.cells (storeN c 0 [iv u, iv v]) 2 77 0 0 .ex), ?_, ⟨_, by rw [AH.get_set, if_pos rfl], ?_, ?_⟩, Grow.set h _ hn, rfl⟩
  · simp only [evStore, storeVarA, sz_Z]
    show ifB (Nat.beq 2 2) (storeRow b 0 [iv u, iv v] h) none = _
    rw [show Nat.beq 2 2 = true from rfl, ifB_true]
    simp only [storeRow, h1]
    rfl
  · rw [storeN_get]; rfl
  · rw [storeN_get]; rfl
theorem BoxZ.load {h : AH} {b : Nat} {x y : Int} (hb : BoxZ h b x y) : evLoad T0 77 (.pointer (some ⟨b, 0, none⟩)) h = some (zv x y) := by
  obtain ⟨c, h1, h2, h3⟩ := hb
  simp only [evLoad, loadVarA, agg_Z, sz_Z]
  have : loadRow h b 0 2 = some [iv x, iv y] := loadRow_of (l := [iv x, iv y]) h1 (by simp) (fun i v hi => by
    match i with
    | 0 => simp at hi; subst hi; exact h2
    | 1 => simp at hi; subst hi; exact h3
    | i + 2 => simp at hi)
  rw [this]
theorem field_Z0 {b : Nat} : evFieldAddr T0 77 (.pointer (some ⟨b, 0, none⟩)) 0 = some (.pointer (some ⟨b, 0, none⟩)) := by kernel_rfl
theorem field_Z1 {b : Nat} : evFieldAddr T0 77 (.pointer (some ⟨b, 0, none⟩)) 1 = some (.pointer (some ⟨b, 1, none⟩)) := by kernel_rfl
theorem BoxZ.load0 {h : AH} {b : Nat} {x y : Int} (hb : BoxZ h b x y) : evLoad T0 3 (.pointer (some ⟨b, 0, none⟩)) h = some (iv x) := by
  obtain ⟨c, h1, h2, h3⟩ := hb
  exact load_one agg_int h1 (by omega) h2
theorem BoxZ.load1 {h : AH} {b : Nat} {x y : Int} (hb : BoxZ h b x y) : evLoad T0 3 (.pointer (some ⟨b, 1, none⟩)) h = some (iv y) := by
  obtain ⟨c, h1, h2, h3⟩ := hb
  exact load_one agg_int h1 (by omega) h3
theorem rOf_S (hp : ∀ (x : Nat) h, x ≤ 1048576 → call 56 [fl x] h = some (.tuple #[iv x, .bool true], h)) (x y : Nat) (hx : x ≤ 1048576) (hy : y ≤ 1048576) (h : AH) :
    ∃ h', frameB T0 X0 call 3000 50 [cx x y] h = some (.tuple #[zv x y, .bool true], h') ∧ Grow h.next h h' := by
  generalize hh1 : h.new (.cells (PM.ofList [iv 0, iv 0]) 2 77 0 0 .ex) = h1
  have g1 : Grow h.next h h1 := by rw [← hh1]; exact Grow.new _ _
  have hb1 : BoxZ h1 h.next 0 0 := by rw [← hh1]; exact BoxZ.new _ _ _
  obtain ⟨h2, s1, s2, s3, s4⟩ := hb1.store (u := x) (v := y) (n := h.next) (Nat.le_refl _)
  refine ⟨h2, ?_, g1.trans s3 (Nat.le_refl _)⟩
  rw [frameB_eq ft50 rfl rfl]
  simp only [Try.f50, symM, opFn, Nat.reduceLT, Nat.reduceBEq, alloc_Z, hh1, evCall_fn ft56 rfl, hp x _ hx, hp y _ hy, build_Z, s1]
  exact retB_cell1 ft50 rfl (by simp only [symM, Nat.reduceBEq]) s2.load get_same
theorem plan_Parts : planB (part Try.f39 [1, 1, 0] |> fun | .region _ ops _ => ops | _ => #[]) 35 = some ([.one 0, .one 1, .one 2, .one 3, .one 4, .one 5, .one 6, .one 7, .one 8, .one 9, .one 10, .one 11, .one 12, .one 13, .one 14, .one 15, .one 16, .one 17, .one 18, .one 19, .one 20, .one 21, .one 22, .one 23, .one 24, .one 25], []) := by kernel_rfl
theorem rParts_S (x y : Nat) (h : AH) (hO : ∃ h', call 50 [cx x y] h = some (.tuple #[zv x y, .bool true], h') ∧ Grow h.next h h') (hx : x ≤ 1048576) (hy : y ≤ 1048576) :
    ∃ h', frameB T0 X0 call 3000 39 [cx x y] h = some (.tuple #[iv x, iv y, .bool (runOK x y)], h') ∧ Grow h.next h h' := by
  obtain ⟨h1, e1, g1⟩ := hO
  generalize hh2 : h1.new (.cells (PM.ofList [iv 0, iv 0]) 2 77 0 0 .ex) = h2
  have g2 : Grow h1.next h1 h2 := by rw [← hh2]; exact Grow.new _ _
  have hb2 : BoxZ h2 h1.next 0 0 := by rw [← hh2]; exact BoxZ.new _ _ _
  obtain ⟨h3, s1, s2, s3, s4⟩ := hb2.store (u := x) (v := y) (n := h1.next) (Nat.le_refl _)
  refine ⟨h3, ?_, g1.trans (g2.trans s3 (Nat.le_refl _)) g1.next⟩
  have hw : IntKind.i64.wrap ((x : Int) + y) = ((x + y : Nat) : Int) := by rw [IntWalk.i64_in _ (by omega)]; simp
  have hp := plan_Parts
  simp only [part, Try.f39, sub] at hp
  rw [frameB_eq ft39 rfl rfl]
  unfold runOK
  by_cases h1y : 1 ≤ y
  · have k1 : decide ((1 : Int) ≤ y) = true := decide_eq_true (by omega)
    have k3 : decide (((x + y : Nat) : Int) ≤ 480) = decide (1 ≤ y ∧ x + y ≤ 480) := decide_eq_decide.2 (by omega)
    simp only [Try.f39, symM, opFn, Nat.reduceLT, Nat.reduceBEq, alloc_Z, evCall_fn ft50 rfl, e1, hh2, s1, codeB_draw]
    rw [draw_plan hp rfl]
    simp only [drawAll, opFn, Nat.reduceBEq, field_Z0, field_Z1, s2.load0, s2.load1, bin_geq, decide_eq_true (show (0 : Int) ≤ x by omega), k1, bin_add, hw, bin_leq, k3]
    exact retB_three ft39 rfl (by simp only [symM, Nat.reduceBEq]) (by simp only [symM, Nat.reduceBEq]) get_same
  · have k1 : decide ((1 : Int) ≤ y) = false := decide_eq_false (by omega)
    have k3 : decide (1 ≤ y ∧ x + y ≤ 480) = false := decide_eq_false (by omega)
    rw [k3]
    simp only [Try.f39, symM, opFn, Nat.reduceLT, Nat.reduceBEq, alloc_Z, evCall_fn ft50 rfl, e1, hh2, s1, codeB_draw]
    rw [draw_plan hp rfl]
    simp only [drawAll, opFn, Nat.reduceBEq, field_Z0, field_Z1, s2.load0, s2.load1, bin_geq, decide_eq_true (show (0 : Int) ≤ x by omega), k1]
    exact retB_three ft39 rfl (by simp only [symM, Nat.reduceBEq]) (by simp only [symM, Nat.reduceBEq]) get_same
theorem und_bools : und T0 75 = some (.slice 4) := by kernel_rfl
theorem sz_bool : szOf T0 4 = some 1 := by kernel_rfl
theorem agg_bool : aggT T0 4 = some false := by kernel_rfl
theorem zero_bool : zeroOf T0 4 = some (.bool false) := by kernel_rfl
theorem tt_bool : T0.tt.get 4 = some (infoOf 4) := by kernel_rfl
theorem ti_bool : (infoOf 4).zero = some (.bool false) ∧ (infoOf 4).size = 1 ∧ (infoOf 4).bytes ≤ 64 := ⟨by kernel_rfl, by kernel_rfl, Nat.le_of_ble_eq_true (by kernel_rfl)⟩
theorem bs_bool {b : Bool} {h : AH} : evBuildSlice T0 75 1 [(0, .bool b)] h = some (.slice (some ⟨h.next, 0, none⟩) 1 1, h.new (.cells (PM.ofList [.bool b]) 1 4 0 0 .ex)) := bs_one und_bools sz_bool zero_bool rfl rfl
theorem bs_bool0 {h : AH} : evBuildSlice T0 75 0 [] h = some (.slice (some ⟨h.next, 0, none⟩) 0 0, h.new (.cells (PM.ofList []) 0 4 0 0 .ex)) := bs_zero und_bools sz_bool zero_bool
def boolsV (f : Nat → Bool) (a k : Nat) : List Value := (List.range' a k).map fun i => .bool (f i)
theorem boolsV_at (f : Nat → Bool) {k i : Nat} (h : i < k) : (boolsV f 0 k)[i]? = some (.bool (f i)) := by
  simp [boolsV, h]
theorem boolsV_snoc (f : Nat → Bool) (k : Nat) : boolsV f 0 k ++ [.bool (f k)] = boolsV f 0 (k + 1) := by
  simp [boolsV, List.range'_concat]
theorem boolsV_len (f : Nat → Bool) (a k : Nat) : (boolsV f a k).length = k := by simp [boolsV]
theorem boolsV_set (f : Nat → Bool) (k i : Nat) (x : Bool) : (boolsV f 0 k).set i (.bool x) = boolsV (fun j => if j = i then x else f j) 0 k := by
  apply List.ext_getElem?
  intro j
  rw [List.getElem?_set]
  by_cases hj : j < k
  · rw [boolsV_at _ hj]
    by_cases hij : i = j
    · subst hij; rw [if_pos rfl, if_pos (by rw [boolsV_len]; exact hj), boolsV_at _ hj, if_pos rfl]
    · rw [if_neg hij, boolsV_at _ hj, if_neg (fun q => hij q.symm)]
  · have h1 : (boolsV f 0 k)[j]? = none := List.getElem?_eq_none (by rw [boolsV_len]; omega)
    have h2 : (boolsV (fun j => if j = i then x else f j) 0 k)[j]? = none := List.getElem?_eq_none (by rw [boolsV_len]; omega)
    rw [h1, h2]
    by_cases hij : i = j
    · rw [if_pos hij, if_neg (by rw [boolsV_len]; omega)]
    · rw [if_neg hij]
theorem boolsV_congr (f g : Nat → Bool) (k : Nat) (h : ∀ j, j < k → f j = g j) : boolsV f 0 k = boolsV g 0 k := by
  unfold boolsV
  apply List.map_congr_left
  intro j hj
  rw [List.mem_range'_1] at hj
  rw [h j (by omega)]
theorem Row.more {n k : Nat} {h : AH} {v : Value} {l : List Value} {e : TypeId} (hr : Row n h v l e) (hn : n ≤ k) : Row k h v l e := by
  rcases hr with h1 | ⟨b, o, cap, c, m, lo, hi, kd, el, h1, h2, h3⟩
  · exact .inl h1
  · exact .inr ⟨b, o, cap, c, m, lo, hi, kd, el, h1, Nat.lt_of_lt_of_le h2 hn, h3⟩
def againU : Option Value → Bool
  | some u => eqV u undef
  | none => false
theorem againU_undef : againU (some undef) = true := rfl
theorem againW_false {T : Tab} {X : Exts} {d : Nat} {op : Op} {ty : TypeId} {tm : PM Value} {h : AH} : againW T X d op ty tm h (some false) = againU (tm.get d) := by
  unfold againW againU
  cases tm.get d <;> rfl
theorem wz {z : Int} (h : -4000000 ≤ z ∧ z ≤ 4000000) : IntKind.i64.wrap z = z := by rw [IntWalk.i64_in _ (by omega)]
theorem wadd {a b : Nat} (h : a + b ≤ 4000000) : IntKind.i64.wrap ((a : Int) + b) = ((a + b : Nat) : Int) := by rw [wz (by omega)]; omega
theorem wadd1 {a : Nat} (h : a ≤ 400000) : IntKind.i64.wrap ((a : Int) + 1) = ((a + 1 : Nat) : Int) := by rw [wz (by omega)]; omega
theorem wsub {a b : Nat} (h : a ≤ 4000000) (hb : b ≤ a) : IntKind.i64.wrap ((a : Int) - b) = ((a - b : Nat) : Int) := by rw [wz (by omega)]; omega
theorem wsub1 {a : Nat} (h : a ≤ 400000) : IntKind.i64.wrap (((a + 1 : Nat) : Int) - 1) = (a : Int) := by rw [wz (by omega)]; omega
theorem retB_zero {f : Nat} {tm : PM Value} {h : AH} {fd : Func} (hf : T0.ft.get f = some fd) (hr : fd.results = #[]) : retB T0 f tm h [] = some (.tuple #[], h) := by
  unfold retB undef1
  simp only [resultA, hf, hr]
  rfl
/-- An inner loop that was left. -/
theorem use_loop {N : Nat} {E : Env} {b : Code} {tm : PM Value} {h : AH} {df : List Nat} {X : CO} {P : CO → Prop} (hX : codeB T0 X0 call N E (.loop b) tm h df = X)
    (H : P (codeB T0 X0 call N E (.loop b) tm h df)) : P X := hX ▸ H
theorem use_exit {N : Nat} {E : Env} {b : Code} {tm : PM Value} {h : AH} {df : List Nat} {i : Nat} {X : CO} {Q : PM Value → AH → Prop} (hX : codeB T0 X0 call N E (.loop b) tm h df = X)
    (H : ∃ tm' h', codeB T0 X0 call N E (.loop b) tm h df = .jump (.exit i) tm' h' df ∧ Q tm' h') : ∃ tm' h', X = .jump (.exit i) tm' h' df ∧ Q tm' h' := hX ▸ H
theorem nbF {a b : Nat} (h : (a == b) = false) : Nat.beq a b = false := by
  cases hb : Nat.beq a b with
  | false => rfl
  | true => have := Nat.eq_of_beq_eq_true hb; subst this; simp at h
theorem symL : type_of% (And.intro @loop_same (And.intro @unblock_exit (And.intro @Nat.beq_refl @nbF))) := And.intro @loop_same (And.intro @unblock_exit (And.intro @Nat.beq_refl @nbF))
theorem quo2 {T : Tab} {t : TypeId} {a b : Operand} {k : IntKind} {m : Nat} {h : AH} : evBin T .quo t a b (.int k (m : Int)) (.int k 2) h = some (.int k (k.wrap ((m / 2 : Nat) : Int))) := bin_quo (n := 2) (by decide)
theorem quo4 {T : Tab} {t : TypeId} {a b : Operand} {k : IntKind} {m : Nat} {h : AH} : evBin T .quo t a b (.int k (m : Int)) (.int k 4) h = some (.int k (k.wrap ((m / 4 : Nat) : Int))) := bin_quo (n := 4) (by decide)
theorem quo8 {T : Tab} {t : TypeId} {a b : Operand} {k : IntKind} {m : Nat} {h : AH} : evBin T .quo t a b (.int k (m : Int)) (.int k 8) h = some (.int k (k.wrap ((m / 8 : Nat) : Int))) := bin_quo (n := 8) (by decide)
theorem und_uint : und T0 47 = some (.int .u64) := by kernel_rfl
theorem und_u64 : und T0 90 = some (.int .u64) := by kernel_rfl
abbrev uv (n : Int) : Value := .int .u64 n
theorem wu8 {n : Nat} (h : n < 256) : IntKind.u8.wrap (n : Int) = (n : Int) := by rw [IntKind.wrap]; simp [IntKind.bits, IntKind.signed]; omega
theorem shr8 {T : Tab} {t : TypeId} {a b : Operand} {m : Nat} {h : AH} : evBin T .shr t a b (uv (m : Int)) (uv 8) h = some (uv ((m >>> 8 : Nat) : Int)) := bin_shr (n := 8) (by decide)
theorem wu64 {n : Nat} (h : n < 18446744073709551616) : IntKind.u64.wrap (n : Int) = (n : Int) := by rw [IntKind.wrap]; simp [IntKind.bits, IntKind.signed]; omega
/-- A variable of its own that holds one value. -/
def BoxT (h : AH) (b : Nat) (ty : TypeId) (x : Value) : Prop := b < h.next ∧ ∃ c, h.get b = some (.cells c 1 ty 0 0 .ex) ∧ c.get 0 = some x
abbrev ptr (b : Nat) : Value := .pointer (some ⟨b, 0, none⟩)
theorem BoxT.load {h : AH} {b : Nat} {ty : TypeId} {x : Value} (hb : BoxT h b ty x) (ha : aggT T0 ty = some false) : evLoad T0 ty (ptr b) h = some x := by
  obtain ⟨_, c, h1, h2⟩ := hb
  exact load_one ha h1 (by omega) h2
theorem BoxT.store {h : AH} {b : Nat} {ty : TypeId} {x y : Value} (hb : BoxT h b ty x) (hs : szOf T0 ty = some 1) (hy : oneCell y = true) :
    ∃ h', evStore T0 ty (ptr b) y h = some h' ∧ BoxT h' b ty y ∧ h'.next = h.next ∧ ∀ k, k ≠ b → h'.get k = h.get k := by
  obtain ⟨h0, c, h1, h2⟩ := hb
  refine ⟨h.set b (.cells (storeN c 0 [y]) 1 ty 0 0 .ex), ?_, ⟨h0, _, by rw [AH.get_set, if_pos rfl], by rw [storeN_get]; rfl⟩, rfl, fun k hk => by rw [AH.get_set, if_neg hk]⟩
  simp only [evStore, storeVarA, hs, cells_one hy]
  rw [show Nat.beq [y].length 1 = true from rfl, ifB_true]
  simp only [storeRow, h1]
  have hw : writable 0 [y].length 1 0 0 = true := rfl
  have hall : ([y].all oneCell) = true := by simp [hy]
  simp only [hw, hall, Bool.and_self, ifB_true]
theorem BoxT.keep {h h' : AH} {b : Nat} {ty : TypeId} {x : Value} (hb : BoxT h b ty x) (hn : h.next ≤ h'.next) (hg : h'.get b = h.get b) : BoxT h' b ty x := by
  obtain ⟨h0, c, h1, h2⟩ := hb
  exact ⟨Nat.lt_of_lt_of_le h0 hn, c, hg.trans h1, h2⟩
theorem alloc_one {h : AH} {ty : TypeId} {z : Value} (hz : zeroOf T0 ty = some z) (h1 : oneCell z = true) : evAlloc T0 ty h = some (ptr h.next, h.new (.cells (PM.ofList [z]) 1 ty 0 0 .ex)) := by
  unfold evAlloc evNewVar newCells
  rw [hz]
  simp only [cells_one h1]
  rfl
theorem BoxT.new {h : AH} {ty : TypeId} {z : Value} : BoxT (h.new (.cells (PM.ofList [z]) 1 ty 0 0 .ex)) h.next ty z := ⟨Nat.lt_succ_self _, _, get_new_same _ _, by rw [PM.get_ofList]; rfl⟩
/-- The slice does not lie in this block. -/
def Off (v : Value) (k : Nat) : Prop := ∀ o l c, v ≠ .slice (some ⟨k, o, none⟩) l c
theorem Own.apart {n : Nat} {h : AH} {v : Value} {l : List Value} {e : TypeId} (ho : Own n h v l e) {k : Nat} (hk : h.next ≤ k) : Off v k := by
  intro o l' c' hv
  rcases ho with ⟨rfl, _⟩ | ⟨b, c, kd, cap, _, q2, rfl, _⟩
  · cases hv
  · cases hv; omega
theorem Own.but {n : Nat} {h h' : AH} {v : Value} {l : List Value} {e : TypeId} (ho : Own n h v l e) {b : Nat} (hb : Off v b) (hn : h.next ≤ h'.next) (hg : ∀ k, k ≠ b → h'.get k = h.get k) : Own n h' v l e := by
  rcases ho with h1 | ⟨k, c, kd, cap, h1, h2, rfl, h4, h5⟩
  · exact .inl h1
  · exact .inr ⟨k, c, kd, cap, h1, Nat.lt_of_lt_of_le h2 hn, rfl, (hg k (fun e => by subst e; exact hb _ _ _ rfl)).trans h4, h5⟩
theorem Own.store2 {T : Tab} {t e : TypeId} (ht : und T t = some (.slice e)) (hs : szOf T e = some 1) {n : Nat} {h : AH} {v x y : Value} {l : List Value} (hv : Own n h v l e) (hx : oneCell x = true) {i : Nat} (hi : l[i]? = some y) :
    ∃ p h', evIndexAddr T t v (.int .i64 (i : Nat)) = some p ∧ evStore T e p x h = some h' ∧ Own n h' v (l.set i x) e ∧ Grow n h h' ∧ h'.next = h.next ∧ ∀ k, Off v k → h'.get k = h.get k := by
  obtain ⟨p, h', e1, e2, e3, e4, e5⟩ := hv.store ht hs hx hi
  refine ⟨p, h', e1, e2, e3, e4, e5, fun k hk => ?_⟩
  rcases hv with ⟨rfl, rfl⟩ | ⟨b, c, kd, cap, q1, q2, rfl, q4, q5, q6⟩
  · simp at hi
  · have hl := (List.getElem?_eq_some_iff.1 hi).1
    rw [idx_slice ht hs hl] at e1
    cases e1
    simp only [evStore, storeVarA, hs, cells_one hx] at e2
    rw [show Nat.beq [x].length 1 = true from rfl, ifB_true] at e2
    simp only [storeRow, q4] at e2
    have hkb : k ≠ b := fun e => by subst e; exact hk _ _ _ rfl
    have hkd : kd ≠ .ro := by rcases q6 with ⟨rfl, _⟩ | ⟨rfl, _⟩ <;> simp
    cases kd with
    | ro => exact absurd rfl hkd
    | _ =>
      obtain ⟨_, e2⟩ := ifB_some e2
      rw [← Option.some.inj e2, AH.get_set, if_neg hkb]
theorem nilCheck_ptr {b : Nat} : evNilCheck (ptr b) = some (ptr b) := rfl
theorem bi_min {T : Tab} {ts : Array TypeId} {ty : TypeId} {k : IntKind} {x y : Int} {h : AH} : evBuiltin T .min ts ty [.int k x, .int k y] h = some (.value (.int k (if y < x then y else x)), h) := by
  simp only [evBuiltin, flatOp]
  rfl
/-- One element put behind a slice of our own: in a new block; all other blocks are as they were. -/
theorem append_one2 {T : Tab} {sT e : TypeId} {i : TypeInfo} {z : Value} (hs : und T sT = some (.slice e)) (hi : T.tt.get e = some i) (hz : i.zero = some z) (h1 : i.size = 1) (hb : i.bytes ≤ 64)
    {n : Nat} {h : AH} {v x : Value} {l : List Value} (hv : Own n h v l e) (hx : oneCell x = true) (hl : l.length < 1000000) (hn : n ≤ h.next) (ty : TypeId) :
    ∃ v' h', evBuiltin T .append #[sT, sT] ty [v, .slice (some ⟨h.next, 0, none⟩) 1 1] (h.new (.cells (PM.ofList [x]) 1 e 0 0 .ex)) = some (.value v', h') ∧ Own h.next h' v' (l ++ [x]) e ∧ Grow n h h' ∧ ∀ k, k < h.next → Off v k → h'.get k = h.get k := by
  have happ : appendedA T sT i z (.slice (some ⟨h.next, 0, none⟩) 1 1) (h.new (.cells (PM.ofList [x]) 1 e 0 0 .ex)) = some (1, [x]) := by
    unfold appendedA
    simp only [hs, lenOfA, firstA, h1]
    rw [show loadRow (h.new (.cells (PM.ofList [x]) 1 e 0 0 .ex)) h.next 0 (1 * 1) = some [x] from loadRow_of (l := [x]) (get_new_same _ _) (by simp) (fun i y hy => by rw [Nat.zero_add, PM.get_ofList]; exact hy)]
    rfl
  have hbnd : (Nat.ble ((l.length + 1) * i.bytes) 17592186044416 && Nat.ble (l.length + 1) 17592186044416) = true := by
    have h2 : (l.length + 1) * i.bytes ≤ 1000000 * 64 := Nat.mul_le_mul (by omega) hb
    rw [Nat.ble_eq_true_of_le (by omega), Nat.ble_eq_true_of_le (by omega)]
    rfl
  have key : ∀ (hh : AH), Grow n h hh → n ≤ hh.next → h.next ≤ hh.next → (∀ k, k < h.next → Off v k → hh.get k = h.get k) → ∃ v' h', (some (Out.value (grown hh e (l.length + 1) ((l.length + 1) * i.size) (l ++ [x])).1, (grown hh e (l.length + 1) ((l.length + 1) * i.size) (l ++ [x])).2) : Res) = some (.value v', h') ∧ Own h.next h' v' (l ++ [x]) e ∧ Grow n h h' ∧ ∀ k, k < h.next → Off v k → h'.get k = h.get k := by
    intro hh g hnn hnx hkp
    refine ⟨_, _, rfl, ?_, ?_, ?_⟩
    · refine .inr ⟨hh.next, PM.ofList (l ++ [x]), .loose, XB + (l.length + 1), hnx, Nat.lt_succ_self _, ?_, ?_, fun i y hy => by rw [PM.get_ofList]; exact hy, .inr ⟨rfl, by simp⟩⟩
      · simp [grown]
      · simp only [grown, h1]; rw [get_new_same]; simp
    · exact g.trans ((Grow.new hh _).less hnn) (Nat.le_refl _)
    · intro k hk hoff
      rw [← hkp k hk hoff]
      simp only [grown, AH.get_new]
      rw [if_neg (by omega)]
  have knew : ∀ k, k < h.next → Off v k → (h.new (.cells (PM.ofList [x]) 1 e 0 0 .ex)).get k = h.get k := fun k hk _ => by rw [AH.get_new, if_neg (by omega)]
  have gnew : Grow n h (h.new (.cells (PM.ofList [x]) 1 e 0 0 .ex)) := (Grow.new h _).less hn
  have hev : ∀ {p : Value × AH}, evAppend T sT sT v (.slice (some ⟨h.next, 0, none⟩) 1 1) (h.new (.cells (PM.ofList [x]) 1 e 0 0 .ex)) = some p →
      evBuiltin T .append #[sT, sT] ty [v, .slice (some ⟨h.next, 0, none⟩) 1 1] (h.new (.cells (PM.ofList [x]) 1 e 0 0 .ex)) = some (.value p.1, p.2) := by
    intro p hp
    show (match evAppend T sT sT v (.slice (some ⟨h.next, 0, none⟩) 1 1) (h.new (.cells (PM.ofList [x]) 1 e 0 0 .ex)) with
      | some p => (some (Out.value p.1, p.2) : Res)
      | none => none) = _
    rw [hp]
  rcases hv with ⟨rfl, rfl⟩ | ⟨b, c, kd, cap, q1, q2, rfl, q4, q5, q6⟩
  · obtain ⟨v', h', k1, k2⟩ := key _ gnew (Nat.le_succ_of_le hn) (Nat.le_succ _) knew
    refine ⟨v', h', ?_, k2⟩
    rw [← k1]
    apply hev
    unfold evAppend
    simp only [hs, hi, hz, happ, appendTo]
    rw [show Nat.ble (0 + 1) (capOf 0) = false from rfl, ifB_false]
    rw [show (Nat.ble ((0 + 1) * i.bytes) 17592186044416 && Nat.ble (0 + 1) 17592186044416) = true from hbnd]
    rfl
  · have hold : firstA i.size l.length (h.new (.cells (PM.ofList [x]) 1 e 0 0 .ex)) (.slice (some ⟨b, 0, none⟩) l.length cap) = some l := by
      unfold firstA
      cases hl0 : l with
      | nil => rfl
      | cons y r =>
        rw [← hl0]
        show ifB (Nat.beq l.length 0) (some []) (ifB (Nat.ble l.length l.length) (loadRow (h.new (.cells (PM.ofList [x]) 1 e 0 0 .ex)) b 0 (l.length * i.size)) none) = some l
        rw [show Nat.beq l.length 0 = false from by rw [hl0]; rfl, ifB_false, Nat.ble_eq_true_of_le (Nat.le_refl _), ifB_true, h1, Nat.mul_one]
        refine loadRow_of (m := l.length) (c := c) (by rw [AH.get_new, if_neg (by omega)]; exact q4) (by simp) (fun i y hy => by rw [Nat.zero_add]; exact q5 i y hy)
    rcases q6 with ⟨rfl, rfl⟩ | ⟨rfl, rfl⟩
    · obtain ⟨v', h', k1, k2⟩ := key _ gnew (Nat.le_succ_of_le hn) (Nat.le_succ _) knew
      refine ⟨v', h', ?_, k2⟩
      rw [← k1]
      apply hev
      have hc : capOf l.length = l.length := by unfold capOf; rw [ble_no (by rw [XB_val]; omega)]; rfl
      unfold evAppend
      simp only [hs, hi, hz, happ, appendTo, hc]
      rw [ble_no (Nat.lt_succ_self l.length), ifB_false, hbnd, ifB_true, hold]
      simp only
      rw [ble_no (by rw [XB_val]; omega : l.length < XB)]
      rfl
    · have gdel : Grow n h ((h.new (.cells (PM.ofList [x]) 1 e 0 0 .ex)).del b) := by
        refine ⟨Nat.le_succ _, fun k hk => ?_⟩
        rw [AH.get_del, if_neg (by omega), AH.get_new, if_neg (by omega)]
      have kdel : ∀ k, k < h.next → Off (.slice (some ⟨b, 0, none⟩) l.length (XB + l.length)) k → ((h.new (.cells (PM.ofList [x]) 1 e 0 0 .ex)).del b).get k = h.get k := by
        intro k hk hoff
        rw [AH.get_del, if_neg (fun e => by subst e; exact hoff _ _ _ rfl), AH.get_new, if_neg (by omega)]
      obtain ⟨v', h', k1, k2⟩ := key _ gdel (Nat.le_succ_of_le hn) (Nat.le_succ _) kdel
      refine ⟨v', h', ?_, k2⟩
      rw [← k1]
      apply hev
      have hc : capOf (XB + l.length) = l.length := by unfold capOf; rw [Nat.ble_eq_true_of_le (by omega), ifB_true]; omega
      unfold evAppend
      simp only [hs, hi, hz, happ, appendTo, hc]
      rw [ble_no (Nat.lt_succ_self l.length), ifB_false, hbnd, ifB_true, hold]
      simp only
      rw [Nat.ble_eq_true_of_le (by omega : XB ≤ XB + l.length), ifB_true]
      have hl : looseEl (h.new (.cells (PM.ofList [x]) 1 e 0 0 .ex)) b e = true := by
        unfold looseEl
        rw [AH.get_new, if_neg (by omega), q4]
        show (Nat.beq e e && Nat.ble 0 0) = true
        rw [Nat.beq_refl]; rfl
      rw [hl]
      simp [hx, ifB]
theorem Own.off {n : Nat} {h : AH} {v : Value} {l : List Value} {e : TypeId} (ho : Own n h v l e) {k : Nat} (hk : k < n) : Off v k := by
  intro o l' c' hv
  rcases ho with ⟨rfl, _⟩ | ⟨b, c, kd, cap, q1, q2, rfl, _⟩
  · cases hv
  · cases hv; omega
theorem make_bools {h : AH} {k : Nat} (hk : k ≤ 1000) : ∃ h', evMakeSlice T0 75 (iv k) (iv k) h = some (.slice (some ⟨h.next, 0, none⟩) k k, h') ∧ Own h.next h' (.slice (some ⟨h.next, 0, none⟩) k k) (boolsV (fun _ => false) 0 k) 4 ∧ Grow h.next h h' := by
  refine ⟨newCells h 4 (fillPM (.bool false) (k * (infoOf 4).size)) (k * (infoOf 4).size), ?_, ?_, Grow.new _ _⟩
  · have hb : (Nat.ble k k && (Nat.ble ((infoOf 4).bytes * k) 17592186044416 && Nat.ble k 17592186044416)) = true := by
      have h2 : (infoOf 4).bytes * k ≤ 64 * 1000 := Nat.mul_le_mul ti_bool.2.2 hk
      rw [Nat.ble_eq_true_of_le (Nat.le_refl _), Nat.ble_eq_true_of_le (by omega), Nat.ble_eq_true_of_le (by omega)]
      rfl
    unfold evMakeSlice
    simp only [und_bools, tt_bool, ti_bool.1]
    rw [show natOf (iv k) = some k from rfl]
    simp only
    rw [hb, ifB_true]
  · rw [ti_bool.2.1, Nat.mul_one]
    refine .inr ⟨h.next, fillPM (.bool false) k, .ex, k, Nat.le_refl _, Nat.lt_succ_self _, by rw [boolsV_len], ?_, ?_, .inl ⟨rfl, by rw [boolsV_len]⟩⟩
    · unfold newCells
      rw [get_new_same, boolsV_len]
    · intro i x hx
      have hi : i < k := by
        have := (List.getElem?_eq_some_iff.1 hx).1
        rwa [boolsV_len] at this
      rw [boolsV_at _ hi] at hx
      cases hx
      rw [fillPM_get _ _ _ hi]
      show some ((#[Value.bool false] : Array Value)[i % 1]!) = _
      rw [Nat.mod_one]
      rfl
theorem c_neq {T : Tab} {t : TypeId} {p q : Operand} {h : AH} {x y u v : Int} (hx : Abs.zok x = true) (hy : Abs.zok y = true) (hu : Abs.zok u = true) (hv : Abs.zok v = true) :
    evBin T .neq t p q (.complex .f64 (zd x) (zd y)) (.complex .f64 (zd u) (zd v)) h = some (.bool (!(decide (x = u) && decide (y = v)))) := by
  show orV (fastC .neq (zd x) (zd y) (zd u) (zd v)) (slowBin T .neq t p q (.complex .f64 (zd x) (zd y)) (.complex .f64 (zd u) (zd v))) = _
  have hn : fastC .neq (zd x) (zd y) (zd u) (zd v) = none := by unfold fastC; rw [dz_zd hx, dz_zd hy, dz_zd hu, dz_zd hv]
  rw [hn, slow_of (v := .bool (!(decide (x = u) && decide (y = v)))) ?_ rfl]; · rfl
  show Op.complexOp .neq .f64 (zd x) (zd y) (zd u) (zd v) = _
  simp only [Op.complexOp, Op.Complex.cmp, cmp_eql hx hu, cmp_eql hy hv]
  rfl
end
end Go.Proofs.Ythpfgiabdpeiaaa.Abs
namespace Go.Proofs.Ythpfgiabdpeiaaa.Abs
open Go Go.Proofs
noncomputable section
variable {call : Abs.Callee}
set_option maxRecDepth 10000
theorem ft23 : T0.ft.get 23 = some Try.f23 := by kernel_rfl
theorem ft36 : T0.ft.get 36 = some Try.f36 := by kernel_rfl
theorem ft47 : T0.ft.get 47 = some Try.f47 := by kernel_rfl
theorem ft48 : T0.ft.get 48 = some Try.f48 := by kernel_rfl
theorem ft49 : T0.ft.get 49 = some Try.f49 := by kernel_rfl
theorem ft55 : T0.ft.get 55 = some Try.f55 := by kernel_rfl
theorem ft58 : T0.ft.get 58 = some Try.f58 := by kernel_rfl
theorem ft28 : T0.ft.get 28 = some Try.f28 := by kernel_rfl
theorem ft40 : T0.ft.get 40 = some Try.f40 := by kernel_rfl
theorem und_u32 : und T0 53 = some (.int .u32) := by kernel_rfl
theorem zd_2 : zd 2 = 4611686018427387904 := by decide
theorem zd_1 : zd 1 = 4607182418800017408 := by decide
theorem c_mul21 {T : Tab} {t : TypeId} {p q : Operand} {h : AH} {x y : Nat} (hx : x < 65536) (hy : y < 65536) :
    evBin T .mul t p q (.complex .f64 (zd (x : Int)) (zd (y : Int))) (.complex .f64 4611686018427387904 4607182418800017408) h = some (.complex .f64 (zd ((x : Int) * 2 - (y : Int) * 1)) (zd ((x : Int) * 1 + (y : Int) * 2))) := by
  rw [← zd_2, ← zd_1]
  show orV (fastC .mul (zd (x : Int)) (zd (y : Int)) (zd 2) (zd 1)) _ = _
  have k1 : mulz (x : Int) 2 = some ((x : Int) * 2) := by unfold mulz; rw [zok_k (by omega)]; rfl
  have k2 : mulz (y : Int) 1 = some ((y : Int) * 1) := by unfold mulz; rw [zok_k (by omega)]; rfl
  have k3 : mulz (x : Int) 1 = some ((x : Int) * 1) := by unfold mulz; rw [zok_k (by omega)]; rfl
  have k4 : mulz (y : Int) 2 = some ((y : Int) * 2) := by unfold mulz; rw [zok_k (by omega)]; rfl
  have k5 : subz ((x : Int) * 2) ((y : Int) * 1) = some ((x : Int) * 2 - (y : Int) * 1) := by unfold subz; rw [zok_k (by omega)]
  have k6 : addz ((x : Int) * 1) ((y : Int) * 2) = some ((x : Int) * 1 + (y : Int) * 2) := by unfold addz; rw [zok_k (by omega)]
  have k7 : mulC (x : Int) y 2 1 = some ((x : Int) * 2 - (y : Int) * 1, (x : Int) * 1 + (y : Int) * 2) := by unfold mulC; rw [k1, k2, k3, k4]; simp only [k5, k6]
  have : fastC .mul (zd (x : Int)) (zd (y : Int)) (zd 2) (zd 1) = some (.complex .f64 (zd ((x : Int) * 2 - (y : Int) * 1)) (zd ((x : Int) * 1 + (y : Int) * 2))) := by
    unfold fastC
    rw [dz_zd (zok_k (by omega)), dz_zd (zok_k (by omega)), dz_zd (by decide), dz_zd (by decide)]
    simp only [k7]
  rw [this]; rfl
theorem c_addF {T : Tab} {t : TypeId} {p q : Operand} {h : AH} {u v a : Int} (hu : u.natAbs < 1000000) (hv : v.natAbs < 1000000) (ha : a.natAbs < 1000000) :
    evBin T .add t p q (.complex .f64 (zd u) (zd v)) (.complex .f64 (zd a) 0) h = some (.complex .f64 (zd (u + a)) (zd v)) := by
  rw [show (0 : Nat) = zd 0 from zd_zero.symm]
  show orV (fastC .add (zd u) (zd v) (zd a) (zd 0)) _ = _
  have k1 : addz u a = some (u + a) := by unfold addz; rw [zok_k (by omega)]
  have k2 : addz v 0 = some v := by unfold addz; rw [zok_k (by omega)]; simp
  have : fastC .add (zd u) (zd v) (zd a) (zd 0) = some (.complex .f64 (zd (u + a)) (zd v)) := by
    unfold fastC
    rw [dz_zd (zok_k (by omega)), dz_zd (zok_k (by omega)), dz_zd (zok_k (by omega)), dz_zd (by decide)]
    simp only [k1, k2]
  rw [this]; rfl
theorem tmod_p {z : Int} (h1 : -65521 < z) : (if z.tmod 65521 < 0 then z.tmod 65521 + 65521 else z.tmod 65521) = z % 65521 := by
  by_cases h : 0 ≤ z
  · rw [Int.tmod_eq_emod_of_nonneg h, if_neg (by omega)]
  · have e : z.tmod 65521 = z := by
      obtain ⟨k, hk⟩ : ∃ k : Nat, z = -(k : Int) := ⟨z.natAbs, by omega⟩
      subst hk
      rw [Int.neg_tmod, Int.tmod_eq_emod_of_nonneg (by omega), Int.emod_eq_of_lt (by omega) (by omega)]
    rw [e, if_pos (by omega)]
    omega
theorem i64_small {z : Int} (h : z.natAbs < 1000000000) : IntKind.i64.min ≤ z ∧ z ≤ IntKind.i64.max := by
  have e1 : IntKind.i64.min = -9223372036854775808 := by decide
  have e2 : IntKind.i64.max = 9223372036854775807 := by decide
  omega
theorem mod_S (z : Int) (h1 : -65521 < z) (h2 : z < 1000000) (h : AH) : frameB T0 X0 call 3000 58 [fl z] h = some (fl (z % 65521), h) := by
  have hm := tmod_p h1
  rw [frameB_eq ft58 rfl rfl]
  have hc := fun h => conv_f2i (T := T0) (h := h) und_f64 und_int (zok_k (x := z) (by omega)) (i64_small (by omega))
  have hz : Abs.zok (z % 65521) = true := zok_k (by omega)
  by_cases hn : z.tmod 65521 < 0
  · rw [if_pos hn] at hm
    have hw : IntKind.i64.wrap (z.tmod 65521 + 65521) = z % 65521 := by rw [hm]; exact wz (by omega)
    simp only [Try.f58, symM, opFn, Nat.reduceLT, Nat.reduceBEq, hc, bin_tmod (show (65521 : Int) ≠ 0 by decide), bin_lss, decide_eq_true hn, bin_add, hw, conv_i2f und_int und_f64 hz]
    exact retB_one ft58 rfl get_same
  · rw [if_neg hn] at hm
    have hz2 : Abs.zok (z.tmod 65521) = true := by rw [hm]; exact hz
    simp only [Try.f58, symM, opFn, Nat.reduceLT, Nat.reduceBEq, hc, bin_tmod (show (65521 : Int) ≠ 0 by decide), bin_lss, decide_eq_false hn, conv_i2f und_int und_f64 hz2]
    rw [hm]
    exact retB_one ft58 rfl get_same
theorem reduce_S (hM : ∀ (z : Int) (h : AH), -65521 < z → z < 1000000 → call 58 [fl z] h = some (fl (z % 65521), h)) (x y : Int) (hx1 : -65521 < x) (hx2 : x < 1000000) (hy1 : -65521 < y) (hy2 : y < 1000000) (h : AH) :
    frameB T0 X0 call 3000 55 [cx x y] h = some (cx (x % 65521) (y % 65521), h) := by
  rw [frameB_eq ft55 rfl rfl]
  simp only [Try.f55, symM, opFn, Nat.reduceLT, Nat.reduceBEq, evCall_fn ft58 rfl, hM x _ hx1 hx2, hM y _ hy1 hy2]
  exact retB_one ft55 rfl get_same
/-- Behind a byte. -/
def spinStep (s : Nat × Nat) (x : Nat) : Nat × Nat := ((2 * s.1 + 65521 - s.2 + x) % 65521, (s.1 + 2 * s.2) % 65521)
def spinN (bs : List Nat) : Nat × Nat := bs.foldl spinStep (1, 0)
def spinU (s : Nat × Nat) : Nat := s.1 * 65536 + s.2
theorem step_S (hR : ∀ (x y : Int) (h : AH), -65521 < x → x < 1000000 → -65521 < y → y < 1000000 → call 55 [cx x y] h = some (cx (x % 65521) (y % 65521), h)) (s : Nat × Nat) (x : Nat) (h1 : s.1 < 65521) (h2 : s.2 < 65521) (hx : x < 256) (h : AH) :
    frameB T0 X0 call 3000 48 [cx s.1 s.2, .int .u8 x] h = some (cx (spinStep s x).1 (spinStep s x).2, h) := by
  rw [frameB_eq ft48 rfl rfl]
  have hr := hR ((s.1 : Int) * 2 - (s.2 : Int) * 1 + x) ((s.1 : Int) * 1 + (s.2 : Int) * 2) h (by omega) (by omega) (by omega) (by omega)
  have e1 : ((s.1 : Int) * 2 - (s.2 : Int) * 1 + x) % 65521 = ((spinStep s x).1 : Int) := by unfold spinStep; simp only; omega
  have e2 : ((s.1 : Int) * 1 + (s.2 : Int) * 2) % 65521 = ((spinStep s x).2 : Int) := by unfold spinStep; simp only; omega
  rw [e1, e2] at hr
  simp only [Try.f48, symM, opFn, Nat.reduceLT, Nat.reduceBEq, c_mul21 (show s.1 < 65536 by omega) (show s.2 < 65536 by omega), conv_i2f und_u8 und_f64 (zok_k (x := (x : Int)) (by omega)), c_addF (u := (s.1 : Int) * 2 - (s.2 : Int) * 1) (v := (s.1 : Int) * 1 + (s.2 : Int) * 2) (a := (x : Int)) (by omega) (by omega) (by omega), evCall_fn ft55 rfl, hr]
  exact retB_one ft48 rfl get_same
theorem wu32 {n : Nat} (h : n < 4294967296) : IntKind.u32.wrap (n : Int) = (n : Int) := by rw [IntKind.wrap]; simp [IntKind.bits, IntKind.signed]; omega
abbrev wv (n : Int) : Value := .int .u32 n
theorem u32_range {x : Nat} (h : x < 65536) : IntKind.u32.min ≤ (x : Int) ∧ (x : Int) ≤ IntKind.u32.max := by
  have e1 : IntKind.u32.min = 0 := by decide
  have e2 : IntKind.u32.max = 4294967295 := by decide
  omega
theorem spinStep_lt (s : Nat × Nat) (x : Nat) : (spinStep s x).1 < 65521 ∧ (spinStep s x).2 < 65521 := ⟨Nat.mod_lt _ (by omega), Nat.mod_lt _ (by omega)⟩
theorem sum_S (s : Nat × Nat) (h1 : s.1 < 65521) (h2 : s.2 < 65521) (h : AH) : frameB T0 X0 call 3000 49 [cx s.1 s.2] h = some (wv (spinU s), h) := by
  rw [frameB_eq ft49 rfl rfl]
  have c1 := fun h => conv_f2i (T := T0) (h := h) und_f64 und_u32 (zok_k (x := (s.1 : Int)) (by omega)) (u32_range (show s.1 < 65536 by omega))
  have c2 := fun h => conv_f2i (T := T0) (h := h) und_f64 und_u32 (zok_k (x := (s.2 : Int)) (by omega)) (u32_range (show s.2 < 65536 by omega))
  have w1 : IntKind.u32.wrap ((s.1 : Int) * 65536) = ((s.1 * 65536 : Nat) : Int) := by rw [show (s.1 : Int) * 65536 = ((s.1 * 65536 : Nat) : Int) by omega]; exact wu32 (by omega)
  have w2 : IntKind.u32.wrap (((s.1 * 65536 : Nat) : Int) + (s.2 : Int)) = ((spinU s : Nat) : Int) := by unfold spinU; rw [show ((s.1 * 65536 : Nat) : Int) + (s.2 : Int) = ((s.1 * 65536 + s.2 : Nat) : Int) by omega]; exact wu32 (by omega)
  simp only [Try.f49, symM, opFn, Nat.reduceLT, Nat.reduceBEq, c1, c2, bin_mul, w1, bin_add, w2]
  exact retB_one ft49 rfl get_same
theorem from_S (hR : ∀ (x y : Int) (h : AH), -65521 < x → x < 1000000 → -65521 < y → y < 1000000 → call 55 [cx x y] h = some (cx (x % 65521) (y % 65521), h)) (h : AH) :
    frameB T0 X0 call 3000 47 [wv 65536] h = some (cx ((1 : Nat) : Int) ((0 : Nat) : Int), h) := by
  rw [frameB_eq ft47 rfl rfl]
  have q1 : ∀ (T : Tab) t p q h, evBin T .quo t p q (wv 65536) (wv 65536) h = some (wv 1) := fun T t p q h => bin_quo (k := .u32) (m := 65536) (n := 65536) (by decide)
  have q2 : ∀ (T : Tab) t p q h, evBin T .rem t p q (wv 65536) (wv 65536) h = some (wv 0) := fun T t p q h => bin_rem (k := .u32) (m := 65536) (n := 65536) (by decide)
  have hr : call 55 [cx 1 0] h = some (cx ((1 : Nat) : Int) ((0 : Nat) : Int), h) := hR 1 0 h (by decide) (by decide) (by decide) (by decide)
  simp only [Try.f47, symM, opFn, Nat.reduceLT, Nat.reduceBEq, q1, q2, conv_i2f und_u32 und_f64 (show Abs.zok 1 = true by decide), conv_i2f und_u32 und_f64 (show Abs.zok 0 = true by decide), evCall_fn ft55 rfl, hr]
  exact retB_one ft47 rfl get_same
theorem spin_lt : ∀ (bs : List Nat) (s : Nat × Nat), s.1 < 65521 → s.2 < 65521 → (bs.foldl spinStep s).1 < 65521 ∧ (bs.foldl spinStep s).2 < 65521 := by
  intro bs
  induction bs with
  | nil => intro s h1 h2; exact ⟨h1, h2⟩
  | cons x l ih => intro s _ _; exact ih _ (spinStep_lt s x).1 (spinStep_lt s x).2
noncomputable def bodyMo : Code := part Try.f36 [1, 1, 0, 1, 0, 0]
abbrev EMo : Env := ⟨36, 22, none⟩
theorem moL (hS : ∀ (s : Nat × Nat) (x : Nat) (h : AH), s.1 < 65521 → s.2 < 65521 → x < 256 → call 48 [cx s.1 s.2, .int .u8 x] h = some (cx (spinStep s x).1 (spinStep s x).2, h)) (bs : List Nat) (hbs : ∀ x ∈ bs, x < 256) (hlen : bs.length ≤ 1000) (v : Value) (n0 : Nat) (h : AH) (hv : Row n0 h v (bytesV bs) 5) :
    ∀ (l : List Nat) (i : Nat) (s : Nat × Nat) (tm : PM Value) (N : Nat), bs.drop i = l → i + l.length = bs.length → l.length + 60 ≤ N → s.1 < 65521 → s.2 < 65521 → tm.get 5 = some (cx s.1 s.2) → tm.get 10 = some v → tm.get 11 = some (iv bs.length) → tm.get 12 = some (iv i) →
      ∃ tm' h', codeB T0 X0 call N EMo (.loop bodyMo) tm h [] = .jump (.exit 0) tm' h' [] ∧ (h' = h ∧ tm'.get 5 = some (cx (l.foldl spinStep s).1 (l.foldl spinStep s).2)) := by
  intro l
  induction l with
  | nil =>
    intro i s tm N hd hi hN h1 h2 g5 g10 g11 g12
    obtain ⟨N, rfl⟩ : ∃ a, N = a + 30 := ⟨N - 30, by simp at hN; omega⟩
    apply Exists.intro; apply Exists.intro; apply And.intro
    · rw [codeB_loop]
      simp only [bodyMo, part, Try.f36, sub, symM, opFn, Nat.reduceLT, g11, g12, bin_lss, decide_eq_false (show ¬ (i : Int) < (bs.length : Nat) by simp at hi; omega)]
      rfl
    · exact ⟨rfl, by simp only [symM, Nat.reduceBEq, g5]; rfl⟩
  | cons x l ih =>
    intro i s tm N hd hi hN h1 h2 g5 g10 g11 g12
    obtain ⟨N, rfl⟩ : ∃ a, N = a + 30 := ⟨N - 30, by simp at hN; omega⟩
    have hil : i < bs.length := by simp at hi; omega
    have hx : bs[i]? = some x := by have := congrArg (fun l => l[0]?) hd; simpa using this
    have hx2 := hbs x (List.mem_of_getElem? hx)
    obtain ⟨p, a1, a2⟩ := hv.at und_bytes sz_u8 agg_u8 (i := i) (x := .int .u8 (x : Int)) (by simp [bytesV, hx])
    rw [show N + 30 = (N + 29) + 1 from rfl, codeB_loop, List.foldl_cons]
    simp only [bodyMo, part, Try.f36, sub, symM, opFn, Nat.reduceLT, Nat.reduceBEq, g5, g10, g11, g12, bin_lss, decide_eq_true (show (i : Int) < (bs.length : Nat) by omega), a1, a2, evCall_fn ft48 rfl, hS s x h h1 h2 hx2, bin_add, wadd1 (show i ≤ 400000 by omega)]
    refine ih (i + 1) (spinStep s x) _ (N + 29) (by rw [← List.drop_drop, hd]; rfl) (by simp at hi ⊢; omega) (by simp at hN ⊢; omega) (spinStep_lt s x).1 (spinStep_lt s x).2 ?_ ?_ ?_ get_same <;> simp only [symM, Nat.reduceBEq, g10, g11]
theorem More_S (hF : ∀ (h : AH), call 47 [wv 65536] h = some (cx ((1 : Nat) : Int) ((0 : Nat) : Int), h)) (hS : ∀ (s : Nat × Nat) (x : Nat) (h : AH), s.1 < 65521 → s.2 < 65521 → x < 256 → call 48 [cx s.1 s.2, .int .u8 x] h = some (cx (spinStep s x).1 (spinStep s x).2, h))
    (hU : ∀ (s : Nat × Nat) (h : AH), s.1 < 65521 → s.2 < 65521 → call 49 [cx s.1 s.2] h = some (wv (spinU s), h)) (bs : List Nat) (hbs : ∀ x ∈ bs, x < 256) (hlen : bs.length ≤ 1000) (v : Value) (n0 : Nat) (h : AH) (hv : Row n0 h v (bytesV bs) 5) :
    frameB T0 X0 call 3000 36 [wv 65536, v] h = some (wv (spinU (spinN bs)), h) := by
  rw [frameB_eq ft36 rfl rfl]
  have hcl : (((bytesV bs).length : Nat) : Int) = (bs.length : Nat) := by simp [bytesV]
  simp only [Try.f36, symM, opFn, Nat.reduceLT, Nat.reduceBEq, symL, evCall_fn ft47 rfl, hF, hv.len und_bytes, hcl]
  generalize hX : codeB T0 X0 call _ EMo (.loop _) _ _ _ = X
  obtain ⟨t1, h1, e1, eh, p5⟩ := use_exit hX (moL hS bs hbs hlen v n0 h hv bs 0 (1, 0) _ _ rfl (by simp) (by omega) (by decide) (by decide) (by simp only [symM, Nat.reduceBEq]) (by simp only [symM, Nat.reduceBEq]) (by simp only [symM, Nat.reduceBEq]) (by simp only [symM]; rfl))
  clear hX
  rw [eh] at e1
  subst e1
  have hl := spin_lt bs (1, 0) (by decide) (by decide)
  simp only [symM, opFn, Nat.reduceLT, symL, p5, evCall_fn ft49 rfl, hU _ h hl.1 hl.2]
  exact retB_one ft36 rfl get_same
theorem Sum_S (hM : ∀ (bs : List Nat) (v : Value) (h : AH), (∀ x ∈ bs, x < 256) → bs.length ≤ 1000 → Row h.next h v (bytesV bs) 5 → call 36 [wv 65536, v] h = some (wv (spinU (spinN bs)), h)) (bs : List Nat) (hbs : ∀ x ∈ bs, x < 256) (hlen : bs.length ≤ 1000) (v : Value) (h : AH) (hv : Row h.next h v (bytesV bs) 5) :
    frameB T0 X0 call 3000 23 [v] h = some (wv (spinU (spinN bs)), h) := by
  rw [frameB_eq ft23 rfl rfl]
  simp only [Try.f23, symM, opFn, Nat.reduceLT, Nat.reduceBEq, evCall_fn ft36 rfl, hM bs v h hbs hlen hv]
  exact retB_one ft23 rfl get_same
noncomputable def bodyRm : Code := part Try.f40 [1, 1, 0, 1, 0, 0]
abbrev ERm : Env := ⟨40, 48, none⟩
theorem rmL (bs : List Nat) (hbs : ∀ x ∈ bs, x < 256) (hlen : bs.length ≤ 1000) (v : Value) (n0 : Nat) (h : AH) (hv : Row n0 h v (bytesV bs) 5) :
    ∀ (l : List Nat) (i : Nat) (s : Nat × Nat) (tm : PM Value) (N : Nat), bs.drop i = l → i + l.length = bs.length → l.length + 60 ≤ N → s.1 < 65521 → s.2 < 65521 → tm.get 1 = some v → tm.get 5 = some (iv s.1) → tm.get 6 = some (iv s.2) → tm.get 7 = some (iv i) →
      ∃ tm' h', codeB T0 X0 call N ERm (.loop bodyRm) tm h [] = .jump (.exit 0) tm' h' [] ∧ (h' = h ∧ tm'.get 5 = some (iv (l.foldl spinStep s).1) ∧ tm'.get 6 = some (iv (l.foldl spinStep s).2)) := by
  intro l
  have hcl : (((bytesV bs).length : Nat) : Int) = (bs.length : Nat) := by simp [bytesV]
  induction l with
  | nil =>
    intro i s tm N hd hi hN h1 h2 g1 g5 g6 g7
    obtain ⟨N, rfl⟩ : ∃ a, N = a + 30 := ⟨N - 30, by simp at hN; omega⟩
    apply Exists.intro; apply Exists.intro; apply And.intro
    · rw [codeB_loop]
      simp only [bodyRm, part, Try.f40, sub, symM, opFn, Nat.reduceLT, Nat.reduceBEq, g1, g7, hv.len und_bytes, hcl, bin_lss, decide_eq_false (show ¬ (i : Int) < (bs.length : Nat) by simp at hi; omega)]
      rfl
    · exact ⟨rfl, by simp only [symM, Nat.reduceBEq, g5]; rfl, by simp only [symM, Nat.reduceBEq, g6]; rfl⟩
  | cons x l ih =>
    intro i s tm N hd hi hN h1 h2 g1 g5 g6 g7
    obtain ⟨N, rfl⟩ : ∃ a, N = a + 30 := ⟨N - 30, by simp at hN; omega⟩
    have hil : i < bs.length := by simp at hi; omega
    have hx : bs[i]? = some x := by have := congrArg (fun l => l[0]?) hd; simpa using this
    have hx2 := hbs x (List.mem_of_getElem? hx)
    obtain ⟨p, a1, a2⟩ := hv.at und_bytes sz_u8 agg_u8 (i := i) (x := .int .u8 (x : Int)) (by simp [bytesV, hx])
    have w1 : IntKind.i64.wrap (2 * (s.1 : Int)) = 2 * (s.1 : Int) := wz (by omega)
    have w2 : IntKind.i64.wrap (2 * (s.1 : Int) - (s.2 : Int)) = 2 * (s.1 : Int) - (s.2 : Int) := wz (by omega)
    have w0 : IntKind.i64.wrap (x : Int) = (x : Int) := wz (by omega)
    have w3 : IntKind.i64.wrap (2 * (s.1 : Int) - (s.2 : Int) + (x : Int)) = 2 * (s.1 : Int) - (s.2 : Int) + (x : Int) := wz (by omega)
    have w4 : IntKind.i64.wrap (2 * (s.2 : Int)) = 2 * (s.2 : Int) := wz (by omega)
    have w5 : IntKind.i64.wrap ((s.1 : Int) + 2 * (s.2 : Int)) = (s.1 : Int) + 2 * (s.2 : Int) := wz (by omega)
    have t1 := tmod_p (z := 2 * (s.1 : Int) - (s.2 : Int) + (x : Int)) (by omega)
    have b1 : -65521 ≤ (2 * (s.1 : Int) - (s.2 : Int) + (x : Int)).tmod 65521 ∧ (2 * (s.1 : Int) - (s.2 : Int) + (x : Int)).tmod 65521 < 65521 := by split at t1 <;> omega
    have w6 : IntKind.i64.wrap ((2 * (s.1 : Int) - (s.2 : Int) + (x : Int)).tmod 65521 + 65521) = (2 * (s.1 : Int) - (s.2 : Int) + (x : Int)).tmod 65521 + 65521 := wz (by omega)
    have e1 : ((2 * (s.1 : Int) - (s.2 : Int) + (x : Int)).tmod 65521 + 65521).tmod 65521 = ((spinStep s x).1 : Int) := by
      rw [Int.tmod_eq_emod_of_nonneg (by omega)]
      unfold spinStep
      simp only
      split at t1 <;> omega
    have e2 : ((s.1 : Int) + 2 * (s.2 : Int)).tmod 65521 = ((spinStep s x).2 : Int) := by
      rw [Int.tmod_eq_emod_of_nonneg (by omega)]
      unfold spinStep
      simp only
      omega
    have hp : (65521 : Int) ≠ 0 := by decide
    rw [show N + 30 = (N + 29) + 1 from rfl, codeB_loop, List.foldl_cons]
    simp only [bodyRm, part, Try.f40, sub, symM, opFn, Nat.reduceLT, Nat.reduceBEq, g1, g5, g6, g7, hv.len und_bytes, hcl, bin_lss, decide_eq_true (show (i : Int) < (bs.length : Nat) by omega), a1, a2, bin_mul, bin_sub, bin_add, w0, w1, w2, w3, w4, w5, w6, bin_tmod hp, e1, e2, conv_i2i und_u8 und_int, wadd1 (show i ≤ 400000 by omega)]
    refine ih (i + 1) (spinStep s x) _ (N + 29) (by rw [← List.drop_drop, hd]; rfl) (by simp at hi ⊢; omega) (by simp at hN ⊢; omega) (spinStep_lt s x).1 (spinStep_lt s x).2 ?_ ?_ ?_ get_same <;> simp only [symM, Nat.reduceBEq, g1]
theorem rMore_S (bs : List Nat) (hbs : ∀ x ∈ bs, x < 256) (hlen : bs.length ≤ 1000) (v : Value) (n0 : Nat) (h : AH) (hv : Row n0 h v (bytesV bs) 5) :
    frameB T0 X0 call 3000 40 [wv 65536, v] h = some (wv (spinU (spinN bs)), h) := by
  rw [frameB_eq ft40 rfl rfl]
  have q1 : ∀ (T : Tab) t p q h, evBin T .quo t p q (wv 65536) (wv 65536) h = some (wv 1) := fun T t p q h => bin_quo (k := .u32) (m := 65536) (n := 65536) (by decide)
  have q2 : ∀ (T : Tab) t p q h, evBin T .rem t p q (wv 65536) (wv 65536) h = some (wv 0) := fun T t p q h => bin_rem (k := .u32) (m := 65536) (n := 65536) (by decide)
  have hp : (65521 : Int) ≠ 0 := by decide
  have z1 : IntKind.i64.wrap 1 = 1 := by decide
  have z0 : IntKind.i64.wrap 0 = 0 := by decide
  have y1 : (1 : Int).tmod 65521 = 1 := by decide
  have y0 : (0 : Int).tmod 65521 = 0 := by decide
  simp only [Try.f40, symM, opFn, Nat.reduceLT, Nat.reduceBEq, symL, q1, q2, conv_i2i und_u32 und_int, z1, z0, bin_tmod hp, y1, y0]
  generalize hX : codeB T0 X0 call _ ERm (.loop _) _ _ _ = X
  obtain ⟨t1, h1, e1, eh, p5, p6⟩ := use_exit hX (rmL bs hbs hlen v n0 h hv bs 0 (1, 0) _ _ rfl (by simp) (by omega) (by decide) (by decide) (by simp only [symM, Nat.reduceBEq]) (by simp only [symM, Nat.reduceBEq]; rfl) (by simp only [symM, Nat.reduceBEq]; rfl) (by simp only [symM]; rfl))
  clear hX
  rw [eh] at e1
  subst e1
  have hl := spin_lt bs (1, 0) (by decide) (by decide)
  have hN : spinN bs = bs.foldl spinStep (1, 0) := rfl
  rw [hN]
  generalize bs.foldl spinStep (1, 0) = s at *
  have c1 : IntKind.u32.wrap (s.1 : Int) = (s.1 : Int) := wu32 (by omega)
  have c2 : IntKind.u32.wrap (s.2 : Int) = (s.2 : Int) := wu32 (by omega)
  have w1 : IntKind.u32.wrap ((s.1 : Int) * 65536) = ((s.1 * 65536 : Nat) : Int) := by rw [show (s.1 : Int) * 65536 = ((s.1 * 65536 : Nat) : Int) by omega]; exact wu32 (by omega)
  have w2 : IntKind.u32.wrap (((s.1 * 65536 : Nat) : Int) + (s.2 : Int)) = ((spinU s : Nat) : Int) := by unfold spinU; rw [show ((s.1 * 65536 : Nat) : Int) + (s.2 : Int) = ((s.1 * 65536 + s.2 : Nat) : Int) by omega]; exact wu32 (by omega)
  simp only [symM, opFn, Nat.reduceLT, Nat.reduceBEq, symL, p5, p6, conv_i2i und_int und_u32, c1, c2, bin_mul, w1, bin_add, w2]
  exact retB_one ft40 rfl get_same
theorem rSum_S (hM : ∀ (bs : List Nat) (v : Value) (h : AH), (∀ x ∈ bs, x < 256) → bs.length ≤ 1000 → Row h.next h v (bytesV bs) 5 → call 40 [wv 65536, v] h = some (wv (spinU (spinN bs)), h)) (bs : List Nat) (hbs : ∀ x ∈ bs, x < 256) (hlen : bs.length ≤ 1000) (v : Value) (h : AH) (hv : Row h.next h v (bytesV bs) 5) :
    frameB T0 X0 call 3000 28 [v] h = some (wv (spinU (spinN bs)), h) := by
  rw [frameB_eq ft28 rfl rfl]
  simp only [Try.f28, symM, opFn, Nat.reduceLT, Nat.reduceBEq, evCall_fn ft40 rfl, hM bs v h hbs hlen hv]
  exact retB_one ft28 rfl get_same
end
end Go.Proofs.Ythpfgiabdpeiaaa.Abs
