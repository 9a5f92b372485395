
/- Is a node sound? -/
import Derived.Test.YthpfgiabdpeiaaaExts
namespace Go.Proofs.Ythpfgiabdpeiaaa.Abs
open Go Go.Proofs
noncomputable section
variable {call : Abs.Callee}
set_option maxRecDepth 10000
theorem ft19 : T0.ft.get 19 = some Try.f19 := by kernel_rfl
def soundN (n : NV) (xs : List XV) : Bool := if n.k = 0 then sameN n NV.zero && eqL xs [] else decide ((n.k = 1 ∨ n.k = 2) ∧ 1 ≤ n.l ∧ n.l ≤ 1000 ∧ n.s ≤ 6144) &&
  (if n.f = 1 then decide (xs.length = 0 ∧ n.c = 0) && (ptrs n).all namedN else if n.f = 2 then (ptrs n).all (fun p => decide (p = 0)) && (namedN n.c && (decide (xs.length ≤ 3) && extG 0 (-1) [] xs)) else false)
theorem not_any {α : Type} (L : List α) (p : α → Bool) : (!L.any fun x => !p x) = L.all p := by rw [List.all_eq_not_any_not]
theorem beqN (a b : Nat) : ((a : Int) == (b : Int)) = decide (a = b) := by
  by_cases h : a = b
  · rw [decide_eq_true h]; exact eqT (by omega)
  · rw [decide_eq_false h]; exact eqF (by omega)
theorem Snd_S (hSm : ∀ (n : NV) (v : Value) (xs : List XV) (n0 : Nat) (h : AH), RowE n0 h v xs → (∀ x ∈ xs, okE x) → xs.length < 1000 → n0 ≤ h.next → ∃ h', call 16 [nodeV n v, nodeV NV.zero nilV] h = some (.bool (sameN n NV.zero && eqL xs []), h') ∧ Grow h.next h h')
    (hpt : ∀ (n : NV) (e : Value) (h : AH), ∃ v' h', call 21 [nodeV n e] h = some (v', h') ∧ Own h.next h' v' (intsV (ptrs n)) 3 ∧ Grow h.next h h')
    (hC1 : ∀ (v : Value) (L : List Nat) (n0 : Nat) (h : AH), Row n0 h v (intsV L) 3 → L.length < 100 → call 30 [v, .func (.func 31) #[] #[]] h = some (.bool (L.any fun p => !namedN p), h))
    (hC2 : ∀ (v : Value) (L : List Nat) (n0 : Nat) (h : AH), Row n0 h v (intsV L) 3 → L.length < 100 → call 30 [v, .func (.func 33) #[] #[]] h = some (.bool (L.any fun p => !decide (p = 0)), h))
    (hnm : ∀ (n : Nat) (h : AH), call 32 [iv n] h = some (.bool (namedN n), h))
    (hEx : ∀ (v : Value) (xs : List XV) (n0 : Nat) (h : AH), n0 ≤ h.next → (∀ x ∈ xs, okX x) → xs.length ≤ 96 → RowE n0 h v xs → ∃ h', call 34 [v] h = some (.bool (extG 0 (-1) [] xs), h') ∧ Grow h.next h h')
    (n : NV) (v : Value) (xs : List XV) (n0 : Nat) (h : AH) (hv : RowE n0 h v xs) (hx : ∀ x ∈ xs, okX x) (hL : xs.length ≤ 96) (hn : n0 ≤ h.next) :
    ∃ h', frameB T0 X0 call 3000 19 [nodeV n v] h = some (.bool (soundN n xs), h') ∧ Grow h.next h h' := by
  generalize hh1 : h.new (.cells (PM.ofList (nodeL n v)) (nodeL n v).length 26 0 0 .ex) = h1
  have g1 : Grow h.next h h1 := by rw [← hh1]; exact Grow.new _ _
  have hb1 : NodeB h1 h.next n v := by rw [← hh1]; exact NodeB.new _ _ _
  have l1 : h.next < h1.next := by rw [← hh1]; exact Nat.lt_succ_self _
  have q := hb1.loads
  have hbn : ∀ h, rp (some (evNewVar h 26 (nodeV n v))) = some (.value (pv h.next 0), h.new (.cells (PM.ofList (nodeL n v)) (nodeL n v).length 26 0 0 .ex)) := fun h => box_agg
  have hv1 := hv.grow g1 hn
  have hn1 := Nat.le_trans hn g1.next
  obtain ⟨h2, c1, c2⟩ := hSm n v xs n0 h1 hv1 (fun x hxx => (hx x hxx).e) (by omega) hn1
  obtain ⟨pv3, h3, e1, e2, e3⟩ := hpt n v h1
  have hb3 := hb1.grow e3 l1
  have r := hb3.loads
  have hv3 := hv1.grow e3 hn1
  have hc1 := hC1 pv3 (ptrs n) h3.next h3 e2.row (by simp [ptrs])
  have hc2 := hC2 pv3 (ptrs n) h3.next h3 e2.row (by simp [ptrs])
  obtain ⟨h4, x1, x2⟩ := hEx v xs n0 h3 (Nat.le_trans hn1 e3.next) hx hL hv3
  have g13 := g1.trans e3 g1.next
  have g14 := g13.trans x2 g13.next
  rw [frameB_eq ft19 rfl rfl]
  by_cases k0 : n.k = 0
  · refine ⟨h2, ?_, g1.trans c2 g1.next⟩
    rw [show soundN n xs = (sameN n NV.zero && eqL xs []) by unfold soundN; rw [if_pos k0]]
    simp only [Try.f19, symM, opFn, Nat.reduceLT, Nat.reduceBEq, symM, hbn, hh1, field_N, q, bin_eql, eqT (show (n.k : Int) = 0 by omega), build_N0, evCall_fn ft16 rfl, c1]
    exact retB_one ft19 rfl get_same
  have z0 := eqF (show ¬ (n.k : Int) = 0 by omega)
  by_cases kk : n.k = 1 ∨ n.k = 2
  rotate_left
  · refine ⟨h1, ?_, g1⟩
    rw [show soundN n xs = false by unfold soundN; rw [if_neg k0]; simp [kk]]
    simp only [Try.f19, symM, opFn, Nat.reduceLT, Nat.reduceBEq, symM, hbn, hh1, field_N, q, bin_eql, bin_neq, z0, eqF (show ¬ (n.k : Int) = 1 by omega), eqF (show ¬ (n.k : Int) = 2 by omega)]
    exact retB_one ft19 rfl get_same
  rcases kk with kk | kk
  · by_cases a1 : n.l < 1
    · refine ⟨h1, ?_, g1⟩
      rw [show soundN n xs = false by unfold soundN; rw [if_neg k0]; simp; omega]
      simp only [Try.f19, symM, opFn, Nat.reduceLT, Nat.reduceBEq, symM, hbn, hh1, field_N, q, bin_eql, bin_neq, bin_lss, z0, eqT (show (n.k : Int) = 1 by omega), decide_eq_true (show (n.l : Int) < 1 by omega)]
      exact retB_one ft19 rfl get_same
    by_cases a2 : 1000 < n.l
    · refine ⟨h1, ?_, g1⟩
      rw [show soundN n xs = false by unfold soundN; rw [if_neg k0]; simp; omega]
      simp only [Try.f19, symM, opFn, Nat.reduceLT, Nat.reduceBEq, symM, hbn, hh1, field_N, q, bin_eql, bin_neq, bin_lss, bin_gtr, z0, eqT (show (n.k : Int) = 1 by omega), decide_eq_false (show ¬ (n.l : Int) < 1 by omega), decide_eq_true (show (1000 : Int) < n.l by omega)]
      exact retB_one ft19 rfl get_same
    by_cases a3 : 6144 < n.s
    · refine ⟨h1, ?_, g1⟩
      rw [show soundN n xs = false by unfold soundN; rw [if_neg k0]; simp; omega]
      simp only [Try.f19, symM, opFn, Nat.reduceLT, Nat.reduceBEq, symM, hbn, hh1, field_N, q, bin_eql, bin_neq, bin_lss, bin_gtr, z0, eqT (show (n.k : Int) = 1 by omega), decide_eq_false (show ¬ (n.l : Int) < 1 by omega), decide_eq_false (show ¬ (1000 : Int) < n.l by omega), decide_eq_false (show ¬ (n.s : Int) < 0 by omega), decide_eq_true (show (6144 : Int) < n.s by omega)]
      exact retB_one ft19 rfl get_same
    have hd : decide ((n.k = 1 ∨ n.k = 2) ∧ 1 ≤ n.l ∧ n.l ≤ 1000 ∧ n.s ≤ 6144) = true := decide_eq_true (by omega)
    by_cases f1 : n.f = 1
    · by_cases b1 : xs.length = 0
      rotate_left
      · refine ⟨h1, ?_, g1⟩
        rw [show soundN n xs = false by unfold soundN; rw [if_neg k0]; rw [hd, if_pos f1]; simp [b1]]
        simp only [Try.f19, symM, opFn, Nat.reduceLT, Nat.reduceBEq, symM, hbn, hh1, field_N, q, bin_eql, bin_neq, bin_lss, bin_gtr, z0, eqT (show (n.k : Int) = 1 by omega), decide_eq_false (show ¬ (n.l : Int) < 1 by omega), decide_eq_false (show ¬ (1000 : Int) < n.l by omega), decide_eq_false (show ¬ (n.s : Int) < 0 by omega), decide_eq_false (show ¬ (6144 : Int) < n.s by omega), eqT (show (n.f : Int) = 1 by omega), hv1.len, eqF (show ¬ ((xs.length : Nat) : Int) = 0 by omega)]
        exact retB_one ft19 rfl get_same
      by_cases b2 : n.c = 0
      rotate_left
      · refine ⟨h1, ?_, g1⟩
        rw [show soundN n xs = false by unfold soundN; rw [if_neg k0]; rw [hd, if_pos f1]; simp [b2]]
        simp only [Try.f19, symM, opFn, Nat.reduceLT, Nat.reduceBEq, symM, hbn, hh1, field_N, q, bin_eql, bin_neq, bin_lss, bin_gtr, z0, eqT (show (n.k : Int) = 1 by omega), decide_eq_false (show ¬ (n.l : Int) < 1 by omega), decide_eq_false (show ¬ (1000 : Int) < n.l by omega), decide_eq_false (show ¬ (n.s : Int) < 0 by omega), decide_eq_false (show ¬ (6144 : Int) < n.s by omega), eqT (show (n.f : Int) = 1 by omega), hv1.len, eqT (show ((xs.length : Nat) : Int) = 0 by omega), eqF (show ¬ (n.c : Int) = 0 by omega)]
        exact retB_one ft19 rfl get_same
      refine ⟨h3, ?_, g13⟩
      rw [show soundN n xs = ((ptrs n).all namedN) by unfold soundN; rw [if_neg k0]; rw [hd, if_pos f1, decide_eq_true (And.intro b1 b2)]; rfl]
      simp only [Try.f19, symM, opFn, Nat.reduceLT, Nat.reduceBEq, symM, hbn, hh1, field_N, q, bin_eql, bin_neq, bin_lss, bin_gtr, z0, eqT (show (n.k : Int) = 1 by omega), decide_eq_false (show ¬ (n.l : Int) < 1 by omega), decide_eq_false (show ¬ (1000 : Int) < n.l by omega), decide_eq_false (show ¬ (n.s : Int) < 0 by omega), decide_eq_false (show ¬ (6144 : Int) < n.s by omega), eqT (show (n.f : Int) = 1 by omega), hv1.len, eqT (show ((xs.length : Nat) : Int) = 0 by omega), eqT (show (n.c : Int) = 0 by omega), evCall_fn ft21 rfl, e1, evCall_fn ft30 rfl, hc1, not_any]
      exact retB_one ft19 rfl get_same
    by_cases f2 : n.f = 2
    rotate_left
    · refine ⟨h1, ?_, g1⟩
      rw [show soundN n xs = false by unfold soundN; rw [if_neg k0]; rw [if_neg f1, if_neg f2, Bool.and_false]]
      simp only [Try.f19, symM, opFn, Nat.reduceLT, Nat.reduceBEq, symM, hbn, hh1, field_N, q, bin_eql, bin_neq, bin_lss, bin_gtr, z0, eqT (show (n.k : Int) = 1 by omega), decide_eq_false (show ¬ (n.l : Int) < 1 by omega), decide_eq_false (show ¬ (1000 : Int) < n.l by omega), decide_eq_false (show ¬ (n.s : Int) < 0 by omega), decide_eq_false (show ¬ (6144 : Int) < n.s by omega), eqF (show ¬ (n.f : Int) = 1 by omega), eqF (show ¬ (n.f : Int) = 2 by omega)]
      exact retB_one ft19 rfl get_same
    cases b1 : (ptrs n).all fun p => decide (p = 0) with
    | false =>
      refine ⟨h3, ?_, g13⟩
      rw [show soundN n xs = false by unfold soundN; rw [if_neg k0]; rw [hd, if_neg f1, if_pos f2]; rw [b1]; rfl]
      simp only [Try.f19, symM, opFn, Nat.reduceLT, Nat.reduceBEq, symM, hbn, hh1, field_N, q, bin_eql, bin_neq, bin_lss, bin_gtr, z0, eqT (show (n.k : Int) = 1 by omega), decide_eq_false (show ¬ (n.l : Int) < 1 by omega), decide_eq_false (show ¬ (1000 : Int) < n.l by omega), decide_eq_false (show ¬ (n.s : Int) < 0 by omega), decide_eq_false (show ¬ (6144 : Int) < n.s by omega), eqF (show ¬ (n.f : Int) = 1 by omega), eqT (show (n.f : Int) = 2 by omega), evCall_fn ft21 rfl, e1, evCall_fn ft30 rfl, hc2, not_any, b1]
      exact retB_one ft19 rfl get_same
    | true =>
      cases b2 : namedN n.c with
      | false =>
        refine ⟨h3, ?_, g13⟩
        rw [show soundN n xs = false by unfold soundN; rw [if_neg k0]; rw [hd, if_neg f1, if_pos f2]; rw [b1, b2]; rfl]
        simp only [Try.f19, symM, opFn, Nat.reduceLT, Nat.reduceBEq, symM, hbn, hh1, field_N, q, r, bin_eql, bin_neq, bin_lss, bin_gtr, z0, eqT (show (n.k : Int) = 1 by omega), decide_eq_false (show ¬ (n.l : Int) < 1 by omega), decide_eq_false (show ¬ (1000 : Int) < n.l by omega), decide_eq_false (show ¬ (n.s : Int) < 0 by omega), decide_eq_false (show ¬ (6144 : Int) < n.s by omega), eqF (show ¬ (n.f : Int) = 1 by omega), eqT (show (n.f : Int) = 2 by omega), evCall_fn ft21 rfl, e1, evCall_fn ft30 rfl, hc2, not_any, b1, evCall_fn ft32 rfl, hnm, b2]
        exact retB_one ft19 rfl get_same
      | true =>
        by_cases b3 : xs.length ≤ 3
        rotate_left
        · refine ⟨h3, ?_, g13⟩
          rw [show soundN n xs = false by unfold soundN; rw [if_neg k0]; rw [hd, if_neg f1, if_pos f2]; rw [b1, b2, decide_eq_false b3]; rfl]
          simp only [Try.f19, symM, opFn, Nat.reduceLT, Nat.reduceBEq, symM, hbn, hh1, field_N, q, r, bin_eql, bin_neq, bin_lss, bin_gtr, bin_leq, z0, eqT (show (n.k : Int) = 1 by omega), decide_eq_false (show ¬ (n.l : Int) < 1 by omega), decide_eq_false (show ¬ (1000 : Int) < n.l by omega), decide_eq_false (show ¬ (n.s : Int) < 0 by omega), decide_eq_false (show ¬ (6144 : Int) < n.s by omega), eqF (show ¬ (n.f : Int) = 1 by omega), eqT (show (n.f : Int) = 2 by omega), evCall_fn ft21 rfl, e1, evCall_fn ft30 rfl, hc2, not_any, b1, evCall_fn ft32 rfl, hnm, b2, hv3.len, decide_eq_false (show ¬ ((xs.length : Nat) : Int) ≤ 3 by omega)]
          exact retB_one ft19 rfl get_same
        refine ⟨h4, ?_, g14⟩
        rw [show soundN n xs = extG 0 (-1) [] xs by unfold soundN; rw [if_neg k0]; rw [hd, if_neg f1, if_pos f2]; rw [b1, b2, decide_eq_true b3]; rfl]
        simp only [Try.f19, symM, opFn, Nat.reduceLT, Nat.reduceBEq, symM, hbn, hh1, field_N, q, r, bin_eql, bin_neq, bin_lss, bin_gtr, bin_leq, z0, eqT (show (n.k : Int) = 1 by omega), decide_eq_false (show ¬ (n.l : Int) < 1 by omega), decide_eq_false (show ¬ (1000 : Int) < n.l by omega), decide_eq_false (show ¬ (n.s : Int) < 0 by omega), decide_eq_false (show ¬ (6144 : Int) < n.s by omega), eqF (show ¬ (n.f : Int) = 1 by omega), eqT (show (n.f : Int) = 2 by omega), evCall_fn ft21 rfl, e1, evCall_fn ft30 rfl, hc2, not_any, b1, evCall_fn ft32 rfl, hnm, b2, hv3.len, decide_eq_true (show ((xs.length : Nat) : Int) ≤ 3 by omega), evCall_fn ft34 rfl, x1]
        exact retB_one ft19 rfl get_same
  · by_cases a1 : n.l < 1
    · refine ⟨h1, ?_, g1⟩
      rw [show soundN n xs = false by unfold soundN; rw [if_neg k0]; simp; omega]
      simp only [Try.f19, symM, opFn, Nat.reduceLT, Nat.reduceBEq, symM, hbn, hh1, field_N, q, bin_eql, bin_neq, bin_lss, z0, eqF (show ¬ (n.k : Int) = 1 by omega), eqT (show (n.k : Int) = 2 by omega), decide_eq_true (show (n.l : Int) < 1 by omega)]
      exact retB_one ft19 rfl get_same
    by_cases a2 : 1000 < n.l
    · refine ⟨h1, ?_, g1⟩
      rw [show soundN n xs = false by unfold soundN; rw [if_neg k0]; simp; omega]
      simp only [Try.f19, symM, opFn, Nat.reduceLT, Nat.reduceBEq, symM, hbn, hh1, field_N, q, bin_eql, bin_neq, bin_lss, bin_gtr, z0, eqF (show ¬ (n.k : Int) = 1 by omega), eqT (show (n.k : Int) = 2 by omega), decide_eq_false (show ¬ (n.l : Int) < 1 by omega), decide_eq_true (show (1000 : Int) < n.l by omega)]
      exact retB_one ft19 rfl get_same
    by_cases a3 : 6144 < n.s
    · refine ⟨h1, ?_, g1⟩
      rw [show soundN n xs = false by unfold soundN; rw [if_neg k0]; simp; omega]
      simp only [Try.f19, symM, opFn, Nat.reduceLT, Nat.reduceBEq, symM, hbn, hh1, field_N, q, bin_eql, bin_neq, bin_lss, bin_gtr, z0, eqF (show ¬ (n.k : Int) = 1 by omega), eqT (show (n.k : Int) = 2 by omega), decide_eq_false (show ¬ (n.l : Int) < 1 by omega), decide_eq_false (show ¬ (1000 : Int) < n.l by omega), decide_eq_false (show ¬ (n.s : Int) < 0 by omega), decide_eq_true (show (6144 : Int) < n.s by omega)]
      exact retB_one ft19 rfl get_same
    have hd : decide ((n.k = 1 ∨ n.k = 2) ∧ 1 ≤ n.l ∧ n.l ≤ 1000 ∧ n.s ≤ 6144) = true := decide_eq_true (by omega)
    by_cases f1 : n.f = 1
    · by_cases b1 : xs.length = 0
      rotate_left
      · refine ⟨h1, ?_, g1⟩
        rw [show soundN n xs = false by unfold soundN; rw [if_neg k0]; rw [hd, if_pos f1]; simp [b1]]
        simp only [Try.f19, symM, opFn, Nat.reduceLT, Nat.reduceBEq, symM, hbn, hh1, field_N, q, bin_eql, bin_neq, bin_lss, bin_gtr, z0, eqF (show ¬ (n.k : Int) = 1 by omega), eqT (show (n.k : Int) = 2 by omega), decide_eq_false (show ¬ (n.l : Int) < 1 by omega), decide_eq_false (show ¬ (1000 : Int) < n.l by omega), decide_eq_false (show ¬ (n.s : Int) < 0 by omega), decide_eq_false (show ¬ (6144 : Int) < n.s by omega), eqT (show (n.f : Int) = 1 by omega), hv1.len, eqF (show ¬ ((xs.length : Nat) : Int) = 0 by omega)]
        exact retB_one ft19 rfl get_same
      by_cases b2 : n.c = 0
      rotate_left
      · refine ⟨h1, ?_, g1⟩
        rw [show soundN n xs = false by unfold soundN; rw [if_neg k0]; rw [hd, if_pos f1]; simp [b2]]
        simp only [Try.f19, symM, opFn, Nat.reduceLT, Nat.reduceBEq, symM, hbn, hh1, field_N, q, bin_eql, bin_neq, bin_lss, bin_gtr, z0, eqF (show ¬ (n.k : Int) = 1 by omega), eqT (show (n.k : Int) = 2 by omega), decide_eq_false (show ¬ (n.l : Int) < 1 by omega), decide_eq_false (show ¬ (1000 : Int) < n.l by omega), decide_eq_false (show ¬ (n.s : Int) < 0 by omega), decide_eq_false (show ¬ (6144 : Int) < n.s by omega), eqT (show (n.f : Int) = 1 by omega), hv1.len, eqT (show ((xs.length : Nat) : Int) = 0 by omega), eqF (show ¬ (n.c : Int) = 0 by omega)]
        exact retB_one ft19 rfl get_same
      refine ⟨h3, ?_, g13⟩
      rw [show soundN n xs = ((ptrs n).all namedN) by unfold soundN; rw [if_neg k0]; rw [hd, if_pos f1, decide_eq_true (And.intro b1 b2)]; rfl]
      simp only [Try.f19, symM, opFn, Nat.reduceLT, Nat.reduceBEq, symM, hbn, hh1, field_N, q, bin_eql, bin_neq, bin_lss, bin_gtr, z0, eqF (show ¬ (n.k : Int) = 1 by omega), eqT (show (n.k : Int) = 2 by omega), decide_eq_false (show ¬ (n.l : Int) < 1 by omega), decide_eq_false (show ¬ (1000 : Int) < n.l by omega), decide_eq_false (show ¬ (n.s : Int) < 0 by omega), decide_eq_false (show ¬ (6144 : Int) < n.s by omega), eqT (show (n.f : Int) = 1 by omega), hv1.len, eqT (show ((xs.length : Nat) : Int) = 0 by omega), eqT (show (n.c : Int) = 0 by omega), evCall_fn ft21 rfl, e1, evCall_fn ft30 rfl, hc1, not_any]
      exact retB_one ft19 rfl get_same
    by_cases f2 : n.f = 2
    rotate_left
    · refine ⟨h1, ?_, g1⟩
      rw [show soundN n xs = false by unfold soundN; rw [if_neg k0]; rw [if_neg f1, if_neg f2, Bool.and_false]]
      simp only [Try.f19, symM, opFn, Nat.reduceLT, Nat.reduceBEq, symM, hbn, hh1, field_N, q, bin_eql, bin_neq, bin_lss, bin_gtr, z0, eqF (show ¬ (n.k : Int) = 1 by omega), eqT (show (n.k : Int) = 2 by omega), decide_eq_false (show ¬ (n.l : Int) < 1 by omega), decide_eq_false (show ¬ (1000 : Int) < n.l by omega), decide_eq_false (show ¬ (n.s : Int) < 0 by omega), decide_eq_false (show ¬ (6144 : Int) < n.s by omega), eqF (show ¬ (n.f : Int) = 1 by omega), eqF (show ¬ (n.f : Int) = 2 by omega)]
      exact retB_one ft19 rfl get_same
    cases b1 : (ptrs n).all fun p => decide (p = 0) with
    | false =>
      refine ⟨h3, ?_, g13⟩
      rw [show soundN n xs = false by unfold soundN; rw [if_neg k0]; rw [hd, if_neg f1, if_pos f2]; rw [b1]; rfl]
      simp only [Try.f19, symM, opFn, Nat.reduceLT, Nat.reduceBEq, symM, hbn, hh1, field_N, q, bin_eql, bin_neq, bin_lss, bin_gtr, z0, eqF (show ¬ (n.k : Int) = 1 by omega), eqT (show (n.k : Int) = 2 by omega), decide_eq_false (show ¬ (n.l : Int) < 1 by omega), decide_eq_false (show ¬ (1000 : Int) < n.l by omega), decide_eq_false (show ¬ (n.s : Int) < 0 by omega), decide_eq_false (show ¬ (6144 : Int) < n.s by omega), eqF (show ¬ (n.f : Int) = 1 by omega), eqT (show (n.f : Int) = 2 by omega), evCall_fn ft21 rfl, e1, evCall_fn ft30 rfl, hc2, not_any, b1]
      exact retB_one ft19 rfl get_same
    | true =>
      cases b2 : namedN n.c with
      | false =>
        refine ⟨h3, ?_, g13⟩
        rw [show soundN n xs = false by unfold soundN; rw [if_neg k0]; rw [hd, if_neg f1, if_pos f2]; rw [b1, b2]; rfl]
        simp only [Try.f19, symM, opFn, Nat.reduceLT, Nat.reduceBEq, symM, hbn, hh1, field_N, q, r, bin_eql, bin_neq, bin_lss, bin_gtr, z0, eqF (show ¬ (n.k : Int) = 1 by omega), eqT (show (n.k : Int) = 2 by omega), decide_eq_false (show ¬ (n.l : Int) < 1 by omega), decide_eq_false (show ¬ (1000 : Int) < n.l by omega), decide_eq_false (show ¬ (n.s : Int) < 0 by omega), decide_eq_false (show ¬ (6144 : Int) < n.s by omega), eqF (show ¬ (n.f : Int) = 1 by omega), eqT (show (n.f : Int) = 2 by omega), evCall_fn ft21 rfl, e1, evCall_fn ft30 rfl, hc2, not_any, b1, evCall_fn ft32 rfl, hnm, b2]
        exact retB_one ft19 rfl get_same
      | true =>
        by_cases b3 : xs.length ≤ 3
        rotate_left
        · refine ⟨h3, ?_, g13⟩
          rw [show soundN n xs = false by unfold soundN; rw [if_neg k0]; rw [hd, if_neg f1, if_pos f2]; rw [b1, b2, decide_eq_false b3]; rfl]
          simp only [Try.f19, symM, opFn, Nat.reduceLT, Nat.reduceBEq, symM, hbn, hh1, field_N, q, r, bin_eql, bin_neq, bin_lss, bin_gtr, bin_leq, z0, eqF (show ¬ (n.k : Int) = 1 by omega), eqT (show (n.k : Int) = 2 by omega), decide_eq_false (show ¬ (n.l : Int) < 1 by omega), decide_eq_false (show ¬ (1000 : Int) < n.l by omega), decide_eq_false (show ¬ (n.s : Int) < 0 by omega), decide_eq_false (show ¬ (6144 : Int) < n.s by omega), eqF (show ¬ (n.f : Int) = 1 by omega), eqT (show (n.f : Int) = 2 by omega), evCall_fn ft21 rfl, e1, evCall_fn ft30 rfl, hc2, not_any, b1, evCall_fn ft32 rfl, hnm, b2, hv3.len, decide_eq_false (show ¬ ((xs.length : Nat) : Int) ≤ 3 by omega)]
          exact retB_one ft19 rfl get_same
        refine ⟨h4, ?_, g14⟩
        rw [show soundN n xs = extG 0 (-1) [] xs by unfold soundN; rw [if_neg k0]; rw [hd, if_neg f1, if_pos f2]; rw [b1, b2, decide_eq_true b3]; rfl]
        simp only [Try.f19, symM, opFn, Nat.reduceLT, Nat.reduceBEq, symM, hbn, hh1, field_N, q, r, bin_eql, bin_neq, bin_lss, bin_gtr, bin_leq, z0, eqF (show ¬ (n.k : Int) = 1 by omega), eqT (show (n.k : Int) = 2 by omega), decide_eq_false (show ¬ (n.l : Int) < 1 by omega), decide_eq_false (show ¬ (1000 : Int) < n.l by omega), decide_eq_false (show ¬ (n.s : Int) < 0 by omega), decide_eq_false (show ¬ (6144 : Int) < n.s by omega), eqF (show ¬ (n.f : Int) = 1 by omega), eqT (show (n.f : Int) = 2 by omega), evCall_fn ft21 rfl, e1, evCall_fn ft30 rfl, hc2, not_any, b1, evCall_fn ft32 rfl, hnm, b2, hv3.len, decide_eq_true (show ((xs.length : Nat) : Int) ≤ 3 by omega), evCall_fn ft34 rfl, x1]
        exact retB_one ft19 rfl get_same
end
end Go.Proofs.Ythpfgiabdpeiaaa.Abs
namespace Go.Proofs.Ythpfgiabdpeiaaa.Abs
open Go Go.Proofs
noncomputable section
variable {call : Abs.Callee}
set_option maxRecDepth 10000
theorem ft24 : T0.ft.get 24 = some Try.f24 := by kernel_rfl
def okp (f p : Nat) : Bool := decide (p = 0) || (!decide (f = 2) && dataN p)
noncomputable def bodyRs : Code := part Try.f24 [1, 1, 1, 1, 0, 1, 0, 0]
abbrev ERs : Env := ⟨24, 104, none⟩
theorem rsLoop (hD : ∀ (n : Nat) (h : AH), call 37 [iv n] h = some (.bool (dataN n), h)) (n : NV) (v w : Value) (b : Nat) (L : List Nat) (n0 : Nat) (h : AH) (hv : Row n0 h v (intsV L) 3) (hb : NodeB h b n w) (hL : L.length = 6) :
    ∀ (l : List Nat) (i : Nat) (tm : PM Value) (N : Nat), L.drop i = l → i + l.length = L.length → l.length + 60 ≤ N → tm.get 1 = some (pv b 0) → tm.get 3 = some v → tm.get 4 = some (iv i) →
      ∃ tm', (codeB T0 X0 call N ERs (.loop bodyRs) tm h [] = .jump .ret tm' h [] ∧ tm'.get 2 = some (.bool false) ∧ l.all (okp n.f) = false) ∨ (codeB T0 X0 call N ERs (.loop bodyRs) tm h [] = .jump (.exit 0) tm' h [] ∧ l.all (okp n.f) = true ∧ tm'.get 1 = some (pv b 0)) := by
  have q := hb.loads
  intro l
  induction l with
  | nil =>
    intro i tm N hd hi hN g1 g3 g4
    obtain ⟨N, rfl⟩ : ∃ a, N = a + 60 := ⟨N - 60, by simp at hN; omega⟩
    apply Exists.intro
    refine .inr ⟨?_, rfl, ?_⟩
    · rw [codeB_loop]
      simp only [bodyRs, part, Try.f24, sub, symM, opFn, Nat.reduceLT, g4, bin_lss, decide_eq_false (show ¬ (i : Int) < 6 by simp at hi; omega)]
      rfl
    · simp only [symM, Nat.reduceBEq, g1]
  | cons x l ih =>
    intro i tm N hd hi hN g1 g3 g4
    obtain ⟨N, rfl⟩ : ∃ a, N = a + 60 := ⟨N - 60, by simp at hN; omega⟩
    have hx1 : L[i]? = some x := by have := congrArg (fun l => l[0]?) hd; simpa using this
    have hlt := decide_eq_true (show (i : Int) < 6 by simp at hi; omega)
    obtain ⟨p, a1, a2⟩ := hv.at und_ints sz_int agg_int (i := i) (x := iv x) (by simp [intsV, hx1])
    by_cases p0 : x = 0
    · have hk : okp n.f x = true := by unfold okp; rw [decide_eq_true p0]; rfl
      rw [show N + 60 = (N + 59) + 1 from rfl, codeB_loop]
      simp only [bodyRs, part, Try.f24, sub, symM, opFn, Nat.reduceLT, Nat.reduceBEq, symM, g3, g4, bin_lss, hlt, a1, a2, bin_neq, eqT (show (x : Int) = 0 by omega), bin_add, wadd1 (show i ≤ 400000 by simp at hi; omega)]
      rw [List.all_cons, hk, Bool.true_and]
      exact ih (i + 1) _ (N + 59) (by rw [← List.drop_drop, hd]; rfl) (by simp at hi ⊢; omega) (by simp at hN ⊢; omega) (by simp only [symM, Nat.reduceBEq, g1]) (by simp only [symM, Nat.reduceBEq, g3]) get_same
    · have e0 := eqF (show ¬ (x : Int) = 0 by omega)
      by_cases f2 : n.f = 2
      · have hk : okp n.f x = false := by unfold okp; rw [decide_eq_false p0, decide_eq_true f2]; rfl
        apply Exists.intro
        refine .inl ⟨?_, ?_, by rw [List.all_cons, hk]; rfl⟩
        rw [codeB_loop]
        simp only [bodyRs, part, Try.f24, sub, symM, opFn, Nat.reduceLT, Nat.reduceBEq, symM, g1, g3, g4, bin_lss, hlt, a1, a2, bin_neq, e0, field_N, q, bin_eql, eqT (show (n.f : Int) = 2 by omega)]
        rfl
        simp only [symM]
      · cases hdx : dataN x with
        | false =>
          have hk : okp n.f x = false := by unfold okp; rw [decide_eq_false p0, hdx, Bool.and_false]; rfl
          apply Exists.intro
          refine .inl ⟨?_, ?_, by rw [List.all_cons, hk]; rfl⟩
          rw [codeB_loop]
          simp only [bodyRs, part, Try.f24, sub, symM, opFn, Nat.reduceLT, Nat.reduceBEq, symM, g1, g3, g4, bin_lss, hlt, a1, a2, bin_neq, e0, field_N, q, bin_eql, eqF (show ¬ (n.f : Int) = 2 by omega), evCall_fn ft37 rfl, hD, hdx]
          rfl
          simp only [symM]
        | true =>
          have hk : okp n.f x = true := by unfold okp; rw [decide_eq_false f2, hdx]; simp
          rw [show N + 60 = (N + 59) + 1 from rfl, codeB_loop]
          simp only [bodyRs, part, Try.f24, sub, symM, opFn, Nat.reduceLT, Nat.reduceBEq, symM, g1, g3, g4, bin_lss, hlt, a1, a2, bin_neq, e0, field_N, q, bin_eql, eqF (show ¬ (n.f : Int) = 2 by omega), evCall_fn ft37 rfl, hD, hdx, bin_add, wadd1 (show i ≤ 400000 by simp at hi; omega)]
          rw [List.all_cons, hk, Bool.true_and]
          exact ih (i + 1) _ (N + 59) (by rw [← List.drop_drop, hd]; rfl) (by simp at hi ⊢; omega) (by simp at hN ⊢; omega) (by simp only [symM, Nat.reduceBEq, g1]) (by simp only [symM, Nat.reduceBEq, g3]) get_same
theorem rSnd_S (hSm : ∀ (n : NV) (v : Value) (xs : List XV) (n0 : Nat) (h : AH), RowE n0 h v xs → (∀ x ∈ xs, okE x) → xs.length < 1000 → n0 ≤ h.next → ∃ h', call 7 [nodeV n v, nodeV NV.zero nilV] h = some (.bool (sameN n NV.zero && eqL xs []), h') ∧ Grow h.next h h')
    (hpt : ∀ (n : NV) (e : Value) (h : AH), ∃ v' h', call 27 [nodeV n e] h = some (v', h') ∧ Own h.next h' v' (intsV (ptrs n)) 3 ∧ Grow h.next h h')
    (hD : ∀ (n : Nat) (h : AH), call 37 [iv n] h = some (.bool (dataN n), h))
    (hEx : ∀ (v : Value) (xs : List XV) (n0 : Nat) (h : AH), n0 ≤ h.next → (∀ x ∈ xs, okX x) → xs.length ≤ 96 → RowE n0 h v xs → ∃ h', call 38 [v] h = some (.bool (extG 0 (-1) [] xs), h') ∧ Grow h.next h h')
    (n : NV) (v : Value) (xs : List XV) (n0 : Nat) (h : AH) (hv : RowE n0 h v xs) (hx : ∀ x ∈ xs, okX x) (hL : xs.length ≤ 96) (hn : n0 ≤ h.next) :
    ∃ h', frameB T0 X0 call 3000 24 [nodeV n v] h = some (.bool (soundN n xs), h') ∧ Grow h.next h h' := by
  generalize hh1 : h.new (.cells (PM.ofList (nodeL n v)) (nodeL n v).length 26 0 0 .ex) = h1
  have g1 : Grow h.next h h1 := by rw [← hh1]; exact Grow.new _ _
  have hb1 : NodeB h1 h.next n v := by rw [← hh1]; exact NodeB.new _ _ _
  have l1 : h.next < h1.next := by rw [← hh1]; exact Nat.lt_succ_self _
  have q := hb1.loads
  have hbn : ∀ h, rp (some (evNewVar h 26 (nodeV n v))) = some (.value (pv h.next 0), h.new (.cells (PM.ofList (nodeL n v)) (nodeL n v).length 26 0 0 .ex)) := fun h => box_agg
  have hv1 := hv.grow g1 hn
  have hn1 := Nat.le_trans hn g1.next
  obtain ⟨h2, c1, c2⟩ := hSm n v xs n0 h1 hv1 (fun x hxx => (hx x hxx).e) (by omega) hn1
  obtain ⟨pv3, h3, e1, e2, e3⟩ := hpt n v h1
  have hb3 := hb1.grow e3 l1
  have r := hb3.loads
  have hv3 := hv1.grow e3 hn1
  obtain ⟨h4, x1, x2⟩ := hEx v xs n0 h3 (Nat.le_trans hn1 e3.next) hx hL hv3
  have g13 := g1.trans e3 g1.next
  have g14 := g13.trans x2 g13.next
  rw [frameB_eq ft24 rfl rfl]
  by_cases k0 : n.k = 0
  · refine ⟨h2, ?_, g1.trans c2 g1.next⟩
    rw [show soundN n xs = (sameN n NV.zero && eqL xs []) by unfold soundN; rw [if_pos k0]]
    simp only [Try.f24, symM, opFn, Nat.reduceLT, Nat.reduceBEq, symM, hbn, hh1, field_N, q, bin_eql, eqT (show (n.k : Int) = 0 by omega), build_N0, evCall_fn ft7 rfl, c1]
    exact retB_one ft24 rfl get_same
  have z0 := eqF (show ¬ (n.k : Int) = 0 by omega)
  have z1 := decide_eq_false (show ¬ (n.k : Int) < 1 by omega)
  by_cases a0 : 2 < n.k
  · refine ⟨h1, ?_, g1⟩
    rw [show soundN n xs = false by unfold soundN; rw [if_neg k0]; simp; omega]
    simp only [Try.f24, symM, opFn, Nat.reduceLT, Nat.reduceBEq, symM, hbn, hh1, field_N, q, bin_eql, bin_lss, bin_gtr, z0, z1, decide_eq_true (show (2 : Int) < n.k by omega)]
    exact retB_one ft24 rfl get_same
  by_cases a1 : n.f < 1
  · refine ⟨h1, ?_, g1⟩
    rw [show soundN n xs = false by unfold soundN; rw [if_neg k0]; rw [if_neg (by omega), if_neg (by omega), Bool.and_false]]
    simp only [Try.f24, symM, opFn, Nat.reduceLT, Nat.reduceBEq, symM, hbn, hh1, field_N, q, bin_eql, bin_lss, bin_gtr, z0, z1, decide_eq_false (show ¬ (2 : Int) < n.k by omega), decide_eq_true (show (n.f : Int) < 1 by omega)]
    exact retB_one ft24 rfl get_same
  by_cases a2 : 2 < n.f
  · refine ⟨h1, ?_, g1⟩
    rw [show soundN n xs = false by unfold soundN; rw [if_neg k0]; rw [if_neg (by omega), if_neg (by omega), Bool.and_false]]
    simp only [Try.f24, symM, opFn, Nat.reduceLT, Nat.reduceBEq, symM, hbn, hh1, field_N, q, bin_eql, bin_lss, bin_gtr, z0, z1, decide_eq_false (show ¬ (2 : Int) < n.k by omega), decide_eq_false (show ¬ (n.f : Int) < 1 by omega), decide_eq_true (show (2 : Int) < n.f by omega)]
    exact retB_one ft24 rfl get_same
  by_cases a3 : n.l < 1
  · refine ⟨h1, ?_, g1⟩
    rw [show soundN n xs = false by unfold soundN; rw [if_neg k0]; simp; omega]
    simp only [Try.f24, symM, opFn, Nat.reduceLT, Nat.reduceBEq, symM, hbn, hh1, field_N, q, bin_eql, bin_lss, bin_gtr, z0, z1, decide_eq_false (show ¬ (2 : Int) < n.k by omega), decide_eq_false (show ¬ (n.f : Int) < 1 by omega), decide_eq_false (show ¬ (2 : Int) < n.f by omega), decide_eq_true (show (n.l : Int) < 1 by omega)]
    exact retB_one ft24 rfl get_same
  by_cases a4 : 1000 < n.l
  · refine ⟨h1, ?_, g1⟩
    rw [show soundN n xs = false by unfold soundN; rw [if_neg k0]; simp; omega]
    simp only [Try.f24, symM, opFn, Nat.reduceLT, Nat.reduceBEq, symM, hbn, hh1, field_N, q, bin_eql, bin_lss, bin_gtr, z0, z1, decide_eq_false (show ¬ (2 : Int) < n.k by omega), decide_eq_false (show ¬ (n.f : Int) < 1 by omega), decide_eq_false (show ¬ (2 : Int) < n.f by omega), decide_eq_false (show ¬ (n.l : Int) < 1 by omega), decide_eq_true (show (1000 : Int) < n.l by omega)]
    exact retB_one ft24 rfl get_same
  by_cases a5 : 6144 < n.s
  · refine ⟨h1, ?_, g1⟩
    rw [show soundN n xs = false by unfold soundN; rw [if_neg k0]; simp; omega]
    simp only [Try.f24, symM, opFn, Nat.reduceLT, Nat.reduceBEq, symM, hbn, hh1, field_N, q, bin_eql, bin_lss, bin_gtr, z0, z1, decide_eq_false (show ¬ (2 : Int) < n.k by omega), decide_eq_false (show ¬ (n.f : Int) < 1 by omega), decide_eq_false (show ¬ (2 : Int) < n.f by omega), decide_eq_false (show ¬ (n.l : Int) < 1 by omega), decide_eq_false (show ¬ (1000 : Int) < n.l by omega), decide_eq_false (show ¬ (n.s : Int) < 0 by omega), decide_eq_true (show (6144 : Int) < n.s by omega)]
    exact retB_one ft24 rfl get_same
  have hd : decide ((n.k = 1 ∨ n.k = 2) ∧ 1 ≤ n.l ∧ n.l ≤ 1000 ∧ n.s ≤ 6144) = true := decide_eq_true (by omega)
  simp only [Try.f24, symM, opFn, Nat.reduceLT, Nat.reduceBEq, symM, symL, hbn, hh1, field_N, q, bin_eql, bin_lss, bin_gtr, z0, z1, decide_eq_false (show ¬ (2 : Int) < n.k by omega), decide_eq_false (show ¬ (n.f : Int) < 1 by omega), decide_eq_false (show ¬ (2 : Int) < n.f by omega), decide_eq_false (show ¬ (n.l : Int) < 1 by omega), decide_eq_false (show ¬ (1000 : Int) < n.l by omega), decide_eq_false (show ¬ (n.s : Int) < 0 by omega), decide_eq_false (show ¬ (6144 : Int) < n.s by omega), evCall_fn ft27 rfl, e1]
  generalize hX : codeB T0 X0 call _ ERs (.loop _) _ _ _ = X
  obtain ⟨t9, e9⟩ := use_loop (P := fun X => ∃ tm', (X = .jump .ret tm' h3 [] ∧ tm'.get 2 = some (.bool false) ∧ (ptrs n).all (okp n.f) = false) ∨ (X = .jump (.exit 0) tm' h3 [] ∧ (ptrs n).all (okp n.f) = true ∧ tm'.get 1 = some (pv h.next 0))) hX
    (rsLoop hD n pv3 v h.next (ptrs n) h3.next h3 e2.row hb3 rfl (ptrs n) 0 _ _ rfl (by simp) (by simp [ptrs]) (by simp only [symM, Nat.reduceBEq]) (by simp only [symM, Nat.reduceBEq]) (by simp only [symM]; rfl))
  clear hX
  have hone : n.f = 1 → (ptrs n).all (okp n.f) = (ptrs n).all namedN := by
    intro hf; rw [hf]; rfl
  have htwo : n.f = 2 → (ptrs n).all (okp n.f) = (ptrs n).all fun p => decide (p = 0) := by
    intro hf; rw [hf]; congr 1; funext p; unfold okp; simp
  rcases e9 with ⟨e9, t2, hall⟩ | ⟨e9, hall, t1⟩
  · subst e9
    refine ⟨h3, ?_, g13⟩
    rw [show soundN n xs = false by
      unfold soundN; rw [if_neg k0]
      by_cases f1 : n.f = 1
      · rw [if_pos f1, ← hone f1, hall, Bool.and_false, Bool.and_false]
      · rw [if_neg f1, if_pos (show n.f = 2 by omega), ← htwo (by omega), hall, Bool.false_and, Bool.and_false]]
    simp only [symM, symM]
    exact retB_one ft24 rfl t2
  subst e9
  by_cases f1 : n.f = 1
  · by_cases b1 : xs.length = 0
    rotate_left
    · refine ⟨h3, ?_, g13⟩
      rw [show soundN n xs = false by unfold soundN; rw [if_neg k0, hd]; rw [if_pos f1, ← hone f1, hall]; simp [b1]]
      simp only [symM, opFn, Nat.reduceLT, Nat.reduceBEq, symM, symL, t1, field_N, r, bin_eql, eqT (show (n.f : Int) = 1 by omega), hv3.len, eqF (show ¬ ((xs.length : Nat) : Int) = 0 by omega)]
      exact retB_one ft24 rfl get_same
    by_cases b2 : n.c = 0
    rotate_left
    · refine ⟨h3, ?_, g13⟩
      rw [show soundN n xs = false by unfold soundN; rw [if_neg k0, hd]; rw [if_pos f1, ← hone f1, hall]; simp [b2]]
      simp only [symM, opFn, Nat.reduceLT, Nat.reduceBEq, symM, symL, t1, field_N, r, bin_eql, eqT (show (n.f : Int) = 1 by omega), hv3.len, eqT (show ((xs.length : Nat) : Int) = 0 by omega), eqF (show ¬ (n.c : Int) = 0 by omega)]
      exact retB_one ft24 rfl get_same
    refine ⟨h3, ?_, g13⟩
    rw [show soundN n xs = true by unfold soundN; rw [if_neg k0, hd]; rw [if_pos f1, ← hone f1, hall]; simp [b1, b2]]
    simp only [symM, opFn, Nat.reduceLT, Nat.reduceBEq, symM, symL, t1, field_N, r, bin_eql, eqT (show (n.f : Int) = 1 by omega), hv3.len, eqT (show ((xs.length : Nat) : Int) = 0 by omega), eqT (show (n.c : Int) = 0 by omega)]
    exact retB_one ft24 rfl get_same
  have f2 : n.f = 2 := by omega
  by_cases b3 : xs.length ≤ 3
  rotate_left
  · refine ⟨h3, ?_, g13⟩
    rw [show soundN n xs = false by unfold soundN; rw [if_neg k0, hd]; rw [if_neg f1, if_pos f2, ← htwo f2, hall, Bool.true_and, Bool.true_and]; rw [decide_eq_false b3]; simp]
    simp only [symM, opFn, Nat.reduceLT, Nat.reduceBEq, symM, symL, t1, field_N, r, bin_eql, bin_leq, eqF (show ¬ (n.f : Int) = 1 by omega), hv3.len, decide_eq_false (show ¬ ((xs.length : Nat) : Int) ≤ 3 by omega)]
    exact retB_one ft24 rfl get_same
  have hb4 := hb3.grow x2 (Nat.lt_of_lt_of_le l1 e3.next)
  have r4 := hb4.loads
  cases hx4 : extG 0 (-1) [] xs with
  | false =>
    refine ⟨h4, ?_, g14⟩
    rw [show soundN n xs = false by unfold soundN; rw [if_neg k0, hd]; rw [if_neg f1, if_pos f2, ← htwo f2, hall, Bool.true_and, Bool.true_and]; rw [hx4]; simp]
    simp only [symM, opFn, Nat.reduceLT, Nat.reduceBEq, symM, symL, t1, field_N, r, bin_eql, bin_leq, eqF (show ¬ (n.f : Int) = 1 by omega), hv3.len, decide_eq_true (show ((xs.length : Nat) : Int) ≤ 3 by omega), evCall_fn ft38 rfl, x1, hx4]
    exact retB_one ft24 rfl get_same
  | true =>
    by_cases b5 : n.c = 0
    · refine ⟨h4, ?_, g14⟩
      rw [show soundN n xs = true by unfold soundN; rw [if_neg k0, hd]; rw [if_neg f1, if_pos f2, ← htwo f2, hall, Bool.true_and, Bool.true_and]; rw [hx4]; unfold namedN; simp [b3, b5]]
      simp only [symM, opFn, Nat.reduceLT, Nat.reduceBEq, symM, symL, t1, field_N, r, bin_eql, bin_leq, eqF (show ¬ (n.f : Int) = 1 by omega), hv3.len, decide_eq_true (show ((xs.length : Nat) : Int) ≤ 3 by omega), evCall_fn ft38 rfl, x1, hx4, r4, eqT (show (n.c : Int) = 0 by omega)]
      exact retB_one ft24 rfl get_same
    · refine ⟨h4, ?_, g14⟩
      rw [show soundN n xs = dataN n.c by unfold soundN; rw [if_neg k0, hd]; rw [if_neg f1, if_pos f2, ← htwo f2, hall, Bool.true_and, Bool.true_and]; rw [hx4]; unfold namedN; simp [b3, b5]]
      simp only [symM, opFn, Nat.reduceLT, Nat.reduceBEq, symM, symL, t1, field_N, r, bin_eql, bin_leq, eqF (show ¬ (n.f : Int) = 1 by omega), hv3.len, decide_eq_true (show ((xs.length : Nat) : Int) ≤ 3 by omega), evCall_fn ft38 rfl, x1, hx4, r4, eqF (show ¬ (n.c : Int) = 0 by omega), evCall_fn ft37 rfl, hD]
      exact retB_one ft24 rfl get_same
end
end Go.Proofs.Ythpfgiabdpeiaaa.Abs
