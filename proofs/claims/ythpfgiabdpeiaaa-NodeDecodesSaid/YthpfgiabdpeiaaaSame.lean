
/- Lists of extents: are they the same? -/
import Derived.Test.YthpfgiabdpeiaaaPut
namespace Go.Proofs.Ythpfgiabdpeiaaa.Abs
open Go Go.Proofs
noncomputable section
variable {call : Abs.Callee}
set_option maxRecDepth 10000
theorem ft29 : T0.ft.get 29 = some Try.f29 := by kernel_rfl
theorem ft17 : T0.ft.get 17 = some Try.f17 := by kernel_rfl
def eqL : List XV → List XV → Bool
  | [], [] => true
  | x :: l, y :: m => eqE x y && eqL l m
  | _, _ => false
theorem eqL_len : ∀ {l m : List XV}, l.length ≠ m.length → eqL l m = false
  | [], [], h => absurd rfl h
  | [], _ :: _, _ => rfl
  | _ :: _, [], _ => rfl
  | x :: l, y :: m, h => by
    rw [eqL, eqL_len (l := l) (m := m) (by simpa using h), Bool.and_false]
theorem eqF {a b : Int} (h : ¬ a = b) : (a == b) = false := by simpa using h
theorem eqT {a b : Int} (h : a = b) : (a == b) = true := by simpa using h
noncomputable def bodyEq : Code := part Try.f29 [1, 1, 0, 1, 0, 0]
abbrev EEq : Env := ⟨29, 26, none⟩
theorem plan_Eq : planB (regOps Try.f29 [1, 1, 0, 1, 0, 0, 1, 1, 0, 0, 1, 0]) 26 = some ([.one 0, .one 1, .one 2, .one 3, .one 4, .one 5, .one 6, .one 7, .one 8], []) := by kernel_rfl
theorem eqLoop (v w : Value) (xs ys : List XV) (n0 : Nat) (h : AH) (hv : RowE n0 h v xs) (hw : RowE n0 h w ys) (hx : ∀ x ∈ xs, okE x) (hy : ∀ y ∈ ys, okE y) (hl : xs.length = ys.length) (hL : xs.length < 1000) :
    ∀ (l m : List XV) (i : Nat) (tm : PM Value) (N : Nat), xs.drop i = l → ys.drop i = m → i + l.length = xs.length → l.length + 30 ≤ N → tm.get 0 = some v → tm.get 1 = some w → tm.get 12 = some (iv xs.length) → tm.get 13 = some (iv i) →
      ∃ tm', (codeB T0 X0 call N EEq (.loop bodyEq) tm h [] = .jump .ret tm' h [] ∧ tm'.get 4 = some (.bool false) ∧ eqL l m = false) ∨ (codeB T0 X0 call N EEq (.loop bodyEq) tm h [] = .jump (.exit 0) tm' h [] ∧ eqL l m = true) := by
  intro l
  induction l with
  | nil =>
    intro m i tm N hd hd2 hi hN g0 g1 g12 g13
    obtain ⟨N, rfl⟩ : ∃ a, N = a + 30 := ⟨N - 30, by simp at hN; omega⟩
    have hm : m = [] := by rw [← hd2]; simp at hi ⊢; omega
    subst hm
    apply Exists.intro
    right
    refine ⟨?_, rfl⟩
    rw [codeB_loop]
    simp only [bodyEq, part, Try.f29, sub, symM, opFn, Nat.reduceLT, g12, g13, bin_lss, decide_eq_false (show ¬ (i : Int) < (xs.length : Nat) by simp at hi; omega)]
    rfl
  | cons x l ih =>
    intro m i tm N hd hd2 hi hN g0 g1 g12 g13
    obtain ⟨N, rfl⟩ : ∃ a, N = a + 30 := ⟨N - 30, by simp at hN; omega⟩
    have hx1 : xs[i]? = some x := by have := congrArg (fun l => l[0]?) hd; simpa using this
    have hil : i < xs.length := by simp at hi; omega
    obtain ⟨y, m, rfl⟩ : ∃ y r, m = y :: r := by
      cases m with
      | nil => have := congrArg List.length hd2; simp at this; omega
      | cons y r => exact ⟨y, r, rfl⟩
    have hy1 : ys[i]? = some y := by have := congrArg (fun l => l[0]?) hd2; simpa using this
    obtain ⟨b1, o1, p1, p2, _, _⟩ := hv.at hx1
    obtain ⟨b2, o2, q1, q2, _, _⟩ := hw.at hy1
    have hxo := hx x (List.mem_of_getElem? hx1)
    have hyo := hy y (List.mem_of_getElem? hy1)
    have hp := plan_Eq
    simp only [regOps, part, Try.f29, sub] at hp
    cases hb : eqE x y with
    | false =>
      apply Exists.intro
      left
      refine ⟨?_, ?_, by rw [eqL, hb]; rfl⟩
      rw [codeB_loop]
      simp only [bodyEq, part, Try.f29, sub, symM, opFn, Nat.reduceLT, Nat.reduceBEq, g12, g13, bin_lss, decide_eq_true (show (i : Int) < (xs.length : Nat) by omega)]
      rw [codeB_draw, draw_plan hp rfl]
      simp only [drawAll, opFn, Nat.reduceLT, Nat.reduceBEq, g0, g1, p1, p2, q1, q2, E_neq hxo hyo, hb]
      rfl
      simp only [symM]
    | true =>
      rw [show N + 30 = (N + 29) + 1 from rfl, codeB_loop]
      simp only [bodyEq, part, Try.f29, sub, symM, opFn, Nat.reduceLT, Nat.reduceBEq, g12, g13, bin_lss, decide_eq_true (show (i : Int) < (xs.length : Nat) by omega)]
      rw [codeB_draw, draw_plan hp rfl]
      simp only [drawAll, opFn, Nat.reduceLT, Nat.reduceBEq, g0, g1, g13, p1, p2, q1, q2, E_neq hxo hyo, hb, bin_add, wadd1 (show i ≤ 400000 by omega)]
      rw [show eqL (x :: l) (y :: m) = eqL l m by rw [eqL, hb]; rfl]
      refine ih m (i + 1) _ (N + 29) (by rw [← List.drop_drop, hd]; rfl) (by rw [← List.drop_drop, hd2]; rfl) (by simp at hi ⊢; omega) (by simp at hN ⊢; omega) (by simp only [symM, Nat.reduceBEq, g0]) (by simp only [symM, Nat.reduceBEq, g1]) (by simp only [symM, Nat.reduceBEq, g12]) get_same
theorem Equal_S (v w : Value) (xs ys : List XV) (n0 : Nat) (h : AH) (hv : RowE n0 h v xs) (hw : RowE n0 h w ys) (hx : ∀ x ∈ xs, okE x) (hy : ∀ y ∈ ys, okE y) (hL : xs.length < 1000) :
    frameB T0 X0 call 3000 29 [v, w] h = some (.bool (eqL xs ys), h) := by
  rw [frameB_eq ft29 rfl rfl]
  by_cases hl : xs.length = ys.length
  · have hL2 := fun tm N => eqLoop (call := call) v w xs ys n0 h hv hw hx hy hl hL xs ys 0 tm N rfl rfl (by simp)
    simp only [Try.f29, symM, opFn, Nat.reduceLT, Nat.reduceBEq, hv.len, hw.len, bin_neq, hl, beq_self_eq_true]
    rw [← hl]
    refine bind_loopJ (b := bodyEq) (Q := fun x => ∃ tm', (x = .jump .ret tm' h [] ∧ tm'.get 4 = some (.bool false) ∧ eqL xs ys = false) ∨ (x = .jump (.exit 0) tm' h [] ∧ eqL xs ys = true)) (P := fun x => endF T0 29 x = some (.bool (eqL xs ys), h)) ?_ ?_
    · exact hL2 _ _ (by omega) (by simp only [symM, Nat.reduceBEq]) (by simp only [symM, Nat.reduceBEq]) (by simp only [symM, Nat.reduceBEq]) (by simp only [symM]; rfl)
    · intro x ⟨tm', hx⟩
      rcases hx with ⟨rfl, h4, h5⟩ | ⟨rfl, h4⟩
      · rw [h5]
        simp only [symM]
        exact retB_one ft29 rfl h4
      · rw [h4]
        simp only [symM]
        exact retB_one ft29 rfl get_same
  · have hne : ¬ ((xs.length : Nat) : Int) = (ys.length : Nat) := by omega
    rw [eqL_len hl]
    simp only [Try.f29, symM, opFn, Nat.reduceLT, Nat.reduceBEq, hv.len, hw.len, bin_neq, eqF hne]
    exact retB_one ft29 rfl get_same
noncomputable def bodySE : Code := part Try.f17 [1, 1, 0, 1, 0, 0]
abbrev ESE : Env := ⟨17, 41, none⟩
theorem plan_SE : planB (regOps Try.f17 [1, 1, 0, 1, 0, 0, 1, 0, 0, 0]) 41 = some ([.one 0, .one 1, .one 2, .one 3, .one 4, .one 5, .one 6, .one 7, .one 8, .one 9, .one 10, .one 11, .one 12, .one 13, .one 14, .one 15, .one 16, .one 17, .one 18, .one 19, .one 20, .one 21, .one 22, .one 23], []) := by kernel_rfl
theorem seLoop (v w : Value) (xs ys : List XV) (n0 : Nat) (h : AH) (hv : RowE n0 h v xs) (hw : RowE n0 h w ys) (hx : ∀ x ∈ xs, okE x) (hy : ∀ y ∈ ys, okE y) (hl : xs.length = ys.length) (hL : xs.length < 1000) :
    ∀ (l m : List XV) (i : Nat) (tm : PM Value) (N : Nat), xs.drop i = l → ys.drop i = m → i + l.length = xs.length → l.length + 30 ≤ N → tm.get 0 = some v → tm.get 1 = some w → tm.get 5 = some (iv i) →
      ∃ tm', (codeB T0 X0 call N ESE (.loop bodySE) tm h [] = .jump .ret tm' h [] ∧ tm'.get 4 = some (.bool false) ∧ eqL l m = false) ∨ (codeB T0 X0 call N ESE (.loop bodySE) tm h [] = .jump (.exit 0) tm' h [] ∧ eqL l m = true) := by
  intro l
  induction l with
  | nil =>
    intro m i tm N hd hd2 hi hN g0 g1 g5
    obtain ⟨N, rfl⟩ : ∃ a, N = a + 30 := ⟨N - 30, by simp at hN; omega⟩
    have hm : m = [] := by rw [← hd2]; simp at hi ⊢; omega
    subst hm
    apply Exists.intro
    right
    refine ⟨?_, rfl⟩
    rw [codeB_loop]
    simp only [bodySE, part, Try.f17, sub, symM, opFn, Nat.reduceLT, Nat.reduceBEq, g0, g5, hv.len, bin_lss, decide_eq_false (show ¬ (i : Int) < (xs.length : Nat) by simp at hi; omega)]
    rfl
  | cons x l ih =>
    intro m i tm N hd hd2 hi hN g0 g1 g5
    obtain ⟨N, rfl⟩ : ∃ a, N = a + 30 := ⟨N - 30, by simp at hN; omega⟩
    have hx1 : xs[i]? = some x := by have := congrArg (fun l => l[0]?) hd; simpa using this
    have hil : i < xs.length := by simp at hi; omega
    obtain ⟨y, m, rfl⟩ : ∃ y r, m = y :: r := by
      cases m with
      | nil => have := congrArg List.length hd2; simp at this; omega
      | cons y r => exact ⟨y, r, rfl⟩
    have hy1 : ys[i]? = some y := by have := congrArg (fun l => l[0]?) hd2; simpa using this
    obtain ⟨b1, o1, p1, _, p2, p3⟩ := hv.at hx1
    obtain ⟨b2, o2, q1, _, q2, q3⟩ := hw.at hy1
    obtain ⟨x1, x2⟩ := okE_z (hx x (List.mem_of_getElem? hx1))
    obtain ⟨y1, y2⟩ := okE_z (hy y (List.mem_of_getElem? hy1))
    have hp := plan_SE
    simp only [regOps, part, Try.f17, sub] at hp
    have hc : (decide ((x.x : Int) = y.x) && decide ((x.y : Int) = y.y)) = (decide (x.x = y.x) && decide (x.y = y.y)) := by
      rw [decide_eq_decide.2 (show ((x.x : Int) = y.x) ↔ x.x = y.x by omega), decide_eq_decide.2 (show ((x.y : Int) = y.y) ↔ x.y = y.y by omega)]
    by_cases ha : x.a = y.a
    · have hab : ((x.a : Int) == (y.a : Int)) = true := eqT (by omega)
      cases hb : (decide (x.x = y.x) && decide (x.y = y.y)) with
      | false =>
        apply Exists.intro
        left
        refine ⟨?_, ?_, by rw [eqL, eqE, hb, Bool.and_false]; rfl⟩
        rw [codeB_loop]
        simp only [bodySE, part, Try.f17, sub, symM, opFn, Nat.reduceLT, Nat.reduceBEq, g0, g5, hv.len, bin_lss, decide_eq_true (show (i : Int) < (xs.length : Nat) by omega)]
        rw [codeB_draw, draw_plan hp rfl]
        simp only [drawAll, opFn, Nat.reduceLT, Nat.reduceBEq, g0, g1, g5, p1, p2, p3, q1, q2, q3, field_E0, field_E1, bin_neq, hab, c_neq x1 x2 y1 y2, hc, hb]
        rfl
        simp only [symM]
      | true =>
        rw [show N + 30 = (N + 29) + 1 from rfl, codeB_loop]
        simp only [bodySE, part, Try.f17, sub, symM, opFn, Nat.reduceLT, Nat.reduceBEq, g0, g5, hv.len, bin_lss, decide_eq_true (show (i : Int) < (xs.length : Nat) by omega)]
        rw [codeB_draw, draw_plan hp rfl]
        simp only [drawAll, opFn, Nat.reduceLT, Nat.reduceBEq, g0, g1, g5, p1, p2, p3, q1, q2, q3, field_E0, field_E1, bin_neq, hab, c_neq x1 x2 y1 y2, hc, hb, bin_add, wadd1 (show i ≤ 400000 by omega)]
        rw [show eqL (x :: l) (y :: m) = eqL l m by rw [eqL, eqE, hb, decide_eq_true ha]; rfl]
        exact ih m (i + 1) _ (N + 29) (by rw [← List.drop_drop, hd]; rfl) (by rw [← List.drop_drop, hd2]; rfl) (by simp at hi ⊢; omega) (by simp at hN ⊢; omega) (by simp only [symM, Nat.reduceBEq, g0]) (by simp only [symM, Nat.reduceBEq, g1]) get_same
    · have hab : ((x.a : Int) == (y.a : Int)) = false := eqF (by omega)
      apply Exists.intro
      left
      refine ⟨?_, ?_, by rw [eqL, eqE, decide_eq_false ha]; rfl⟩
      rw [codeB_loop]
      simp only [bodySE, part, Try.f17, sub, symM, opFn, Nat.reduceLT, Nat.reduceBEq, g0, g5, hv.len, bin_lss, decide_eq_true (show (i : Int) < (xs.length : Nat) by omega)]
      rw [codeB_draw, draw_plan hp rfl]
      simp only [drawAll, opFn, Nat.reduceLT, Nat.reduceBEq, g0, g1, g5, p1, p2, q1, q2, field_E0, bin_neq, hab]
      rfl
      simp only [symM]
theorem SameE_S (v w : Value) (xs ys : List XV) (n0 : Nat) (h : AH) (hv : RowE n0 h v xs) (hw : RowE n0 h w ys) (hx : ∀ x ∈ xs, okE x) (hy : ∀ y ∈ ys, okE y) (hL : xs.length < 1000) :
    frameB T0 X0 call 3000 17 [v, w] h = some (.bool (eqL xs ys), h) := by
  rw [frameB_eq ft17 rfl rfl]
  by_cases hl : xs.length = ys.length
  · have hL2 := fun tm N => seLoop (call := call) v w xs ys n0 h hv hw hx hy hl hL xs ys 0 tm N rfl rfl (by simp)
    simp only [Try.f17, symM, opFn, Nat.reduceLT, Nat.reduceBEq, hv.len, hw.len, bin_neq, hl, beq_self_eq_true]
    refine bind_loopJ (b := bodySE) (Q := fun x => ∃ tm', (x = .jump .ret tm' h [] ∧ tm'.get 4 = some (.bool false) ∧ eqL xs ys = false) ∨ (x = .jump (.exit 0) tm' h [] ∧ eqL xs ys = true)) (P := fun x => endF T0 17 x = some (.bool (eqL xs ys), h)) ?_ ?_
    · exact hL2 _ _ (by omega) (by simp only [symM, Nat.reduceBEq]) (by simp only [symM, Nat.reduceBEq]) (by simp only [symM]; rfl)
    · intro x ⟨tm', hx⟩
      rcases hx with ⟨rfl, h4, h5⟩ | ⟨rfl, h4⟩
      · rw [h5]
        simp only [symM]
        exact retB_one ft17 rfl h4
      · rw [h4]
        simp only [symM]
        exact retB_one ft17 rfl get_same
  · have hne : ¬ ((xs.length : Nat) : Int) = (ys.length : Nat) := by omega
    rw [eqL_len hl]
    simp only [Try.f17, symM, opFn, Nat.reduceLT, Nat.reduceBEq, hv.len, hw.len, bin_neq, eqF hne]
    exact retB_one ft17 rfl get_same
end
end Go.Proofs.Ythpfgiabdpeiaaa.Abs
namespace Go.Proofs.Ythpfgiabdpeiaaa.Abs
open Go Go.Proofs
noncomputable section
variable {call : Abs.Callee}
set_option maxRecDepth 10000
theorem ft16 : T0.ft.get 16 = some Try.f16 := by kernel_rfl
theorem ft7 : T0.ft.get 7 = some Try.f7 := by kernel_rfl
def sameN (n m : NV) : Bool := decide (n.k = m.k) && (decide (n.f = m.f) && (decide (n.l = m.l) && (decide (n.s = m.s) && (eqA n m && (decide (n.si = m.si) && (decide (n.du = m.du) && decide (n.c = m.c)))))))
theorem Same_S (hE : ∀ (v w : Value) (xs ys : List XV) (n0 : Nat) (h : AH), RowE n0 h v xs → RowE n0 h w ys → (∀ x ∈ xs, okE x) → (∀ y ∈ ys, okE y) → xs.length < 1000 → call 29 [v, w] h = some (.bool (eqL xs ys), h))
    (n m : NV) (v w : Value) (xs ys : List XV) (n0 : Nat) (h : AH) (hv : RowE n0 h v xs) (hw : RowE n0 h w ys) (hx : ∀ x ∈ xs, okE x) (hy : ∀ y ∈ ys, okE y) (hL : xs.length < 1000) (hn : n0 ≤ h.next) :
    ∃ h', frameB T0 X0 call 3000 16 [nodeV n v, nodeV m w] h = some (.bool (sameN n m && eqL xs ys), h') ∧ Grow h.next h h' := by
  generalize hh1 : h.new (.cells (PM.ofList (nodeL n v)) (nodeL n v).length 26 0 0 .ex) = h1
  have g1 : Grow h.next h h1 := by rw [← hh1]; exact Grow.new _ _
  have hb1 : NodeB h1 h.next n v := by rw [← hh1]; exact NodeB.new _ _ _
  have l1 : h.next < h1.next := by rw [← hh1]; exact Nat.lt_succ_self _
  generalize hh2 : h1.new (.cells (PM.ofList (nodeL m w)) (nodeL m w).length 26 0 0 .ex) = h2
  have g2 : Grow h1.next h1 h2 := by rw [← hh2]; exact Grow.new _ _
  have hb2 : NodeB h2 h1.next m w := by rw [← hh2]; exact NodeB.new _ _ _
  have q := (hb1.grow g2 l1).loads
  have r := hb2.loads
  have hcall := hE v w xs ys n0 h2 ((hv.grow g1 hn).grow g2 (Nat.le_trans hn g1.next)) ((hw.grow g1 hn).grow g2 (Nat.le_trans hn g1.next)) hx hy hL
  refine ⟨h2, ?_, g1.trans g2 (g1.next)⟩
  have hbn : ∀ h, rp (some (evNewVar h 26 (nodeV n v))) = some (.value (pv h.next 0), h.new (.cells (PM.ofList (nodeL n v)) (nodeL n v).length 26 0 0 .ex)) := fun h => box_agg
  have hbm : ∀ h, rp (some (evNewVar h 26 (nodeV m w))) = some (.value (pv h.next 0), h.new (.cells (PM.ofList (nodeL m w)) (nodeL m w).length 26 0 0 .ex)) := fun h => box_agg
  rw [frameB_eq ft16 rfl rfl]
  simp only [Try.f16, symM, opFn, Nat.reduceLT, Nat.reduceBEq, symM, hbn, hbm, hh1, hh2]
  by_cases e0 : n.k = m.k
  rotate_left
  · rw [show sameN n m = false from by unfold sameN; simp [e0]]
    simp only [symM, opFn, Nat.reduceLT, Nat.reduceBEq, symM, field_N, q, r, bin_eql, eqF (a := (n.k : Int)) (b := m.k) (by omega)]
    exact retB_one ft16 rfl get_same
  by_cases e1 : n.f = m.f
  rotate_left
  · rw [show sameN n m = false from by unfold sameN; simp [e1]]
    simp only [symM, opFn, Nat.reduceLT, Nat.reduceBEq, symM, field_N, q, r, bin_eql, eqT (a := (n.k : Int)) (b := m.k) (by omega), eqF (a := (n.f : Int)) (b := m.f) (by omega)]
    exact retB_one ft16 rfl get_same
  by_cases e2 : n.l = m.l
  rotate_left
  · rw [show sameN n m = false from by unfold sameN; simp [e2]]
    simp only [symM, opFn, Nat.reduceLT, Nat.reduceBEq, symM, field_N, q, r, bin_eql, eqT (a := (n.k : Int)) (b := m.k) (by omega), eqT (a := (n.f : Int)) (b := m.f) (by omega), eqF (a := (n.l : Int)) (b := m.l) (by omega)]
    exact retB_one ft16 rfl get_same
  by_cases e3 : n.s = m.s
  rotate_left
  · rw [show sameN n m = false from by unfold sameN; simp [e3]]
    simp only [symM, opFn, Nat.reduceLT, Nat.reduceBEq, symM, field_N, q, r, bin_eql, eqT (a := (n.k : Int)) (b := m.k) (by omega), eqT (a := (n.f : Int)) (b := m.f) (by omega), eqT (a := (n.l : Int)) (b := m.l) (by omega), eqF (a := (n.s : Int)) (b := m.s) (by omega)]
    exact retB_one ft16 rfl get_same
  by_cases e4 : eqA n m = true
  rotate_left
  · rw [show sameN n m = false from by unfold sameN; simp [e4]]
    simp only [symM, opFn, Nat.reduceLT, Nat.reduceBEq, symM, field_N, q, r, bin_eql, A_eql, eqT (a := (n.k : Int)) (b := m.k) (by omega), eqT (a := (n.f : Int)) (b := m.f) (by omega), eqT (a := (n.l : Int)) (b := m.l) (by omega), eqT (a := (n.s : Int)) (b := m.s) (by omega), Bool.eq_false_iff.2 e4]
    exact retB_one ft16 rfl get_same
  by_cases e5 : n.si = m.si
  rotate_left
  · rw [show sameN n m = false from by unfold sameN; simp [e5]]
    simp only [symM, opFn, Nat.reduceLT, Nat.reduceBEq, symM, field_N, q, r, bin_eql, A_eql, eqT (a := (n.k : Int)) (b := m.k) (by omega), eqT (a := (n.f : Int)) (b := m.f) (by omega), eqT (a := (n.l : Int)) (b := m.l) (by omega), eqT (a := (n.s : Int)) (b := m.s) (by omega), e4, eqF (a := (n.si : Int)) (b := m.si) (by omega)]
    exact retB_one ft16 rfl get_same
  by_cases e6 : n.du = m.du
  rotate_left
  · rw [show sameN n m = false from by unfold sameN; simp [e6]]
    simp only [symM, opFn, Nat.reduceLT, Nat.reduceBEq, symM, field_N, q, r, bin_eql, A_eql, eqT (a := (n.k : Int)) (b := m.k) (by omega), eqT (a := (n.f : Int)) (b := m.f) (by omega), eqT (a := (n.l : Int)) (b := m.l) (by omega), eqT (a := (n.s : Int)) (b := m.s) (by omega), e4, eqT (a := (n.si : Int)) (b := m.si) (by omega), eqF (a := (n.du : Int)) (b := m.du) (by omega)]
    exact retB_one ft16 rfl get_same
  by_cases e7 : n.c = m.c
  rotate_left
  · rw [show sameN n m = false from by unfold sameN; simp [e7]]
    simp only [symM, opFn, Nat.reduceLT, Nat.reduceBEq, symM, field_N, q, r, bin_eql, A_eql, eqT (a := (n.k : Int)) (b := m.k) (by omega), eqT (a := (n.f : Int)) (b := m.f) (by omega), eqT (a := (n.l : Int)) (b := m.l) (by omega), eqT (a := (n.s : Int)) (b := m.s) (by omega), e4, eqT (a := (n.si : Int)) (b := m.si) (by omega), eqT (a := (n.du : Int)) (b := m.du) (by omega), eqF (a := (n.c : Int)) (b := m.c) (by omega)]
    exact retB_one ft16 rfl get_same
  rw [show sameN n m = true from by unfold sameN; simp [e0, e1, e2, e3, e4, e5, e6, e7]]
  simp only [symM, opFn, Nat.reduceLT, Nat.reduceBEq, symM, field_N, q, r, bin_eql, A_eql, eqT (a := (n.k : Int)) (b := m.k) (by omega), eqT (a := (n.f : Int)) (b := m.f) (by omega), eqT (a := (n.l : Int)) (b := m.l) (by omega), eqT (a := (n.s : Int)) (b := m.s) (by omega), e4, eqT (a := (n.si : Int)) (b := m.si) (by omega), eqT (a := (n.du : Int)) (b := m.du) (by omega), eqT (a := (n.c : Int)) (b := m.c) (by omega), evCall_fn ft29 rfl, hcall]
  exact retB_one ft16 rfl get_same
theorem rSame_S (hE : ∀ (v w : Value) (xs ys : List XV) (n0 : Nat) (h : AH), RowE n0 h v xs → RowE n0 h w ys → (∀ x ∈ xs, okE x) → (∀ y ∈ ys, okE y) → xs.length < 1000 → call 17 [v, w] h = some (.bool (eqL xs ys), h))
    (n m : NV) (v w : Value) (xs ys : List XV) (n0 : Nat) (h : AH) (hv : RowE n0 h v xs) (hw : RowE n0 h w ys) (hx : ∀ x ∈ xs, okE x) (hy : ∀ y ∈ ys, okE y) (hL : xs.length < 1000) (hn : n0 ≤ h.next) :
    ∃ h', frameB T0 X0 call 3000 7 [nodeV n v, nodeV m w] h = some (.bool (sameN n m && eqL xs ys), h') ∧ Grow h.next h h' := by
  generalize hh1 : h.new (.cells (PM.ofList (nodeL n v)) (nodeL n v).length 26 0 0 .ex) = h1
  have g1 : Grow h.next h h1 := by rw [← hh1]; exact Grow.new _ _
  have hb1 : NodeB h1 h.next n v := by rw [← hh1]; exact NodeB.new _ _ _
  have l1 : h.next < h1.next := by rw [← hh1]; exact Nat.lt_succ_self _
  generalize hh2 : h1.new (.cells (PM.ofList (nodeL m w)) (nodeL m w).length 26 0 0 .ex) = h2
  have g2 : Grow h1.next h1 h2 := by rw [← hh2]; exact Grow.new _ _
  have hb2 : NodeB h2 h1.next m w := by rw [← hh2]; exact NodeB.new _ _ _
  have q := (hb1.grow g2 l1).loads
  have r := hb2.loads
  have hcall := hE v w xs ys n0 h2 ((hv.grow g1 hn).grow g2 (Nat.le_trans hn g1.next)) ((hw.grow g1 hn).grow g2 (Nat.le_trans hn g1.next)) hx hy hL
  refine ⟨h2, ?_, g1.trans g2 (g1.next)⟩
  have hbn : ∀ h, rp (some (evNewVar h 26 (nodeV n v))) = some (.value (pv h.next 0), h.new (.cells (PM.ofList (nodeL n v)) (nodeL n v).length 26 0 0 .ex)) := fun h => box_agg
  have hbm : ∀ h, rp (some (evNewVar h 26 (nodeV m w))) = some (.value (pv h.next 0), h.new (.cells (PM.ofList (nodeL m w)) (nodeL m w).length 26 0 0 .ex)) := fun h => box_agg
  rw [frameB_eq ft7 rfl rfl]
  simp only [Try.f7, symM, opFn, Nat.reduceLT, Nat.reduceBEq, symM, hbn, hbm, hh1, hh2]
  by_cases e0 : n.k = m.k
  rotate_left
  · rw [show sameN n m = false from by unfold sameN; simp [e0]]
    simp only [symM, opFn, Nat.reduceLT, Nat.reduceBEq, symM, field_N, q, r, bin_eql, eqF (a := (n.k : Int)) (b := m.k) (by omega)]
    exact retB_one ft7 rfl get_same
  by_cases e1 : n.f = m.f
  rotate_left
  · rw [show sameN n m = false from by unfold sameN; simp [e1]]
    simp only [symM, opFn, Nat.reduceLT, Nat.reduceBEq, symM, field_N, q, r, bin_eql, eqT (a := (n.k : Int)) (b := m.k) (by omega), eqF (a := (n.f : Int)) (b := m.f) (by omega)]
    exact retB_one ft7 rfl get_same
  by_cases e2 : n.l = m.l
  rotate_left
  · rw [show sameN n m = false from by unfold sameN; simp [e2]]
    simp only [symM, opFn, Nat.reduceLT, Nat.reduceBEq, symM, field_N, q, r, bin_eql, eqT (a := (n.k : Int)) (b := m.k) (by omega), eqT (a := (n.f : Int)) (b := m.f) (by omega), eqF (a := (n.l : Int)) (b := m.l) (by omega)]
    exact retB_one ft7 rfl get_same
  by_cases e3 : n.s = m.s
  rotate_left
  · rw [show sameN n m = false from by unfold sameN; simp [e3]]
    simp only [symM, opFn, Nat.reduceLT, Nat.reduceBEq, symM, field_N, q, r, bin_eql, eqT (a := (n.k : Int)) (b := m.k) (by omega), eqT (a := (n.f : Int)) (b := m.f) (by omega), eqT (a := (n.l : Int)) (b := m.l) (by omega), eqF (a := (n.s : Int)) (b := m.s) (by omega)]
    exact retB_one ft7 rfl get_same
  by_cases e4 : eqA n m = true
  rotate_left
  · rw [show sameN n m = false from by unfold sameN; simp [e4]]
    simp only [symM, opFn, Nat.reduceLT, Nat.reduceBEq, symM, field_N, q, r, bin_eql, A_eql, eqT (a := (n.k : Int)) (b := m.k) (by omega), eqT (a := (n.f : Int)) (b := m.f) (by omega), eqT (a := (n.l : Int)) (b := m.l) (by omega), eqT (a := (n.s : Int)) (b := m.s) (by omega), Bool.eq_false_iff.2 e4]
    exact retB_one ft7 rfl get_same
  by_cases e5 : n.si = m.si
  rotate_left
  · rw [show sameN n m = false from by unfold sameN; simp [e5]]
    simp only [symM, opFn, Nat.reduceLT, Nat.reduceBEq, symM, field_N, q, r, bin_eql, A_eql, eqT (a := (n.k : Int)) (b := m.k) (by omega), eqT (a := (n.f : Int)) (b := m.f) (by omega), eqT (a := (n.l : Int)) (b := m.l) (by omega), eqT (a := (n.s : Int)) (b := m.s) (by omega), e4, eqF (a := (n.si : Int)) (b := m.si) (by omega)]
    exact retB_one ft7 rfl get_same
  by_cases e6 : n.du = m.du
  rotate_left
  · rw [show sameN n m = false from by unfold sameN; simp [e6]]
    simp only [symM, opFn, Nat.reduceLT, Nat.reduceBEq, symM, field_N, q, r, bin_eql, A_eql, eqT (a := (n.k : Int)) (b := m.k) (by omega), eqT (a := (n.f : Int)) (b := m.f) (by omega), eqT (a := (n.l : Int)) (b := m.l) (by omega), eqT (a := (n.s : Int)) (b := m.s) (by omega), e4, eqT (a := (n.si : Int)) (b := m.si) (by omega), eqF (a := (n.du : Int)) (b := m.du) (by omega)]
    exact retB_one ft7 rfl get_same
  by_cases e7 : n.c = m.c
  rotate_left
  · rw [show sameN n m = false from by unfold sameN; simp [e7]]
    simp only [symM, opFn, Nat.reduceLT, Nat.reduceBEq, symM, field_N, q, r, bin_eql, A_eql, eqT (a := (n.k : Int)) (b := m.k) (by omega), eqT (a := (n.f : Int)) (b := m.f) (by omega), eqT (a := (n.l : Int)) (b := m.l) (by omega), eqT (a := (n.s : Int)) (b := m.s) (by omega), e4, eqT (a := (n.si : Int)) (b := m.si) (by omega), eqT (a := (n.du : Int)) (b := m.du) (by omega), eqF (a := (n.c : Int)) (b := m.c) (by omega)]
    exact retB_one ft7 rfl get_same
  rw [show sameN n m = true from by unfold sameN; simp [e0, e1, e2, e3, e4, e5, e6, e7]]
  simp only [symM, opFn, Nat.reduceLT, Nat.reduceBEq, symM, field_N, q, r, bin_eql, A_eql, eqT (a := (n.k : Int)) (b := m.k) (by omega), eqT (a := (n.f : Int)) (b := m.f) (by omega), eqT (a := (n.l : Int)) (b := m.l) (by omega), eqT (a := (n.s : Int)) (b := m.s) (by omega), e4, eqT (a := (n.si : Int)) (b := m.si) (by omega), eqT (a := (n.du : Int)) (b := m.du) (by omega), eqT (a := (n.c : Int)) (b := m.c) (by omega), evCall_fn ft17 rfl, hcall]
  exact retB_one ft7 rfl get_same
end
end Go.Proofs.Ythpfgiabdpeiaaa.Abs
namespace Go.Proofs.Ythpfgiabdpeiaaa.Abs
open Go Go.Proofs
noncomputable section
variable {call : Abs.Callee}
set_option maxRecDepth 10000
theorem ft41 : T0.ft.get 41 = some Try.f41 := by kernel_rfl
theorem ft30 : T0.ft.get 30 = some Try.f30 := by kernel_rfl
theorem ft44 : T0.ft.get 44 = some Try.f44 := by kernel_rfl
theorem ft21 : T0.ft.get 21 = some Try.f21 := by kernel_rfl
theorem ft27 : T0.ft.get 27 = some Try.f27 := by kernel_rfl
theorem ft42 : T0.ft.get 42 = some Try.f42 := by kernel_rfl
theorem ft37 : T0.ft.get 37 = some Try.f37 := by kernel_rfl
theorem ft32 : T0.ft.get 32 = some Try.f32 := by kernel_rfl
theorem ft31 : T0.ft.get 31 = some Try.f31 := by kernel_rfl
theorem ft33 : T0.ft.get 33 = some Try.f33 := by kernel_rfl
noncomputable def bodyII : Code := part Try.f41 [1, 0, 1, 0, 0]
abbrev EIdxI : Env := ⟨41, 19, none⟩
theorem loopII (s : Value) (L : List Value) (n0 : Nat) (h : AH) (g : Nat) (cap : List Value) (fd : Func) (c : Code) (hg : T0.ft.get g = some fd) (hgb : fd.body = some c) (p : Value → Bool) (hs : Row n0 h s L 3) (hL : L.length < 1000000)
    (hp : ∀ x ∈ L, call g (x :: cap) h = some (.bool (p x), h)) :
    ∀ (l : List Value) (i : Nat) (tm : PM Value) (N : Nat), L.drop i = l → i + l.length = L.length → l.length + 20 ≤ N → tm.get 0 = some s → tm.get 1 = some (.func (.func g) #[] cap.toArray) → tm.get 7 = some (iv L.length) → tm.get 8 = some (iv i) →
      ∃ tm', (codeB T0 X0 call N EIdxI (.loop bodyII) tm h [] = .jump .ret tm' h [] ∧ tm'.get 4 = some (iv (idxF p l i))) ∨ (codeB T0 X0 call N EIdxI (.loop bodyII) tm h [] = .jump (.exit 0) tm' h [] ∧ idxF p l i = -1) := by
  intro l
  induction l with
  | nil =>
    intro i tm N hd hi hN h0 h1 h7 h8
    obtain ⟨N, rfl⟩ : ∃ a, N = a + 20 := ⟨N - 20, by simp at hN; omega⟩
    have hlt : decide ((i : Int) < (L.length : Nat)) = false := decide_eq_false (by simp at hi; omega)
    apply Exists.intro
    right
    refine ⟨?_, rfl⟩
    rw [codeB_loop]
    simp only [bodyII, part, Try.f41, sub, symM, opFn, Nat.reduceLT, h7, h8, bin_lss, hlt]
    rfl
  | cons x l ih =>
    intro i tm N hd hi hN h0 h1 h7 h8
    obtain ⟨N, rfl⟩ : ∃ a, N = a + 20 := ⟨N - 20, by simp at hN; omega⟩
    have hlt : decide ((i : Int) < (L.length : Nat)) = true := decide_eq_true (by simp at hi; omega)
    have hx : L[i]? = some x := by have := congrArg (fun l => l[0]?) hd; simpa using this
    obtain ⟨q, e1, e2⟩ := hs.at und_ints sz_int agg_int hx
    have hcall := hp x (List.mem_of_getElem? hx)
    have hw : IntKind.i64.wrap ((i : Int) + 1) = ((i + 1 : Nat) : Int) := by rw [IntWalk.i64_in _ (by simp at hi; omega)]; simp
    cases hb : p x with
    | true =>
      apply Exists.intro
      left
      apply And.intro
      · rw [codeB_loop]
        simp only [bodyII, part, Try.f41, sub, symM, opFn, Nat.reduceLT, Nat.reduceBEq, h0, h1, h7, h8, bin_lss, hlt, e1, e2, evCall_clo hg hgb, List.cons_append, List.nil_append, hcall, hb]
        rfl
      · simp only [symM, idxF, hb, cond_true]
    | false =>
      rw [show N + 20 = (N + 19) + 1 from rfl, codeB_loop]
      simp only [bodyII, part, Try.f41, sub, symM, opFn, Nat.reduceLT, Nat.reduceBEq, h0, h1, h7, h8, bin_lss, hlt, e1, e2, evCall_clo hg hgb, List.cons_append, List.nil_append, hcall, hb, bin_add, hw]
      rw [show idxF p (x :: l) i = idxF p l (i + 1) from by rw [idxF, hb]; rfl]
      exact ih (i + 1) _ (N + 19) (by rw [← List.drop_drop, hd]; rfl) (by simp at hi ⊢; omega) (by simp at hN ⊢; omega) (by simp only [symM, Nat.reduceBEq, h0]) (by simp only [symM, Nat.reduceBEq, h1]) (by simp only [symM, Nat.reduceBEq, h7]) get_same
theorem IndexI_S (s : Value) (L : List Value) (n0 : Nat) (h : AH) (g : Nat) (cap : List Value) (fd : Func) (c : Code) (hg : T0.ft.get g = some fd) (hgb : fd.body = some c) (p : Value → Bool) (hs : Row n0 h s L 3) (hL : L.length < 900)
    (hp : ∀ x ∈ L, call g (x :: cap) h = some (.bool (p x), h)) : frameB T0 X0 call 3000 41 [s, .func (.func g) #[] cap.toArray] h = some (iv (idxF p L 0), h) := by
  rw [frameB_eq ft41 rfl rfl]
  have hL2 := fun tm N => loopII s L n0 h g cap fd c hg hgb p hs (by omega) hp L 0 tm N rfl (by simp)
  simp only [Try.f41, symM, opFn, Nat.reduceLT, Nat.reduceBEq, hs.len und_ints]
  refine bind_loopJ (b := bodyII) (Q := fun x => ∃ tm', (x = .jump .ret tm' h [] ∧ tm'.get 4 = some (iv (idxF p L 0))) ∨ (x = .jump (.exit 0) tm' h [] ∧ idxF p L 0 = -1)) (P := fun x => endF T0 41 x = some (iv (idxF p L 0), h)) ?_ ?_
  · exact hL2 _ _ (by omega) (by simp only [symM, Nat.reduceBEq]) (by simp only [symM, Nat.reduceBEq]) (by simp only [symM, Nat.reduceBEq]) (by simp only [symM]; rfl)
  · intro x ⟨tm', hx⟩
    rcases hx with ⟨rfl, h4⟩ | ⟨rfl, h4⟩
    · simp only [symM]
      exact retB_one ft41 rfl h4
    · rw [h4]
      simp only [symM]
      exact retB_one ft41 rfl get_same
theorem idxF_any (p : Value → Bool) : ∀ (L : List Value) (i : Nat), decide ((0 : Int) ≤ idxF p L i) = L.any p
  | [], i => rfl
  | x :: L, i => by
    rw [idxF, List.any_cons]
    cases p x with
    | true => rw [cond_true, Bool.true_or]; exact decide_eq_true (by omega)
    | false => rw [cond_false, Bool.false_or]; exact idxF_any p L (i + 1)
theorem ContainsI_S (v f : Value) (L : List Value) (p : Value → Bool) (h : AH) (hI : call 41 [v, f] h = some (iv (idxF p L 0), h)) :
    frameB T0 X0 call 3000 30 [v, f] h = some (.bool (L.any p), h) := by
  rw [frameB_eq ft30 rfl rfl]
  simp only [Try.f30, symM, opFn, Nat.reduceLT, Nat.reduceBEq, evCall_fn ft41 rfl, hI, bin_geq, idxF_any]
  exact retB_one ft30 rfl get_same
theorem Contains_S (v f : Value) (L : List Value) (p : Value → Bool) (h : AH) (hI : call 53 [v, f] h = some (iv (idxF p L 0), h)) :
    frameB T0 X0 call 3000 44 [v, f] h = some (.bool (L.any p), h) := by
  rw [frameB_eq ft44 rfl rfl]
  simp only [Try.f44, symM, opFn, Nat.reduceLT, Nat.reduceBEq, evCall_fn ft53 rfl, hI, bin_geq, idxF_any]
  exact retB_one ft44 rfl get_same
/-- Is it a data block? -/
def dataN (n : Nat) : Bool := decide (59 ≤ n ∧ n < 480)
def namedN (n : Nat) : Bool := decide (n = 0) || dataN n
theorem Data_S (n : Nat) (h : AH) : frameB T0 X0 call 3000 42 [iv n] h = some (.bool (dataN n), h) := by
  rw [frameB_eq ft42 rfl rfl]
  unfold dataN
  by_cases h1 : 59 ≤ n
  · by_cases h2 : n < 480
    · rw [decide_eq_true (show 59 ≤ n ∧ n < 480 from ⟨h1, h2⟩)]
      simp only [Try.f42, symM, opFn, Nat.reduceLT, Nat.reduceBEq, bin_geq, bin_lss, decide_eq_true (show (59 : Int) ≤ n by omega), decide_eq_true (show (n : Int) < 480 by omega)]
      exact retB_one ft42 rfl get_same
    · rw [decide_eq_false (show ¬ (59 ≤ n ∧ n < 480) by omega)]
      simp only [Try.f42, symM, opFn, Nat.reduceLT, Nat.reduceBEq, bin_geq, bin_lss, decide_eq_true (show (59 : Int) ≤ n by omega), decide_eq_false (show ¬ (n : Int) < 480 by omega)]
      exact retB_one ft42 rfl get_same
  · rw [decide_eq_false (show ¬ (59 ≤ n ∧ n < 480) by omega)]
    simp only [Try.f42, symM, opFn, Nat.reduceLT, Nat.reduceBEq, symM, bin_geq, decide_eq_false (show ¬ (59 : Int) ≤ n by omega)]
    exact retB_one ft42 rfl get_same
theorem rData_S (n : Nat) (h : AH) : frameB T0 X0 call 3000 37 [iv n] h = some (.bool (dataN n), h) := by
  rw [frameB_eq ft37 rfl rfl]
  unfold dataN
  by_cases h1 : 59 ≤ n
  · by_cases h2 : n < 480
    · rw [decide_eq_true (show 59 ≤ n ∧ n < 480 from ⟨h1, h2⟩)]
      simp only [Try.f37, symM, opFn, Nat.reduceLT, Nat.reduceBEq, bin_geq, bin_lss, decide_eq_true (show (59 : Int) ≤ n by omega), decide_eq_true (show (n : Int) < 480 by omega)]
      exact retB_one ft37 rfl get_same
    · rw [decide_eq_false (show ¬ (59 ≤ n ∧ n < 480) by omega)]
      simp only [Try.f37, symM, opFn, Nat.reduceLT, Nat.reduceBEq, bin_geq, bin_lss, decide_eq_true (show (59 : Int) ≤ n by omega), decide_eq_false (show ¬ (n : Int) < 480 by omega)]
      exact retB_one ft37 rfl get_same
  · rw [decide_eq_false (show ¬ (59 ≤ n ∧ n < 480) by omega)]
    simp only [Try.f37, symM, opFn, Nat.reduceLT, Nat.reduceBEq, symM, bin_geq, decide_eq_false (show ¬ (59 : Int) ≤ n by omega)]
    exact retB_one ft37 rfl get_same
theorem named_S (hD : ∀ (n : Nat) (h : AH), call 42 [iv n] h = some (.bool (dataN n), h)) (n : Nat) (h : AH) : frameB T0 X0 call 3000 32 [iv n] h = some (.bool (namedN n), h) := by
  rw [frameB_eq ft32 rfl rfl]
  unfold namedN
  by_cases h1 : n = 0
  · rw [decide_eq_true h1, Bool.true_or]
    simp only [Try.f32, symM, opFn, Nat.reduceLT, Nat.reduceBEq, symM, bin_eql, eqT (show (n : Int) = 0 by omega)]
    exact retB_one ft32 rfl get_same
  · rw [decide_eq_false h1, Bool.false_or]
    simp only [Try.f32, symM, opFn, Nat.reduceLT, Nat.reduceBEq, symM, bin_eql, eqF (show ¬ (n : Int) = 0 by omega), evCall_fn ft42 rfl, hD]
    exact retB_one ft32 rfl get_same
theorem Snd1_S (hN : ∀ (n : Nat) (h : AH), call 32 [iv n] h = some (.bool (namedN n), h)) (n : Nat) (h : AH) : frameB T0 X0 call 3000 31 [iv n] h = some (.bool (!namedN n), h) := by
  rw [frameB_eq ft31 rfl rfl]
  simp only [Try.f31, symM, opFn, Nat.reduceLT, Nat.reduceBEq, symM, evCall_fn ft32 rfl, hN]
  exact retB_one ft31 rfl get_same
theorem Snd2_S (n : Nat) (h : AH) : frameB T0 X0 call 3000 33 [iv n] h = some (.bool (!decide (n = 0)), h) := by
  rw [frameB_eq ft33 rfl rfl]
  have : ((n : Int) == 0) = decide (n = 0) := by
    by_cases h1 : n = 0
    · rw [decide_eq_true h1, eqT (by omega)]
    · rw [decide_eq_false h1, eqF (by omega)]
  simp only [Try.f33, symM, opFn, Nat.reduceLT, Nat.reduceBEq, symM, bin_neq, this]
  exact retB_one ft33 rfl get_same
/-- Numbers as values. -/
def intsV (l : List Nat) : List Value := l.map fun (x : Nat) => iv x
def ptrs (n : NV) : List Nat := [n.d0, n.d1, n.d2, n.d3, n.si, n.du]
theorem append_exact {T : Tab} {sT xT e : TypeId} {i : TypeInfo} {z : Value} {s : Nat} (hs : und T sT = some (.slice e)) (hi : T.tt.get e = some i) (hz : i.zero = some z) (h1 : i.size = s) (hb : i.bytes ≤ 64)
    {n : Nat} {h : AH} {x : Value} {b o k m N : Nat} {c : PM Value} {el lo hi2 : Nat} {kd : BKind} {cs new : List Value} (hg : h.get b = some (.cells c N el lo hi2 kd)) (hcs : cs.length = k * s) (hN : o + k * s ≤ N) (hk : 0 < k) (hc : ∀ (j : Nat) (y : Value), cs[j]? = some y → c.get (o + j) = some y)
    (happ : appendedA T xT i z x h = some (m, new)) (hm : new.length = m * s) (h0 : 0 < m) (hl : k + m < 1000000) (hn : n ≤ h.next) (ty : TypeId) :
    ∃ v' h', evBuiltin T .append #[sT, xT] ty [.slice (some ⟨b, o, none⟩) k k, x] h = some (.value v', h') ∧ OwnC s n h' v' (k + m) (cs ++ new) e ∧ Grow n h h' := by
  subst h1
  have hbnd : (Nat.ble ((k + m) * i.bytes) 17592186044416 && Nat.ble (k + m) 17592186044416) = true := by
    have h2 : (k + m) * i.bytes ≤ 1000000 * 64 := Nat.mul_le_mul (by omega) hb
    rw [Nat.ble_eq_true_of_le (by omega), Nat.ble_eq_true_of_le (by omega)]
    rfl
  have hold : firstA i.size k h (.slice (some ⟨b, o, none⟩) k k) = some cs := by
    unfold firstA
    show ifB (Nat.beq k 0) (some []) (ifB (Nat.ble k k) (loadRow h b o (k * i.size)) none) = some cs
    rw [show Nat.beq k 0 = false from by cases k with | zero => omega | succ k => rfl, ifB_false, Nat.ble_eq_true_of_le (Nat.le_refl _), ifB_true, ← hcs]
    exact loadRow_of hg (by omega) hc
  refine ⟨_, _, ?_, .inr ⟨h.next, PM.ofList (cs ++ new), .loose, XB + (k + m), hn, Nat.lt_succ_self _, rfl, get_new_same _ _, by rw [List.length_append, hcs, hm, Nat.add_mul], fun i y hy => by rw [PM.get_ofList]; exact hy, .inr ⟨rfl, rfl⟩⟩, (Grow.new h _).less hn⟩
  show (match evAppend T sT xT (.slice (some ⟨b, o, none⟩) k k) x h with
      | some p => (some (Out.value p.1, p.2) : Res)
      | none => none) = _
  have hcap : capOf k = k := by unfold capOf; rw [ble_no (by rw [XB_val]; omega)]; rfl
  unfold evAppend
  simp only [hs, hi, hz, happ, appendTo, hcap]
  rw [ble_no (by omega : k < k + m), ifB_false, hbnd, ifB_true, hold]
  simp only
  rw [ble_no (by rw [XB_val]; omega : k < XB)]
  rfl
theorem und_arr4 : und T0 23 = some (.array 4 3) := by kernel_rfl
theorem slice_arr {b : Nat} {h : AH} : evSliceX T0 23 (pv b 4) none none none h = some (.slice (some ⟨b, 4, none⟩) 4 4, h) := by
  simp only [evSliceX, evSlice, und_arr4, sz_int]
  rfl
theorem all_S (n : NV) (e : Value) (h : AH) : ∃ v' h', frameB T0 X0 call 3000 27 [nodeV n e] h = some (v', h') ∧ Own h.next h' v' (intsV (ptrs n)) 3 ∧ Grow h.next h h' := by
  generalize hh1 : h.new (.cells (PM.ofList (nodeL n e)) (nodeL n e).length 26 0 0 .ex) = h1
  have g1 : Grow h.next h h1 := by rw [← hh1]; exact Grow.new _ _
  have hb1 : NodeB h1 h.next n e := by rw [← hh1]; exact NodeB.new _ _ _
  have q := hb1.loads
  have hbn : ∀ h, rp (some (evNewVar h 26 (nodeV n e))) = some (.value (pv h.next 0), h.new (.cells (PM.ofList (nodeL n e)) (nodeL n e).length 26 0 0 .ex)) := fun h => box_agg
  refine ⟨_, _, ?_, (Own.built (n := h1.next) (h := h1) (e := 3) (intsV (ptrs n)) (Nat.le_refl _)).less g1.next, g1.trans ((Grow.new _ _).less g1.next) (Nat.le_refl _)⟩
  rw [frameB_eq ft27 rfl rfl]
  simp only [Try.f27, symM, opFn, Nat.reduceLT, Nat.reduceBEq, symM, hbn, hh1, field_N, index_A, q, bsx_gen, goBSX_some, bs_int6]
  exact retB_one ft27 rfl get_same
theorem plan_ptr : planB (regOps Try.f21 [1, 0]) 11 = some ([.one 0, .one 1, .one 2, .one 3, .one 4, .one 5, .eff [6] 7 [], .one 8], []) := by kernel_rfl
theorem pointers_S (n : NV) (e : Value) (h : AH) : ∃ v' h', frameB T0 X0 call 3000 21 [nodeV n e] h = some (v', h') ∧ Own h.next h' v' (intsV (ptrs n)) 3 ∧ Grow h.next h h' := by
  generalize hh1 : h.new (.cells (PM.ofList (nodeL n e)) (nodeL n e).length 26 0 0 .ex) = h1
  have g1 : Grow h.next h h1 := by rw [← hh1]; exact Grow.new _ _
  have hb1 : NodeB h1 h.next n e := by rw [← hh1]; exact NodeB.new _ _ _
  have l1 : h.next < h1.next := by rw [← hh1]; exact Nat.lt_succ_self _
  have q := hb1.loads
  have hbn : ∀ h, rp (some (evNewVar h 26 (nodeV n e))) = some (.value (pv h.next 0), h.new (.cells (PM.ofList (nodeL n e)) (nodeL n e).length 26 0 0 .ex)) := fun h => box_agg
  generalize hh2 : h1.new (.cells (PM.ofList [iv n.si, iv n.du]) 2 3 0 0 .ex) = h2
  have g2 : Grow h1.next h1 h2 := by rw [← hh2]; exact Grow.new _ _
  have hx : OwnC 1 h1.next h2 (.slice (some ⟨h1.next, 0, none⟩) 2 2) 2 [iv n.si, iv n.du] 3 := by
    rw [← hh2]; exact (Own.built (n := h1.next) (h := h1) (e := 3) [iv n.si, iv n.du] (Nat.le_refl _)).c
  rw [← ti_int.2.1] at hx
  obtain ⟨c, c1, c2⟩ := hb1.grow g2 l1
  obtain ⟨v3, h3, e1, e2, e3⟩ := append_exact und_ints tt_int ti_int.1 ti_int.2.1 ti_int.2.2 (n := h.next) (cs := [iv n.d0, iv n.d1, iv n.d2, iv n.d3]) c1 (k := 4) (o := 4) rfl (by simp [nodeL]) (by omega) (fun j y hj => c2 (4 + j) y (by
      match j with
      | 0 | 1 | 2 | 3 => exact hj
      | j + 4 => simp at hj)) (appended_own und_ints hx) rfl (by omega) (by omega) (Nat.le_trans g1.next g2.next) 39
  refine ⟨v3, h3, ?_, by have := e2.own; exact this, (g1.trans g2 g1.next).trans e3 (Nat.le_refl _)⟩
  have hp := plan_ptr
  simp only [regOps, part, Try.f21, sub] at hp
  have hb2 : evBuildSlice T0 39 2 [(0, iv n.si), (1, iv n.du)] h1 = some (.slice (some ⟨h1.next, 0, none⟩) 2 2, h2) := by rw [← hh2]; exact bs_int2
  rw [frameB_eq ft21 rfl rfl]
  simp only [Try.f21, symM, opFn, Nat.reduceLT, symM, hbn, hh1]
  rw [codeB_draw, draw_plan hp rfl]
  simp only [drawAll, opFn, Nat.reduceBEq, ev3, evOpt, field_N, q, slice_arr]
  rw [goA_bsn (vs := [(0, iv n.si), (1, iv n.du)]) (by simp only [drawAll, Nat.reduceBEq]) hb2]
  simp only [drawAll, opFn, Nat.reduceBEq, e1]
  exact retB_one ft21 rfl get_same
end
end Go.Proofs.Ythpfgiabdpeiaaa.Abs
