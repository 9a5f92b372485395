
/- Are extents sound? The document's answer. -/
import Derived.Test.YtjdhdhmoedlfdaaGreatExts
namespace Go.Proofs.YtjdhdhmoedlfdaaGreat.Abs
open Go Go.Proofs
noncomputable section
variable {call : Abs.Callee}
set_option maxRecDepth 10000
theorem ft131 : T0.ft.get 131 = some Tryz.f131 := by kernel_rfl
def markF (prev : List XV) (k : Nat) : Bool := prev.any fun r => decide (r.x ≤ k ∧ k < r.x + r.y)
def anyF (f : Nat → Bool) (a k : Nat) : Bool := (List.range' a k).any f
theorem anyF_succ (f : Nat → Bool) (a k : Nat) : anyF f a (k + 1) = (f a || anyF f (a + 1) k) := by
  unfold anyF; rw [List.range'_succ, List.any_cons]
theorem any_mark (prev : List XV) (x : XV) (hp : ∀ r ∈ prev, runOK r.x r.y = true) (hx : runOK x.x x.y = true) : anyF (markF prev) x.x x.y = prev.any fun r => meetX r x := by
  have bx := runOK_b hx
  apply Bool.eq_iff_iff.2
  unfold anyF markF meetX
  simp only [List.any_eq_true, decide_eq_true_eq]
  constructor
  · rintro ⟨k, hk, r, hr, h1, h2⟩
    rw [List.mem_range'_1] at hk
    exact ⟨r, hr, by omega, by omega⟩
  · rintro ⟨r, hr, h1, h2⟩
    have br := runOK_b (hp r hr)
    by_cases hc : r.x ≤ x.x
    · exact ⟨x.x, by rw [List.mem_range'_1]; omega, r, hr, by omega, by omega⟩
    · exact ⟨r.x, by rw [List.mem_range'_1]; omega, r, hr, by omega, by omega⟩
noncomputable def bodyMk : Code := part Tryz.f131 [1, 1, 1, 1, 0, 1, 0, 0, 1, 0, 0, 1, 1, 0, 1, 0, 0]
noncomputable def bodyRe : Code := part Tryz.f131 [1, 1, 1, 1, 0, 1, 0, 0]
abbrev ERe : Env := ⟨131, 95, none⟩
theorem mkL (v dv : Value) (n1 en i x y : Nat) (be : Int) (hxy : x + y ≤ 480) : ∀ (k j : Nat) (f : Nat → Bool) (h : AH) (tm : PM Value) (N : Nat), j + k = x + y → k + 40 ≤ N → Own n1 h dv (boolsV f 0 480) 4 →
    tm.get 0 = some v → tm.get 3 = some dv → tm.get 4 = some (iv en) → tm.get 5 = some (iv be) → tm.get 6 = some (iv i) → tm.get 7 = some (iv x) → tm.get 8 = some (iv y) → tm.get 10 = some (iv j) →
    ∃ tm' h', ((codeB T0 X0 call N ERe (.loop bodyMk) tm h [] = .jump .ret tm' h' [] ∧ tm'.get 2 = some (.bool false) ∧ anyF f j k = true) ∨
      (codeB T0 X0 call N ERe (.loop bodyMk) tm h [] = .jump (.exit 2) tm' h' [] ∧ anyF f j k = false ∧ Own n1 h' dv (boolsV (fun m => f m || decide (j ≤ m ∧ m < j + k)) 0 480) 4 ∧
        tm'.get 0 = some v ∧ tm'.get 3 = some dv ∧ tm'.get 4 = some (iv en) ∧ tm'.get 5 = some (iv be) ∧ tm'.get 6 = some (iv i) ∧ tm'.get 7 = some (iv x) ∧ tm'.get 8 = some (iv y))) ∧ Grow n1 h h' := by
  have w1 : IntKind.i64.wrap ((x : Int) + y) = ((x + y : Nat) : Int) := wadd (by omega)
  intro k
  induction k with
  | zero =>
    intro j f h tm N hj hN ho g0 g3 g4 g5 g6 g7 g8 g10
    obtain ⟨N, rfl⟩ : ∃ a, N = a + 40 := ⟨N - 40, by omega⟩
    apply Exists.intro; apply Exists.intro
    refine ⟨.inr ⟨?_, rfl, ?_, ?_, ?_, ?_, ?_, ?_, ?_, ?_⟩, Grow.refl _ _⟩
    · rw [codeB_loop]
      simp only [bodyMk, part, Tryz.f131, sub, symM, opFn, Nat.reduceLT, Nat.reduceBEq, g7, g8, g10, bin_add, w1, bin_lss, decide_eq_false (show ¬ (j : Int) < ((x + y : Nat) : Int) by omega)]
      rfl
    · rw [boolsV_congr _ f 480 (fun m _ => by simp; omega)]; exact ho
    all_goals simp only [symM, Nat.reduceBEq, g0, g3, g4, g5, g6, g7, g8]
  | succ k ih =>
    intro j f h tm N hj hN ho g0 g3 g4 g5 g6 g7 g8 g10
    obtain ⟨N, rfl⟩ : ∃ a, N = a + 40 := ⟨N - 40, by omega⟩
    have hjl : j < 480 := by omega
    have hget := boolsV_at f hjl
    obtain ⟨p, a1, a2⟩ := ho.row.at und_bools sz_bool agg_bool hget
    have hlt := decide_eq_true (show (j : Int) < ((x + y : Nat) : Int) by omega)
    cases hf : f j with
    | true =>
      rw [hf] at a2
      apply Exists.intro; apply Exists.intro
      refine ⟨.inl ⟨?_, ?_, by rw [anyF_succ, hf]; rfl⟩, Grow.refl _ _⟩
      rw [codeB_loop]
      simp only [bodyMk, part, Tryz.f131, sub, symM, opFn, Nat.reduceLT, Nat.reduceBEq, g3, g7, g8, g10, bin_add, w1, bin_lss, hlt, a1, a2]
      rfl
      simp only [symM]
    | false =>
      rw [hf] at a2
      obtain ⟨p2, h1, b1, b2, b3, b4, b5⟩ := ho.store und_bools sz_bool (x := .bool true) rfl hget
      rw [a1] at b1
      cases b1
      rw [boolsV_set] at b3
      rw [show N + 40 = (N + 39) + 1 from rfl, codeB_loop]
      simp only [bodyMk, part, Tryz.f131, sub, symM, opFn, Nat.reduceLT, Nat.reduceBEq, g3, g7, g8, g10, bin_add, w1, bin_lss, hlt, a1, a2, b2, wadd1 (show j ≤ 400000 by omega)]
      have hE : ∀ m, m < 480 → ((fun m => (fun q => if q = j then true else f q) m || decide (j + 1 ≤ m ∧ m < j + 1 + k)) m) = ((fun m => f m || decide (j ≤ m ∧ m < j + (k + 1))) m) := by
        intro m _
        by_cases hm : m = j
        · subst hm; simp
        · simp only [if_neg hm]
          congr 1
          exact decide_eq_decide.2 (by omega)
      have hA : anyF (fun q => if q = j then true else f q) (j + 1) k = anyF f (j + 1) k := by
        unfold anyF
        apply Bool.eq_iff_iff.2
        simp only [List.any_eq_true]
        constructor
        · rintro ⟨m, hm, hq⟩
          have := List.mem_range'_1.1 hm
          rw [if_neg (by omega)] at hq
          exact ⟨m, hm, hq⟩
        · rintro ⟨m, hm, hq⟩
          have := List.mem_range'_1.1 hm
          exact ⟨m, hm, by rw [if_neg (by omega)]; exact hq⟩
      have hih := fun tm => ih (j + 1) (fun q => if q = j then true else f q) h1 tm (N + 39) (by omega) (by omega) b3
      rw [boolsV_congr _ _ 480 hE, hA] at hih
      rw [anyF_succ, hf, Bool.false_or]
      exact wrapG (hih _ (by simp only [symM, Nat.reduceBEq, g0]) (by simp only [symM, Nat.reduceBEq, g3]) (by simp only [symM, Nat.reduceBEq, g4]) (by simp only [symM, Nat.reduceBEq, g5]) (by simp only [symM, Nat.reduceBEq, g6]) (by simp only [symM, Nat.reduceBEq, g7]) (by simp only [symM, Nat.reduceBEq, g8]) get_same) b4
theorem rextLoop (hP : ∀ (x y : Nat) (h : AH), x ≤ 1048576 → y ≤ 1048576 → ∃ h', call 132 [cx x y] h = some (.tuple #[iv x, iv y, .bool (runOK x y)], h') ∧ Grow h.next h h')
    (v dv : Value) (xs : List XV) (n0 n1 : Nat) (hn01 : n0 ≤ n1) (hx : ∀ x ∈ xs, okX x) (hL : xs.length ≤ 96) :
    ∀ (l prev : List XV) (i en : Nat) (nx : Int) (tm : PM Value) (h : AH) (N : Nat), xs.drop i = l → i + l.length = xs.length → (∀ r ∈ prev, runOK r.x r.y = true) → l.length + 700 ≤ N → n1 ≤ h.next → RowE n0 h v xs → Own n1 h dv (boolsV (markF prev) 0 480) 4 →
      tm.get 0 = some v → tm.get 3 = some dv → tm.get 4 = some (iv en) → tm.get 5 = some (iv nx) → tm.get 6 = some (iv i) →
      ∃ tm' h', ((codeB T0 X0 call N ERe (.loop bodyRe) tm h [] = .jump .ret tm' h' [] ∧ tm'.get 2 = some (.bool false) ∧ extG en nx prev l = false) ∨ (codeB T0 X0 call N ERe (.loop bodyRe) tm h [] = .jump (.exit 0) tm' h' [] ∧ extG en nx prev l = true)) ∧ Grow n1 h h' := by
  intro l
  induction l with
  | nil =>
    intro prev i en nx tm h N hd hi hpr hN hn hv ho g0 g3 g4 g5 g6
    obtain ⟨N, rfl⟩ : ∃ a, N = a + 60 := ⟨N - 60, by simp at hN; omega⟩
    apply Exists.intro; apply Exists.intro
    refine ⟨.inr ⟨?_, rfl⟩, Grow.refl _ _⟩
    rw [codeB_loop]
    simp only [bodyRe, part, Tryz.f131, sub, symM, opFn, Nat.reduceLT, Nat.reduceBEq, g0, g6, hv.len, bin_lss, decide_eq_false (show ¬ (i : Int) < (xs.length : Nat) by simp at hi; omega)]
    rfl
  | cons x l ih =>
    intro prev i en nx tm h N hd hi hpr hN hn hv ho g0 g3 g4 g5 g6
    obtain ⟨N, rfl⟩ : ∃ a, N = a + 60 := ⟨N - 60, by simp at hN; omega⟩
    have hx1 : xs[i]? = some x := by have := congrArg (fun l => l[0]?) hd; simpa using this
    have hil : i < xs.length := by simp at hi; omega
    have hlt := decide_eq_true (show (i : Int) < (xs.length : Nat) by omega)
    obtain ⟨k1, k2, k3⟩ := hx x (List.mem_of_getElem? hx1)
    obtain ⟨b1, o1, p1, _, _, p4⟩ := hv.at hx1
    obtain ⟨h2, hPx, q2⟩ := hP x.x x.y h (by omega) (by omega)
    have q2' : Grow n1 h h2 := q2.less hn
    have hv2 := hv.grow q2' hn01
    obtain ⟨b2, o2, t1, _, t3, _⟩ := hv2.at hx1
    rw [p1] at t1
    cases t1
    have ho2 := ho.grow q2
    have w96 : IntKind.i64.wrap (96 - (x.y : Int)) = 96 - (x.y : Int) := wz (by omega)
    cases hrun : runOK x.x x.y with
    | false =>
      apply Exists.intro; apply Exists.intro
      refine ⟨.inl ⟨?_, ?_, by unfold extG badX; rw [hrun]; rfl⟩, q2'⟩
      rw [codeB_loop]
      simp only [bodyRe, part, Tryz.f131, sub, symM, opFn, Nat.reduceLT, Nat.reduceBEq, symM, g0, g6, hv.len, bin_lss, hlt, p1, p4, field_E1, evCall_fn ft132 rfl, hPx, hrun]
      rfl
      simp only [symM]
    | true =>
      have rb := runOK_b hrun
      by_cases c2 : x.x < 59
      · apply Exists.intro; apply Exists.intro
        refine ⟨.inl ⟨?_, ?_, by unfold extG badX; rw [hrun, decide_eq_true c2]; rfl⟩, q2'⟩
        rw [codeB_loop]
        simp only [bodyRe, part, Tryz.f131, sub, symM, opFn, Nat.reduceLT, Nat.reduceBEq, symM, g0, g6, hv.len, bin_lss, hlt, p1, p4, field_E1, evCall_fn ft132 rfl, hPx, hrun, decide_eq_true (show (x.x : Int) < 59 by omega)]
        rfl
        simp only [symM]
      have d2 := decide_eq_false (show ¬ (x.x : Int) < 59 by omega)
      by_cases c3 : x.a < en
      · apply Exists.intro; apply Exists.intro
        refine ⟨.inl ⟨?_, ?_, by unfold extG badX; rw [hrun, decide_eq_false c2, decide_eq_true c3]; rfl⟩, q2'⟩
        rw [codeB_loop]
        simp only [bodyRe, part, Tryz.f131, sub, symM, opFn, Nat.reduceLT, Nat.reduceBEq, symM, g0, g4, g6, hv.len, bin_lss, hlt, p1, p4, t3, field_E1, field_E0, evCall_fn ft132 rfl, hPx, hrun, d2, decide_eq_true (show (x.a : Int) < en by omega)]
        rfl
        simp only [symM]
      have d3 := decide_eq_false (show ¬ (x.a : Int) < en by omega)
      by_cases c5 : 96 < x.a + x.y
      · apply Exists.intro; apply Exists.intro
        refine ⟨.inl ⟨?_, ?_, by unfold extG badX; rw [hrun, decide_eq_false c2, decide_eq_false c3, decide_eq_true c5]; simp⟩, q2'⟩
        rw [codeB_loop]
        simp only [bodyRe, part, Tryz.f131, sub, symM, opFn, Nat.reduceLT, Nat.reduceBEq, symM, g0, g4, g6, hv.len, bin_lss, hlt, p1, p4, t3, field_E1, field_E0, evCall_fn ft132 rfl, hPx, hrun, bin_gtr, bin_sub, w96, d2, d3, decide_eq_true (show 96 - (x.y : Int) < x.a by omega)]
        rfl
        simp only [symM]
      have d5 := decide_eq_false (show ¬ 96 - (x.y : Int) < x.a by omega)
      by_cases c4 : x.a = en
      · have d4 := eqT (a := (x.a : Int)) (b := en) (by omega)
        by_cases c4b : (x.x : Int) = nx
        · apply Exists.intro; apply Exists.intro
          refine ⟨.inl ⟨?_, ?_, by unfold extG badX; rw [hrun, decide_eq_false c2, decide_eq_false c3, decide_eq_true c4, decide_eq_true c4b]; rfl⟩, q2'⟩
          rw [codeB_loop]
          simp only [bodyRe, part, Tryz.f131, sub, symM, opFn, Nat.reduceLT, Nat.reduceBEq, symM, g0, g4, g5, g6, hv.len, bin_lss, hlt, p1, p4, t3, field_E1, field_E0, evCall_fn ft132 rfl, hPx, hrun, bin_eql, bin_gtr, bin_sub, w96, d2, d3, d5, d4, eqT c4b]
          rfl
          simp only [symM]
        have hbad : badX en nx x = false := by
          unfold badX
          rw [hrun, decide_eq_false c2, decide_eq_false c3, decide_eq_true c4, decide_eq_false c4b, decide_eq_false c5]
          rfl
        rw [show N + 60 = (N + 59) + 1 from rfl, codeB_loop]
        simp only [bodyRe, part, Tryz.f131, sub, symM, opFn, Nat.reduceLT, Nat.reduceBEq, symM, symL, g0, g4, g5, g6, hv.len, bin_lss, hlt, p1, p4, t3, field_E1, field_E0, evCall_fn ft132 rfl, hPx, hrun, bin_eql, bin_gtr, bin_sub, w96, d2, d3, d5, d4, eqF c4b]
        generalize hX : codeB T0 X0 call _ ERe (.loop _) _ _ _ = X
        obtain ⟨t9, h9, e1, g9⟩ := use_loop (P := fun X => ∃ tm' h', ((X = .jump .ret tm' h' [] ∧ tm'.get 2 = some (.bool false) ∧ anyF (markF prev) x.x x.y = true) ∨ (X = .jump (.exit 2) tm' h' [] ∧ anyF (markF prev) x.x x.y = false ∧ Own n1 h' dv (boolsV (fun m => markF prev m || decide (x.x ≤ m ∧ m < x.x + x.y)) 0 480) 4 ∧
        tm'.get 0 = some v ∧ tm'.get 3 = some dv ∧ tm'.get 4 = some (iv en) ∧ tm'.get 5 = some (iv nx) ∧ tm'.get 6 = some (iv i) ∧ tm'.get 7 = some (iv x.x) ∧ tm'.get 8 = some (iv x.y))) ∧ Grow n1 h2 h') hX
          (mkL v dv n1 en i x.x x.y nx (by omega) x.y x.x (markF prev) h2 _ _ rfl (by simp at hN; omega) ho2 (by simp only [symM, Nat.reduceBEq, g0]) (by simp only [symM, Nat.reduceBEq, g3]) (by simp only [symM, Nat.reduceBEq, g4]) (by simp only [symM, Nat.reduceBEq, g5]) (by simp only [symM, Nat.reduceBEq, g6]) (by simp only [symM, Nat.reduceBEq]) (by simp only [symM, Nat.reduceBEq]) (by simp only [symM]))
        clear hX
        rw [any_mark prev x hpr hrun] at e1
        rcases e1 with ⟨e1, e2, e3⟩ | ⟨e1, e3, e4, r0, r3, r4, r5, r6, r7, r8⟩
        · subst e1
          refine ⟨_, h9, .inl ⟨?_, e2, by unfold extG; rw [e3, hbad]; rfl⟩, q2'.trans g9 (Nat.le_refl _)⟩
          simp only [symM, symM]
        · subst e1
          have wa : IntKind.i64.wrap ((x.a : Int) + x.y) = ((x.a + x.y : Nat) : Int) := wadd (by omega)
          have wb : IntKind.i64.wrap ((x.x : Int) + x.y) = ((x.x + x.y : Nat) : Int) := wadd (by omega)
          have g29 := q2'.trans g9 (Nat.le_refl _)
          have hv9 := hv.grow g29 hn01
          obtain ⟨b3, o3, u1, _, u3, _⟩ := hv9.at hx1
          have hmk : Own n1 h9 dv (boolsV (markF (prev ++ [x])) 0 480) 4 := by
            rw [boolsV_congr (markF (prev ++ [x])) (fun m => markF prev m || decide (x.x ≤ m ∧ m < x.x + x.y)) 480 (fun m _ => by unfold markF; rw [List.any_append]; simp)]
            exact e4
          simp only [symM, opFn, Nat.reduceLT, Nat.reduceBEq, symM, symL, r0, r6, r7, r8, u1, u3, field_E0, bin_add, wa, wb, wadd1 (show i ≤ 400000 by omega)]
          rw [show extG en nx prev (x :: l) = extG (x.a + x.y) ((x.x + x.y : Nat) : Int) (prev ++ [x]) l by rw [extG, e3, hbad]; rfl]
          exact wrapG (ih (prev ++ [x]) (i + 1) (x.a + x.y) ((x.x + x.y : Nat) : Int) _ h9 (N + 59) (by rw [← List.drop_drop, hd]; rfl) (by simp at hi ⊢; omega) (by intro r hr; rcases List.mem_append.1 hr with hr | hr; exact hpr r hr; simp at hr; subst hr; exact hrun) (by simp at hN ⊢; omega) (Nat.le_trans hn g29.next) hv9 hmk
            (by simp only [symM, Nat.reduceBEq, r0]) (by simp only [symM, Nat.reduceBEq, r3]) (by simp only [symM, Nat.reduceBEq]) (by simp only [symM, Nat.reduceBEq]) get_same) g29
      · have d4 := eqF (a := (x.a : Int)) (b := en) (by omega)
        have hbad : badX en nx x = false := by
          unfold badX
          rw [hrun, decide_eq_false c2, decide_eq_false c3, decide_eq_false c4, decide_eq_false c5]
          rfl
        rw [show N + 60 = (N + 59) + 1 from rfl, codeB_loop]
        simp only [bodyRe, part, Tryz.f131, sub, symM, opFn, Nat.reduceLT, Nat.reduceBEq, symM, symL, g0, g4, g6, hv.len, bin_lss, hlt, p1, p4, t3, field_E1, field_E0, evCall_fn ft132 rfl, hPx, hrun, bin_eql, bin_gtr, bin_sub, w96, d2, d3, d5, d4]
        generalize hX : codeB T0 X0 call _ ERe (.loop _) _ _ _ = X
        obtain ⟨t9, h9, e1, g9⟩ := use_loop (P := fun X => ∃ tm' h', ((X = .jump .ret tm' h' [] ∧ tm'.get 2 = some (.bool false) ∧ anyF (markF prev) x.x x.y = true) ∨ (X = .jump (.exit 2) tm' h' [] ∧ anyF (markF prev) x.x x.y = false ∧ Own n1 h' dv (boolsV (fun m => markF prev m || decide (x.x ≤ m ∧ m < x.x + x.y)) 0 480) 4 ∧
        tm'.get 0 = some v ∧ tm'.get 3 = some dv ∧ tm'.get 4 = some (iv en) ∧ tm'.get 5 = some (iv nx) ∧ tm'.get 6 = some (iv i) ∧ tm'.get 7 = some (iv x.x) ∧ tm'.get 8 = some (iv x.y))) ∧ Grow n1 h2 h') hX
          (mkL v dv n1 en i x.x x.y nx (by omega) x.y x.x (markF prev) h2 _ _ rfl (by simp at hN; omega) ho2 (by simp only [symM, Nat.reduceBEq, g0]) (by simp only [symM, Nat.reduceBEq, g3]) (by simp only [symM, Nat.reduceBEq, g4]) (by simp only [symM, Nat.reduceBEq, g5]) (by simp only [symM, Nat.reduceBEq, g6]) (by simp only [symM, Nat.reduceBEq]) (by simp only [symM, Nat.reduceBEq]) (by simp only [symM]))
        clear hX
        rw [any_mark prev x hpr hrun] at e1
        rcases e1 with ⟨e1, e2, e3⟩ | ⟨e1, e3, e4, r0, r3, r4, r5, r6, r7, r8⟩
        · subst e1
          refine ⟨_, h9, .inl ⟨?_, e2, by unfold extG; rw [e3, hbad]; rfl⟩, q2'.trans g9 (Nat.le_refl _)⟩
          simp only [symM, symM]
        · subst e1
          have wa : IntKind.i64.wrap ((x.a : Int) + x.y) = ((x.a + x.y : Nat) : Int) := wadd (by omega)
          have wb : IntKind.i64.wrap ((x.x : Int) + x.y) = ((x.x + x.y : Nat) : Int) := wadd (by omega)
          have g29 := q2'.trans g9 (Nat.le_refl _)
          have hv9 := hv.grow g29 hn01
          obtain ⟨b3, o3, u1, _, u3, _⟩ := hv9.at hx1
          have hmk : Own n1 h9 dv (boolsV (markF (prev ++ [x])) 0 480) 4 := by
            rw [boolsV_congr (markF (prev ++ [x])) (fun m => markF prev m || decide (x.x ≤ m ∧ m < x.x + x.y)) 480 (fun m _ => by unfold markF; rw [List.any_append]; simp)]
            exact e4
          simp only [symM, opFn, Nat.reduceLT, Nat.reduceBEq, symM, symL, r0, r6, r7, r8, u1, u3, field_E0, bin_add, wa, wb, wadd1 (show i ≤ 400000 by omega)]
          rw [show extG en nx prev (x :: l) = extG (x.a + x.y) ((x.x + x.y : Nat) : Int) (prev ++ [x]) l by rw [extG, e3, hbad]; rfl]
          exact wrapG (ih (prev ++ [x]) (i + 1) (x.a + x.y) ((x.x + x.y : Nat) : Int) _ h9 (N + 59) (by rw [← List.drop_drop, hd]; rfl) (by simp at hi ⊢; omega) (by intro r hr; rcases List.mem_append.1 hr with hr | hr; exact hpr r hr; simp at hr; subst hr; exact hrun) (by simp at hN ⊢; omega) (Nat.le_trans hn g29.next) hv9 hmk
            (by simp only [symM, Nat.reduceBEq, r0]) (by simp only [symM, Nat.reduceBEq, r3]) (by simp only [symM, Nat.reduceBEq]) (by simp only [symM, Nat.reduceBEq]) get_same) g29
theorem rExtents_S (hP : ∀ (x y : Nat) (h : AH), x ≤ 1048576 → y ≤ 1048576 → ∃ h', call 132 [cx x y] h = some (.tuple #[iv x, iv y, .bool (runOK x y)], h') ∧ Grow h.next h h')
    (v : Value) (xs : List XV) (n0 : Nat) (h : AH) (hn : n0 ≤ h.next) (hx : ∀ x ∈ xs, okX x) (hL : xs.length ≤ 96) (hv : RowE n0 h v xs) :
    ∃ h', frameB T0 X0 call 3000 131 [v] h = some (.bool (extG 0 (-1) [] xs), h') ∧ Grow h.next h h' := by
  obtain ⟨h1, m1, m2, m3⟩ := make_bools (h := h) (k := 480) (by omega)
  have m1 : evMakeSlice T0 37 (iv 480) (iv 480) h = _ := m1
  have m2 : Own h.next h1 _ (boolsV (markF []) 0 480) 4 := m2
  rw [frameB_eq ft131 rfl rfl]
  simp only [Tryz.f131, symM, opFn, Nat.reduceLT, Nat.reduceBEq, symM, symL, hv.len, bin_gtr, decide_eq_false (show ¬ (96 : Int) < (xs.length : Nat) by omega), m1]
  generalize hX : codeB T0 X0 call _ ERe (.loop _) _ _ _ = X
  obtain ⟨t1, h2, e1, g1⟩ := use_loop (P := fun X => ∃ tm' h', ((X = .jump .ret tm' h' [] ∧ tm'.get 2 = some (.bool false) ∧ extG 0 (-1) [] xs = false) ∨ (X = .jump (.exit 0) tm' h' [] ∧ extG 0 (-1) [] xs = true)) ∧ Grow h.next h1 h') hX
    (rextLoop hP v _ xs n0 h.next hn hx hL xs [] 0 0 (-1) _ h1 _ rfl (by simp) (by simp) (by omega) m3.next (hv.grow m3 hn) m2 (by simp only [symM, Nat.reduceBEq]) (by simp only [symM, Nat.reduceBEq]) (by simp only [symM, Nat.reduceBEq]; rfl) (by simp only [symM, Nat.reduceBEq]) (by simp only [symM]; rfl))
  clear hX
  refine ⟨h2, ?_, m3.trans g1 (Nat.le_refl _)⟩
  rcases e1 with ⟨e1, e2, e3⟩ | ⟨e1, e3⟩
  · subst e1
    rw [e3]
    simp only [symM, symM]
    exact retB_one ft131 rfl e2
  · subst e1
    rw [e3]
    simp only [symM, opFn, Nat.reduceLT, symM, symL]
    exact retB_one ft131 rfl get_same
end
end Go.Proofs.YtjdhdhmoedlfdaaGreat.Abs
namespace Go.Proofs.YtjdhdhmoedlfdaaGreat.Abs
open Go Go.Proofs
noncomputable section
variable {call : Abs.Callee}
set_option maxRecDepth 10000
theorem ft88 : T0.ft.get 88 = some Tryz.f88 := by kernel_rfl
def soundN (n : NV) (xs : List XV) : Bool := if n.k = 0 then sameN n NV.zero && eqL xs [] else decide ((n.k = 1 ∨ n.k = 2) ∧ 1 ≤ n.l ∧ n.l ≤ 1000 ∧ n.s ≤ 6144) &&
  (if n.f = 1 then decide (xs.length = 0 ∧ n.c = 0) && (ptrs n).all namedN else if n.f = 2 then (ptrs n).all (fun p => decide (p = 0)) && (namedN n.c && (decide (xs.length ≤ 3) && extG 0 (-1) [] xs)) else false)
theorem not_any {α : Type} (L : List α) (p : α → Bool) : (!L.any fun x => !p x) = L.all p := by rw [List.all_eq_not_any_not]
theorem Snd_S (hSm : ∀ (n : NV) (v : Value) (xs : List XV) (n0 : Nat) (h : AH), RowE n0 h v xs → (∀ x ∈ xs, okE x) → xs.length < 1000 → n0 ≤ h.next → ∃ h', call 145 [nodeV n v, nodeV NV.zero nilV] h = some (.bool (sameN n NV.zero && eqL xs []), h') ∧ Grow h.next h h')
    (hpt : ∀ (n : NV) (e : Value) (h : AH), ∃ v' h', call 139 [nodeV n e] h = some (v', h') ∧ Own h.next h' v' (intsV (ptrs n)) 3 ∧ Grow h.next h h')
    (hC1 : ∀ (v : Value) (L : List Nat) (n0 : Nat) (h : AH), Row n0 h v (intsV L) 3 → L.length < 100 → call 53 [v, .func (.func 146) #[] #[]] h = some (.bool (L.any fun p => !namedN p), h))
    (hC2 : ∀ (v : Value) (L : List Nat) (n0 : Nat) (h : AH), Row n0 h v (intsV L) 3 → L.length < 100 → call 53 [v, .func (.func 148) #[] #[]] h = some (.bool (L.any fun p => !decide (p = 0)), h))
    (hnm : ∀ (n : Nat) (h : AH), call 147 [iv n] h = some (.bool (namedN n), h))
    (hEx : ∀ (v : Value) (xs : List XV) (n0 : Nat) (h : AH), n0 ≤ h.next → (∀ x ∈ xs, okX x) → xs.length ≤ 96 → RowE n0 h v xs → ∃ h', call 120 [v] h = some (.bool (extG 0 (-1) [] xs), h') ∧ Grow h.next h h')
    (n : NV) (v : Value) (xs : List XV) (n0 : Nat) (h : AH) (hv : RowE n0 h v xs) (hx : ∀ x ∈ xs, okX x) (hL : xs.length ≤ 96) (hn : n0 ≤ h.next) :
    ∃ h', frameB T0 X0 call 3000 88 [nodeV n v] h = some (.bool (soundN n xs), h') ∧ Grow h.next h h' := by
  generalize hh1 : h.new (.cells (PM.ofList (nodeL n v)) (nodeL n v).length 48 0 0 .ex) = h1
  have g1 : Grow h.next h h1 := by rw [← hh1]; exact Grow.new _ _
  have hb1 : NodeB h1 h.next n v := by rw [← hh1]; exact NodeB.new _ _ _
  have l1 : h.next < h1.next := by rw [← hh1]; exact Nat.lt_succ_self _
  have q := hb1.loads
  have hbn : ∀ h, rp (some (evNewVar h 48 (nodeV n v))) = some (.value (pv h.next 0), h.new (.cells (PM.ofList (nodeL n v)) (nodeL n v).length 48 0 0 .ex)) := fun h => box_agg
  have hv1 := hv.grow g1 hn
  have hn1 := Nat.le_trans hn g1.next
  obtain ⟨h2, c1, c2⟩ := hSm n v xs n0 h1 hv1 (fun x hxx => (hx x hxx).e) (by omega) hn1
  obtain ⟨pv3, h3, e1, e2, e3⟩ := hpt n v h1
  have hb3 := hb1.grow e3 l1
  have r := hb3.loads
  have hv3 := hv1.grow e3 hn1
  have hc1 := hC1 pv3 (ptrs n) h3.next h3 e2.row (by simp [ptrs])
  have hc2 := hC2 pv3 (ptrs n) h3.next h3 e2.row (by simp [ptrs])
  obtain ⟨h4, x1, x2⟩ := hEx v xs n0 h3 (Nat.le_trans hn1 e3.next) hx hL hv3
  have g13 := g1.trans e3 g1.next
  have g14 := g13.trans x2 g13.next
  rw [frameB_eq ft88 rfl rfl]
  by_cases k0 : n.k = 0
  · refine ⟨h2, ?_, g1.trans c2 g1.next⟩
    rw [show soundN n xs = (sameN n NV.zero && eqL xs []) by unfold soundN; rw [if_pos k0]]
    simp only [Tryz.f88, symM, opFn, Nat.reduceLT, Nat.reduceBEq, symM, hbn, hh1, field_N, q, bin_eql, eqT (show (n.k : Int) = 0 by omega), build_N0, evCall_fn ft145 rfl, c1]
    exact retB_one ft88 rfl get_same
  have z0 := eqF (show ¬ (n.k : Int) = 0 by omega)
  by_cases kk : n.k = 1 ∨ n.k = 2
  rotate_left
  · refine ⟨h1, ?_, g1⟩
    rw [show soundN n xs = false by unfold soundN; rw [if_neg k0]; simp [kk]]
    simp only [Tryz.f88, symM, opFn, Nat.reduceLT, Nat.reduceBEq, symM, hbn, hh1, field_N, q, bin_eql, bin_neq, z0, eqF (show ¬ (n.k : Int) = 1 by omega), eqF (show ¬ (n.k : Int) = 2 by omega)]
    exact retB_one ft88 rfl get_same
  rcases kk with kk | kk
  · by_cases a1 : n.l < 1
    · refine ⟨h1, ?_, g1⟩
      rw [show soundN n xs = false by unfold soundN; rw [if_neg k0]; simp; omega]
      simp only [Tryz.f88, symM, opFn, Nat.reduceLT, Nat.reduceBEq, symM, hbn, hh1, field_N, q, bin_eql, bin_neq, bin_lss, z0, eqT (show (n.k : Int) = 1 by omega), decide_eq_true (show (n.l : Int) < 1 by omega)]
      exact retB_one ft88 rfl get_same
    by_cases a2 : 1000 < n.l
    · refine ⟨h1, ?_, g1⟩
      rw [show soundN n xs = false by unfold soundN; rw [if_neg k0]; simp; omega]
      simp only [Tryz.f88, symM, opFn, Nat.reduceLT, Nat.reduceBEq, symM, hbn, hh1, field_N, q, bin_eql, bin_neq, bin_lss, bin_gtr, z0, eqT (show (n.k : Int) = 1 by omega), decide_eq_false (show ¬ (n.l : Int) < 1 by omega), decide_eq_true (show (1000 : Int) < n.l by omega)]
      exact retB_one ft88 rfl get_same
    by_cases a3 : 6144 < n.s
    · refine ⟨h1, ?_, g1⟩
      rw [show soundN n xs = false by unfold soundN; rw [if_neg k0]; simp; omega]
      simp only [Tryz.f88, symM, opFn, Nat.reduceLT, Nat.reduceBEq, symM, hbn, hh1, field_N, q, bin_eql, bin_neq, bin_lss, bin_gtr, z0, eqT (show (n.k : Int) = 1 by omega), decide_eq_false (show ¬ (n.l : Int) < 1 by omega), decide_eq_false (show ¬ (1000 : Int) < n.l by omega), decide_eq_false (show ¬ (n.s : Int) < 0 by omega), decide_eq_true (show (6144 : Int) < n.s by omega)]
      exact retB_one ft88 rfl get_same
    have hd : decide ((n.k = 1 ∨ n.k = 2) ∧ 1 ≤ n.l ∧ n.l ≤ 1000 ∧ n.s ≤ 6144) = true := decide_eq_true (by omega)
    by_cases f1 : n.f = 1
    · by_cases b1 : xs.length = 0
      rotate_left
      · refine ⟨h1, ?_, g1⟩
        rw [show soundN n xs = false by unfold soundN; rw [if_neg k0]; rw [hd, if_pos f1]; simp [b1]]
        simp only [Tryz.f88, symM, opFn, Nat.reduceLT, Nat.reduceBEq, symM, hbn, hh1, field_N, q, bin_eql, bin_neq, bin_lss, bin_gtr, z0, eqT (show (n.k : Int) = 1 by omega), decide_eq_false (show ¬ (n.l : Int) < 1 by omega), decide_eq_false (show ¬ (1000 : Int) < n.l by omega), decide_eq_false (show ¬ (n.s : Int) < 0 by omega), decide_eq_false (show ¬ (6144 : Int) < n.s by omega), eqT (show (n.f : Int) = 1 by omega), hv1.len, eqF (show ¬ ((xs.length : Nat) : Int) = 0 by omega)]
        exact retB_one ft88 rfl get_same
      by_cases b2 : n.c = 0
      rotate_left
      · refine ⟨h1, ?_, g1⟩
        rw [show soundN n xs = false by unfold soundN; rw [if_neg k0]; rw [hd, if_pos f1]; simp [b2]]
        simp only [Tryz.f88, symM, opFn, Nat.reduceLT, Nat.reduceBEq, symM, hbn, hh1, field_N, q, bin_eql, bin_neq, bin_lss, bin_gtr, z0, eqT (show (n.k : Int) = 1 by omega), decide_eq_false (show ¬ (n.l : Int) < 1 by omega), decide_eq_false (show ¬ (1000 : Int) < n.l by omega), decide_eq_false (show ¬ (n.s : Int) < 0 by omega), decide_eq_false (show ¬ (6144 : Int) < n.s by omega), eqT (show (n.f : Int) = 1 by omega), hv1.len, eqT (show ((xs.length : Nat) : Int) = 0 by omega), eqF (show ¬ (n.c : Int) = 0 by omega)]
        exact retB_one ft88 rfl get_same
      refine ⟨h3, ?_, g13⟩
      rw [show soundN n xs = ((ptrs n).all namedN) by unfold soundN; rw [if_neg k0]; rw [hd, if_pos f1, decide_eq_true (And.intro b1 b2)]; rfl]
      simp only [Tryz.f88, symM, opFn, Nat.reduceLT, Nat.reduceBEq, symM, hbn, hh1, field_N, q, bin_eql, bin_neq, bin_lss, bin_gtr, z0, eqT (show (n.k : Int) = 1 by omega), decide_eq_false (show ¬ (n.l : Int) < 1 by omega), decide_eq_false (show ¬ (1000 : Int) < n.l by omega), decide_eq_false (show ¬ (n.s : Int) < 0 by omega), decide_eq_false (show ¬ (6144 : Int) < n.s by omega), eqT (show (n.f : Int) = 1 by omega), hv1.len, eqT (show ((xs.length : Nat) : Int) = 0 by omega), eqT (show (n.c : Int) = 0 by omega), evCall_fn ft139 rfl, e1, evCall_fn ft53 rfl, hc1, not_any]
      exact retB_one ft88 rfl get_same
    by_cases f2 : n.f = 2
    rotate_left
    · refine ⟨h1, ?_, g1⟩
      rw [show soundN n xs = false by unfold soundN; rw [if_neg k0]; rw [if_neg f1, if_neg f2, Bool.and_false]]
      simp only [Tryz.f88, symM, opFn, Nat.reduceLT, Nat.reduceBEq, symM, hbn, hh1, field_N, q, bin_eql, bin_neq, bin_lss, bin_gtr, z0, eqT (show (n.k : Int) = 1 by omega), decide_eq_false (show ¬ (n.l : Int) < 1 by omega), decide_eq_false (show ¬ (1000 : Int) < n.l by omega), decide_eq_false (show ¬ (n.s : Int) < 0 by omega), decide_eq_false (show ¬ (6144 : Int) < n.s by omega), eqF (show ¬ (n.f : Int) = 1 by omega), eqF (show ¬ (n.f : Int) = 2 by omega)]
      exact retB_one ft88 rfl get_same
    cases b1 : (ptrs n).all fun p => decide (p = 0) with
    | false =>
      refine ⟨h3, ?_, g13⟩
      rw [show soundN n xs = false by unfold soundN; rw [if_neg k0]; rw [hd, if_neg f1, if_pos f2]; rw [b1]; rfl]
      simp only [Tryz.f88, symM, opFn, Nat.reduceLT, Nat.reduceBEq, symM, hbn, hh1, field_N, q, bin_eql, bin_neq, bin_lss, bin_gtr, z0, eqT (show (n.k : Int) = 1 by omega), decide_eq_false (show ¬ (n.l : Int) < 1 by omega), decide_eq_false (show ¬ (1000 : Int) < n.l by omega), decide_eq_false (show ¬ (n.s : Int) < 0 by omega), decide_eq_false (show ¬ (6144 : Int) < n.s by omega), eqF (show ¬ (n.f : Int) = 1 by omega), eqT (show (n.f : Int) = 2 by omega), evCall_fn ft139 rfl, e1, evCall_fn ft53 rfl, hc2, not_any, b1]
      exact retB_one ft88 rfl get_same
    | true =>
      cases b2 : namedN n.c with
      | false =>
        refine ⟨h3, ?_, g13⟩
        rw [show soundN n xs = false by unfold soundN; rw [if_neg k0]; rw [hd, if_neg f1, if_pos f2]; rw [b1, b2]; rfl]
        simp only [Tryz.f88, symM, opFn, Nat.reduceLT, Nat.reduceBEq, symM, hbn, hh1, field_N, q, r, bin_eql, bin_neq, bin_lss, bin_gtr, z0, eqT (show (n.k : Int) = 1 by omega), decide_eq_false (show ¬ (n.l : Int) < 1 by omega), decide_eq_false (show ¬ (1000 : Int) < n.l by omega), decide_eq_false (show ¬ (n.s : Int) < 0 by omega), decide_eq_false (show ¬ (6144 : Int) < n.s by omega), eqF (show ¬ (n.f : Int) = 1 by omega), eqT (show (n.f : Int) = 2 by omega), evCall_fn ft139 rfl, e1, evCall_fn ft53 rfl, hc2, not_any, b1, evCall_fn ft147 rfl, hnm, b2]
        exact retB_one ft88 rfl get_same
      | true =>
        by_cases b3 : xs.length ≤ 3
        rotate_left
        · refine ⟨h3, ?_, g13⟩
          rw [show soundN n xs = false by unfold soundN; rw [if_neg k0]; rw [hd, if_neg f1, if_pos f2]; rw [b1, b2, decide_eq_false b3]; rfl]
          simp only [Tryz.f88, symM, opFn, Nat.reduceLT, Nat.reduceBEq, symM, hbn, hh1, field_N, q, r, bin_eql, bin_neq, bin_lss, bin_gtr, bin_leq, z0, eqT (show (n.k : Int) = 1 by omega), decide_eq_false (show ¬ (n.l : Int) < 1 by omega), decide_eq_false (show ¬ (1000 : Int) < n.l by omega), decide_eq_false (show ¬ (n.s : Int) < 0 by omega), decide_eq_false (show ¬ (6144 : Int) < n.s by omega), eqF (show ¬ (n.f : Int) = 1 by omega), eqT (show (n.f : Int) = 2 by omega), evCall_fn ft139 rfl, e1, evCall_fn ft53 rfl, hc2, not_any, b1, evCall_fn ft147 rfl, hnm, b2, hv3.len, decide_eq_false (show ¬ ((xs.length : Nat) : Int) ≤ 3 by omega)]
          exact retB_one ft88 rfl get_same
        refine ⟨h4, ?_, g14⟩
        rw [show soundN n xs = extG 0 (-1) [] xs by unfold soundN; rw [if_neg k0]; rw [hd, if_neg f1, if_pos f2]; rw [b1, b2, decide_eq_true b3]; rfl]
        simp only [Tryz.f88, symM, opFn, Nat.reduceLT, Nat.reduceBEq, symM, hbn, hh1, field_N, q, r, bin_eql, bin_neq, bin_lss, bin_gtr, bin_leq, z0, eqT (show (n.k : Int) = 1 by omega), decide_eq_false (show ¬ (n.l : Int) < 1 by omega), decide_eq_false (show ¬ (1000 : Int) < n.l by omega), decide_eq_false (show ¬ (n.s : Int) < 0 by omega), decide_eq_false (show ¬ (6144 : Int) < n.s by omega), eqF (show ¬ (n.f : Int) = 1 by omega), eqT (show (n.f : Int) = 2 by omega), evCall_fn ft139 rfl, e1, evCall_fn ft53 rfl, hc2, not_any, b1, evCall_fn ft147 rfl, hnm, b2, hv3.len, decide_eq_true (show ((xs.length : Nat) : Int) ≤ 3 by omega), evCall_fn ft120 rfl, x1]
        exact retB_one ft88 rfl get_same
  · by_cases a1 : n.l < 1
    · refine ⟨h1, ?_, g1⟩
      rw [show soundN n xs = false by unfold soundN; rw [if_neg k0]; simp; omega]
      simp only [Tryz.f88, symM, opFn, Nat.reduceLT, Nat.reduceBEq, symM, hbn, hh1, field_N, q, bin_eql, bin_neq, bin_lss, z0, eqF (show ¬ (n.k : Int) = 1 by omega), eqT (show (n.k : Int) = 2 by omega), decide_eq_true (show (n.l : Int) < 1 by omega)]
      exact retB_one ft88 rfl get_same
    by_cases a2 : 1000 < n.l
    · refine ⟨h1, ?_, g1⟩
      rw [show soundN n xs = false by unfold soundN; rw [if_neg k0]; simp; omega]
      simp only [Tryz.f88, symM, opFn, Nat.reduceLT, Nat.reduceBEq, symM, hbn, hh1, field_N, q, bin_eql, bin_neq, bin_lss, bin_gtr, z0, eqF (show ¬ (n.k : Int) = 1 by omega), eqT (show (n.k : Int) = 2 by omega), decide_eq_false (show ¬ (n.l : Int) < 1 by omega), decide_eq_true (show (1000 : Int) < n.l by omega)]
      exact retB_one ft88 rfl get_same
    by_cases a3 : 6144 < n.s
    · refine ⟨h1, ?_, g1⟩
      rw [show soundN n xs = false by unfold soundN; rw [if_neg k0]; simp; omega]
      simp only [Tryz.f88, symM, opFn, Nat.reduceLT, Nat.reduceBEq, symM, hbn, hh1, field_N, q, bin_eql, bin_neq, bin_lss, bin_gtr, z0, eqF (show ¬ (n.k : Int) = 1 by omega), eqT (show (n.k : Int) = 2 by omega), decide_eq_false (show ¬ (n.l : Int) < 1 by omega), decide_eq_false (show ¬ (1000 : Int) < n.l by omega), decide_eq_false (show ¬ (n.s : Int) < 0 by omega), decide_eq_true (show (6144 : Int) < n.s by omega)]
      exact retB_one ft88 rfl get_same
    have hd : decide ((n.k = 1 ∨ n.k = 2) ∧ 1 ≤ n.l ∧ n.l ≤ 1000 ∧ n.s ≤ 6144) = true := decide_eq_true (by omega)
    by_cases f1 : n.f = 1
    · by_cases b1 : xs.length = 0
      rotate_left
      · refine ⟨h1, ?_, g1⟩
        rw [show soundN n xs = false by unfold soundN; rw [if_neg k0]; rw [hd, if_pos f1]; simp [b1]]
        simp only [Tryz.f88, symM, opFn, Nat.reduceLT, Nat.reduceBEq, symM, hbn, hh1, field_N, q, bin_eql, bin_neq, bin_lss, bin_gtr, z0, eqF (show ¬ (n.k : Int) = 1 by omega), eqT (show (n.k : Int) = 2 by omega), decide_eq_false (show ¬ (n.l : Int) < 1 by omega), decide_eq_false (show ¬ (1000 : Int) < n.l by omega), decide_eq_false (show ¬ (n.s : Int) < 0 by omega), decide_eq_false (show ¬ (6144 : Int) < n.s by omega), eqT (show (n.f : Int) = 1 by omega), hv1.len, eqF (show ¬ ((xs.length : Nat) : Int) = 0 by omega)]
        exact retB_one ft88 rfl get_same
      by_cases b2 : n.c = 0
      rotate_left
      · refine ⟨h1, ?_, g1⟩
        rw [show soundN n xs = false by unfold soundN; rw [if_neg k0]; rw [hd, if_pos f1]; simp [b2]]
        simp only [Tryz.f88, symM, opFn, Nat.reduceLT, Nat.reduceBEq, symM, hbn, hh1, field_N, q, bin_eql, bin_neq, bin_lss, bin_gtr, z0, eqF (show ¬ (n.k : Int) = 1 by omega), eqT (show (n.k : Int) = 2 by omega), decide_eq_false (show ¬ (n.l : Int) < 1 by omega), decide_eq_false (show ¬ (1000 : Int) < n.l by omega), decide_eq_false (show ¬ (n.s : Int) < 0 by omega), decide_eq_false (show ¬ (6144 : Int) < n.s by omega), eqT (show (n.f : Int) = 1 by omega), hv1.len, eqT (show ((xs.length : Nat) : Int) = 0 by omega), eqF (show ¬ (n.c : Int) = 0 by omega)]
        exact retB_one ft88 rfl get_same
      refine ⟨h3, ?_, g13⟩
      rw [show soundN n xs = ((ptrs n).all namedN) by unfold soundN; rw [if_neg k0]; rw [hd, if_pos f1, decide_eq_true (And.intro b1 b2)]; rfl]
      simp only [Tryz.f88, symM, opFn, Nat.reduceLT, Nat.reduceBEq, symM, hbn, hh1, field_N, q, bin_eql, bin_neq, bin_lss, bin_gtr, z0, eqF (show ¬ (n.k : Int) = 1 by omega), eqT (show (n.k : Int) = 2 by omega), decide_eq_false (show ¬ (n.l : Int) < 1 by omega), decide_eq_false (show ¬ (1000 : Int) < n.l by omega), decide_eq_false (show ¬ (n.s : Int) < 0 by omega), decide_eq_false (show ¬ (6144 : Int) < n.s by omega), eqT (show (n.f : Int) = 1 by omega), hv1.len, eqT (show ((xs.length : Nat) : Int) = 0 by omega), eqT (show (n.c : Int) = 0 by omega), evCall_fn ft139 rfl, e1, evCall_fn ft53 rfl, hc1, not_any]
      exact retB_one ft88 rfl get_same
    by_cases f2 : n.f = 2
    rotate_left
    · refine ⟨h1, ?_, g1⟩
      rw [show soundN n xs = false by unfold soundN; rw [if_neg k0]; rw [if_neg f1, if_neg f2, Bool.and_false]]
      simp only [Tryz.f88, symM, opFn, Nat.reduceLT, Nat.reduceBEq, symM, hbn, hh1, field_N, q, bin_eql, bin_neq, bin_lss, bin_gtr, z0, eqF (show ¬ (n.k : Int) = 1 by omega), eqT (show (n.k : Int) = 2 by omega), decide_eq_false (show ¬ (n.l : Int) < 1 by omega), decide_eq_false (show ¬ (1000 : Int) < n.l by omega), decide_eq_false (show ¬ (n.s : Int) < 0 by omega), decide_eq_false (show ¬ (6144 : Int) < n.s by omega), eqF (show ¬ (n.f : Int) = 1 by omega), eqF (show ¬ (n.f : Int) = 2 by omega)]
      exact retB_one ft88 rfl get_same
    cases b1 : (ptrs n).all fun p => decide (p = 0) with
    | false =>
      refine ⟨h3, ?_, g13⟩
      rw [show soundN n xs = false by unfold soundN; rw [if_neg k0]; rw [hd, if_neg f1, if_pos f2]; rw [b1]; rfl]
      simp only [Tryz.f88, symM, opFn, Nat.reduceLT, Nat.reduceBEq, symM, hbn, hh1, field_N, q, bin_eql, bin_neq, bin_lss, bin_gtr, z0, eqF (show ¬ (n.k : Int) = 1 by omega), eqT (show (n.k : Int) = 2 by omega), decide_eq_false (show ¬ (n.l : Int) < 1 by omega), decide_eq_false (show ¬ (1000 : Int) < n.l by omega), decide_eq_false (show ¬ (n.s : Int) < 0 by omega), decide_eq_false (show ¬ (6144 : Int) < n.s by omega), eqF (show ¬ (n.f : Int) = 1 by omega), eqT (show (n.f : Int) = 2 by omega), evCall_fn ft139 rfl, e1, evCall_fn ft53 rfl, hc2, not_any, b1]
      exact retB_one ft88 rfl get_same
    | true =>
      cases b2 : namedN n.c with
      | false =>
        refine ⟨h3, ?_, g13⟩
        rw [show soundN n xs = false by unfold soundN; rw [if_neg k0]; rw [hd, if_neg f1, if_pos f2]; rw [b1, b2]; rfl]
        simp only [Tryz.f88, symM, opFn, Nat.reduceLT, Nat.reduceBEq, symM, hbn, hh1, field_N, q, r, bin_eql, bin_neq, bin_lss, bin_gtr, z0, eqF (show ¬ (n.k : Int) = 1 by omega), eqT (show (n.k : Int) = 2 by omega), decide_eq_false (show ¬ (n.l : Int) < 1 by omega), decide_eq_false (show ¬ (1000 : Int) < n.l by omega), decide_eq_false (show ¬ (n.s : Int) < 0 by omega), decide_eq_false (show ¬ (6144 : Int) < n.s by omega), eqF (show ¬ (n.f : Int) = 1 by omega), eqT (show (n.f : Int) = 2 by omega), evCall_fn ft139 rfl, e1, evCall_fn ft53 rfl, hc2, not_any, b1, evCall_fn ft147 rfl, hnm, b2]
        exact retB_one ft88 rfl get_same
      | true =>
        by_cases b3 : xs.length ≤ 3
        rotate_left
        · refine ⟨h3, ?_, g13⟩
          rw [show soundN n xs = false by unfold soundN; rw [if_neg k0]; rw [hd, if_neg f1, if_pos f2]; rw [b1, b2, decide_eq_false b3]; rfl]
          simp only [Tryz.f88, symM, opFn, Nat.reduceLT, Nat.reduceBEq, symM, hbn, hh1, field_N, q, r, bin_eql, bin_neq, bin_lss, bin_gtr, bin_leq, z0, eqF (show ¬ (n.k : Int) = 1 by omega), eqT (show (n.k : Int) = 2 by omega), decide_eq_false (show ¬ (n.l : Int) < 1 by omega), decide_eq_false (show ¬ (1000 : Int) < n.l by omega), decide_eq_false (show ¬ (n.s : Int) < 0 by omega), decide_eq_false (show ¬ (6144 : Int) < n.s by omega), eqF (show ¬ (n.f : Int) = 1 by omega), eqT (show (n.f : Int) = 2 by omega), evCall_fn ft139 rfl, e1, evCall_fn ft53 rfl, hc2, not_any, b1, evCall_fn ft147 rfl, hnm, b2, hv3.len, decide_eq_false (show ¬ ((xs.length : Nat) : Int) ≤ 3 by omega)]
          exact retB_one ft88 rfl get_same
        refine ⟨h4, ?_, g14⟩
        rw [show soundN n xs = extG 0 (-1) [] xs by unfold soundN; rw [if_neg k0]; rw [hd, if_neg f1, if_pos f2]; rw [b1, b2, decide_eq_true b3]; rfl]
        simp only [Tryz.f88, symM, opFn, Nat.reduceLT, Nat.reduceBEq, symM, hbn, hh1, field_N, q, r, bin_eql, bin_neq, bin_lss, bin_gtr, bin_leq, z0, eqF (show ¬ (n.k : Int) = 1 by omega), eqT (show (n.k : Int) = 2 by omega), decide_eq_false (show ¬ (n.l : Int) < 1 by omega), decide_eq_false (show ¬ (1000 : Int) < n.l by omega), decide_eq_false (show ¬ (n.s : Int) < 0 by omega), decide_eq_false (show ¬ (6144 : Int) < n.s by omega), eqF (show ¬ (n.f : Int) = 1 by omega), eqT (show (n.f : Int) = 2 by omega), evCall_fn ft139 rfl, e1, evCall_fn ft53 rfl, hc2, not_any, b1, evCall_fn ft147 rfl, hnm, b2, hv3.len, decide_eq_true (show ((xs.length : Nat) : Int) ≤ 3 by omega), evCall_fn ft120 rfl, x1]
        exact retB_one ft88 rfl get_same
end
end Go.Proofs.YtjdhdhmoedlfdaaGreat.Abs
namespace Go.Proofs.YtjdhdhmoedlfdaaGreat.Abs
open Go Go.Proofs
noncomputable section
variable {call : Abs.Callee}
set_option maxRecDepth 10000
theorem ft142 : T0.ft.get 142 = some Tryz.f142 := by kernel_rfl
def okp (f p : Nat) : Bool := decide (p = 0) || (!decide (f = 2) && dataN p)
noncomputable def bodyRs : Code := part Tryz.f142 [1, 1, 1, 1, 0, 1, 0, 0]
abbrev ERs : Env := ⟨142, 104, none⟩
theorem rsLoop (hD : ∀ (n : Nat) (h : AH), call 172 [iv n] h = some (.bool (dataN n), h)) (n : NV) (v w : Value) (b : Nat) (L : List Nat) (n0 : Nat) (h : AH) (hv : Row n0 h v (intsV L) 3) (hb : NodeB h b n w) (hL : L.length = 6) :
    ∀ (l : List Nat) (i : Nat) (tm : PM Value) (N : Nat), L.drop i = l → i + l.length = L.length → l.length + 60 ≤ N → tm.get 1 = some (pv b 0) → tm.get 3 = some v → tm.get 4 = some (iv i) →
      ∃ tm', (codeB T0 X0 call N ERs (.loop bodyRs) tm h [] = .jump .ret tm' h [] ∧ tm'.get 2 = some (.bool false) ∧ l.all (okp n.f) = false) ∨ (codeB T0 X0 call N ERs (.loop bodyRs) tm h [] = .jump (.exit 0) tm' h [] ∧ l.all (okp n.f) = true ∧ tm'.get 1 = some (pv b 0)) := by
  have q := hb.loads
  intro l
  induction l with
  | nil =>
    intro i tm N hd hi hN g1 g3 g4
    obtain ⟨N, rfl⟩ : ∃ a, N = a + 60 := ⟨N - 60, by simp at hN; omega⟩
    apply Exists.intro
    refine .inr ⟨?_, rfl, ?_⟩
    · rw [codeB_loop]
      simp only [bodyRs, part, Tryz.f142, sub, symM, opFn, Nat.reduceLT, g4, bin_lss, decide_eq_false (show ¬ (i : Int) < 6 by simp at hi; omega)]
      rfl
    · simp only [symM, Nat.reduceBEq, g1]
  | cons x l ih =>
    intro i tm N hd hi hN g1 g3 g4
    obtain ⟨N, rfl⟩ : ∃ a, N = a + 60 := ⟨N - 60, by simp at hN; omega⟩
    have hx1 : L[i]? = some x := by have := congrArg (fun l => l[0]?) hd; simpa using this
    have hlt := decide_eq_true (show (i : Int) < 6 by simp at hi; omega)
    obtain ⟨p, a1, a2⟩ := hv.at und_ints sz_int agg_int (i := i) (x := iv x) (by simp [intsV, hx1])
    by_cases p0 : x = 0
    · have hk : okp n.f x = true := by unfold okp; rw [decide_eq_true p0]; rfl
      rw [show N + 60 = (N + 59) + 1 from rfl, codeB_loop]
      simp only [bodyRs, part, Tryz.f142, sub, symM, opFn, Nat.reduceLT, Nat.reduceBEq, symM, g3, g4, bin_lss, hlt, a1, a2, bin_neq, eqT (show (x : Int) = 0 by omega), bin_add, wadd1 (show i ≤ 400000 by simp at hi; omega)]
      rw [List.all_cons, hk, Bool.true_and]
      exact ih (i + 1) _ (N + 59) (by rw [← List.drop_drop, hd]; rfl) (by simp at hi ⊢; omega) (by simp at hN ⊢; omega) (by simp only [symM, Nat.reduceBEq, g1]) (by simp only [symM, Nat.reduceBEq, g3]) get_same
    · have e0 := eqF (show ¬ (x : Int) = 0 by omega)
      by_cases f2 : n.f = 2
      · have hk : okp n.f x = false := by unfold okp; rw [decide_eq_false p0, decide_eq_true f2]; rfl
        apply Exists.intro
        refine .inl ⟨?_, ?_, by rw [List.all_cons, hk]; rfl⟩
        rw [codeB_loop]
        simp only [bodyRs, part, Tryz.f142, sub, symM, opFn, Nat.reduceLT, Nat.reduceBEq, symM, g1, g3, g4, bin_lss, hlt, a1, a2, bin_neq, e0, field_N, q, bin_eql, eqT (show (n.f : Int) = 2 by omega)]
        rfl
        simp only [symM]
      · cases hdx : dataN x with
        | false =>
          have hk : okp n.f x = false := by unfold okp; rw [decide_eq_false p0, hdx, Bool.and_false]; rfl
          apply Exists.intro
          refine .inl ⟨?_, ?_, by rw [List.all_cons, hk]; rfl⟩
          rw [codeB_loop]
          simp only [bodyRs, part, Tryz.f142, sub, symM, opFn, Nat.reduceLT, Nat.reduceBEq, symM, g1, g3, g4, bin_lss, hlt, a1, a2, bin_neq, e0, field_N, q, bin_eql, eqF (show ¬ (n.f : Int) = 2 by omega), evCall_fn ft172 rfl, hD, hdx]
          rfl
          simp only [symM]
        | true =>
          have hk : okp n.f x = true := by unfold okp; rw [decide_eq_false f2, hdx]; simp
          rw [show N + 60 = (N + 59) + 1 from rfl, codeB_loop]
          simp only [bodyRs, part, Tryz.f142, sub, symM, opFn, Nat.reduceLT, Nat.reduceBEq, symM, g1, g3, g4, bin_lss, hlt, a1, a2, bin_neq, e0, field_N, q, bin_eql, eqF (show ¬ (n.f : Int) = 2 by omega), evCall_fn ft172 rfl, hD, hdx, bin_add, wadd1 (show i ≤ 400000 by simp at hi; omega)]
          rw [List.all_cons, hk, Bool.true_and]
          exact ih (i + 1) _ (N + 59) (by rw [← List.drop_drop, hd]; rfl) (by simp at hi ⊢; omega) (by simp at hN ⊢; omega) (by simp only [symM, Nat.reduceBEq, g1]) (by simp only [symM, Nat.reduceBEq, g3]) get_same
theorem rSnd_S (hSm : ∀ (n : NV) (v : Value) (xs : List XV) (n0 : Nat) (h : AH), RowE n0 h v xs → (∀ x ∈ xs, okE x) → xs.length < 1000 → n0 ≤ h.next → ∃ h', call 18 [nodeV n v, nodeV NV.zero nilV] h = some (.bool (sameN n NV.zero && eqL xs []), h') ∧ Grow h.next h h')
    (hpt : ∀ (n : NV) (e : Value) (h : AH), ∃ v' h', call 144 [nodeV n e] h = some (v', h') ∧ Own h.next h' v' (intsV (ptrs n)) 3 ∧ Grow h.next h h')
    (hD : ∀ (n : Nat) (h : AH), call 172 [iv n] h = some (.bool (dataN n), h))
    (hEx : ∀ (v : Value) (xs : List XV) (n0 : Nat) (h : AH), n0 ≤ h.next → (∀ x ∈ xs, okX x) → xs.length ≤ 96 → RowE n0 h v xs → ∃ h', call 131 [v] h = some (.bool (extG 0 (-1) [] xs), h') ∧ Grow h.next h h')
    (n : NV) (v : Value) (xs : List XV) (n0 : Nat) (h : AH) (hv : RowE n0 h v xs) (hx : ∀ x ∈ xs, okX x) (hL : xs.length ≤ 96) (hn : n0 ≤ h.next) :
    ∃ h', frameB T0 X0 call 3000 142 [nodeV n v] h = some (.bool (soundN n xs), h') ∧ Grow h.next h h' := by
  generalize hh1 : h.new (.cells (PM.ofList (nodeL n v)) (nodeL n v).length 48 0 0 .ex) = h1
  have g1 : Grow h.next h h1 := by rw [← hh1]; exact Grow.new _ _
  have hb1 : NodeB h1 h.next n v := by rw [← hh1]; exact NodeB.new _ _ _
  have l1 : h.next < h1.next := by rw [← hh1]; exact Nat.lt_succ_self _
  have q := hb1.loads
  have hbn : ∀ h, rp (some (evNewVar h 48 (nodeV n v))) = some (.value (pv h.next 0), h.new (.cells (PM.ofList (nodeL n v)) (nodeL n v).length 48 0 0 .ex)) := fun h => box_agg
  have hv1 := hv.grow g1 hn
  have hn1 := Nat.le_trans hn g1.next
  obtain ⟨h2, c1, c2⟩ := hSm n v xs n0 h1 hv1 (fun x hxx => (hx x hxx).e) (by omega) hn1
  obtain ⟨pv3, h3, e1, e2, e3⟩ := hpt n v h1
  have hb3 := hb1.grow e3 l1
  have r := hb3.loads
  have hv3 := hv1.grow e3 hn1
  obtain ⟨h4, x1, x2⟩ := hEx v xs n0 h3 (Nat.le_trans hn1 e3.next) hx hL hv3
  have g13 := g1.trans e3 g1.next
  have g14 := g13.trans x2 g13.next
  rw [frameB_eq ft142 rfl rfl]
  by_cases k0 : n.k = 0
  · refine ⟨h2, ?_, g1.trans c2 g1.next⟩
    rw [show soundN n xs = (sameN n NV.zero && eqL xs []) by unfold soundN; rw [if_pos k0]]
    simp only [Tryz.f142, symM, opFn, Nat.reduceLT, Nat.reduceBEq, symM, hbn, hh1, field_N, q, bin_eql, eqT (show (n.k : Int) = 0 by omega), build_N0, evCall_fn ft18 rfl, c1]
    exact retB_one ft142 rfl get_same
  have z0 := eqF (show ¬ (n.k : Int) = 0 by omega)
  have z1 := decide_eq_false (show ¬ (n.k : Int) < 1 by omega)
  by_cases a0 : 2 < n.k
  · refine ⟨h1, ?_, g1⟩
    rw [show soundN n xs = false by unfold soundN; rw [if_neg k0]; simp; omega]
    simp only [Tryz.f142, symM, opFn, Nat.reduceLT, Nat.reduceBEq, symM, hbn, hh1, field_N, q, bin_eql, bin_lss, bin_gtr, z0, z1, decide_eq_true (show (2 : Int) < n.k by omega)]
    exact retB_one ft142 rfl get_same
  by_cases a1 : n.f < 1
  · refine ⟨h1, ?_, g1⟩
    rw [show soundN n xs = false by unfold soundN; rw [if_neg k0]; rw [if_neg (by omega), if_neg (by omega), Bool.and_false]]
    simp only [Tryz.f142, symM, opFn, Nat.reduceLT, Nat.reduceBEq, symM, hbn, hh1, field_N, q, bin_eql, bin_lss, bin_gtr, z0, z1, decide_eq_false (show ¬ (2 : Int) < n.k by omega), decide_eq_true (show (n.f : Int) < 1 by omega)]
    exact retB_one ft142 rfl get_same
  by_cases a2 : 2 < n.f
  · refine ⟨h1, ?_, g1⟩
    rw [show soundN n xs = false by unfold soundN; rw [if_neg k0]; rw [if_neg (by omega), if_neg (by omega), Bool.and_false]]
    simp only [Tryz.f142, symM, opFn, Nat.reduceLT, Nat.reduceBEq, symM, hbn, hh1, field_N, q, bin_eql, bin_lss, bin_gtr, z0, z1, decide_eq_false (show ¬ (2 : Int) < n.k by omega), decide_eq_false (show ¬ (n.f : Int) < 1 by omega), decide_eq_true (show (2 : Int) < n.f by omega)]
    exact retB_one ft142 rfl get_same
  by_cases a3 : n.l < 1
  · refine ⟨h1, ?_, g1⟩
    rw [show soundN n xs = false by unfold soundN; rw [if_neg k0]; simp; omega]
    simp only [Tryz.f142, symM, opFn, Nat.reduceLT, Nat.reduceBEq, symM, hbn, hh1, field_N, q, bin_eql, bin_lss, bin_gtr, z0, z1, decide_eq_false (show ¬ (2 : Int) < n.k by omega), decide_eq_false (show ¬ (n.f : Int) < 1 by omega), decide_eq_false (show ¬ (2 : Int) < n.f by omega), decide_eq_true (show (n.l : Int) < 1 by omega)]
    exact retB_one ft142 rfl get_same
  by_cases a4 : 1000 < n.l
  · refine ⟨h1, ?_, g1⟩
    rw [show soundN n xs = false by unfold soundN; rw [if_neg k0]; simp; omega]
    simp only [Tryz.f142, symM, opFn, Nat.reduceLT, Nat.reduceBEq, symM, hbn, hh1, field_N, q, bin_eql, bin_lss, bin_gtr, z0, z1, decide_eq_false (show ¬ (2 : Int) < n.k by omega), decide_eq_false (show ¬ (n.f : Int) < 1 by omega), decide_eq_false (show ¬ (2 : Int) < n.f by omega), decide_eq_false (show ¬ (n.l : Int) < 1 by omega), decide_eq_true (show (1000 : Int) < n.l by omega)]
    exact retB_one ft142 rfl get_same
  by_cases a5 : 6144 < n.s
  · refine ⟨h1, ?_, g1⟩
    rw [show soundN n xs = false by unfold soundN; rw [if_neg k0]; simp; omega]
    simp only [Tryz.f142, symM, opFn, Nat.reduceLT, Nat.reduceBEq, symM, hbn, hh1, field_N, q, bin_eql, bin_lss, bin_gtr, z0, z1, decide_eq_false (show ¬ (2 : Int) < n.k by omega), decide_eq_false (show ¬ (n.f : Int) < 1 by omega), decide_eq_false (show ¬ (2 : Int) < n.f by omega), decide_eq_false (show ¬ (n.l : Int) < 1 by omega), decide_eq_false (show ¬ (1000 : Int) < n.l by omega), decide_eq_false (show ¬ (n.s : Int) < 0 by omega), decide_eq_true (show (6144 : Int) < n.s by omega)]
    exact retB_one ft142 rfl get_same
  have hd : decide ((n.k = 1 ∨ n.k = 2) ∧ 1 ≤ n.l ∧ n.l ≤ 1000 ∧ n.s ≤ 6144) = true := decide_eq_true (by omega)
  simp only [Tryz.f142, symM, opFn, Nat.reduceLT, Nat.reduceBEq, symM, symL, hbn, hh1, field_N, q, bin_eql, bin_lss, bin_gtr, z0, z1, decide_eq_false (show ¬ (2 : Int) < n.k by omega), decide_eq_false (show ¬ (n.f : Int) < 1 by omega), decide_eq_false (show ¬ (2 : Int) < n.f by omega), decide_eq_false (show ¬ (n.l : Int) < 1 by omega), decide_eq_false (show ¬ (1000 : Int) < n.l by omega), decide_eq_false (show ¬ (n.s : Int) < 0 by omega), decide_eq_false (show ¬ (6144 : Int) < n.s by omega), evCall_fn ft144 rfl, e1]
  generalize hX : codeB T0 X0 call _ ERs (.loop _) _ _ _ = X
  obtain ⟨t9, e9⟩ := use_loop (P := fun X => ∃ tm', (X = .jump .ret tm' h3 [] ∧ tm'.get 2 = some (.bool false) ∧ (ptrs n).all (okp n.f) = false) ∨ (X = .jump (.exit 0) tm' h3 [] ∧ (ptrs n).all (okp n.f) = true ∧ tm'.get 1 = some (pv h.next 0))) hX
    (rsLoop hD n pv3 v h.next (ptrs n) h3.next h3 e2.row hb3 rfl (ptrs n) 0 _ _ rfl (by simp) (by simp [ptrs]) (by simp only [symM, Nat.reduceBEq]) (by simp only [symM, Nat.reduceBEq]) (by simp only [symM]; rfl))
  clear hX
  have hone : n.f = 1 → (ptrs n).all (okp n.f) = (ptrs n).all namedN := by
    intro hf; rw [hf]; rfl
  have htwo : n.f = 2 → (ptrs n).all (okp n.f) = (ptrs n).all fun p => decide (p = 0) := by
    intro hf; rw [hf]; congr 1; funext p; unfold okp; simp
  rcases e9 with ⟨e9, t2, hall⟩ | ⟨e9, hall, t1⟩
  · subst e9
    refine ⟨h3, ?_, g13⟩
    rw [show soundN n xs = false by
      unfold soundN; rw [if_neg k0]
      by_cases f1 : n.f = 1
      · rw [if_pos f1, ← hone f1, hall, Bool.and_false, Bool.and_false]
      · rw [if_neg f1, if_pos (show n.f = 2 by omega), ← htwo (by omega), hall, Bool.false_and, Bool.and_false]]
    simp only [symM, symM]
    exact retB_one ft142 rfl t2
  subst e9
  by_cases f1 : n.f = 1
  · by_cases b1 : xs.length = 0
    rotate_left
    · refine ⟨h3, ?_, g13⟩
      rw [show soundN n xs = false by unfold soundN; rw [if_neg k0, hd]; rw [if_pos f1, ← hone f1, hall]; simp [b1]]
      simp only [symM, opFn, Nat.reduceLT, Nat.reduceBEq, symM, symL, t1, field_N, r, bin_eql, eqT (show (n.f : Int) = 1 by omega), hv3.len, eqF (show ¬ ((xs.length : Nat) : Int) = 0 by omega)]
      exact retB_one ft142 rfl get_same
    by_cases b2 : n.c = 0
    rotate_left
    · refine ⟨h3, ?_, g13⟩
      rw [show soundN n xs = false by unfold soundN; rw [if_neg k0, hd]; rw [if_pos f1, ← hone f1, hall]; simp [b2]]
      simp only [symM, opFn, Nat.reduceLT, Nat.reduceBEq, symM, symL, t1, field_N, r, bin_eql, eqT (show (n.f : Int) = 1 by omega), hv3.len, eqT (show ((xs.length : Nat) : Int) = 0 by omega), eqF (show ¬ (n.c : Int) = 0 by omega)]
      exact retB_one ft142 rfl get_same
    refine ⟨h3, ?_, g13⟩
    rw [show soundN n xs = true by unfold soundN; rw [if_neg k0, hd]; rw [if_pos f1, ← hone f1, hall]; simp [b1, b2]]
    simp only [symM, opFn, Nat.reduceLT, Nat.reduceBEq, symM, symL, t1, field_N, r, bin_eql, eqT (show (n.f : Int) = 1 by omega), hv3.len, eqT (show ((xs.length : Nat) : Int) = 0 by omega), eqT (show (n.c : Int) = 0 by omega)]
    exact retB_one ft142 rfl get_same
  have f2 : n.f = 2 := by omega
  by_cases b3 : xs.length ≤ 3
  rotate_left
  · refine ⟨h3, ?_, g13⟩
    rw [show soundN n xs = false by unfold soundN; rw [if_neg k0, hd]; rw [if_neg f1, if_pos f2, ← htwo f2, hall, Bool.true_and, Bool.true_and]; rw [decide_eq_false b3]; simp]
    simp only [symM, opFn, Nat.reduceLT, Nat.reduceBEq, symM, symL, t1, field_N, r, bin_eql, bin_leq, eqF (show ¬ (n.f : Int) = 1 by omega), hv3.len, decide_eq_false (show ¬ ((xs.length : Nat) : Int) ≤ 3 by omega)]
    exact retB_one ft142 rfl get_same
  have hb4 := hb3.grow x2 (Nat.lt_of_lt_of_le l1 e3.next)
  have r4 := hb4.loads
  cases hx4 : extG 0 (-1) [] xs with
  | false =>
    refine ⟨h4, ?_, g14⟩
    rw [show soundN n xs = false by unfold soundN; rw [if_neg k0, hd]; rw [if_neg f1, if_pos f2, ← htwo f2, hall, Bool.true_and, Bool.true_and]; rw [hx4]; simp]
    simp only [symM, opFn, Nat.reduceLT, Nat.reduceBEq, symM, symL, t1, field_N, r, bin_eql, bin_leq, eqF (show ¬ (n.f : Int) = 1 by omega), hv3.len, decide_eq_true (show ((xs.length : Nat) : Int) ≤ 3 by omega), evCall_fn ft131 rfl, x1, hx4]
    exact retB_one ft142 rfl get_same
  | true =>
    by_cases b5 : n.c = 0
    · refine ⟨h4, ?_, g14⟩
      rw [show soundN n xs = true by unfold soundN; rw [if_neg k0, hd]; rw [if_neg f1, if_pos f2, ← htwo f2, hall, Bool.true_and, Bool.true_and]; rw [hx4]; unfold namedN; simp [b3, b5]]
      simp only [symM, opFn, Nat.reduceLT, Nat.reduceBEq, symM, symL, t1, field_N, r, bin_eql, bin_leq, eqF (show ¬ (n.f : Int) = 1 by omega), hv3.len, decide_eq_true (show ((xs.length : Nat) : Int) ≤ 3 by omega), evCall_fn ft131 rfl, x1, hx4, r4, eqT (show (n.c : Int) = 0 by omega)]
      exact retB_one ft142 rfl get_same
    · refine ⟨h4, ?_, g14⟩
      rw [show soundN n xs = dataN n.c by unfold soundN; rw [if_neg k0, hd]; rw [if_neg f1, if_pos f2, ← htwo f2, hall, Bool.true_and, Bool.true_and]; rw [hx4]; unfold namedN; simp [b3, b5]]
      simp only [symM, opFn, Nat.reduceLT, Nat.reduceBEq, symM, symL, t1, field_N, r, bin_eql, bin_leq, eqF (show ¬ (n.f : Int) = 1 by omega), hv3.len, decide_eq_true (show ((xs.length : Nat) : Int) ≤ 3 by omega), evCall_fn ft131 rfl, x1, hx4, r4, eqF (show ¬ (n.c : Int) = 0 by omega), evCall_fn ft172 rfl, hD]
      exact retB_one ft142 rfl get_same
end
end Go.Proofs.YtjdhdhmoedlfdaaGreat.Abs
namespace Go.Proofs.YtjdhdhmoedlfdaaGreat.Abs
open Go Go.Proofs
noncomputable section
variable {call : Abs.Callee}
set_option maxRecDepth 10000
theorem ft79 : T0.ft.get 79 = some Tryz.f79 := by kernel_rfl
theorem ft76' : T0.ft.get 76 = some Tryz.f76 := by kernel_rfl
def headB (n : NV) : List Nat := leN n.k 1 ++ leN n.f 1 ++ leN n.l 2 ++ leN n.s 2
def pad (m : Nat) (l : List Nat) : List Nat := l ++ List.replicate (m - l.length) 0
def bodyB (n : NV) (xs : List XV) : List Nat := if n.f = 2 then pad 18 (headB n ++ xs.flatMap encX) ++ leN n.c 2 else headB n ++ (ptrs n).flatMap fun p => leN p 2
def firstB (n : NV) (xs : List XV) : List Nat := pad 28 (bodyB n xs)
def encN (n : NV) (xs : List XV) : List Nat := firstB n xs ++ leN (spinU (spinN (firstB n xs))) 4
theorem leN_len (n k : Nat) : (leN n k).length = k := by simp [leN, leF]
theorem headB_len (n : NV) : (headB n).length = 6 := by simp [headB, leN_len]
theorem encX_len (x : XV) : (encX x).length = 4 := by simp [encX, leN_len]
theorem flat_len (xs : List XV) : (xs.flatMap encX).length = 4 * xs.length := by
  induction xs with
  | nil => rfl
  | cons x xs ih => rw [List.flatMap_cons, List.length_append, ih, encX_len, List.length_cons]; omega
theorem flatp_len (l : List Nat) : (l.flatMap fun p => leN p 2).length = 2 * l.length := by
  induction l with
  | nil => rfl
  | cons x xs ih => rw [List.flatMap_cons, List.length_append, ih, leN_len, List.length_cons]; omega
theorem leN_lt {n k x : Nat} (h : x ∈ leN n k) : x < 256 := by
  simp only [leN, leF, List.mem_map] at h
  obtain ⟨j, _, rfl⟩ := h
  exact Nat.mod_lt _ (by decide)
theorem pad_lt {m : Nat} {l : List Nat} (h : ∀ x ∈ l, x < 256) : ∀ x ∈ pad m l, x < 256 := by
  intro x hx
  unfold pad at hx
  rcases List.mem_append.1 hx with hx | hx
  · exact h x hx
  · rw [List.mem_replicate] at hx; omega
theorem headB_lt (n : NV) : ∀ x ∈ headB n, x < 256 := by
  intro x hx
  unfold headB at hx
  simp only [List.mem_append] at hx
  rcases hx with ((hx | hx) | hx) | hx <;> exact leN_lt hx
theorem encX_lt (x : XV) : ∀ y ∈ encX x, y < 256 := by
  intro y hy
  unfold encX at hy
  simp only [List.mem_append] at hy
  rcases hy with (hx | hx) | hx <;> exact leN_lt hx
theorem firstB_lt (n : NV) (xs : List XV) : ∀ x ∈ firstB n xs, x < 256 := by
  apply pad_lt
  intro x hx
  unfold bodyB at hx
  split at hx
  · rcases List.mem_append.1 hx with hx | hx
    · refine pad_lt ?_ x hx
      intro y hy
      rcases List.mem_append.1 hy with hy | hy
      · exact headB_lt n y hy
      · obtain ⟨z, _, hz⟩ := List.mem_flatMap.1 hy
        exact encX_lt z y hz
    · exact leN_lt hx
  · rcases List.mem_append.1 hx with hx | hx
    · exact headB_lt n x hx
    · obtain ⟨z, _, hz⟩ := List.mem_flatMap.1 hx
      exact leN_lt hz
theorem spinU_lt (bs : List Nat) : spinU (spinN bs) < 4294967296 := by
  have hl := spin_lt bs (1, 0) (by decide) (by decide)
  have hN : spinN bs = bs.foldl spinStep (1, 0) := rfl
  rw [hN]
  generalize bs.foldl spinStep (1, 0) = s at *
  unfold spinU
  omega
theorem wrapE {A B : PM Value → AH → Prop} {n : Nat} {a b : AH} (H : ∃ t c, A t c ∧ (B t c ∧ Grow n b c)) (g : Grow n a b) : ∃ t c, A t c ∧ (B t c ∧ Grow n a c) := by
  obtain ⟨t, c, h1, h2, h3⟩ := H
  exact ⟨t, c, h1, h2, g.trans h3 (Nat.le_refl _)⟩
theorem Own.blk {n : Nat} {h : AH} {v : Value} {l : List Value} {e : TypeId} (ho : Own n h v l e) (hl : l ≠ []) : ∃ b C, n ≤ b ∧ b < h.next ∧ h.get b = some C ∧ ∀ h', h'.get b = some C → Row (b + 1) h' v l e := by
  rcases ho with ⟨_, h0⟩ | ⟨b, c, kd, cap, h1, h2, h3, h4, h5, h6⟩
  · exact absurd h0 hl
  · exact ⟨b, _, h1, h2, h4, fun h' hg => .inr ⟨b, 0, cap, c, l.length, 0, 0, kd, e, h3, Nat.lt_succ_self _, hg, by omega, fun i x hi => by rw [Nat.zero_add]; exact h5 i x hi⟩⟩
noncomputable def bodyE1 : Code := part Tryz.f79 [1, 1, 1, 0, 1, 0, 0, 1, 0, 0]
noncomputable def bodyE2 : Code := part Tryz.f79 [1, 1, 1, 0, 1, 1, 1, 0, 0]
abbrev EEn : Env := ⟨79, 89, none⟩
theorem encL (hPE : ∀ (x : XV) (h : AH), okX x → ∃ v' h', call 138 [extV x] h = some (v', h') ∧ Own h.next h' v' (bytesV (encX x)) 5 ∧ Grow h.next h h')
    (v : Value) (xs : List XV) (n0 n1 b : Nat) (hn01 : n0 ≤ n1) (hx : ∀ x ∈ xs, okX x) (hL : xs.length ≤ 96) :
    ∀ (l : List XV) (i : Nat) (bs : List Nat) (w : Value) (h : AH) (tm : PM Value) (N : Nat), xs.drop i = l → i + l.length = xs.length → bs.length + 4 * l.length ≤ 400 → l.length + 40 ≤ N → n1 ≤ h.next → RowE n0 h v xs → Own n1 h w (bytesV bs) 5 →
      tm.get 1 = some (pv b 0) → tm.get 4 = some w → tm.get 37 = some v → tm.get 38 = some (iv xs.length) → tm.get 39 = some (iv i) →
      ∃ tm' h', codeB T0 X0 call N EEn (.loop bodyE1) tm h [] = .jump (.exit 0) tm' h' [] ∧ ((∃ w', tm'.get 4 = some w' ∧ tm'.get 1 = some (pv b 0) ∧ Own n1 h' w' (bytesV (bs ++ l.flatMap encX)) 5) ∧ Grow n1 h h') := by
  intro l
  induction l with
  | nil =>
    intro i bs w h tm N hd hi hbs hN hn hv ho g1 g4 g37 g38 g39
    obtain ⟨N, rfl⟩ : ∃ a, N = a + 40 := ⟨N - 40, by simp at hN; omega⟩
    apply Exists.intro; apply Exists.intro
    refine ⟨?_, ⟨w, ?_, ?_, by simpa using ho⟩, Grow.refl _ _⟩
    · rw [codeB_loop]
      simp only [bodyE1, part, Tryz.f79, sub, symM, opFn, Nat.reduceLT, g38, g39, bin_lss, decide_eq_false (show ¬ (i : Int) < (xs.length : Nat) by simp at hi; omega)]
      rfl
    · simp only [symM, Nat.reduceBEq, g4]
    · simp only [symM, Nat.reduceBEq, g1]
  | cons x l ih =>
    intro i bs w h tm N hd hi hbs hN hn hv ho g1 g4 g37 g38 g39
    obtain ⟨N, rfl⟩ : ∃ a, N = a + 40 := ⟨N - 40, by simp at hN; omega⟩
    have hx1 : xs[i]? = some x := by have := congrArg (fun l => l[0]?) hd; simpa using this
    have hil : i < xs.length := by simp at hi; omega
    have hlt := decide_eq_true (show (i : Int) < (xs.length : Nat) by omega)
    have hxo := hx x (List.mem_of_getElem? hx1)
    obtain ⟨b1, o1, p1, p2, _, _⟩ := hv.at hx1
    generalize hh1 : h.new (.cells (PM.ofList [iv 0, .complex .f64 0 0]) 2 107 0 0 .ex) = h1
    have q1 : Grow h.next h h1 := by rw [← hh1]; exact Grow.new _ _
    have hb1 : BoxL h1 h.next 107 [iv 0, .complex .f64 0 0] := by rw [← hh1]; exact BoxL.new _ _ _
    obtain ⟨h2, s1, s2, s3, s4⟩ := BoxE.store hb1 x (Nat.le_refl _)
    have q2 : Grow h.next h h2 := q1.trans s3 (Nat.le_refl _)
    obtain ⟨f1, f2, f3⟩ := BoxE.load s2
    obtain ⟨v3, h3, e1, e2, e3⟩ := hPE x h2 hxo
    have q3 : Grow h.next h h3 := q2.trans e3 q2.next
    obtain ⟨v4, h4, a1, a2, a3, _⟩ := app_own (ho.grow q3) e2 (by rw [encX_len]; simp at hbs; omega) (Nat.le_trans hn q3.next) 57
    have q4 : Grow n1 h h4 := (q3.less hn).trans a3 (Nat.le_refl _)
    rw [show N + 40 = (N + 39) + 1 from rfl, codeB_loop]
    simp only [bodyE1, part, Tryz.f79, sub, symM, opFn, Nat.reduceLT, Nat.reduceBEq, symM, g4, g37, g38, g39, bin_lss, hlt, p1, p2, alloc_E, hh1, s1, f1, evCall_fn ft138 rfl, e1, a1, bin_add, wadd1 (show i ≤ 400000 by omega)]
    rw [List.flatMap_cons, ← List.append_assoc]
    exact wrapE (ih (i + 1) (bs ++ encX x) v4 h4 _ (N + 39) (by rw [← List.drop_drop, hd]; rfl) (by simp at hi ⊢; omega) (by rw [List.length_append, encX_len]; simp at hbs; omega) (by simp at hN ⊢; omega) (Nat.le_trans hn q4.next) (hv.grow q4 hn01) a2
      (by simp only [symM, Nat.reduceBEq, g1]) (by simp only [symM, Nat.reduceBEq]) (by simp only [symM, Nat.reduceBEq, g37]) (by simp only [symM, Nat.reduceBEq, g38]) get_same) q4
theorem ptrL (L : List Nat) (pvv : Value) (bp : Nat) (C : AObj) (hr : ∀ h', h'.get bp = some C → Row (bp + 1) h' pvv (intsV L) 3) (n1 b : Nat) (hL : L.length ≤ 96) :
    ∀ (l : List Nat) (i : Nat) (bs : List Nat) (w : Value) (h : AH) (tm : PM Value) (N : Nat), L.drop i = l → i + l.length = L.length → bs.length + 2 * l.length ≤ 400 → l.length + 40 ≤ N → n1 ≤ h.next → bp < h.next → h.get bp = some C → Off w bp → Own n1 h w (bytesV bs) 5 →
      tm.get 1 = some (pv b 0) → tm.get 4 = some w → tm.get 64 = some pvv → tm.get 65 = some (iv L.length) → tm.get 66 = some (iv i) →
      ∃ tm' h', codeB T0 X0 call N EEn (.loop bodyE2) tm h [] = .jump (.exit 2) tm' h' [] ∧ ((∃ w', tm'.get 4 = some w' ∧ tm'.get 1 = some (pv b 0) ∧ Own n1 h' w' (bytesV (bs ++ l.flatMap fun p => leN p 2)) 5) ∧ Grow n1 h h') := by
  intro l
  induction l with
  | nil =>
    intro i bs w h tm N hd hi hbs hN hn hbp hC hoff ho g1 g4 g64 g65 g66
    obtain ⟨N, rfl⟩ : ∃ a, N = a + 40 := ⟨N - 40, by simp at hN; omega⟩
    apply Exists.intro; apply Exists.intro
    refine ⟨?_, ⟨w, ?_, ?_, by simpa using ho⟩, Grow.refl _ _⟩
    · rw [codeB_loop]
      simp only [bodyE2, part, Tryz.f79, sub, symM, opFn, Nat.reduceLT, g65, g66, bin_lss, decide_eq_false (show ¬ (i : Int) < (L.length : Nat) by simp at hi; omega)]
      rfl
    · simp only [symM, Nat.reduceBEq, g4]
    · simp only [symM, Nat.reduceBEq, g1]
  | cons x l ih =>
    intro i bs w h tm N hd hi hbs hN hn hbp hC hoff ho g1 g4 g64 g65 g66
    obtain ⟨N, rfl⟩ : ∃ a, N = a + 40 := ⟨N - 40, by simp at hN; omega⟩
    have hx1 : L[i]? = some x := by have := congrArg (fun l => l[0]?) hd; simpa using this
    have hil : i < L.length := by simp at hi; omega
    have hlt := decide_eq_true (show (i : Int) < (L.length : Nat) by omega)
    obtain ⟨p, p1, p2⟩ := (hr h hC).at und_ints sz_int agg_int (i := i) (x := iv x) (by simp [intsV, hx1])
    generalize hh1 : h.new (.cells (PM.ofList [bv (x % 256), bv (x / 256 % 256)]) 2 5 0 0 .ex) = h1
    have q1 : Grow h.next h h1 := by rw [← hh1]; exact Grow.new _ _
    have hn1 : h.next < h1.next := by rw [← hh1]; exact Nat.lt_succ_self _
    have hbt : Own h.next h1 (.slice (some ⟨h.next, 0, none⟩) 2 2) (bytesV (leN x 2)) 5 := by
      rw [leN2, ← hh1]; exact Own.built (n := h.next) (h := h) (e := 5) [bv (x % 256), bv (x / 256 % 256)] (Nat.le_refl _)
    obtain ⟨v4, h4, a1, a2, a3, a4, a5⟩ := app_own (ho.grow q1) hbt (by rw [leN_len]; simp at hbs; omega) (Nat.le_trans hn q1.next) 57
    have q4 : Grow n1 h h4 := (q1.less hn).trans a3 (Nat.le_refl _)
    have hC4 : h4.get bp = some C := (a4 bp (Nat.lt_of_lt_of_le hbp q1.next) hoff).trans ((q1.keep bp hbp).trans hC)
    have hbs2 : evBuildSlice T0 57 2 [(0, bv (x % 256)), (1, bv (x / 256 % 256))] h = some (.slice (some ⟨h.next, 0, none⟩) 2 2, h1) := by rw [← hh1]; exact bs_u82
    rw [show N + 40 = (N + 39) + 1 from rfl, codeB_loop]
    simp only [bodyE2, part, Tryz.f79, sub, symM, opFn, Nat.reduceLT, Nat.reduceBEq, symM, g4, g64, g65, g66, bin_lss, hlt, p1, p2, conv_i2i und_int und_u8, wu8m, s_shr8, bsx_gen, goBSX_some, hbs2, a1, bin_add, wadd1 (show i ≤ 400000 by omega)]
    rw [List.flatMap_cons, ← List.append_assoc]
    exact wrapE (ih (i + 1) (bs ++ leN x 2) v4 h4 _ (N + 39) (by rw [← List.drop_drop, hd]; rfl) (by simp at hi ⊢; omega) (by rw [List.length_append, leN_len]; simp at hbs; omega) (by simp at hN ⊢; omega) (Nat.le_trans hn q4.next) (Nat.lt_of_lt_of_le hbp q4.next) hC4 ((a5 (by rw [leN_len]; omega)).off (Nat.lt_of_lt_of_le hbp q1.next)) a2
      (by simp only [symM, Nat.reduceBEq, g1]) (by simp only [symM, Nat.reduceBEq]) (by simp only [symM, Nat.reduceBEq, g64]) (by simp only [symM, Nat.reduceBEq, g65]) get_same) q4
theorem encTail (hSum : ∀ (bs : List Nat) (v : Value) (h : AH), (∀ x ∈ bs, x < 256) → bs.length ≤ 1000 → Row h.next h v (bytesV bs) 5 → call 76 [v] h = some (wv (spinU (spinN bs)), h))
    (hP32 : ∀ (n : Nat) (h : AH), n < 4294967296 → ∃ v' h', call 140 [wv n] h = some (v', h') ∧ Own h.next h' v' (bytesV (leN n 4)) 5 ∧ Grow h.next h h')
    (B : List Nat) (hB : ∀ x ∈ pad 28 B, x < 256) (hl : B.length ≤ 28) (w : Value) (n1 : Nat) (h : AH) (hn : n1 ≤ h.next) (ho : Own n1 h w (bytesV B) 5) :
    ∃ v8 h8 v9 h9 v10 h10, (∀ ty h', evBuiltin T0 .len #[57] ty [w] h' = some (.value (iv B.length), h')) ∧ IntKind.i64.wrap (28 - (B.length : Int)) = ((28 - B.length : Nat) : Int) ∧
      evBuiltin T0 .append #[57, 3] 57 [w, iv ((28 - B.length : Nat) : Int)] h = some (.value v8, h8) ∧ call 76 [v8] h8 = some (wv (spinU (spinN (pad 28 B))), h8) ∧ call 140 [wv (spinU (spinN (pad 28 B)))] h8 = some (v9, h9) ∧
      evBuiltin T0 .append #[57, 57] 57 [v8, v9] h9 = some (.value v10, h10) ∧ Own n1 h10 v10 (bytesV (pad 28 B ++ leN (spinU (spinN (pad 28 B))) 4)) 5 ∧ Grow n1 h h10 := by
  have hp28 : (pad 28 B).length = 28 := by unfold pad; simp; omega
  obtain ⟨v8, h8, a1, a2, a3, _⟩ := app_zeros ho (28 - B.length) (by omega) hn 57
  have a2 : Own n1 h8 v8 (bytesV (pad 28 B)) 5 := a2
  obtain ⟨v9, h9, b1, b2, b3⟩ := hP32 (spinU (spinN (pad 28 B))) h8 (spinU_lt _)
  have n8 := Nat.le_trans hn a3.next
  obtain ⟨v10, h10, d1, d2, d3, _⟩ := app_own (a2.grow b3) b2 (by rw [hp28, leN_len]; omega) (Nat.le_trans n8 b3.next) 57
  exact ⟨v8, h8, v9, h9, v10, h10, fun ty h' => by rw [ho.row.len und_bytes, bytesV_len], by rw [wz (by omega)]; omega, a1, hSum _ _ _ hB (by omega) a2.row, b1, d1, d2, (a3.trans (b3.less n8) (Nat.le_refl _)).trans d3 (Nat.le_refl _)⟩
theorem Enc_S (hPE : ∀ (x : XV) (h : AH), okX x → ∃ v' h', call 138 [extV x] h = some (v', h') ∧ Own h.next h' v' (bytesV (encX x)) 5 ∧ Grow h.next h h')
    (hpt : ∀ (n : NV) (e : Value) (h : AH), ∃ v' h', call 139 [nodeV n e] h = some (v', h') ∧ Own h.next h' v' (intsV (ptrs n)) 3 ∧ Grow h.next h h')
    (hSd : ∀ (n : NV) (v : Value) (xs : List XV) (n0 : Nat) (h : AH), RowE n0 h v xs → (∀ x ∈ xs, okX x) → xs.length ≤ 96 → n0 ≤ h.next → ∃ h', call 88 [nodeV n v] h = some (.bool (soundN n xs), h') ∧ Grow h.next h h')
    (hSum : ∀ (bs : List Nat) (v : Value) (h : AH), (∀ x ∈ bs, x < 256) → bs.length ≤ 1000 → Row h.next h v (bytesV bs) 5 → call 76 [v] h = some (wv (spinU (spinN bs)), h))
    (hP32 : ∀ (n : Nat) (h : AH), n < 4294967296 → ∃ v' h', call 140 [wv n] h = some (v', h') ∧ Own h.next h' v' (bytesV (leN n 4)) 5 ∧ Grow h.next h h')
    (n : NV) (v : Value) (xs : List XV) (n0 : Nat) (h : AH) (hv : RowE n0 h v xs) (hx : ∀ x ∈ xs, okX x) (hL : xs.length ≤ 96) (hn : n0 ≤ h.next) :
    ∃ r h', frameB T0 X0 call 3000 79 [nodeV n v] h = some (r, h') ∧ Grow h.next h h' ∧ ((soundN n xs = false ∧ r = .tuple #[nilV, iv 2]) ∨ (soundN n xs = true ∧ ∃ v', r = .tuple #[v', iv 0] ∧ Own h.next h' v' (bytesV (encN n xs)) 5)) := by
  generalize hh1 : h.new (.cells (PM.ofList (nodeL n v)) (nodeL n v).length 48 0 0 .ex) = h1
  have g1 : Grow h.next h h1 := by rw [← hh1]; exact Grow.new _ _
  have hb1 : NodeB h1 h.next n v := by rw [← hh1]; exact NodeB.new _ _ _
  have l1 : h.next < h1.next := by rw [← hh1]; exact Nat.lt_succ_self _
  have hbn : ∀ h, rp (some (evNewVar h 48 (nodeV n v))) = some (.value (pv h.next 0), h.new (.cells (PM.ofList (nodeL n v)) (nodeL n v).length 48 0 0 .ex)) := fun h => box_agg
  have hv1 := hv.grow g1 hn
  have hn1 := Nat.le_trans hn g1.next
  obtain ⟨h2, c1, c2⟩ := hSd n v xs n0 h1 hv1 hx hL hn1
  have g2 := g1.trans c2 g1.next
  have q1 := hb1.loads
  have hb2 := hb1.grow c2 l1
  have q2 := hb2.loads
  have l2 : h.next < h2.next := Nat.lt_of_lt_of_le l1 c2.next
  rw [frameB_eq ft79 rfl rfl]
  cases hs : soundN n xs with
  | false =>
    rw [hs] at c1
    refine ⟨_, h2, ?_, g2, .inl ⟨rfl, rfl⟩⟩
    simp only [Tryz.f79, symM, opFn, Nat.reduceLT, Nat.reduceBEq, symM, hbn, hh1, q1, evCall_fn ft88 rfl, c1]
    exact retB_two ft79 rfl (by simp only [symM, Nat.reduceBEq]) get_same
  | true =>
    rw [hs] at c1
    generalize hh3 : h2.new (.cells (PM.ofList [bv (n.k % 256), bv (n.f % 256), bv (n.l % 256), bv (n.l / 256 % 256), bv (n.s % 256), bv (n.s / 256 % 256)]) 6 5 0 0 .ex) = h3
    have c3 : Grow h2.next h2 h3 := by rw [← hh3]; exact Grow.new _ _
    have l3 : h2.next < h3.next := by rw [← hh3]; exact Nat.lt_succ_self _
    have hbs : evBuildSlice T0 57 6 [(0, bv (n.k % 256)), (1, bv (n.f % 256)), (2, bv (n.l % 256)), (3, bv (n.l / 256 % 256)), (4, bv (n.s % 256)), (5, bv (n.s / 256 % 256))] h2 = some (.slice (some ⟨h2.next, 0, none⟩) 6 6, h3) := by rw [← hh3]; exact bs_u86
    have o3 : Own h2.next h3 (.slice (some ⟨h2.next, 0, none⟩) 6 6) (bytesV (headB n)) 5 := by
      rw [show bytesV (headB n) = [bv (n.k % 256), bv (n.f % 256), bv (n.l % 256), bv (n.l / 256 % 256), bv (n.s % 256), bv (n.s / 256 % 256)] from by unfold headB; rw [leN1, leN1, leN2, leN2]; rfl, ← hh3]
      exact Own.built (n := h2.next) (h := h2) (e := 5) [bv (n.k % 256), bv (n.f % 256), bv (n.l % 256), bv (n.l / 256 % 256), bv (n.s % 256), bv (n.s / 256 % 256)] (Nat.le_refl _)
    have hb3 := hb2.grow c3 l2
    have q3 := hb3.loads
    have g3 := g2.trans c3 g2.next
    have hv3 := hv.grow g3 hn
    by_cases f2 : n.f = 2
    · have hx3 : xs.length ≤ 3 := by
        unfold soundN at hs
        by_cases k0 : n.k = 0
        · rw [if_pos k0] at hs
          have : sameN n NV.zero = true := by cases hq : sameN n NV.zero with | true => rfl | false => rw [hq] at hs; cases hs
          unfold sameN NV.zero at this
          simp at this
          omega
        · rw [if_neg k0, if_neg (show ¬ n.f = 1 by omega), if_pos f2] at hs
          simp only [Bool.and_eq_true, decide_eq_true_eq] at hs
          exact hs.2.2.2.1
      simp only [Tryz.f79, symM, opFn, Nat.reduceLT, Nat.reduceBEq, symM, symL, hbn, hh1, field_N, q1, q2, q3, evCall_fn ft88 rfl, c1, conv_i2i und_int und_u8, wu8m, s_shr8, bsx_gen, goBSX_some, hbs, bin_eql, eqT (show (n.f : Int) = 2 by omega), hv3.len]
      generalize hX : codeB T0 X0 call _ EEn (.loop _) _ _ _ = X
      have lf := flat_len xs
      have lh := headB_len n
      obtain ⟨t1, h4, e1, ⟨w4, u1, u2, u3⟩, g4⟩ := use_exit hX (encL hPE v xs n0 h2.next h.next (Nat.le_trans hn g2.next) hx hL xs 0 (headB n) _ h3 _ _ rfl (by simp) (by omega) (by omega) c3.next hv3 o3 (by simp only [symM, Nat.reduceBEq]) (by simp only [symM, Nat.reduceBEq]) (by simp only [symM, Nat.reduceBEq]) (by simp only [symM, Nat.reduceBEq]) (by simp only [symM]; rfl))
      clear hX
      subst e1
      have n4 : h2.next ≤ h4.next := Nat.le_trans c3.next g4.next
      obtain ⟨v5, h5, a1, a2, a3, _⟩ := app_zeros u3 (18 - (headB n ++ xs.flatMap encX).length) (by rw [List.length_append]; omega) n4 57
      have a2 : Own h2.next h5 v5 (bytesV (pad 18 (headB n ++ xs.flatMap encX))) 5 := a2
      have n5 := Nat.le_trans n4 a3.next
      have q5 := ((hb3.grow g4 l2).grow a3 l2).loads
      generalize hh6 : h5.new (.cells (PM.ofList [bv (n.c % 256), bv (n.c / 256 % 256)]) 2 5 0 0 .ex) = h6
      have c6 : Grow h5.next h5 h6 := by rw [← hh6]; exact Grow.new _ _
      have hb6 : evBuildSlice T0 57 2 [(0, bv (n.c % 256)), (1, bv (n.c / 256 % 256))] h5 = some (.slice (some ⟨h5.next, 0, none⟩) 2 2, h6) := by rw [← hh6]; exact bs_u82
      have hbt : Own h5.next h6 (.slice (some ⟨h5.next, 0, none⟩) 2 2) (bytesV (leN n.c 2)) 5 := by
        rw [leN2, ← hh6]; exact Own.built (n := h5.next) (h := h5) (e := 5) [bv (n.c % 256), bv (n.c / 256 % 256)] (Nat.le_refl _)
      have lp : (pad 18 (headB n ++ xs.flatMap encX)).length = 18 := by unfold pad; rw [List.length_append, List.length_replicate, List.length_append]; omega
      obtain ⟨v7, h7, d1, d2, d3, _⟩ := app_own (a2.grow c6) hbt (by rw [lp, leN_len]; omega) (Nat.le_trans n5 c6.next) 57
      have n7 := Nat.le_trans n5 (Nat.le_trans c6.next d3.next)
      have hB : pad 18 (headB n ++ xs.flatMap encX) ++ leN n.c 2 = bodyB n xs := by unfold bodyB; rw [if_pos f2]
      rw [hB] at d2
      obtain ⟨v8, h8, v9, h9, v10, h10, s1, s2, s3, s4, s5, s6, s7, s8⟩ := encTail hSum hP32 (bodyB n xs) (firstB_lt n xs) (by rw [← hB, List.length_append, lp, leN_len]; omega) v7 h2.next h7 n7 d2
      have gAll : Grow h.next h h10 := g3.trans ((((g4.trans a3 (Nat.le_refl _)).trans (c6.less n5) (Nat.le_refl _)).trans d3 (Nat.le_refl _)).trans s8 (Nat.le_refl _) |>.less g2.next) (Nat.le_refl _)
      refine ⟨_, h10, ?_, gAll, .inr ⟨by trivial, v10, rfl, s7.less g2.next⟩⟩
      have hw18 : IntKind.i64.wrap (18 - ((headB n ++ xs.flatMap encX).length : Int)) = ((18 - (headB n ++ xs.flatMap encX).length : Nat) : Int) := by have lA : (headB n ++ xs.flatMap encX).length = 6 + 4 * xs.length := by { rw [List.length_append, lh, lf] }; rw [wz (by omega)]; omega
      have hl4 : ∀ ty h', evBuiltin T0 .len #[57] ty [w4] h' = some (.value (iv (headB n ++ xs.flatMap encX).length), h') := fun ty h' => by rw [u3.row.len und_bytes, bytesV_len]
      simp only [symM, opFn, Nat.reduceLT, Nat.reduceBEq, symM, symL, u1, u2, hl4, bin_sub, hw18, a1, field_N, q5, conv_i2i und_int und_u8, wu8m, s_shr8, bsx_gen, goBSX_some, hb6, d1, s1, s2, s3, evCall_fn ft76' rfl, s4, evCall_fn ft140 rfl, s5, s6]
      exact retB_two ft79 rfl (by simp only [symM, Nat.reduceBEq]) get_same
    · obtain ⟨w4, h4, p1, p2, p3⟩ := hpt n v h3
      simp only [Tryz.f79, symM, opFn, Nat.reduceLT, Nat.reduceBEq, symM, symL, hbn, hh1, field_N, q1, q2, q3, evCall_fn ft88 rfl, c1, conv_i2i und_int und_u8, wu8m, s_shr8, bsx_gen, goBSX_some, hbs, bin_eql, eqF (show ¬ (n.f : Int) = 2 by omega), evCall_fn ft139 rfl, p1, p2.row.len und_ints]
      generalize hX : codeB T0 X0 call _ EEn (.loop _) _ _ _ = X
      obtain ⟨bp, C, b1, b2, b3, b4⟩ := p2.blk (by simp [intsV, ptrs])
      have o4 := o3.grow p3
      have lf := flatp_len (ptrs n)
      have lh := headB_len n
      have lp : (ptrs n).length = 6 := rfl
      have n4 : h2.next ≤ h4.next := Nat.le_trans c3.next p3.next
      obtain ⟨t1, h5, e1, ⟨w5, u1, u2, u3⟩, g5⟩ := use_exit hX (ptrL (ptrs n) w4 bp C b4 h2.next h.next (by omega) (ptrs n) 0 (headB n) _ h4 _ _ rfl (by simp) (by omega) (by omega) n4 b2 b3 (o3.apart b1) o4 (by simp only [symM, Nat.reduceBEq]) (by simp only [symM, Nat.reduceBEq]) (by simp only [symM, Nat.reduceBEq]) (by simp only [symM, Nat.reduceBEq]; rfl) (by simp only [symM]; rfl))
      clear hX
      subst e1
      have n5 := Nat.le_trans n4 g5.next
      have hB : headB n ++ ((ptrs n).flatMap fun p => leN p 2) = bodyB n xs := by unfold bodyB; rw [if_neg f2]
      rw [hB] at u3
      obtain ⟨v8, h8, v9, h9, v10, h10, s1, s2, s3, s4, s5, s6, s7, s8⟩ := encTail hSum hP32 (bodyB n xs) (firstB_lt n xs) (by rw [← hB, List.length_append]; omega) w5 h2.next h5 n5 u3
      have gAll : Grow h.next h h10 := g3.trans ((((p3.less c3.next).trans g5 (Nat.le_refl _)).trans s8 (Nat.le_refl _)).less g2.next) (Nat.le_refl _)
      refine ⟨_, h10, ?_, gAll, .inr ⟨by trivial, v10, rfl, s7.less g2.next⟩⟩
      simp only [symM, opFn, Nat.reduceLT, Nat.reduceBEq, symM, symL, u1, bin_sub, s1, s2, s3, evCall_fn ft76' rfl, s4, evCall_fn ft140 rfl, s5, s6]
      exact retB_two ft79 rfl (by simp only [symM, Nat.reduceBEq]) get_same
end
end Go.Proofs.YtjdhdhmoedlfdaaGreat.Abs
namespace Go.Proofs.YtjdhdhmoedlfdaaGreat.Abs
open Go Go.Proofs
noncomputable section
variable {call : Abs.Callee}
set_option maxRecDepth 10000
theorem ft85 : T0.ft.get 85 = some Tryz.f85 := by kernel_rfl
theorem ft135' : T0.ft.get 135 = some Tryz.f135 := by kernel_rfl
def okN (n : NV) : Prop := n.k < 65536 ∧ n.f < 65536 ∧ n.l < 65536 ∧ n.s < 65536 ∧ n.c < 65536 ∧ ∀ p ∈ ptrs n, p < 65536
theorem bs_u80 {h : AH} : evBuildSlice T0 57 1 [(0, .int .u8 0)] h = some (.slice (some ⟨h.next, 0, none⟩) 1 1, h.new (.cells (PM.ofList [.int .u8 0]) 1 5 0 0 .ex)) := bs_one und_bytes sz_u8 zero_u8 rfl rfl
noncomputable def bodyR1 : Code := part Tryz.f85 [1, 1, 1, 1, 1, 1, 0, 1, 0, 0, 1, 0, 0]
noncomputable def bodyR2 : Code := part Tryz.f85 [1, 1, 1, 1, 1, 1, 0, 1, 0, 1, 0, 0, 0]
noncomputable def bodyR3 : Code := part Tryz.f85 [1, 1, 1, 1, 1, 1, 0, 1, 1, 1, 1, 0, 0]
noncomputable def bodyR4 : Code := part Tryz.f85 [1, 1, 1, 1, 1, 1, 1, 0, 0, 0]
abbrev EEr : Env := ⟨85, 76, none⟩
theorem rencL (hPE : ∀ (x : XV) (n0 : Nat) (bs : List Nat) (v : Value) (h : AH), okX x → bs.length < 300 → n0 ≤ h.next → Own n0 h v (bytesV bs) 5 → ∃ v' h', call 143 [v, extV x] h = some (v', h') ∧ Own n0 h' v' (bytesV (bs ++ encX x)) 5 ∧ Grow n0 h h')
    (n : NV) (v : Value) (xs : List XV) (n0 n1 b : Nat) (hn01 : n0 ≤ n1) (hb1 : b < n1) (hx : ∀ x ∈ xs, okX x) (hL : xs.length ≤ 60) :
    ∀ (l : List XV) (i : Nat) (bs : List Nat) (w : Value) (h : AH) (tm : PM Value) (N : Nat), xs.drop i = l → i + l.length = xs.length → bs.length + 4 * l.length ≤ 290 → l.length + 40 ≤ N → n1 ≤ h.next → RowE n0 h v xs → NodeB h b n v → Own n1 h w (bytesV bs) 5 →
      tm.get 1 = some (pv b 0) → tm.get 4 = some w → tm.get 5 = some (iv i) →
      ∃ tm' h', codeB T0 X0 call N EEr (.loop bodyR1) tm h [] = .jump (.exit 0) tm' h' [] ∧ ((∃ w', tm'.get 4 = some w' ∧ tm'.get 1 = some (pv b 0) ∧ Own n1 h' w' (bytesV (bs ++ l.flatMap encX)) 5) ∧ Grow n1 h h') := by
  intro l
  induction l with
  | nil =>
    intro i bs w h tm N hd hi hbs hN hn hv hnb ho g1 g4 g5
    obtain ⟨N, rfl⟩ : ∃ a, N = a + 40 := ⟨N - 40, by simp at hN; omega⟩
    have q := hnb.loads
    apply Exists.intro; apply Exists.intro
    refine ⟨?_, ⟨w, ?_, ?_, by simpa using ho⟩, Grow.refl _ _⟩
    · rw [codeB_loop]
      simp only [bodyR1, part, Tryz.f85, sub, symM, opFn, Nat.reduceLT, Nat.reduceBEq, g1, g5, field_N, q, hv.len, bin_lss, decide_eq_false (show ¬ (i : Int) < (xs.length : Nat) by simp at hi; omega)]
      rfl
    · simp only [symM, Nat.reduceBEq, g4]
    · simp only [symM, Nat.reduceBEq, g1]
  | cons x l ih =>
    intro i bs w h tm N hd hi hbs hN hn hv hnb ho g1 g4 g5
    obtain ⟨N, rfl⟩ : ∃ a, N = a + 40 := ⟨N - 40, by simp at hN; omega⟩
    have hx1 : xs[i]? = some x := by have := congrArg (fun l => l[0]?) hd; simpa using this
    have hil : i < xs.length := by simp at hi; omega
    have hlt := decide_eq_true (show (i : Int) < (xs.length : Nat) by omega)
    have hxo := hx x (List.mem_of_getElem? hx1)
    have q := hnb.loads
    obtain ⟨b1, o1, p1, p2, _, _⟩ := hv.at hx1
    obtain ⟨v3, h3, e1, e2, e3⟩ := hPE x n1 bs w h hxo (by simp at hbs; omega) hn ho
    rw [show N + 40 = (N + 39) + 1 from rfl, codeB_loop]
    simp only [bodyR1, part, Tryz.f85, sub, symM, opFn, Nat.reduceLT, Nat.reduceBEq, symM, g1, g4, g5, field_N, q, hv.len, bin_lss, hlt, p1, p2, evCall_fn ft143 rfl, e1, bin_add, wadd1 (show i ≤ 400000 by omega)]
    rw [List.flatMap_cons, ← List.append_assoc]
    exact wrapE (ih (i + 1) (bs ++ encX x) v3 h3 _ (N + 39) (by rw [← List.drop_drop, hd]; rfl) (by simp at hi ⊢; omega) (by rw [List.length_append, encX_len]; simp at hbs; omega) (by simp at hN ⊢; omega) (Nat.le_trans hn e3.next) (hv.grow e3 hn01) (hnb.grow e3 hb1) e2
      (by simp only [symM, Nat.reduceBEq, g1]) (by simp only [symM, Nat.reduceBEq]) get_same) e3
theorem padR2 (n1 b : Nat) : ∀ (k : Nat) (bs : List Nat) (w : Value) (h : AH) (tm : PM Value) (N : Nat), bs.length + k = 18 → k + 40 ≤ N → n1 ≤ h.next → Own n1 h w (bytesV bs) 5 → tm.get 1 = some (pv b 0) → tm.get 4 = some w →
    ∃ tm' h', codeB T0 X0 call N EEr (.loop bodyR2) tm h [] = .jump (.exit 2) tm' h' [] ∧ ((∃ w', tm'.get 4 = some w' ∧ tm'.get 1 = some (pv b 0) ∧ Own n1 h' w' (bytesV (bs ++ List.replicate k 0)) 5) ∧ Grow n1 h h') := by
  intro k
  induction k with
  | zero =>
    intro bs w h tm N hk hN hn ho g1 g4
    obtain ⟨N, rfl⟩ : ∃ a, N = a + 40 := ⟨N - 40, by omega⟩
    have hl : ∀ ty h', evBuiltin T0 .len #[57] ty [w] h' = some (.value (iv bs.length), h') := fun ty h' => by rw [ho.row.len und_bytes, bytesV_len]
    apply Exists.intro; apply Exists.intro
    refine ⟨?_, ⟨w, ?_, ?_, by simpa using ho⟩, Grow.refl _ _⟩
    · rw [codeB_loop]
      simp only [bodyR2, part, Tryz.f85, sub, symM, opFn, Nat.reduceLT, g4, hl, bin_lss, decide_eq_false (show ¬ (bs.length : Int) < 18 by omega)]
      rfl
    · simp only [symM, Nat.reduceBEq, g4]
    · simp only [symM, Nat.reduceBEq, g1]
  | succ k ih =>
    intro bs w h tm N hk hN hn ho g1 g4
    obtain ⟨N, rfl⟩ : ∃ a, N = a + 40 := ⟨N - 40, by omega⟩
    have hl : ∀ ty h', evBuiltin T0 .len #[57] ty [w] h' = some (.value (iv bs.length), h') := fun ty h' => by rw [ho.row.len und_bytes, bytesV_len]
    obtain ⟨v1, h1, e1, e2', e3, e4⟩ := app_u8 ho 0 (by omega) hn 57
    have e1 : evBuiltin T0 .append #[57, 57] 57 [w, .slice (some ⟨h.next, 0, none⟩) 1 1] (h.new (.cells (PM.ofList [.int .u8 0]) 1 5 0 0 .ex)) = some (.value v1, h1) := e1
    rw [show N + 40 = (N + 39) + 1 from rfl, codeB_loop]
    simp only [bodyR2, part, Tryz.f85, sub, symM, opFn, Nat.reduceLT, Nat.reduceBEq, symM, g4, hl, bin_lss, decide_eq_true (show (bs.length : Int) < 18 by omega), bs_u80, e1]
    rw [List.replicate_succ, show bs ++ 0 :: List.replicate k 0 = (bs ++ [0]) ++ List.replicate k 0 by simp]
    exact wrapE (ih (bs ++ [0]) v1 h1 _ (N + 39) (by simp; omega) (by omega) (Nat.le_trans hn e3.next) (e2'.less hn) (by simp only [symM, Nat.reduceBEq, g1]) get_same) e3
theorem padR4 (n1 b : Nat) : ∀ (k : Nat) (bs : List Nat) (w : Value) (h : AH) (tm : PM Value) (N : Nat), bs.length + k = 28 → k + 40 ≤ N → n1 ≤ h.next → Own n1 h w (bytesV bs) 5 → tm.get 1 = some (pv b 0) → tm.get 4 = some w →
    ∃ tm' h', codeB T0 X0 call N EEr (.loop bodyR4) tm h [] = .jump (.exit 6) tm' h' [] ∧ ((∃ w', tm'.get 4 = some w' ∧ tm'.get 1 = some (pv b 0) ∧ Own n1 h' w' (bytesV (bs ++ List.replicate k 0)) 5) ∧ Grow n1 h h') := by
  intro k
  induction k with
  | zero =>
    intro bs w h tm N hk hN hn ho g1 g4
    obtain ⟨N, rfl⟩ : ∃ a, N = a + 40 := ⟨N - 40, by omega⟩
    have hl : ∀ ty h', evBuiltin T0 .len #[57] ty [w] h' = some (.value (iv bs.length), h') := fun ty h' => by rw [ho.row.len und_bytes, bytesV_len]
    apply Exists.intro; apply Exists.intro
    refine ⟨?_, ⟨w, ?_, ?_, by simpa using ho⟩, Grow.refl _ _⟩
    · rw [codeB_loop]
      simp only [bodyR4, part, Tryz.f85, sub, symM, opFn, Nat.reduceLT, g4, hl, bin_lss, decide_eq_false (show ¬ (bs.length : Int) < 28 by omega)]
      rfl
    · simp only [symM, Nat.reduceBEq, g4]
    · simp only [symM, Nat.reduceBEq, g1]
  | succ k ih =>
    intro bs w h tm N hk hN hn ho g1 g4
    obtain ⟨N, rfl⟩ : ∃ a, N = a + 40 := ⟨N - 40, by omega⟩
    have hl : ∀ ty h', evBuiltin T0 .len #[57] ty [w] h' = some (.value (iv bs.length), h') := fun ty h' => by rw [ho.row.len und_bytes, bytesV_len]
    obtain ⟨v1, h1, e1, e2', e3, e4⟩ := app_u8 ho 0 (by omega) hn 57
    have e1 : evBuiltin T0 .append #[57, 57] 57 [w, .slice (some ⟨h.next, 0, none⟩) 1 1] (h.new (.cells (PM.ofList [.int .u8 0]) 1 5 0 0 .ex)) = some (.value v1, h1) := e1
    rw [show N + 40 = (N + 39) + 1 from rfl, codeB_loop]
    simp only [bodyR4, part, Tryz.f85, sub, symM, opFn, Nat.reduceLT, Nat.reduceBEq, symM, g4, hl, bin_lss, decide_eq_true (show (bs.length : Int) < 28 by omega), bs_u80, e1]
    rw [List.replicate_succ, show bs ++ 0 :: List.replicate k 0 = (bs ++ [0]) ++ List.replicate k 0 by simp]
    exact wrapE (ih (bs ++ [0]) v1 h1 _ (N + 39) (by simp; omega) (by omega) (Nat.le_trans hn e3.next) (e2'.less hn) (by simp only [symM, Nat.reduceBEq, g1]) get_same) e3
theorem rptrL (hP : ∀ (n size n0 : Nat) (bs : List Nat) (v : Value) (h : AH), n < 4294967296 → size ≤ 4 → bs.length < 400 → n0 ≤ h.next → Own n0 h v (bytesV bs) 5 → ∃ v' h', call 66 [v, iv n, iv size] h = some (v', h') ∧ Own n0 h' v' (bytesV (bs ++ leN n size)) 5 ∧ Grow n0 h h' ∧ (∀ k, k < h.next → Off v k → h'.get k = h.get k) ∧ (0 < size → Own h.next h' v' (bytesV (bs ++ leN n size)) 5)) (L : List Nat) (hLs : ∀ p ∈ L, p < 65536) (pvv : Value) (bp : Nat) (C : AObj) (hr : ∀ h', h'.get bp = some C → Row (bp + 1) h' pvv (intsV L) 3) (n1 b : Nat) (hL : L.length = 6) :
    ∀ (l : List Nat) (i : Nat) (bs : List Nat) (w : Value) (h : AH) (tm : PM Value) (N : Nat), L.drop i = l → i + l.length = L.length → bs.length + 2 * l.length ≤ 300 → l.length + 40 ≤ N → n1 ≤ h.next → bp < h.next → h.get bp = some C → Off w bp → Own n1 h w (bytesV bs) 5 →
      tm.get 1 = some (pv b 0) → tm.get 4 = some w → tm.get 6 = some pvv → tm.get 7 = some (iv i) →
      ∃ tm' h', codeB T0 X0 call N EEr (.loop bodyR3) tm h [] = .jump (.exit 4) tm' h' [] ∧ ((∃ w', tm'.get 4 = some w' ∧ tm'.get 1 = some (pv b 0) ∧ Own n1 h' w' (bytesV (bs ++ l.flatMap fun p => leN p 2)) 5) ∧ Grow n1 h h') := by
  intro l
  induction l with
  | nil =>
    intro i bs w h tm N hd hi hbs hN hn hbp hC hoff ho g1 g4 g6 g7
    obtain ⟨N, rfl⟩ : ∃ a, N = a + 40 := ⟨N - 40, by simp at hN; omega⟩
    apply Exists.intro; apply Exists.intro
    refine ⟨?_, ⟨w, ?_, ?_, by simpa using ho⟩, Grow.refl _ _⟩
    · rw [codeB_loop]
      simp only [bodyR3, part, Tryz.f85, sub, symM, opFn, Nat.reduceLT, g7, bin_lss, decide_eq_false (show ¬ (i : Int) < 6 by simp at hi; omega)]
      rfl
    · simp only [symM, Nat.reduceBEq, g4]
    · simp only [symM, Nat.reduceBEq, g1]
  | cons x l ih =>
    intro i bs w h tm N hd hi hbs hN hn hbp hC hoff ho g1 g4 g6 g7
    obtain ⟨N, rfl⟩ : ∃ a, N = a + 40 := ⟨N - 40, by simp at hN; omega⟩
    have hx1 : L[i]? = some x := by have := congrArg (fun l => l[0]?) hd; simpa using this
    have hlt := decide_eq_true (show (i : Int) < 6 by simp at hi; omega)
    obtain ⟨p, p1, p2⟩ := (hr h hC).at und_ints sz_int agg_int (i := i) (x := iv x) (by simp [intsV, hx1])
    have hxb := hLs x (List.mem_of_getElem? hx1)
    obtain ⟨v4, h4, a1, a2, a3, a4, a5⟩ := hP x 2 n1 bs w h (by omega) (by omega) (by simp at hbs; omega) hn ho
    have a1 : call 66 [w, iv x, iv 2] h = _ := a1
    have hC4 : h4.get bp = some C := (a4 bp hbp hoff).trans hC
    rw [show N + 40 = (N + 39) + 1 from rfl, codeB_loop]
    simp only [bodyR3, part, Tryz.f85, sub, symM, opFn, Nat.reduceLT, Nat.reduceBEq, symM, g4, g6, g7, bin_lss, hlt, p1, p2, evCall_fn ft66 rfl, a1, bin_add, wadd1 (show i ≤ 400000 by simp at hi; omega)]
    rw [List.flatMap_cons, ← List.append_assoc]
    exact wrapE (ih (i + 1) (bs ++ leN x 2) v4 h4 _ (N + 39) (by rw [← List.drop_drop, hd]; rfl) (by simp at hi ⊢; omega) (by rw [List.length_append, leN_len]; simp at hbs; omega) (by simp at hN ⊢; omega) (Nat.le_trans hn a3.next) (Nat.lt_of_lt_of_le hbp a3.next) hC4 ((a5 (by omega)).off hbp) a2
      (by simp only [symM, Nat.reduceBEq, g1]) (by simp only [symM, Nat.reduceBEq]) (by simp only [symM, Nat.reduceBEq, g6]) get_same) a3
theorem rEnc_S (hP : ∀ (n size n0 : Nat) (bs : List Nat) (v : Value) (h : AH), n < 4294967296 → size ≤ 4 → bs.length < 400 → n0 ≤ h.next → Own n0 h v (bytesV bs) 5 → ∃ v' h', call 66 [v, iv n, iv size] h = some (v', h') ∧ Own n0 h' v' (bytesV (bs ++ leN n size)) 5 ∧ Grow n0 h h' ∧ (∀ k, k < h.next → Off v k → h'.get k = h.get k) ∧ (0 < size → Own h.next h' v' (bytesV (bs ++ leN n size)) 5))
    (hPE : ∀ (x : XV) (n0 : Nat) (bs : List Nat) (v : Value) (h : AH), okX x → bs.length < 300 → n0 ≤ h.next → Own n0 h v (bytesV bs) 5 → ∃ v' h', call 143 [v, extV x] h = some (v', h') ∧ Own n0 h' v' (bytesV (bs ++ encX x)) 5 ∧ Grow n0 h h')
    (hpt : ∀ (n : NV) (e : Value) (h : AH), ∃ v' h', call 144 [nodeV n e] h = some (v', h') ∧ Own h.next h' v' (intsV (ptrs n)) 3 ∧ Grow h.next h h')
    (hSd : ∀ (n : NV) (v : Value) (xs : List XV) (n0 : Nat) (h : AH), RowE n0 h v xs → (∀ x ∈ xs, okX x) → xs.length ≤ 96 → n0 ≤ h.next → ∃ h', call 142 [nodeV n v] h = some (.bool (soundN n xs), h') ∧ Grow h.next h h')
    (hSum : ∀ (bs : List Nat) (v : Value) (h : AH), (∀ x ∈ bs, x < 256) → bs.length ≤ 1000 → Row h.next h v (bytesV bs) 5 → call 135 [v] h = some (wv (spinU (spinN bs)), h))
    (n : NV) (hok : okN n) (v : Value) (xs : List XV) (n0 : Nat) (h : AH) (hv : RowE n0 h v xs) (hx : ∀ x ∈ xs, okX x) (hL : xs.length ≤ 60) (hn : n0 ≤ h.next) :
    ∃ r h', frameB T0 X0 call 3000 85 [nodeV n v] h = some (r, h') ∧ Grow h.next h h' ∧ ((soundN n xs = false ∧ r = .tuple #[nilV, iv 2]) ∨ (soundN n xs = true ∧ ∃ v', r = .tuple #[v', iv 0] ∧ Own h.next h' v' (bytesV (encN n xs)) 5)) := by
  obtain ⟨ok1, ok2, ok3, ok4, ok5, ok6⟩ := hok
  generalize hh1 : h.new (.cells (PM.ofList (nodeL n v)) (nodeL n v).length 48 0 0 .ex) = h1
  have g1 : Grow h.next h h1 := by rw [← hh1]; exact Grow.new _ _
  have hb1 : NodeB h1 h.next n v := by rw [← hh1]; exact NodeB.new _ _ _
  have l1 : h.next < h1.next := by rw [← hh1]; exact Nat.lt_succ_self _
  have hbn : ∀ h, rp (some (evNewVar h 48 (nodeV n v))) = some (.value (pv h.next 0), h.new (.cells (PM.ofList (nodeL n v)) (nodeL n v).length 48 0 0 .ex)) := fun h => box_agg
  have hv1 := hv.grow g1 hn
  have hn1 := Nat.le_trans hn g1.next
  obtain ⟨h2, c1, c2⟩ := hSd n v xs n0 h1 hv1 hx (by omega) hn1
  have g2 := g1.trans c2 g1.next
  have q1 := hb1.loads
  have hb2 := hb1.grow c2 l1
  have q2 := hb2.loads
  have l2 : h.next < h2.next := Nat.lt_of_lt_of_le l1 c2.next
  rw [frameB_eq ft85 rfl rfl]
  cases hs : soundN n xs with
  | false =>
    rw [hs] at c1
    refine ⟨_, h2, ?_, g2, .inl ⟨by trivial, rfl⟩⟩
    simp only [Tryz.f85, symM, opFn, Nat.reduceLT, Nat.reduceBEq, symM, hbn, hh1, q1, evCall_fn ft142 rfl, c1]
    exact retB_two ft85 rfl (by simp only [symM, Nat.reduceBEq]) get_same
  | true =>
    rw [hs] at c1
    obtain ⟨w3, h3, a3, o3, c3, _⟩ := hP n.k 1 h2.next [] nilV h2 (by omega) (by omega) (by simp) (Nat.le_refl _) (Own.nil _ _ _)
    have q3 := (hb2.grow c3 l2).loads
    obtain ⟨w4, h4, a4, o4, c4, _⟩ := hP n.f 1 h2.next _ w3 h3 (by omega) (by omega) (by simp [leN_len]) c3.next o3
    have c34 := c3.trans c4 (Nat.le_refl _)
    have q4 := (hb2.grow c34 l2).loads
    obtain ⟨w5, h5, a5, o5, c5, _⟩ := hP n.l 2 h2.next _ w4 h4 (by omega) (by omega) (by simp [leN_len]) c34.next o4
    have c35 := c34.trans c5 (Nat.le_refl _)
    have q5 := (hb2.grow c35 l2).loads
    obtain ⟨w6, h6, a6, o6, c6, _⟩ := hP n.s 2 h2.next _ w5 h5 (by omega) (by omega) (by simp [leN_len]) c35.next o5
    have c36 := c35.trans c6 (Nat.le_refl _)
    have hb6 := hb2.grow c36 l2
    have q6 := hb6.loads
    have o6 : Own h2.next h6 w6 (bytesV (headB n)) 5 := by
      rw [show headB n = [] ++ leN n.k 1 ++ leN n.f 1 ++ leN n.l 2 ++ leN n.s 2 by unfold headB; rw [List.nil_append]]
      exact o6
    have a3 : call 66 [nilV, iv n.k, iv 1] h2 = _ := a3
    have a4 : call 66 [w3, iv n.f, iv 1] h3 = _ := a4
    have a5 : call 66 [w4, iv n.l, iv 2] h4 = _ := a5
    have a6 : call 66 [w5, iv n.s, iv 2] h5 = _ := a6
    have hv6 := (hv.grow g2 hn).grow c36 (Nat.le_trans hn g2.next)
    have lf := flat_len xs
    have lfp := flatp_len (ptrs n)
    have lh := headB_len n
    have lpt : (ptrs n).length = 6 := rfl
    have hlast : ∀ (w : Value) (hh : AH), Grow h2.next h2 hh → Own h2.next hh w (bytesV (firstB n xs)) 5 → (firstB n xs).length = 28 → ∃ w9 h9, call 135 [w] hh = some (wv (spinU (spinN (firstB n xs))), hh) ∧ call 66 [w, iv (spinU (spinN (firstB n xs))), iv 4] hh = some (w9, h9) ∧ Own h2.next h9 w9 (bytesV (encN n xs)) 5 ∧ Grow h.next h h9 := by
      intro w hh gg ho hl
      obtain ⟨w9, h9, y1, y2, y3, _⟩ := hP (spinU (spinN (firstB n xs))) 4 h2.next _ w hh (spinU_lt _) (by omega) (by omega) gg.next ho
      exact ⟨w9, h9, hSum _ _ _ (firstB_lt n xs) (by omega) ho.row, y1, y2, g2.trans (gg.trans y3 (Nat.le_refl _)) g2.next⟩
    have wsum : IntKind.i64.wrap ((spinU (spinN (firstB n xs)) : Nat) : Int) = ((spinU (spinN (firstB n xs)) : Nat) : Int) := IntWalk.i64_in _ (by have := spinU_lt (firstB n xs); omega)
    by_cases f2 : n.f = 2
    · have hx3 : xs.length ≤ 3 := by
        unfold soundN at hs
        by_cases k0 : n.k = 0
        · rw [if_pos k0] at hs
          have : sameN n NV.zero = true := by cases hq : sameN n NV.zero with | true => rfl | false => rw [hq] at hs; cases hs
          unfold sameN NV.zero at this
          simp at this
          omega
        · rw [if_neg k0, if_neg (show ¬ n.f = 1 by omega), if_pos f2] at hs
          simp only [Bool.and_eq_true, decide_eq_true_eq] at hs
          exact hs.2.2.2.1
      have lA : (headB n ++ xs.flatMap encX).length = 6 + 4 * xs.length := by rw [List.length_append, lh, lf]
      have lp : (pad 18 (headB n ++ xs.flatMap encX)).length = 18 := by unfold pad; rw [List.length_append, List.length_replicate, lA]; omega
      have hB : pad 18 (headB n ++ xs.flatMap encX) ++ leN n.c 2 = bodyB n xs := by unfold bodyB; rw [if_pos f2]
      have lB : (bodyB n xs).length = 20 := by rw [← hB, List.length_append, lp, leN_len]
      have lF : (firstB n xs).length = 28 := by unfold firstB pad; rw [List.length_append, List.length_replicate, lB]
      simp only [Tryz.f85, symM, opFn, Nat.reduceLT, Nat.reduceBEq, symM, symL, hbn, hh1, field_N, q1, q2, q3, q4, q5, q6, evCall_fn ft142 rfl, c1, evCall_fn ft66 rfl, a3, a4, a5, a6, bin_eql, eqT (show (n.f : Int) = 2 by omega)]
      generalize hX : codeB T0 X0 call _ EEr (.loop _) _ _ _ = X
      obtain ⟨t1, h7, e1, ⟨w7, u1, u2, u3⟩, g7⟩ := use_exit hX (rencL hPE n v xs n0 h2.next h.next (Nat.le_trans hn g2.next) l2 hx hL xs 0 (headB n) _ h6 _ _ rfl (by simp) (by omega) (by omega) c36.next hv6 hb6 o6 (by simp only [symM, Nat.reduceBEq]) (by simp only [symM, Nat.reduceBEq]) (by simp only [symM]; rfl))
      clear hX
      subst e1
      have c37 := c36.trans g7 (Nat.le_refl _)
      simp only [symM, symM, symL]
      generalize hX : codeB T0 X0 call _ EEr (.loop _) _ _ _ = X
      obtain ⟨t2, h8, e2, ⟨w8, u4, u5, u6⟩, g8⟩ := use_exit hX (padR2 h2.next h.next (18 - (headB n ++ xs.flatMap encX).length) (headB n ++ xs.flatMap encX) w7 h7 t1 _ (by omega) (by omega) c37.next u3 u2 u1)
      clear hX
      subst e2
      have u6 : Own h2.next h8 w8 (bytesV (pad 18 (headB n ++ xs.flatMap encX))) 5 := u6
      have c38 := c37.trans g8 (Nat.le_refl _)
      have q8 := (hb2.grow c38 l2).loads
      obtain ⟨w9, h9, a9, o9, c9, _⟩ := hP n.c 2 h2.next _ w8 h8 (by omega) (by omega) (by omega) c38.next u6
      have a9 : call 66 [w8, iv n.c, iv 2] h8 = _ := a9
      rw [hB] at o9
      have c39 := c38.trans c9 (Nat.le_refl _)
      simp only [symM, opFn, Nat.reduceLT, Nat.reduceBEq, symM, symL, u4, u5, field_N, q8, evCall_fn ft66 rfl, a9]
      generalize hX : codeB T0 X0 call _ EEr (.loop _) _ _ _ = X
      obtain ⟨t3, h10, e3, ⟨w10, u7, u8, u9⟩, g10⟩ := use_exit hX (padR4 h2.next h.next (28 - (bodyB n xs).length) (bodyB n xs) w9 h9 _ _ (by omega) (by omega) c39.next o9 (by simp only [symM, Nat.reduceBEq, u5]) (by simp only [symM]))
      clear hX
      subst e3
      have u9 : Own h2.next h10 w10 (bytesV (firstB n xs)) 5 := u9
      obtain ⟨w11, h11, y1, y2, y3, y4⟩ := hlast w10 h10 (c39.trans g10 (Nat.le_refl _)) u9 lF
      have y2 : call 66 [w10, iv (spinU (spinN (firstB n xs))), iv 4] h10 = _ := y2
      refine ⟨_, h11, ?_, y4, .inr ⟨by trivial, w11, rfl, y3.less g2.next⟩⟩
      simp only [symM, opFn, Nat.reduceLT, Nat.reduceBEq, symM, symL, u7, evCall_fn ft135' rfl, y1, conv_i2i und_u32' und_int, wsum, evCall_fn ft66 rfl, y2]
      exact retB_two ft85 rfl (by simp only [symM, Nat.reduceBEq]) get_same
    · obtain ⟨pw, h7, p1, p2, p3⟩ := hpt n v h6
      have hB : headB n ++ ((ptrs n).flatMap fun p => leN p 2) = bodyB n xs := by unfold bodyB; rw [if_neg f2]
      have lB : (bodyB n xs).length = 18 := by rw [← hB, List.length_append, lh, lfp, lpt]
      have lF : (firstB n xs).length = 28 := by unfold firstB pad; rw [List.length_append, List.length_replicate, lB]
      simp only [Tryz.f85, symM, opFn, Nat.reduceLT, Nat.reduceBEq, symM, symL, hbn, hh1, field_N, q1, q2, q3, q4, q5, q6, evCall_fn ft142 rfl, c1, evCall_fn ft66 rfl, a3, a4, a5, a6, bin_eql, eqF (show ¬ (n.f : Int) = 2 by omega), evCall_fn ft144 rfl, p1]
      generalize hX : codeB T0 X0 call _ EEr (.loop _) _ _ _ = X
      obtain ⟨bp, C, b1, b2, b3, b4⟩ := p2.blk (by simp [intsV, ptrs])
      have c37 := c36.trans (p3.less c36.next) (Nat.le_refl _)
      obtain ⟨t1, h8, e1, ⟨w8, u1, u2, u3⟩, g8⟩ := use_exit hX (rptrL hP (ptrs n) ok6 pw bp C b4 h2.next h.next rfl (ptrs n) 0 (headB n) _ h7 _ _ rfl (by simp) (by omega) (by omega) c37.next b2 b3 (o6.apart b1) (o6.grow p3) (by simp only [symM, Nat.reduceBEq]) (by simp only [symM, Nat.reduceBEq]) (by simp only [symM, Nat.reduceBEq]) (by simp only [symM]; rfl))
      clear hX
      subst e1
      rw [hB] at u3
      have c38 := c37.trans g8 (Nat.le_refl _)
      simp only [symM, symM, symL]
      generalize hX : codeB T0 X0 call _ EEr (.loop _) _ _ _ = X
      obtain ⟨t3, h10, e3, ⟨w10, u7, u8, u9⟩, g10⟩ := use_exit hX (padR4 h2.next h.next (28 - (bodyB n xs).length) (bodyB n xs) w8 h8 t1 _ (by omega) (by omega) c38.next u3 u2 u1)
      clear hX
      subst e3
      have u9 : Own h2.next h10 w10 (bytesV (firstB n xs)) 5 := u9
      obtain ⟨w11, h11, y1, y2, y3, y4⟩ := hlast w10 h10 (c38.trans g10 (Nat.le_refl _)) u9 lF
      have y2 : call 66 [w10, iv (spinU (spinN (firstB n xs))), iv 4] h10 = _ := y2
      refine ⟨_, h11, ?_, y4, .inr ⟨by trivial, w11, rfl, y3.less g2.next⟩⟩
      simp only [symM, opFn, Nat.reduceLT, Nat.reduceBEq, symM, symL, u7, evCall_fn ft135' rfl, y1, conv_i2i und_u32' und_int, wsum, evCall_fn ft66 rfl, y2]
      exact retB_two ft85 rfl (by simp only [symM, Nat.reduceBEq]) get_same
end
end Go.Proofs.YtjdhdhmoedlfdaaGreat.Abs
namespace Go.Proofs.YtjdhdhmoedlfdaaGreat.Abs
open Go Go.Proofs
noncomputable section
variable {call : Abs.Callee}
set_option maxRecDepth 10000
theorem ft71 : T0.ft.get 71 = some Tryz.f71 := by kernel_rfl
theorem und_string : und T0 9 = some .string := by kernel_rfl
def strB (bs : List Nat) : Value := .string ⟨(bs.map fun (x : Nat) => UInt8.ofNat x).toArray⟩
theorem bytesA_of (bs : List Nat) : bytesA (bytesV bs) = some (bs.map fun (x : Nat) => UInt8.ofNat x) := by
  induction bs with
  | nil => rfl
  | cons x bs ih =>
    show (match byteOf (.int .u8 (x : Int)) with | some b => (match bytesA (bytesV bs) with | some r => some (b :: r) | none => none) | none => none) = _
    rw [ih]
    rfl
theorem conv_b2s {n : Nat} {h : AH} {v : Value} {bs : List Nat} (hv : Row n h v (bytesV bs) 5) : evConvert T0 57 9 v h = some (strB bs, h) := by
  rcases hv with ⟨rfl, h0⟩ | ⟨b, o, cap, c, m, lo, hi, kd, el, rfl, h2, h3, h4, h5⟩
  · have : bs = [] := by simpa [bytesV] using h0
    subst this
    simp only [evConvert, und_bytes, und_string, und_u8, evToString]
    rfl
  · have hs : evToString h (.slice (some ⟨b, o, none⟩) (bytesV bs).length cap) = some (strB bs) := by
      have hl : (ifB (Nat.beq (bytesV bs).length 0) (some []) (loadRow h b o (bytesV bs).length)) = some (bytesV bs) := by
        cases hb : Nat.beq (bytesV bs).length 0 with
        | true =>
          have := Nat.eq_of_beq_eq_true hb
          rw [List.length_eq_zero_iff.1 this]; rfl
        | false => rw [ifB_false]; exact loadRow_of h3 h4 h5
      unfold evToString
      simp only [hl, bytesA_of]
      rfl
    simp only [evConvert, und_bytes, und_string, und_u8, hs]
theorem s_eql0 {p q : Operand} {h : AH} {a b : ByteArray} : evBin T0 .eql 9 p q (.string a) (.string b) h = some (.bool (a.toList == b.toList)) := by
  show slowBin T0 .eql 9 p q (.string a) (.string b) = _
  unfold slowBin
  rw [prun_bind, show prun T0.P (eqGuard .eql 9 p q (.string a) (.string b)) = some () from rfl, Option.bind_some]
  rfl
theorem s_neq0 {p q : Operand} {h : AH} {a b : ByteArray} : evBin T0 .neq 9 p q (.string a) (.string b) h = some (.bool (!(a.toList == b.toList))) := by
  show slowBin T0 .neq 9 p q (.string a) (.string b) = _
  unfold slowBin
  rw [prun_bind, show prun T0.P (eqGuard .neq 9 p q (.string a) (.string b)) = some () from rfl, Option.bind_some]
  rfl
theorem u8_inj {l m : List Nat} (hl : ∀ x ∈ l, x < 256) (hm : ∀ x ∈ m, x < 256) : ((l.map fun (x : Nat) => UInt8.ofNat x) = m.map fun (x : Nat) => UInt8.ofNat x) ↔ l = m := by
  constructor
  · intro h
    induction l generalizing m with
    | nil => cases m with | nil => rfl | cons y m => simp at h
    | cons x l ih =>
      cases m with
      | nil => simp at h
      | cons y m =>
        rw [List.map_cons, List.map_cons, List.cons.injEq] at h
        have hx := hl x (by simp)
        have hy := hm y (by simp)
        have h1 := congrArg UInt8.toNat h.1
        rw [UInt8.toNat_ofNat_of_lt' hx, UInt8.toNat_ofNat_of_lt' hy] at h1
        rw [h1, ih (fun z hz => hl z (by simp [hz])) (fun z hz => hm z (by simp [hz])) h.2]
  · intro h; rw [h]
theorem ba_eq {l m : List Nat} (hl : ∀ x ∈ l, x < 256) (hm : ∀ x ∈ m, x < 256) : ((⟨(l.map fun (x : Nat) => UInt8.ofNat x).toArray⟩ : ByteArray).toList == (⟨(m.map fun (x : Nat) => UInt8.ofNat x).toArray⟩ : ByteArray).toList) = decide (l = m) := by
  rw [ByteArray.toList_eq, ByteArray.toList_eq]
  show ((l.map fun (x : Nat) => UInt8.ofNat x) == (m.map fun (x : Nat) => UInt8.ofNat x)) = _
  by_cases h : l = m
  · subst h; simp
  · rw [decide_eq_false h]
    have hne : ¬ (l.map fun (x : Nat) => UInt8.ofNat x) = m.map fun (x : Nat) => UInt8.ofNat x := fun q => h ((u8_inj hl hm).1 q)
    simpa using hne
theorem s_eql {p q : Operand} {h : AH} {l m : List Nat} (hl : ∀ x ∈ l, x < 256) (hm : ∀ x ∈ m, x < 256) : evBin T0 .eql 9 p q (strB l) (strB m) h = some (.bool (decide (l = m))) := by
  unfold strB; rw [s_eql0, ba_eq hl hm]
theorem s_neq {p q : Operand} {h : AH} {l m : List Nat} (hl : ∀ x ∈ l, x < 256) (hm : ∀ x ∈ m, x < 256) : evBin T0 .neq 9 p q (strB l) (strB m) h = some (.bool (!decide (l = m))) := by
  unfold strB; rw [s_neq0, ba_eq hl hm]
theorem BEqual_S (l m : List Nat) (hl : ∀ x ∈ l, x < 256) (hm : ∀ x ∈ m, x < 256) (v w : Value) (n0 n1 : Nat) (h : AH) (hv : Row n0 h v (bytesV l) 5) (hw : Row n1 h w (bytesV m) 5) :
    frameB T0 X0 call 3000 71 [v, w] h = some (.bool (decide (l = m)), h) := by
  rw [frameB_eq ft71 rfl rfl]
  simp only [Tryz.f71, symM, opFn, Nat.reduceLT, Nat.reduceBEq, symM, conv_b2s hv, conv_b2s hw, s_eql hl hm]
  exact retB_one ft71 rfl get_same
def numsAt (bs : List Nat) (a k : Nat) : List Nat := (List.range' a k 2).map (numAt bs)
theorem numsAt_snoc (bs : List Nat) (a k : Nat) : numsAt bs a (k + 1) = numsAt bs a k ++ [numAt bs (a + 2 * k)] := by
  unfold numsAt; rw [List.range'_concat, List.map_append]; simp
theorem app_int {n : Nat} {h : AH} {v : Value} {l : List Nat} (ho : Own n h v (intsV l) 3) (x : Nat) (hl : l.length < 1000) (hn : n ≤ h.next) (ty : TypeId) :
    ∃ v' h', evBuiltin T0 .append #[31, 31] ty [v, .slice (some ⟨h.next, 0, none⟩) 1 1] (h.new (.cells (PM.ofList [iv x]) 1 3 0 0 .ex)) = some (.value v', h') ∧ Own n h' v' (intsV (l ++ [x])) 3 ∧ Grow n h h' := by
  obtain ⟨v', h', e1, e2, e3⟩ := append_one und_ints tt_int ti_int.1 ti_int.2.1 ti_int.2.2 ho (x := iv x) rfl (by simp [intsV]; omega) hn ty
  exact ⟨v', h', e1, by simpa [intsV] using e2, e3⟩
noncomputable def bodyNs : Code := part Tryz.f78 [1, 1, 0, 1, 0, 0]
abbrev ENs : Env := ⟨78, 28, none⟩
theorem numsL (hN : ∀ (bs : List Nat) (i : Nat) (v : Value) (n0 : Nat) (h : AH), (∀ x ∈ bs, x < 256) → i + 2 ≤ bs.length → bs.length < 1000 → RowX n0 h v bs → call 73 [v, iv i, iv 2] h = some (iv (numAt bs i), h))
    (bs : List Nat) (hbs : ∀ x ∈ bs, x < 256) (hl : bs.length < 1000) (v : Value) (a cnt n0 n1 : Nat) (hn01 : n0 ≤ n1) (hal : a + 2 * cnt ≤ bs.length) :
    ∀ (k i : Nat) (w : Value) (h : AH) (tm : PM Value) (N : Nat), i + k = cnt → k + 40 ≤ N → n1 ≤ h.next → RowX n0 h v bs → Own n1 h w (intsV (numsAt bs a i)) 3 →
      tm.get 0 = some v → tm.get 1 = some (iv a) → tm.get 2 = some (iv 2) → tm.get 9 = some w → tm.get 11 = some (iv cnt) → tm.get 12 = some (iv i) →
      ∃ tm' h', codeB T0 X0 call N ENs (.loop bodyNs) tm h [] = .jump (.exit 0) tm' h' [] ∧ ((∃ w', tm'.get 9 = some w' ∧ Own n1 h' w' (intsV (numsAt bs a cnt)) 3) ∧ Grow n1 h h') := by
  intro k
  induction k with
  | zero =>
    intro i w h tm N hk hNN hn hv ho g0 g1 g2 g9 g11 g12
    obtain ⟨N, rfl⟩ : ∃ a, N = a + 40 := ⟨N - 40, by omega⟩
    have hi : i = cnt := by omega
    subst hi
    apply Exists.intro; apply Exists.intro
    refine ⟨?_, ⟨w, ?_, ho⟩, Grow.refl _ _⟩
    · rw [codeB_loop]
      simp only [bodyNs, part, Tryz.f78, sub, symM, opFn, Nat.reduceLT, g11, g12, bin_lss, decide_eq_false (show ¬ (i : Int) < (i : Int) by omega)]
      rfl
    · simp only [symM, Nat.reduceBEq, g9]
  | succ k ih =>
    intro i w h tm N hk hNN hn hv ho g0 g1 g2 g9 g11 g12
    obtain ⟨N, rfl⟩ : ∃ a, N = a + 40 := ⟨N - 40, by omega⟩
    have hc := hN bs (a + 2 * i) v n0 h hbs (by omega) hl hv
    have w1 : IntKind.i64.wrap ((i : Int) * 2) = ((2 * i : Nat) : Int) := by rw [wz (by omega)]; omega
    have w2 : IntKind.i64.wrap ((a : Int) + ((2 * i : Nat) : Int)) = ((a + 2 * i : Nat) : Int) := wadd (by omega)
    obtain ⟨v1, h1, e1, e2, e3⟩ := app_int ho (numAt bs (a + 2 * i)) (by simp [numsAt]; omega) hn 31
    rw [← numsAt_snoc] at e2
    rw [show N + 40 = (N + 39) + 1 from rfl, codeB_loop]
    simp only [bodyNs, part, Tryz.f78, sub, symM, opFn, Nat.reduceLT, Nat.reduceBEq, symM, g0, g1, g2, g9, g11, g12, bin_lss, decide_eq_true (show (i : Int) < (cnt : Int) by omega), bin_mul, w1, bin_add, w2, evCall_fn ft73 rfl, hc, bs_int1, e1, wadd1 (show i ≤ 400000 by omega)]
    exact wrapE (ih (i + 1) v1 h1 _ (N + 39) (by omega) (by omega) (Nat.le_trans hn e3.next) (hv.grow e3 hn01) e2 (by simp only [symM, Nat.reduceBEq, g0]) (by simp only [symM, Nat.reduceBEq, g1]) (by simp only [symM, Nat.reduceBEq, g2]) (by simp only [symM, Nat.reduceBEq]) (by simp only [symM, Nat.reduceBEq, g11]) get_same) e3
theorem Nums_S (hN : ∀ (bs : List Nat) (i : Nat) (v : Value) (n0 : Nat) (h : AH), (∀ x ∈ bs, x < 256) → i + 2 ≤ bs.length → bs.length < 1000 → RowX n0 h v bs → call 73 [v, iv i, iv 2] h = some (iv (numAt bs i), h))
    (bs : List Nat) (hbs : ∀ x ∈ bs, x < 256) (hl : bs.length < 1000) (v : Value) (a cnt n0 : Nat) (hal : a + 2 * cnt ≤ bs.length) (h : AH) (hn : n0 ≤ h.next) (hv : RowX n0 h v bs) :
    ∃ v' h', frameB T0 X0 call 3000 78 [v, iv a, iv 2, iv cnt] h = some (v', h') ∧ Own h.next h' v' (intsV (numsAt bs a cnt)) 3 ∧ Grow h.next h h' := by
  rw [frameB_eq ft78 rfl rfl]
  simp only [Tryz.f78, symM, opFn, Nat.reduceLT, Nat.reduceBEq, symM, symL]
  generalize hX : codeB T0 X0 call _ ENs (.loop _) _ _ _ = X
  obtain ⟨t1, h1, e1, ⟨w, e2, e3⟩, e4⟩ := use_exit hX (numsL hN bs hbs hl v a cnt n0 h.next hn hal cnt 0 nilV h _ _ (by omega) (by omega) (Nat.le_refl _) hv (Own.nil _ _ _) (by simp only [symM, Nat.reduceBEq]) (by simp only [symM, Nat.reduceBEq]) (by simp only [symM, Nat.reduceBEq]) (by simp only [symM, Nat.reduceBEq]) (by simp only [symM, Nat.reduceBEq]) (by simp only [symM]; rfl))
  clear hX
  subst e1
  refine ⟨w, h1, ?_, e3, e4⟩
  simp only [symM, opFn, Nat.reduceLT, symM, symL, e2]
  exact retB_one ft78 rfl get_same
end
end Go.Proofs.YtjdhdhmoedlfdaaGreat.Abs
namespace Go.Proofs.YtjdhdhmoedlfdaaGreat.Abs
open Go Go.Proofs
noncomputable section
variable {call : Abs.Callee}
set_option maxRecDepth 10000
theorem evStore_keep {T : Tab} {t : TypeId} {b o : Nat} {v : Value} {h h' : AH} (e : evStore T t (pv b o) v h = some h') : ∀ k, k ≠ b → h'.get k = h.get k := by
  intro k hk
  simp only [evStore, storeVarA] at e
  split at e
  · obtain ⟨_, e⟩ := ifB_some e
    split at e
    · cases e; rfl
    · unfold storeRow at e
      split at e
      · split at e
        · cases e
        · obtain ⟨_, e⟩ := ifB_some e
          cases e
          rw [AH.get_set, if_neg hk]
      · cases e
  · cases e
theorem OwnC.keep {s n : Nat} {h h' : AH} {v : Value} {k b : Nat} {cs : List Value} {e : TypeId} (ho : OwnC s n h v k cs e) (hb : b < n) (hn : h.next ≤ h'.next) (hg : ∀ k, k ≠ b → h'.get k = h.get k) : OwnC s n h' v k cs e := by
  rcases ho with h1 | ⟨b', c, kd, cap, h1, h2, h3, h4, h5⟩
  · exact .inl h1
  · exact .inr ⟨b', c, kd, cap, h1, Nat.lt_of_lt_of_le h2 hn, h3, (hg b' (by omega)).trans h4, h5⟩
theorem OwnE.one {n : Nat} {h : AH} {v : Value} {xs : List XV} (ho : OwnE n h v xs) : oneCell v = true := by
  rcases ho with ⟨rfl, _⟩ | ⟨b, c, kd, cap, _, _, rfl, _⟩ <;> rfl
theorem nodeL_one (n : NV) {e : Value} (he : oneCell e = true) : (nodeL n e).all oneCell = true := by
  show (true && (true && (true && (true && (true && (true && (true && (true && (true && (true && (oneCell e && (true && true)))))))))))) = true
  rw [he]; rfl
theorem NodeB.storeAll {k : Nat} {h : AH} {b : Nat} {n : NV} {e : Value} (hb : NodeB h b n e) (m : NV) {f : Value} (hf : oneCell f = true) (hn : k ≤ b) :
    ∃ h', evStore T0 48 (pv b 0) (nodeV m f) h = some h' ∧ NodeB h' b m f ∧ Grow k h h' ∧ h'.next = h.next :=
  BoxL.store hb (ws := nodeL m f) (o := 0) sz_Node rfl (by simp [nodeL]) (nodeL_one m hf) (by simp [nodeL]) hn
theorem NodeB.storeE {k : Nat} {h : AH} {b : Nat} {n : NV} {e : Value} (hb : NodeB h b n e) {f : Value} (hf : oneCell f = true) (hc : f.cells.toList = [f]) (hn : k ≤ b) :
    ∃ h', evStore T0 46 (pv b 10) f h = some h' ∧ NodeB h' b n f ∧ Grow k h h' ∧ h'.next = h.next :=
  BoxL.store hb (ws := [f]) (o := 10) sz_exts hc (by simp) (by simp [hf]) (by simp [nodeL]) hn
theorem NodeB.storeC {k : Nat} {h : AH} {b : Nat} {n : NV} {e : Value} (hb : NodeB h b n e) (c : Nat) (hn : k ≤ b) :
    ∃ h', evStore T0 3 (pv b 11) (iv c) h = some h' ∧ NodeB h' b { n with c := c } e ∧ Grow k h h' ∧ h'.next = h.next :=
  BoxL.store hb (ws := [iv c]) (o := 11) sz_int rfl (by simp) rfl (by simp [nodeL]) hn
theorem NodeB.storeSi {k : Nat} {h : AH} {b : Nat} {n : NV} {e : Value} (hb : NodeB h b n e) (c : Nat) (hn : k ≤ b) :
    ∃ h', evStore T0 3 (pv b 8) (iv c) h = some h' ∧ NodeB h' b { n with si := c } e ∧ Grow k h h' ∧ h'.next = h.next :=
  BoxL.store hb (ws := [iv c]) (o := 8) sz_int rfl (by simp) rfl (by simp [nodeL]) hn
theorem NodeB.storeDu {k : Nat} {h : AH} {b : Nat} {n : NV} {e : Value} (hb : NodeB h b n e) (c : Nat) (hn : k ≤ b) :
    ∃ h', evStore T0 3 (pv b 9) (iv c) h = some h' ∧ NodeB h' b { n with du := c } e ∧ Grow k h h' ∧ h'.next = h.next :=
  BoxL.store hb (ws := [iv c]) (o := 9) sz_int rfl (by simp) rfl (by simp [nodeL]) hn
theorem NodeB.storeArr {k : Nat} {h : AH} {b : Nat} {n : NV} {e : Value} (hb : NodeB h b n e) (p q r s : Nat) (hn : k ≤ b) :
    ∃ h', evStore T0 45 (pv b 4) (.agg #[iv p, iv q, iv r, iv s]) h = some h' ∧ NodeB h' b { n with d0 := p, d1 := q, d2 := r, d3 := s } e ∧ Grow k h h' ∧ h'.next = h.next :=
  BoxL.store hb (ws := [iv p, iv q, iv r, iv s]) (o := 4) sz_arr4 rfl (by simp) rfl (by simp [nodeL]) hn
theorem OwnE.cell {n : Nat} {h : AH} {v : Value} {xs : List XV} (ho : OwnE n h v xs) : v.cells.toList = [v] := by
  rcases ho with ⟨rfl, _⟩ | ⟨b, c, kd, cap, _, _, rfl, _⟩ <;> rfl
def nzX (x : XV) : Bool := !eqE x ⟨0, 0, 0⟩
def extsF (bs : List Nat) (i k : Nat) : List XV := ((List.range' i k).map fun j => extAt bs (6 + 4 * j)).filter nzX
theorem extsF_succ (bs : List Nat) (i k : Nat) : extsF bs i (k + 1) = (if nzX (extAt bs (6 + 4 * i)) then [extAt bs (6 + 4 * i)] else []) ++ extsF bs (i + 1) k := by
  unfold extsF
  rw [List.range'_succ, List.map_cons, List.filter_cons]
  split <;> simp
theorem extsF_len (bs : List Nat) (i k : Nat) : (extsF bs i k).length ≤ k := by
  unfold extsF
  exact Nat.le_trans (List.length_filter_le _ _) (by simp)
theorem extsF_ok {bs : List Nat} (hbs : ∀ x ∈ bs, x < 256) {i k : Nat} : ∀ x ∈ extsF bs i k, okX x := by
  intro x hx
  unfold extsF at hx
  have := (List.mem_filter.1 hx).1
  simp only [List.mem_map] at this
  obtain ⟨j, _, rfl⟩ := this
  exact extAt_okX hbs
def decN (bs : List Nat) : NV :=
  if byteAt bs 1 = 2 then ⟨byteAt bs 0, byteAt bs 1, numAt bs 2, numAt bs 4, 0, 0, 0, 0, 0, 0, numAt bs 18⟩
  else ⟨byteAt bs 0, byteAt bs 1, numAt bs 2, numAt bs 4, numAt bs 6, numAt bs 8, numAt bs 10, numAt bs 12, numAt bs 14, numAt bs 16, 0⟩
def decX (bs : List Nat) : List XV := if byteAt bs 1 = 2 then extsF bs 0 3 else []
def decOK (bs : List Nat) : Bool := decide (bs.length = 32) && (soundN (decN bs) (decX bs) && decide (encN (decN bs) (decX bs) = bs))
theorem decN_ok {bs : List Nat} (hbs : ∀ x ∈ bs, x < 256) : okN (decN bs) := by
  have b0 := byteAt_lt hbs (i := 0); have b1 := byteAt_lt hbs (i := 1)
  have := fun i => numAt_lt hbs (i := i)
  unfold decN
  split
  · refine ⟨Nat.lt_trans b0 (by decide), Nat.lt_trans b1 (by decide), this 2, this 4, this 18, ?_⟩
    intro p hp
    simp [ptrs] at hp
    omega
  · refine ⟨Nat.lt_trans b0 (by decide), Nat.lt_trans b1 (by decide), this 2, this 4, Nat.zero_lt_succ _, ?_⟩
    intro p hp
    simp only [ptrs, List.mem_cons, List.not_mem_nil, or_false] at hp
    rcases hp with rfl | rfl | rfl | rfl | rfl | rfl <;> exact this _
theorem decX_ok {bs : List Nat} (hbs : ∀ x ∈ bs, x < 256) : ∀ x ∈ decX bs, okX x := by
  unfold decX
  split
  · exact extsF_ok hbs
  · simp
theorem decX_len (bs : List Nat) : (decX bs).length ≤ 3 := by
  unfold decX
  split
  · exact extsF_len _ _ _
  · simp
theorem win_at {bs : List Nat} {a k i : Nat} (hi : i < k) : byteAt ((bs.drop a).take k) i = byteAt bs (a + i) := by
  unfold byteAt
  rw [List.getD_eq_getElem?_getD, List.getD_eq_getElem?_getD, List.getElem?_take, if_pos hi, List.getElem?_drop]
theorem win_ext {bs : List Nat} {a k : Nat} (hk : 4 ≤ k) : extAt ((bs.drop a).take k) 0 = extAt bs a := by
  unfold extAt numAt
  rw [win_at (by omega), win_at (by omega), win_at (by omega), win_at (by omega)]
  rfl
theorem win_lt {bs : List Nat} (hbs : ∀ x ∈ bs, x < 256) {a k : Nat} : ∀ x ∈ (bs.drop a).take k, x < 256 := fun x hx => hbs x (List.mem_of_mem_drop (List.mem_of_mem_take hx))
end
end Go.Proofs.YtjdhdhmoedlfdaaGreat.Abs
