
/- Are extents sound? -/
import Derived.Test.YthpfgiabdpeiaaaSame
namespace Go.Proofs.Ythpfgiabdpeiaaa.Abs
open Go Go.Proofs
noncomputable section
variable {call : Abs.Callee}
set_option maxRecDepth 10000
theorem ft34 : T0.ft.get 34 = some Try.f34 := by kernel_rfl
theorem ft45 : T0.ft.get 45 = some Try.f45 := by kernel_rfl
theorem ft46 : T0.ft.get 46 = some Try.f46 := by kernel_rfl
def meetX (r x : XV) : Bool := decide (r.x < x.x + x.y ∧ x.x < r.x + r.y)
def badX (en : Nat) (nx : Int) (x : XV) : Bool := !(runOK x.x x.y) || (decide (x.x < 59) || (decide (x.a < en) || ((decide (x.a = en) && decide ((x.x : Int) = nx)) || decide (96 < x.a + x.y))))
/-- Are these extents sound, behind those? -/
def extG : Nat → Int → List XV → List XV → Bool
  | _, _, _, [] => true
  | en, nx, prev, x :: l => !badX en nx x && (!(prev.any fun r => meetX r x) && extG (x.a + x.y) ((x.x + x.y : Nat) : Int) (prev ++ [x]) l)
theorem bi_max {T : Tab} {ts : Array TypeId} {ty : TypeId} {k : IntKind} {x y : Int} {h : AH} : evBuiltin T .max ts ty [.int k x, .int k y] h = some (.value (.int k (if y > x then y else x)), h) := by
  simp only [evBuiltin, flatOp]
  rfl
theorem runOK_b {x y : Nat} (h : runOK x y = true) : 1 ≤ y ∧ x + y ≤ 480 := of_decide_eq_true h
theorem Meet_S (hS : ∀ (x y : Nat) h, x ≤ 1048576 → y ≤ 1048576 → call 51 [cx x y] h = some (.bool (runOK x y), h)) (hp : ∀ (x y : Nat) h, x ≤ 1048576 → y ≤ 1048576 → call 52 [cx x y] h = some (.tuple #[iv x, iv y], h))
    (hm : ∀ (x y : Int) h, zok x = true → zok y = true → call 54 [iv x, iv y] h = some (make1V x y, h))
    (r x : XV) (hr : runOK r.x r.y = true) (hx : runOK x.x x.y = true) (h : AH) :
    ∃ a b : Int, frameB T0 X0 call 3000 46 [cx r.x r.y, cx x.x x.y] h = some (make1V a b, h) ∧ zok a = true ∧ zok b = true ∧ decide (0 < b) = meetX r x := by
  have b1 := runOK_b hr
  have b2 := runOK_b hx
  have w1 : IntKind.i64.wrap ((r.x : Int) + r.y) = (r.x : Int) + r.y := wz (by omega)
  have w2 : IntKind.i64.wrap ((x.x : Int) + x.y) = (x.x : Int) + x.y := wz (by omega)
  have m1 : -1000 ≤ (if (x.x : Int) > r.x then (x.x : Int) else r.x) ∧ (if (x.x : Int) > r.x then (x.x : Int) else r.x) ≤ 1000 := by split <;> omega
  have m2 : -1000 ≤ (if (x.x : Int) + x.y < (r.x : Int) + r.y then (x.x : Int) + x.y else (r.x : Int) + r.y) ∧ (if (x.x : Int) + x.y < (r.x : Int) + r.y then (x.x : Int) + x.y else (r.x : Int) + r.y) ≤ 1000 := by split <;> omega
  have w3 : IntKind.i64.wrap ((if (x.x : Int) + x.y < (r.x : Int) + r.y then (x.x : Int) + x.y else (r.x : Int) + r.y) - (if (x.x : Int) > r.x then (x.x : Int) else r.x)) = _ := wz (by omega)
  have z1 : zok (if (x.x : Int) > r.x then (x.x : Int) else r.x) = true := zok_k (by omega)
  have z2 : zok ((if (x.x : Int) + x.y < (r.x : Int) + r.y then (x.x : Int) + x.y else (r.x : Int) + r.y) - (if (x.x : Int) > r.x then (x.x : Int) else r.x)) = true := zok_k (by omega)
  refine ⟨_, _, ?_, z1, z2, ?_⟩
  · rw [frameB_eq ft46 rfl rfl]
    simp only [Try.f46, symM, opFn, Nat.reduceLT, Nat.reduceBEq, symM, evCall_fn ft51 rfl, evCall_fn ft52 rfl, evCall_fn ft54 rfl, hS r.x r.y _ (by omega) (by omega), hS x.x x.y _ (by omega) (by omega), hr, hx, hp r.x r.y _ (by omega) (by omega), hp x.x x.y _ (by omega) (by omega), bi_max, bi_min, bin_add, bin_sub, w1, w2, w3, hm _ _ _ z1 z2]
    exact retB_one ft46 rfl get_same
  · unfold meetX
    apply decide_eq_decide.2
    constructor
    · intro h0
      split at h0 <;> split at h0 <;> omega
    · intro h0
      split <;> split <;> omega
theorem zd0 : zd 0 = 0 := by decide
theorem neq_make {t : TypeId} {p q : Operand} {h : AH} {a b : Int} (ha : zok a = true) (hb : zok b = true) : evBin T0 .neq t p q (make1V a b) (.complex .f64 0 0) h = some (.bool (decide (0 < b))) := by
  unfold make1V
  have h0 : (.complex .f64 0 0 : Value) = cx 0 0 := by unfold cx; rw [zd0]
  by_cases hb0 : b ≤ 0
  · rw [if_pos hb0, h0, c_neq (by decide) (by decide) (by decide) (by decide), decide_eq_false (show ¬ 0 < b by omega)]
    rfl
  · rw [if_neg hb0, h0, c_neq ha hb (by decide) (by decide), decide_eq_true (show 0 < b by omega), decide_eq_false (show ¬ b = 0 by omega), Bool.and_false]
    rfl
theorem Ext1_S (hM : ∀ (r x : XV) (h : AH), runOK r.x r.y = true → runOK x.x x.y = true → ∃ a b : Int, call 46 [cx r.x r.y, cx x.x x.y] h = some (make1V a b, h) ∧ zok a = true ∧ zok b = true ∧ decide (0 < b) = meetX r x)
    (r x : XV) (hr : runOK r.x r.y = true) (hx : runOK x.x x.y = true) (b : Nat) (h : AH) (hb : BoxL h b 36 [iv x.a, cx x.x x.y]) :
    frameB T0 X0 call 3000 45 [cx r.x r.y, pv b 0] h = some (.bool (meetX r x), h) := by
  obtain ⟨p, q, e1, z1, z2, e2⟩ := hM r x h hr hx
  rw [frameB_eq ft45 rfl rfl]
  simp only [Try.f45, symM, opFn, Nat.reduceLT, Nat.reduceBEq, symM, field_E1, Nat.zero_add, (BoxE.load hb).2.2, evCall_fn ft46 rfl, e1, neq_make z1 z2, e2]
  exact retB_one ft45 rfl get_same
/-- The runs of extents. -/
def runsV (xs : List XV) : List Value := xs.map fun x => cx x.x x.y
theorem bs_run {x y : Int} {h : AH} : evBuildSlice T0 65 1 [(0, cx x y)] h = some (.slice (some ⟨h.next, 0, none⟩) 1 1, h.new (.cells (PM.ofList [cx x y]) 1 34 0 0 .ex)) := bs_one und_c128s sz_c128 zero_c128 rfl rfl
theorem BoxL.same {h h' : AH} {b el : Nat} {l : List Value} (hb : BoxL h b el l) (e : h'.get b = h.get b) : BoxL h' b el l := by
  obtain ⟨c, h1, h2⟩ := hb
  exact ⟨c, e.trans h1, h2⟩
theorem wrapG {P : PM Value → AH → Prop} {n : Nat} {a b : AH} (H : ∃ t c, P t c ∧ Grow n b c) (g : Grow n a b) : ∃ t c, P t c ∧ Grow n a c := by
  obtain ⟨t, c, h1, h2⟩ := H
  exact ⟨t, c, h1, g.trans h2 (Nat.le_refl _)⟩
noncomputable def bodyEx : Code := part Try.f34 [1, 1, 1, 1, 0, 1, 0, 0]
abbrev EEx : Env := ⟨34, 73, none⟩
theorem extLoop (hP : ∀ (x y : Nat) (h : AH), x ≤ 1048576 → y ≤ 1048576 → call 43 [cx x y] h = some (partsV x y, h))
    (hC : ∀ (v : Value) (prev : List XV) (x : XV) (n0 : Nat) (h : AH) (b : Nat), Row n0 h v (runsV prev) 34 → prev.length < 200 → BoxL h b 36 [iv x.a, cx x.x x.y] → (∀ r ∈ prev, runOK r.x r.y = true) → runOK x.x x.y = true →
      call 44 [v, .func (.func 45) #[] #[pv b 0]] h = some (.bool (prev.any fun r => meetX r x), h))
    (v : Value) (xs : List XV) (n0 n1 : Nat) (hn01 : n0 ≤ n1) (hx : ∀ x ∈ xs, okX x) (hL : xs.length ≤ 96) :
    ∀ (l prev : List XV) (i en : Nat) (nx : Int) (tm : PM Value) (h : AH) (rv : Value) (N : Nat), xs.drop i = l → i + l.length = xs.length → prev.length = i → (∀ r ∈ prev, runOK r.x r.y = true) → l.length + 60 ≤ N → n1 ≤ h.next → RowE n0 h v xs → Own n1 h rv (runsV prev) 34 →
      tm.get 3 = some (iv en) → tm.get 4 = some (iv nx) → tm.get 5 = some rv → tm.get 14 = some v → tm.get 15 = some (iv xs.length) → tm.get 16 = some (iv i) →
      ∃ tm' h', ((codeB T0 X0 call N EEx (.loop bodyEx) tm h [] = .jump .ret tm' h' [] ∧ tm'.get 2 = some (.bool false) ∧ extG en nx prev l = false) ∨ (codeB T0 X0 call N EEx (.loop bodyEx) tm h [] = .jump (.exit 0) tm' h' [] ∧ extG en nx prev l = true)) ∧ Grow n1 h h' := by
  intro l
  induction l with
  | nil =>
    intro prev i en nx tm h rv N hd hi hpl hpr hN hn hv ho g3 g4 g5 g14 g15 g16
    obtain ⟨N, rfl⟩ : ∃ a, N = a + 60 := ⟨N - 60, by simp at hN; omega⟩
    apply Exists.intro; apply Exists.intro
    refine ⟨.inr ⟨?_, rfl⟩, Grow.refl _ _⟩
    rw [codeB_loop]
    simp only [bodyEx, part, Try.f34, sub, symM, opFn, Nat.reduceLT, g15, g16, bin_lss, decide_eq_false (show ¬ (i : Int) < (xs.length : Nat) by simp at hi; omega)]
    rfl
  | cons x l ih =>
    intro prev i en nx tm h rv N hd hi hpl hpr hN hn hv ho g3 g4 g5 g14 g15 g16
    obtain ⟨N, rfl⟩ : ∃ a, N = a + 60 := ⟨N - 60, by simp at hN; omega⟩
    have hx1 : xs[i]? = some x := by have := congrArg (fun l => l[0]?) hd; simpa using this
    have hil : i < xs.length := by simp at hi; omega
    have hlt := decide_eq_true (show (i : Int) < (xs.length : Nat) by omega)
    obtain ⟨k1, k2, k3⟩ := hx x (List.mem_of_getElem? hx1)
    obtain ⟨b1, o1, p1, p2, _, _⟩ := hv.at hx1
    generalize hh1 : h.new (.cells (PM.ofList [iv 0, .complex .f64 0 0]) 2 36 0 0 .ex) = h1
    have q1 : Grow h.next h h1 := by rw [← hh1]; exact Grow.new _ _
    have hb1 : BoxL h1 h.next 36 [iv 0, .complex .f64 0 0] := by rw [← hh1]; exact BoxL.new _ _ _
    obtain ⟨h2, s1, s2, s3, s4⟩ := BoxE.store hb1 x (Nat.le_refl _)
    have q2 : Grow h.next h h2 := q1.trans s3 (Nat.le_refl _)
    have q2' : Grow n1 h h2 := q2.less hn
    obtain ⟨f1, f2, f3⟩ := BoxE.load s2
    have hPx := hP x.x x.y h2 (by omega) (by omega)
    have w96 : IntKind.i64.wrap (96 - (x.y : Int)) = 96 - (x.y : Int) := wz (by omega)
    cases hrun : runOK x.x x.y with
    | false =>
      apply Exists.intro; apply Exists.intro
      refine ⟨.inl ⟨?_, ?_, by unfold extG badX; rw [hrun]; rfl⟩, q2'⟩
      rw [codeB_loop]
      simp only [bodyEx, part, Try.f34, sub, symM, opFn, Nat.reduceLT, Nat.reduceBEq, symM, g14, g15, g16, bin_lss, hlt, p1, p2, alloc_E, hh1, s1, field_E1, Nat.zero_add, f3, evCall_fn ft43 rfl, hPx, partsV, hrun, cond_false, bin_neq, show ((2 : Int) == 0) = false from rfl]
      rfl
      simp only [symM]
    | true =>
      have rb := runOK_b hrun
      by_cases c2 : x.x < 59
      · apply Exists.intro; apply Exists.intro
        refine ⟨.inl ⟨?_, ?_, by unfold extG badX; rw [hrun, decide_eq_true c2]; rfl⟩, q2'⟩
        rw [codeB_loop]
        simp only [bodyEx, part, Try.f34, sub, symM, opFn, Nat.reduceLT, Nat.reduceBEq, symM, g14, g15, g16, bin_lss, hlt, p1, p2, alloc_E, hh1, s1, field_E1, Nat.zero_add, f3, evCall_fn ft43 rfl, hPx, partsV, hrun, cond_true, bin_neq, show ((0 : Int) == 0) = true from rfl, decide_eq_true (show (x.x : Int) < 59 by omega)]
        rfl
        simp only [symM]
      have d2 := decide_eq_false (show ¬ (x.x : Int) < 59 by omega)
      by_cases c3 : x.a < en
      · apply Exists.intro; apply Exists.intro
        refine ⟨.inl ⟨?_, ?_, by unfold extG badX; rw [hrun, decide_eq_false c2, decide_eq_true c3]; rfl⟩, q2'⟩
        rw [codeB_loop]
        simp only [bodyEx, part, Try.f34, sub, symM, opFn, Nat.reduceLT, Nat.reduceBEq, symM, g3, g14, g15, g16, bin_lss, hlt, p1, p2, alloc_E, hh1, s1, field_E1, field_E0, Nat.zero_add, f2, f3, evCall_fn ft43 rfl, hPx, partsV, hrun, cond_true, bin_neq, show ((0 : Int) == 0) = true from rfl, d2, decide_eq_true (show (x.a : Int) < en by omega)]
        rfl
        simp only [symM]
      have d3 := decide_eq_false (show ¬ (x.a : Int) < en by omega)
      by_cases c4 : x.a = en
      · have d4 := eqT (a := (x.a : Int)) (b := en) (by omega)
        by_cases c4b : (x.x : Int) = nx
        · apply Exists.intro; apply Exists.intro
          refine ⟨.inl ⟨?_, ?_, by unfold extG badX; rw [hrun, decide_eq_false c2, decide_eq_false c3, decide_eq_true c4, decide_eq_true c4b]; rfl⟩, q2'⟩
          rw [codeB_loop]
          simp only [bodyEx, part, Try.f34, sub, symM, opFn, Nat.reduceLT, Nat.reduceBEq, symM, g3, g4, g14, g15, g16, bin_lss, hlt, p1, p2, alloc_E, hh1, s1, field_E1, field_E0, Nat.zero_add, f2, f3, evCall_fn ft43 rfl, hPx, partsV, hrun, cond_true, bin_neq, bin_eql, show ((0 : Int) == 0) = true from rfl, d2, d3, d4, eqT c4b]
          rfl
          simp only [symM]
        by_cases c5 : 96 < x.a + x.y
        · apply Exists.intro; apply Exists.intro
          refine ⟨.inl ⟨?_, ?_, by unfold extG badX; rw [hrun, decide_eq_false c2, decide_eq_false c3, decide_eq_true c4, decide_eq_false c4b, decide_eq_true c5]; rfl⟩, q2'⟩
          rw [codeB_loop]
          simp only [bodyEx, part, Try.f34, sub, symM, opFn, Nat.reduceLT, Nat.reduceBEq, symM, g3, g4, g14, g15, g16, bin_lss, hlt, p1, p2, alloc_E, hh1, s1, field_E1, field_E0, Nat.zero_add, f2, f3, evCall_fn ft43 rfl, hPx, partsV, hrun, cond_true, bin_neq, bin_eql, bin_gtr, bin_sub, w96, show ((0 : Int) == 0) = true from rfl, d2, d3, d4, eqF c4b, decide_eq_true (show 96 - (x.y : Int) < x.a by omega)]
          rfl
          simp only [symM]
        have hrow := (ho.grow q2).row
        have hcall := hC rv prev x h2.next h2 h.next hrow (by omega) s2 hpr hrun
        have hbad : badX en nx x = false := by
          unfold badX
          rw [hrun, decide_eq_false c2, decide_eq_false c3, decide_eq_true c4, decide_eq_false c4b, decide_eq_false c5]
          rfl
        cases hany : (prev.any fun r => meetX r x) with
        | true =>
          rw [hany] at hcall
          apply Exists.intro; apply Exists.intro
          refine ⟨.inl ⟨?_, ?_, by unfold extG; rw [hany, hbad]; rfl⟩, q2'⟩
          rw [codeB_loop]
          simp only [bodyEx, part, Try.f34, sub, symM, opFn, Nat.reduceLT, Nat.reduceBEq, symM, g3, g4, g5, g14, g15, g16, bin_lss, hlt, p1, p2, alloc_E, hh1, s1, field_E1, field_E0, Nat.zero_add, f2, f3, evCall_fn ft43 rfl, hPx, partsV, hrun, cond_true, bin_neq, bin_eql, bin_gtr, bin_sub, w96, show ((0 : Int) == 0) = true from rfl, d2, d3, d4, eqF c4b, decide_eq_false (show ¬ 96 - (x.y : Int) < x.a by omega), evCall_fn ft44 rfl, hcall]
          rfl
          simp only [symM]
        | false =>
          rw [hany] at hcall
          obtain ⟨v3, h3, a1, a2', a3, a4⟩ := append_one2 und_c128s tt_c128 ti_c128.1 ti_c128.2.1 ti_c128.2.2 (ho.grow q2) (x := cx x.x x.y) rfl (by simp [runsV]; omega) (Nat.le_trans hn q2'.next) 65
          have wa : IntKind.i64.wrap ((x.a : Int) + x.y) = ((x.a + x.y : Nat) : Int) := wadd (by omega)
          have wb : IntKind.i64.wrap ((x.x : Int) + x.y) = ((x.x + x.y : Nat) : Int) := wadd (by omega)
          have n2 : h.next < h2.next := by rw [s4, ← hh1]; exact Nat.lt_succ_self _
          have a2 := a2'.less (Nat.le_trans hn q2.next)
          obtain ⟨u1, u2, u3⟩ := BoxE.load (s2.same (a4 h.next n2 (ho.apart (Nat.le_refl _))))
          rw [show N + 60 = (N + 59) + 1 from rfl, codeB_loop]
          simp only [bodyEx, part, Try.f34, sub, symM, opFn, Nat.reduceLT, Nat.reduceBEq, symM, g3, g4, g5, g14, g15, g16, bin_lss, hlt, p1, p2, alloc_E, hh1, s1, field_E1, field_E0, Nat.zero_add, f2, f3, evCall_fn ft43 rfl, hPx, partsV, hrun, cond_true, bin_neq, bin_eql, bin_gtr, bin_sub, w96, show ((0 : Int) == 0) = true from rfl, d2, d3, d4, eqF c4b, decide_eq_false (show ¬ 96 - (x.y : Int) < x.a by omega), evCall_fn ft44 rfl, hcall, bs_run, a1, u2, bin_add, wa, wb, wadd1 (show i ≤ 400000 by omega)]
          rw [show extG en nx prev (x :: l) = extG (x.a + x.y) ((x.x + x.y : Nat) : Int) (prev ++ [x]) l by rw [extG, hany, hbad]; rfl]
          exact wrapG (ih (prev ++ [x]) (i + 1) (x.a + x.y) ((x.x + x.y : Nat) : Int) _ h3 v3 (N + 59) (by rw [← List.drop_drop, hd]; rfl) (by simp at hi ⊢; omega) (by simp; omega) (by intro r hr; rcases List.mem_append.1 hr with hr | hr; exact hpr r hr; simp at hr; subst hr; exact hrun) (by simp at hN ⊢; omega) (Nat.le_trans hn (q2'.trans a3 (Nat.le_refl _)).next) (hv.grow (q2'.trans a3 (Nat.le_refl _)) hn01) (by simpa [runsV] using a2)
            (by simp only [symM, Nat.reduceBEq]) (by simp only [symM, Nat.reduceBEq]) (by simp only [symM, Nat.reduceBEq]) (by simp only [symM, Nat.reduceBEq, g14]) (by simp only [symM, Nat.reduceBEq, g15]) get_same) (q2'.trans a3 (Nat.le_refl _))
      · have d4 := eqF (a := (x.a : Int)) (b := en) (by omega)
        by_cases c5 : 96 < x.a + x.y
        · apply Exists.intro; apply Exists.intro
          refine ⟨.inl ⟨?_, ?_, by unfold extG badX; rw [hrun, decide_eq_false c2, decide_eq_false c3, decide_eq_false c4, decide_eq_true c5]; rfl⟩, q2'⟩
          rw [codeB_loop]
          simp only [bodyEx, part, Try.f34, sub, symM, opFn, Nat.reduceLT, Nat.reduceBEq, symM, g3, g14, g15, g16, bin_lss, hlt, p1, p2, alloc_E, hh1, s1, field_E1, field_E0, Nat.zero_add, f2, f3, evCall_fn ft43 rfl, hPx, partsV, hrun, cond_true, bin_neq, bin_eql, bin_gtr, bin_sub, w96, show ((0 : Int) == 0) = true from rfl, d2, d3, d4, decide_eq_true (show 96 - (x.y : Int) < x.a by omega)]
          rfl
          simp only [symM]
        have hrow := (ho.grow q2).row
        have hcall := hC rv prev x h2.next h2 h.next hrow (by omega) s2 hpr hrun
        have hbad : badX en nx x = false := by
          unfold badX
          rw [hrun, decide_eq_false c2, decide_eq_false c3, decide_eq_false c4, decide_eq_false c5]
          rfl
        cases hany : (prev.any fun r => meetX r x) with
        | true =>
          rw [hany] at hcall
          apply Exists.intro; apply Exists.intro
          refine ⟨.inl ⟨?_, ?_, by unfold extG; rw [hany, hbad]; rfl⟩, q2'⟩
          rw [codeB_loop]
          simp only [bodyEx, part, Try.f34, sub, symM, opFn, Nat.reduceLT, Nat.reduceBEq, symM, g3, g5, g14, g15, g16, bin_lss, hlt, p1, p2, alloc_E, hh1, s1, field_E1, field_E0, Nat.zero_add, f2, f3, evCall_fn ft43 rfl, hPx, partsV, hrun, cond_true, bin_neq, bin_eql, bin_gtr, bin_sub, w96, show ((0 : Int) == 0) = true from rfl, d2, d3, d4, decide_eq_false (show ¬ 96 - (x.y : Int) < x.a by omega), evCall_fn ft44 rfl, hcall]
          rfl
          simp only [symM]
        | false =>
          rw [hany] at hcall
          obtain ⟨v3, h3, a1, a2', a3, a4⟩ := append_one2 und_c128s tt_c128 ti_c128.1 ti_c128.2.1 ti_c128.2.2 (ho.grow q2) (x := cx x.x x.y) rfl (by simp [runsV]; omega) (Nat.le_trans hn q2'.next) 65
          have wa : IntKind.i64.wrap ((x.a : Int) + x.y) = ((x.a + x.y : Nat) : Int) := wadd (by omega)
          have wb : IntKind.i64.wrap ((x.x : Int) + x.y) = ((x.x + x.y : Nat) : Int) := wadd (by omega)
          have n2 : h.next < h2.next := by rw [s4, ← hh1]; exact Nat.lt_succ_self _
          have a2 := a2'.less (Nat.le_trans hn q2.next)
          obtain ⟨u1, u2, u3⟩ := BoxE.load (s2.same (a4 h.next n2 (ho.apart (Nat.le_refl _))))
          rw [show N + 60 = (N + 59) + 1 from rfl, codeB_loop]
          simp only [bodyEx, part, Try.f34, sub, symM, opFn, Nat.reduceLT, Nat.reduceBEq, symM, g3, g5, g14, g15, g16, bin_lss, hlt, p1, p2, alloc_E, hh1, s1, field_E1, field_E0, Nat.zero_add, f2, f3, evCall_fn ft43 rfl, hPx, partsV, hrun, cond_true, bin_neq, bin_eql, bin_gtr, bin_sub, w96, show ((0 : Int) == 0) = true from rfl, d2, d3, d4, decide_eq_false (show ¬ 96 - (x.y : Int) < x.a by omega), evCall_fn ft44 rfl, hcall, bs_run, a1, u2, bin_add, wa, wb, wadd1 (show i ≤ 400000 by omega)]
          rw [show extG en nx prev (x :: l) = extG (x.a + x.y) ((x.x + x.y : Nat) : Int) (prev ++ [x]) l by rw [extG, hany, hbad]; rfl]
          exact wrapG (ih (prev ++ [x]) (i + 1) (x.a + x.y) ((x.x + x.y : Nat) : Int) _ h3 v3 (N + 59) (by rw [← List.drop_drop, hd]; rfl) (by simp at hi ⊢; omega) (by simp; omega) (by intro r hr; rcases List.mem_append.1 hr with hr | hr; exact hpr r hr; simp at hr; subst hr; exact hrun) (by simp at hN ⊢; omega) (Nat.le_trans hn (q2'.trans a3 (Nat.le_refl _)).next) (hv.grow (q2'.trans a3 (Nat.le_refl _)) hn01) (by simpa [runsV] using a2)
            (by simp only [symM, Nat.reduceBEq]) (by simp only [symM, Nat.reduceBEq]) (by simp only [symM, Nat.reduceBEq]) (by simp only [symM, Nat.reduceBEq, g14]) (by simp only [symM, Nat.reduceBEq, g15]) get_same) (q2'.trans a3 (Nat.le_refl _))
theorem Extents_S (hP : ∀ (x y : Nat) (h : AH), x ≤ 1048576 → y ≤ 1048576 → call 43 [cx x y] h = some (partsV x y, h))
    (hC : ∀ (v : Value) (prev : List XV) (x : XV) (n0 : Nat) (h : AH) (b : Nat), Row n0 h v (runsV prev) 34 → prev.length < 200 → BoxL h b 36 [iv x.a, cx x.x x.y] → (∀ r ∈ prev, runOK r.x r.y = true) → runOK x.x x.y = true →
      call 44 [v, .func (.func 45) #[] #[pv b 0]] h = some (.bool (prev.any fun r => meetX r x), h))
    (v : Value) (xs : List XV) (n0 : Nat) (h : AH) (hn : n0 ≤ h.next) (hx : ∀ x ∈ xs, okX x) (hL : xs.length ≤ 96) (hv : RowE n0 h v xs) :
    ∃ h', frameB T0 X0 call 3000 34 [v] h = some (.bool (extG 0 (-1) [] xs), h') ∧ Grow h.next h h' := by
  rw [frameB_eq ft34 rfl rfl]
  simp only [Try.f34, symM, opFn, Nat.reduceLT, Nat.reduceBEq, symM, symL, hv.len, bin_gtr, decide_eq_false (show ¬ (96 : Int) < (xs.length : Nat) by omega)]
  generalize hX : codeB T0 X0 call _ EEx (.loop _) _ _ _ = X
  obtain ⟨t1, h1, e1, g1⟩ := use_loop (P := fun X => ∃ tm' h', ((X = .jump .ret tm' h' [] ∧ tm'.get 2 = some (.bool false) ∧ extG 0 (-1) [] xs = false) ∨ (X = .jump (.exit 0) tm' h' [] ∧ extG 0 (-1) [] xs = true)) ∧ Grow h.next h h') hX
    (extLoop hP hC v xs n0 h.next hn hx hL xs [] 0 0 (-1) _ h nilV _ rfl (by simp) rfl (by simp) (by omega) (Nat.le_refl _) hv (Own.nil _ _ _) (by simp only [symM, Nat.reduceBEq]; rfl) (by simp only [symM, Nat.reduceBEq]) (by simp only [symM, Nat.reduceBEq]) (by simp only [symM, Nat.reduceBEq]) (by simp only [symM, Nat.reduceBEq]) (by simp only [symM]; rfl))
  clear hX
  refine ⟨h1, ?_, g1⟩
  rcases e1 with ⟨e1, e2, e3⟩ | ⟨e1, e3⟩
  · subst e1
    rw [e3]
    simp only [symM, symM]
    exact retB_one ft34 rfl e2
  · subst e1
    rw [e3]
    simp only [symM, opFn, Nat.reduceLT, symM, symL]
    exact retB_one ft34 rfl get_same
end
end Go.Proofs.Ythpfgiabdpeiaaa.Abs
namespace Go.Proofs.Ythpfgiabdpeiaaa.Abs
open Go Go.Proofs
noncomputable section
variable {call : Abs.Callee}
set_option maxRecDepth 10000
theorem ft38 : T0.ft.get 38 = some Try.f38 := by kernel_rfl
/-- The blocks of extents. -/
def markF (prev : List XV) (k : Nat) : Bool := prev.any fun r => decide (r.x ≤ k ∧ k < r.x + r.y)
def anyF (f : Nat → Bool) (a k : Nat) : Bool := (List.range' a k).any f
theorem anyF_succ (f : Nat → Bool) (a k : Nat) : anyF f a (k + 1) = (f a || anyF f (a + 1) k) := by
  unfold anyF; rw [List.range'_succ, List.any_cons]
theorem any_mark (prev : List XV) (x : XV) (hp : ∀ r ∈ prev, runOK r.x r.y = true) (hx : runOK x.x x.y = true) : anyF (markF prev) x.x x.y = prev.any fun r => meetX r x := by
  have bx := runOK_b hx
  apply Bool.eq_iff_iff.2
  unfold anyF markF meetX
  simp only [List.any_eq_true, decide_eq_true_eq]
  constructor
  · rintro ⟨k, hk, r, hr, h1, h2⟩
    rw [List.mem_range'_1] at hk
    exact ⟨r, hr, by omega, by omega⟩
  · rintro ⟨r, hr, h1, h2⟩
    have br := runOK_b (hp r hr)
    by_cases hc : r.x ≤ x.x
    · exact ⟨x.x, by rw [List.mem_range'_1]; omega, r, hr, by omega, by omega⟩
    · exact ⟨r.x, by rw [List.mem_range'_1]; omega, r, hr, by omega, by omega⟩
noncomputable def bodyMk : Code := part Try.f38 [1, 1, 1, 1, 0, 1, 0, 0, 1, 0, 0, 1, 1, 0, 1, 0, 0]
noncomputable def bodyRe : Code := part Try.f38 [1, 1, 1, 1, 0, 1, 0, 0]
abbrev ERe : Env := ⟨38, 95, none⟩
theorem mkL (v dv : Value) (n1 en i x y : Nat) (be : Int) (hxy : x + y ≤ 480) : ∀ (k j : Nat) (f : Nat → Bool) (h : AH) (tm : PM Value) (N : Nat), j + k = x + y → k + 40 ≤ N → Own n1 h dv (boolsV f 0 480) 4 →
    tm.get 0 = some v → tm.get 3 = some dv → tm.get 4 = some (iv en) → tm.get 5 = some (iv be) → tm.get 6 = some (iv i) → tm.get 7 = some (iv x) → tm.get 8 = some (iv y) → tm.get 10 = some (iv j) →
    ∃ tm' h', ((codeB T0 X0 call N ERe (.loop bodyMk) tm h [] = .jump .ret tm' h' [] ∧ tm'.get 2 = some (.bool false) ∧ anyF f j k = true) ∨
      (codeB T0 X0 call N ERe (.loop bodyMk) tm h [] = .jump (.exit 2) tm' h' [] ∧ anyF f j k = false ∧ Own n1 h' dv (boolsV (fun m => f m || decide (j ≤ m ∧ m < j + k)) 0 480) 4 ∧
        tm'.get 0 = some v ∧ tm'.get 3 = some dv ∧ tm'.get 4 = some (iv en) ∧ tm'.get 5 = some (iv be) ∧ tm'.get 6 = some (iv i) ∧ tm'.get 7 = some (iv x) ∧ tm'.get 8 = some (iv y))) ∧ Grow n1 h h' := by
  have w1 : IntKind.i64.wrap ((x : Int) + y) = ((x + y : Nat) : Int) := wadd (by omega)
  intro k
  induction k with
  | zero =>
    intro j f h tm N hj hN ho g0 g3 g4 g5 g6 g7 g8 g10
    obtain ⟨N, rfl⟩ : ∃ a, N = a + 40 := ⟨N - 40, by omega⟩
    apply Exists.intro; apply Exists.intro
    refine ⟨.inr ⟨?_, rfl, ?_, ?_, ?_, ?_, ?_, ?_, ?_, ?_⟩, Grow.refl _ _⟩
    · rw [codeB_loop]
      simp only [bodyMk, part, Try.f38, sub, symM, opFn, Nat.reduceLT, Nat.reduceBEq, g7, g8, g10, bin_add, w1, bin_lss, decide_eq_false (show ¬ (j : Int) < ((x + y : Nat) : Int) by omega)]
      rfl
    · rw [boolsV_congr _ f 480 (fun m _ => by simp; omega)]; exact ho
    all_goals simp only [symM, Nat.reduceBEq, g0, g3, g4, g5, g6, g7, g8]
  | succ k ih =>
    intro j f h tm N hj hN ho g0 g3 g4 g5 g6 g7 g8 g10
    obtain ⟨N, rfl⟩ : ∃ a, N = a + 40 := ⟨N - 40, by omega⟩
    have hjl : j < 480 := by omega
    have hget := boolsV_at f hjl
    obtain ⟨p, a1, a2⟩ := ho.row.at und_bools sz_bool agg_bool hget
    have hlt := decide_eq_true (show (j : Int) < ((x + y : Nat) : Int) by omega)
    cases hf : f j with
    | true =>
      rw [hf] at a2
      apply Exists.intro; apply Exists.intro
      refine ⟨.inl ⟨?_, ?_, by rw [anyF_succ, hf]; rfl⟩, Grow.refl _ _⟩
      rw [codeB_loop]
      simp only [bodyMk, part, Try.f38, sub, symM, opFn, Nat.reduceLT, Nat.reduceBEq, g3, g7, g8, g10, bin_add, w1, bin_lss, hlt, a1, a2]
      rfl
      simp only [symM]
    | false =>
      rw [hf] at a2
      obtain ⟨p2, h1, b1, b2, b3, b4, b5⟩ := ho.store und_bools sz_bool (x := .bool true) rfl hget
      rw [a1] at b1
      cases b1
      rw [boolsV_set] at b3
      rw [show N + 40 = (N + 39) + 1 from rfl, codeB_loop]
      simp only [bodyMk, part, Try.f38, sub, symM, opFn, Nat.reduceLT, Nat.reduceBEq, g3, g7, g8, g10, bin_add, w1, bin_lss, hlt, a1, a2, b2, wadd1 (show j ≤ 400000 by omega)]
      have hE : ∀ m, m < 480 → ((fun m => (fun q => if q = j then true else f q) m || decide (j + 1 ≤ m ∧ m < j + 1 + k)) m) = ((fun m => f m || decide (j ≤ m ∧ m < j + (k + 1))) m) := by
        intro m _
        by_cases hm : m = j
        · subst hm; simp
        · simp only [if_neg hm]
          congr 1
          exact decide_eq_decide.2 (by omega)
      have hA : anyF (fun q => if q = j then true else f q) (j + 1) k = anyF f (j + 1) k := by
        unfold anyF
        apply Bool.eq_iff_iff.2
        simp only [List.any_eq_true]
        constructor
        · rintro ⟨m, hm, hq⟩
          have := List.mem_range'_1.1 hm
          rw [if_neg (by omega)] at hq
          exact ⟨m, hm, hq⟩
        · rintro ⟨m, hm, hq⟩
          have := List.mem_range'_1.1 hm
          exact ⟨m, hm, by rw [if_neg (by omega)]; exact hq⟩
      have hih := fun tm => ih (j + 1) (fun q => if q = j then true else f q) h1 tm (N + 39) (by omega) (by omega) b3
      rw [boolsV_congr _ _ 480 hE, hA] at hih
      rw [anyF_succ, hf, Bool.false_or]
      exact wrapG (hih _ (by simp only [symM, Nat.reduceBEq, g0]) (by simp only [symM, Nat.reduceBEq, g3]) (by simp only [symM, Nat.reduceBEq, g4]) (by simp only [symM, Nat.reduceBEq, g5]) (by simp only [symM, Nat.reduceBEq, g6]) (by simp only [symM, Nat.reduceBEq, g7]) (by simp only [symM, Nat.reduceBEq, g8]) get_same) b4
theorem rextLoop (hP : ∀ (x y : Nat) (h : AH), x ≤ 1048576 → y ≤ 1048576 → ∃ h', call 39 [cx x y] h = some (.tuple #[iv x, iv y, .bool (runOK x y)], h') ∧ Grow h.next h h')
    (v dv : Value) (xs : List XV) (n0 n1 : Nat) (hn01 : n0 ≤ n1) (hx : ∀ x ∈ xs, okX x) (hL : xs.length ≤ 96) :
    ∀ (l prev : List XV) (i en : Nat) (nx : Int) (tm : PM Value) (h : AH) (N : Nat), xs.drop i = l → i + l.length = xs.length → (∀ r ∈ prev, runOK r.x r.y = true) → l.length + 700 ≤ N → n1 ≤ h.next → RowE n0 h v xs → Own n1 h dv (boolsV (markF prev) 0 480) 4 →
      tm.get 0 = some v → tm.get 3 = some dv → tm.get 4 = some (iv en) → tm.get 5 = some (iv nx) → tm.get 6 = some (iv i) →
      ∃ tm' h', ((codeB T0 X0 call N ERe (.loop bodyRe) tm h [] = .jump .ret tm' h' [] ∧ tm'.get 2 = some (.bool false) ∧ extG en nx prev l = false) ∨ (codeB T0 X0 call N ERe (.loop bodyRe) tm h [] = .jump (.exit 0) tm' h' [] ∧ extG en nx prev l = true)) ∧ Grow n1 h h' := by
  intro l
  induction l with
  | nil =>
    intro prev i en nx tm h N hd hi hpr hN hn hv ho g0 g3 g4 g5 g6
    obtain ⟨N, rfl⟩ : ∃ a, N = a + 60 := ⟨N - 60, by simp at hN; omega⟩
    apply Exists.intro; apply Exists.intro
    refine ⟨.inr ⟨?_, rfl⟩, Grow.refl _ _⟩
    rw [codeB_loop]
    simp only [bodyRe, part, Try.f38, sub, symM, opFn, Nat.reduceLT, Nat.reduceBEq, g0, g6, hv.len, bin_lss, decide_eq_false (show ¬ (i : Int) < (xs.length : Nat) by simp at hi; omega)]
    rfl
  | cons x l ih =>
    intro prev i en nx tm h N hd hi hpr hN hn hv ho g0 g3 g4 g5 g6
    obtain ⟨N, rfl⟩ : ∃ a, N = a + 60 := ⟨N - 60, by simp at hN; omega⟩
    have hx1 : xs[i]? = some x := by have := congrArg (fun l => l[0]?) hd; simpa using this
    have hil : i < xs.length := by simp at hi; omega
    have hlt := decide_eq_true (show (i : Int) < (xs.length : Nat) by omega)
    obtain ⟨k1, k2, k3⟩ := hx x (List.mem_of_getElem? hx1)
    obtain ⟨b1, o1, p1, _, _, p4⟩ := hv.at hx1
    obtain ⟨h2, hPx, q2⟩ := hP x.x x.y h (by omega) (by omega)
    have q2' : Grow n1 h h2 := q2.less hn
    have hv2 := hv.grow q2' hn01
    obtain ⟨b2, o2, t1, _, t3, _⟩ := hv2.at hx1
    rw [p1] at t1
    cases t1
    have ho2 := ho.grow q2
    have w96 : IntKind.i64.wrap (96 - (x.y : Int)) = 96 - (x.y : Int) := wz (by omega)
    cases hrun : runOK x.x x.y with
    | false =>
      apply Exists.intro; apply Exists.intro
      refine ⟨.inl ⟨?_, ?_, by unfold extG badX; rw [hrun]; rfl⟩, q2'⟩
      rw [codeB_loop]
      simp only [bodyRe, part, Try.f38, sub, symM, opFn, Nat.reduceLT, Nat.reduceBEq, symM, g0, g6, hv.len, bin_lss, hlt, p1, p4, field_E1, evCall_fn ft39 rfl, hPx, hrun]
      rfl
      simp only [symM]
    | true =>
      have rb := runOK_b hrun
      by_cases c2 : x.x < 59
      · apply Exists.intro; apply Exists.intro
        refine ⟨.inl ⟨?_, ?_, by unfold extG badX; rw [hrun, decide_eq_true c2]; rfl⟩, q2'⟩
        rw [codeB_loop]
        simp only [bodyRe, part, Try.f38, sub, symM, opFn, Nat.reduceLT, Nat.reduceBEq, symM, g0, g6, hv.len, bin_lss, hlt, p1, p4, field_E1, evCall_fn ft39 rfl, hPx, hrun, decide_eq_true (show (x.x : Int) < 59 by omega)]
        rfl
        simp only [symM]
      have d2 := decide_eq_false (show ¬ (x.x : Int) < 59 by omega)
      by_cases c3 : x.a < en
      · apply Exists.intro; apply Exists.intro
        refine ⟨.inl ⟨?_, ?_, by unfold extG badX; rw [hrun, decide_eq_false c2, decide_eq_true c3]; rfl⟩, q2'⟩
        rw [codeB_loop]
        simp only [bodyRe, part, Try.f38, sub, symM, opFn, Nat.reduceLT, Nat.reduceBEq, symM, g0, g4, g6, hv.len, bin_lss, hlt, p1, p4, t3, field_E1, field_E0, evCall_fn ft39 rfl, hPx, hrun, d2, decide_eq_true (show (x.a : Int) < en by omega)]
        rfl
        simp only [symM]
      have d3 := decide_eq_false (show ¬ (x.a : Int) < en by omega)
      by_cases c5 : 96 < x.a + x.y
      · apply Exists.intro; apply Exists.intro
        refine ⟨.inl ⟨?_, ?_, by unfold extG badX; rw [hrun, decide_eq_false c2, decide_eq_false c3, decide_eq_true c5]; simp⟩, q2'⟩
        rw [codeB_loop]
        simp only [bodyRe, part, Try.f38, sub, symM, opFn, Nat.reduceLT, Nat.reduceBEq, symM, g0, g4, g6, hv.len, bin_lss, hlt, p1, p4, t3, field_E1, field_E0, evCall_fn ft39 rfl, hPx, hrun, bin_gtr, bin_sub, w96, d2, d3, decide_eq_true (show 96 - (x.y : Int) < x.a by omega)]
        rfl
        simp only [symM]
      have d5 := decide_eq_false (show ¬ 96 - (x.y : Int) < x.a by omega)
      by_cases c4 : x.a = en
      · have d4 := eqT (a := (x.a : Int)) (b := en) (by omega)
        by_cases c4b : (x.x : Int) = nx
        · apply Exists.intro; apply Exists.intro
          refine ⟨.inl ⟨?_, ?_, by unfold extG badX; rw [hrun, decide_eq_false c2, decide_eq_false c3, decide_eq_true c4, decide_eq_true c4b]; rfl⟩, q2'⟩
          rw [codeB_loop]
          simp only [bodyRe, part, Try.f38, sub, symM, opFn, Nat.reduceLT, Nat.reduceBEq, symM, g0, g4, g5, g6, hv.len, bin_lss, hlt, p1, p4, t3, field_E1, field_E0, evCall_fn ft39 rfl, hPx, hrun, bin_eql, bin_gtr, bin_sub, w96, d2, d3, d5, d4, eqT c4b]
          rfl
          simp only [symM]
        have hbad : badX en nx x = false := by
          unfold badX
          rw [hrun, decide_eq_false c2, decide_eq_false c3, decide_eq_true c4, decide_eq_false c4b, decide_eq_false c5]
          rfl
        rw [show N + 60 = (N + 59) + 1 from rfl, codeB_loop]
        simp only [bodyRe, part, Try.f38, sub, symM, opFn, Nat.reduceLT, Nat.reduceBEq, symM, symL, g0, g4, g5, g6, hv.len, bin_lss, hlt, p1, p4, t3, field_E1, field_E0, evCall_fn ft39 rfl, hPx, hrun, bin_eql, bin_gtr, bin_sub, w96, d2, d3, d5, d4, eqF c4b]
        generalize hX : codeB T0 X0 call _ ERe (.loop _) _ _ _ = X
        obtain ⟨t9, h9, e1, g9⟩ := use_loop (P := fun X => ∃ tm' h', ((X = .jump .ret tm' h' [] ∧ tm'.get 2 = some (.bool false) ∧ anyF (markF prev) x.x x.y = true) ∨ (X = .jump (.exit 2) tm' h' [] ∧ anyF (markF prev) x.x x.y = false ∧ Own n1 h' dv (boolsV (fun m => markF prev m || decide (x.x ≤ m ∧ m < x.x + x.y)) 0 480) 4 ∧
        tm'.get 0 = some v ∧ tm'.get 3 = some dv ∧ tm'.get 4 = some (iv en) ∧ tm'.get 5 = some (iv nx) ∧ tm'.get 6 = some (iv i) ∧ tm'.get 7 = some (iv x.x) ∧ tm'.get 8 = some (iv x.y))) ∧ Grow n1 h2 h') hX
          (mkL v dv n1 en i x.x x.y nx (by omega) x.y x.x (markF prev) h2 _ _ rfl (by simp at hN; omega) ho2 (by simp only [symM, Nat.reduceBEq, g0]) (by simp only [symM, Nat.reduceBEq, g3]) (by simp only [symM, Nat.reduceBEq, g4]) (by simp only [symM, Nat.reduceBEq, g5]) (by simp only [symM, Nat.reduceBEq, g6]) (by simp only [symM, Nat.reduceBEq]) (by simp only [symM, Nat.reduceBEq]) (by simp only [symM]))
        clear hX
        rw [any_mark prev x hpr hrun] at e1
        rcases e1 with ⟨e1, e2, e3⟩ | ⟨e1, e3, e4, r0, r3, r4, r5, r6, r7, r8⟩
        · subst e1
          refine ⟨_, h9, .inl ⟨?_, e2, by unfold extG; rw [e3, hbad]; rfl⟩, q2'.trans g9 (Nat.le_refl _)⟩
          simp only [symM, symM]
        · subst e1
          have wa : IntKind.i64.wrap ((x.a : Int) + x.y) = ((x.a + x.y : Nat) : Int) := wadd (by omega)
          have wb : IntKind.i64.wrap ((x.x : Int) + x.y) = ((x.x + x.y : Nat) : Int) := wadd (by omega)
          have g29 := q2'.trans g9 (Nat.le_refl _)
          have hv9 := hv.grow g29 hn01
          obtain ⟨b3, o3, u1, _, u3, _⟩ := hv9.at hx1
          have hmk : Own n1 h9 dv (boolsV (markF (prev ++ [x])) 0 480) 4 := by
            rw [boolsV_congr (markF (prev ++ [x])) (fun m => markF prev m || decide (x.x ≤ m ∧ m < x.x + x.y)) 480 (fun m _ => by unfold markF; rw [List.any_append]; simp)]
            exact e4
          simp only [symM, opFn, Nat.reduceLT, Nat.reduceBEq, symM, symL, r0, r6, r7, r8, u1, u3, field_E0, bin_add, wa, wb, wadd1 (show i ≤ 400000 by omega)]
          rw [show extG en nx prev (x :: l) = extG (x.a + x.y) ((x.x + x.y : Nat) : Int) (prev ++ [x]) l by rw [extG, e3, hbad]; rfl]
          exact wrapG (ih (prev ++ [x]) (i + 1) (x.a + x.y) ((x.x + x.y : Nat) : Int) _ h9 (N + 59) (by rw [← List.drop_drop, hd]; rfl) (by simp at hi ⊢; omega) (by intro r hr; rcases List.mem_append.1 hr with hr | hr; exact hpr r hr; simp at hr; subst hr; exact hrun) (by simp at hN ⊢; omega) (Nat.le_trans hn g29.next) hv9 hmk
            (by simp only [symM, Nat.reduceBEq, r0]) (by simp only [symM, Nat.reduceBEq, r3]) (by simp only [symM, Nat.reduceBEq]) (by simp only [symM, Nat.reduceBEq]) get_same) g29
      · have d4 := eqF (a := (x.a : Int)) (b := en) (by omega)
        have hbad : badX en nx x = false := by
          unfold badX
          rw [hrun, decide_eq_false c2, decide_eq_false c3, decide_eq_false c4, decide_eq_false c5]
          rfl
        rw [show N + 60 = (N + 59) + 1 from rfl, codeB_loop]
        simp only [bodyRe, part, Try.f38, sub, symM, opFn, Nat.reduceLT, Nat.reduceBEq, symM, symL, g0, g4, g6, hv.len, bin_lss, hlt, p1, p4, t3, field_E1, field_E0, evCall_fn ft39 rfl, hPx, hrun, bin_eql, bin_gtr, bin_sub, w96, d2, d3, d5, d4]
        generalize hX : codeB T0 X0 call _ ERe (.loop _) _ _ _ = X
        obtain ⟨t9, h9, e1, g9⟩ := use_loop (P := fun X => ∃ tm' h', ((X = .jump .ret tm' h' [] ∧ tm'.get 2 = some (.bool false) ∧ anyF (markF prev) x.x x.y = true) ∨ (X = .jump (.exit 2) tm' h' [] ∧ anyF (markF prev) x.x x.y = false ∧ Own n1 h' dv (boolsV (fun m => markF prev m || decide (x.x ≤ m ∧ m < x.x + x.y)) 0 480) 4 ∧
        tm'.get 0 = some v ∧ tm'.get 3 = some dv ∧ tm'.get 4 = some (iv en) ∧ tm'.get 5 = some (iv nx) ∧ tm'.get 6 = some (iv i) ∧ tm'.get 7 = some (iv x.x) ∧ tm'.get 8 = some (iv x.y))) ∧ Grow n1 h2 h') hX
          (mkL v dv n1 en i x.x x.y nx (by omega) x.y x.x (markF prev) h2 _ _ rfl (by simp at hN; omega) ho2 (by simp only [symM, Nat.reduceBEq, g0]) (by simp only [symM, Nat.reduceBEq, g3]) (by simp only [symM, Nat.reduceBEq, g4]) (by simp only [symM, Nat.reduceBEq, g5]) (by simp only [symM, Nat.reduceBEq, g6]) (by simp only [symM, Nat.reduceBEq]) (by simp only [symM, Nat.reduceBEq]) (by simp only [symM]))
        clear hX
        rw [any_mark prev x hpr hrun] at e1
        rcases e1 with ⟨e1, e2, e3⟩ | ⟨e1, e3, e4, r0, r3, r4, r5, r6, r7, r8⟩
        · subst e1
          refine ⟨_, h9, .inl ⟨?_, e2, by unfold extG; rw [e3, hbad]; rfl⟩, q2'.trans g9 (Nat.le_refl _)⟩
          simp only [symM, symM]
        · subst e1
          have wa : IntKind.i64.wrap ((x.a : Int) + x.y) = ((x.a + x.y : Nat) : Int) := wadd (by omega)
          have wb : IntKind.i64.wrap ((x.x : Int) + x.y) = ((x.x + x.y : Nat) : Int) := wadd (by omega)
          have g29 := q2'.trans g9 (Nat.le_refl _)
          have hv9 := hv.grow g29 hn01
          obtain ⟨b3, o3, u1, _, u3, _⟩ := hv9.at hx1
          have hmk : Own n1 h9 dv (boolsV (markF (prev ++ [x])) 0 480) 4 := by
            rw [boolsV_congr (markF (prev ++ [x])) (fun m => markF prev m || decide (x.x ≤ m ∧ m < x.x + x.y)) 480 (fun m _ => by unfold markF; rw [List.any_append]; simp)]
            exact e4
          simp only [symM, opFn, Nat.reduceLT, Nat.reduceBEq, symM, symL, r0, r6, r7, r8, u1, u3, field_E0, bin_add, wa, wb, wadd1 (show i ≤ 400000 by omega)]
          rw [show extG en nx prev (x :: l) = extG (x.a + x.y) ((x.x + x.y : Nat) : Int) (prev ++ [x]) l by rw [extG, e3, hbad]; rfl]
          exact wrapG (ih (prev ++ [x]) (i + 1) (x.a + x.y) ((x.x + x.y : Nat) : Int) _ h9 (N + 59) (by rw [← List.drop_drop, hd]; rfl) (by simp at hi ⊢; omega) (by intro r hr; rcases List.mem_append.1 hr with hr | hr; exact hpr r hr; simp at hr; subst hr; exact hrun) (by simp at hN ⊢; omega) (Nat.le_trans hn g29.next) hv9 hmk
            (by simp only [symM, Nat.reduceBEq, r0]) (by simp only [symM, Nat.reduceBEq, r3]) (by simp only [symM, Nat.reduceBEq]) (by simp only [symM, Nat.reduceBEq]) get_same) g29
theorem rExtents_S (hP : ∀ (x y : Nat) (h : AH), x ≤ 1048576 → y ≤ 1048576 → ∃ h', call 39 [cx x y] h = some (.tuple #[iv x, iv y, .bool (runOK x y)], h') ∧ Grow h.next h h')
    (v : Value) (xs : List XV) (n0 : Nat) (h : AH) (hn : n0 ≤ h.next) (hx : ∀ x ∈ xs, okX x) (hL : xs.length ≤ 96) (hv : RowE n0 h v xs) :
    ∃ h', frameB T0 X0 call 3000 38 [v] h = some (.bool (extG 0 (-1) [] xs), h') ∧ Grow h.next h h' := by
  obtain ⟨h1, m1, m2, m3⟩ := make_bools (h := h) (k := 480) (by omega)
  have m1 : evMakeSlice T0 75 (iv 480) (iv 480) h = _ := m1
  have m2 : Own h.next h1 _ (boolsV (markF []) 0 480) 4 := m2
  rw [frameB_eq ft38 rfl rfl]
  simp only [Try.f38, symM, opFn, Nat.reduceLT, Nat.reduceBEq, symM, symL, hv.len, bin_gtr, decide_eq_false (show ¬ (96 : Int) < (xs.length : Nat) by omega), m1]
  generalize hX : codeB T0 X0 call _ ERe (.loop _) _ _ _ = X
  obtain ⟨t1, h2, e1, g1⟩ := use_loop (P := fun X => ∃ tm' h', ((X = .jump .ret tm' h' [] ∧ tm'.get 2 = some (.bool false) ∧ extG 0 (-1) [] xs = false) ∨ (X = .jump (.exit 0) tm' h' [] ∧ extG 0 (-1) [] xs = true)) ∧ Grow h.next h1 h') hX
    (rextLoop hP v _ xs n0 h.next hn hx hL xs [] 0 0 (-1) _ h1 _ rfl (by simp) (by simp) (by omega) m3.next (hv.grow m3 hn) m2 (by simp only [symM, Nat.reduceBEq]) (by simp only [symM, Nat.reduceBEq]) (by simp only [symM, Nat.reduceBEq]; rfl) (by simp only [symM, Nat.reduceBEq]) (by simp only [symM]; rfl))
  clear hX
  refine ⟨h2, ?_, m3.trans g1 (Nat.le_refl _)⟩
  rcases e1 with ⟨e1, e2, e3⟩ | ⟨e1, e3⟩
  · subst e1
    rw [e3]
    simp only [symM, symM]
    exact retB_one ft38 rfl e2
  · subst e1
    rw [e3]
    simp only [symM, opFn, Nat.reduceLT, symM, symL]
    exact retB_one ft38 rfl get_same
end
end Go.Proofs.Ythpfgiabdpeiaaa.Abs
