/- Sorting: slices.partitionCmpFunc and slices.partitionEqualCmpFunc. -/
import Derived.Test.YtcpihpjphdlmfaaSortB
namespace Go.Proofs.Ytcpihpjphdlmfaa.Abs
open Go Go.Proofs Go.Sort
noncomputable section
variable {call : Abs.Callee}
set_option maxRecDepth 10000
theorem plan_Pt18 : planB (regOps Try.f60 [1, 1, 1, 1, 1, 1, 1, 1, 1, 0, 0, 0, 0, 1, 1, 1, 0]) 178 = some ([.one 0, .one 1, .one 2, .one 3, .one 4, .one 5, .one 6, .one 7, .one 8, .one 9, .one 10, .one 11, .one 12, .eff [] 13 [2, 3], .one 14, .eff [] 15 []], []) := by kernel_rfl
noncomputable def bodyPt4 : Code := part Try.f60 [1, 1, 1, 1, 1, 1, 1, 1, 1, 0, 0, 0]
set_option maxHeartbeats 2000000 in
theorem Pt4L {g : Nat} {c : Nat × Nat → Nat × Nat → Int} (hc : CmpOK call g c) (v : Value) (n0 a : Nat) (h0 : AH) :
    ∀ (k i j : Nat) (d : Array (Nat × Nat)) (tm : PM Value) (h : AH) (N : Nat), j + 1 - i < k → 1 ≤ i → i ≤ 481 → a < d.size → j < d.size → d.size ≤ 480 → AllK d → k + 700 ≤ N → tm.get 0 = some v → tm.get 1 = some (iv a) → tm.get 4 = some (fnV g) → tm.get 12 = some (iv i) → tm.get 13 = some (iv j) → Own n0 h v (rA d) 23 → Grow n0 h0 h →
      ∃ tm' h', codeB T0 X0 call N EPt (.loop bodyPt4) tm h [] = .jump (.exit 4) tm' h' [] ∧ (tm'.get 0 = some v ∧ tm'.get 1 = some (iv a) ∧ tm'.get 13 = some (iv (partLoop (ltc c) a i j d).1) ∧ Own n0 h' v (rA (partLoop (ltc c) a i j d).2) 23 ∧ AllK (partLoop (ltc c) a i j d).2 ∧ (partLoop (ltc c) a i j d).2.size = d.size ∧ (partLoop (ltc c) a i j d).1 ≤ j ∧ Grow n0 h0 h') := by
  intro k
  have hp := plan_Pt18
  simp only [regOps, part, Try.f60, sub] at hp
  induction k with
  | zero => intro i j d tm h N hk; omega
  | succ k ih =>
    intro i j d tm h N hk h1 hi ha hj hd hK hN g0 g1 g4 gi gj hv hg
    obtain ⟨N, rfl⟩ : ∃ a, N = a + 30 := ⟨N - 30, by omega⟩
    have hu := scanUp_in (fun x => ltc c x d[a]!) d j (j + 1 - i) i (Nat.le_refl _)
    have hdn := scanDown_in (fun x => !ltc c x d[a]!) d (scanUp (fun x => ltc c x d[a]!) d j i) j
    rw [partLoop]
    rw [show N + 30 = (N + 29) + 1 from rfl, codeB_loop]
    simp only [bodyPt4, part, Try.f60, sub, symM, symL]
    generalize hX : codeB T0 X0 call _ EPt (.loop _) _ _ _ = X
    obtain ⟨tm1, k1, e1, eh1, p0, p1, p4, pj, pi⟩ := use_exit hX (LPt6 hc v n0 a d h hK hv ha hd j hj (j + 1 - i) i _ _ (Nat.le_refl _) hi (by omega) g0 g1 g4 gi gj)
    clear hX
    rw [eh1] at e1
    subst e1
    generalize scanUp (fun x => ltc c x d[a]!) d j i = i2 at *
    simp only [symM, symL]
    generalize hX : codeB T0 X0 call _ EPt (.loop _) _ _ _ = X
    obtain ⟨tm2, k2, e2, eh2, q0, q1, q4, qi, qj⟩ := use_exit hX (LPt8 hc v n0 a d h hK hv ha hd i2 (by omega) j _ _ hj (by omega) p0 p1 p4 pi pj)
    clear hX
    rw [eh2] at e2
    subst e2
    generalize scanDown (fun x => !ltc c x d[a]!) d i2 j = j2 at *
    by_cases hij : i2 > j2
    · rw [if_pos hij]
      apply Exists.intro; apply Exists.intro; apply And.intro
      · simp only [symM, opFn, Nat.reduceLT, Nat.reduceBEq, symL, qi, qj, bin_gtr, decide_eq_true (show (j2 : Int) < (i2 : Nat) by omega)]
        rfl
      · exact ⟨by simp only [symM, Nat.reduceBEq, q0], by simp only [symM, Nat.reduceBEq, q1], by simp only [symM, Nat.reduceBEq, qj], hv, hK, rfl, by omega, hg⟩
    · obtain ⟨p, q, h2, h3, a1, a2, a3, a4, a5, a6, a7, a8⟩ := hv.swap (i := i2) (j := j2) (by omega) (by omega)
      have hsz := swp_size d i2 j2
      have hw : IntKind.i64.wrap ((j2 : Int) - 1) = ((j2 - 1 : Nat) : Int) := by rw [wz (by omega)]; omega
      rw [if_neg hij, dif_pos (show j2 - 1 + 1 - (i2 + 1) < j + 1 - i by omega)]
      simp only [symM, opFn, Nat.reduceLT, Nat.reduceBEq, symL, qi, qj, bin_gtr, decide_eq_false (show ¬ (j2 : Int) < (i2 : Nat) by omega), codeB_draw]
      rw [draw_plan hp rfl]
      simp only [drawAll, opFn, Nat.reduceLT, Nat.reduceBEq, q0, qi, qj, effE_cons, a1, a2, a3, a4, a5, a6, hv.eqv, bin_add, wadd1 (show i2 ≤ 400000 by omega), bin_sub, hw]
      have ihs := ih (i2 + 1) (j2 - 1) (swp d i2 j2)
      rw [hsz] at ihs
      generalize hX : codeB T0 X0 call _ EPt (.loop _) _ _ _ = X
      obtain ⟨t5, h5, z1, z2, z3, z4, z5, z6, z7, z8, z9⟩ := use_exit hX (ihs _ h3 (N + 29) (by omega) (by omega) (by omega) ha (by omega) hd (swp_K hK _ _) (by omega) (by simp only [symM, Nat.reduceBEq, q0]) (by simp only [symM, Nat.reduceBEq, q1]) (by simp only [symM, Nat.reduceBEq, q4]) (by simp only [symM, Nat.reduceBEq]) get_same a7 (hg.trans a8 (Nat.le_refl _)))
      clear hX
      subst z1
      exact ⟨t5, h5, rfl, z2, z3, z4, z5, z6, z7, by omega, z9⟩
theorem plan_Pe8 : planB (regOps Try.f59 [1, 1, 1, 0, 0, 0, 0, 1, 1, 1, 0]) 90 = some ([.one 0, .one 1, .one 2, .one 3, .one 4, .one 5, .one 6, .one 7, .one 8, .one 9, .one 10, .one 11, .one 12, .eff [] 13 [2, 3], .one 14, .eff [] 15 []], []) := by kernel_rfl
noncomputable def bodyPe0 : Code := part Try.f59 [1, 1, 1, 0, 0, 0]
set_option maxHeartbeats 2000000 in
theorem Pe0L {g : Nat} {c : Nat × Nat → Nat × Nat → Int} (hc : CmpOK call g c) (v : Value) (n0 a : Nat) (h0 : AH) :
    ∀ (k i j : Nat) (d : Array (Nat × Nat)) (tm : PM Value) (h : AH) (N : Nat), j + 1 - i < k → 1 ≤ i → i ≤ 481 → a < d.size → j < d.size → d.size ≤ 480 → AllK d → k + 700 ≤ N → tm.get 0 = some v → tm.get 1 = some (iv a) → tm.get 4 = some (fnV g) → tm.get 11 = some (iv i) → tm.get 12 = some (iv j) → Own n0 h v (rA d) 23 → Grow n0 h0 h →
      ∃ tm' h', codeB T0 X0 call N EPe (.loop bodyPe0) tm h [] = .jump (.exit 0) tm' h' [] ∧ (tm'.get 0 = some v ∧ tm'.get 1 = some (iv a) ∧ tm'.get 11 = some (iv (partEqLoop (ltc c) a i j d).1) ∧ Own n0 h' v (rA (partEqLoop (ltc c) a i j d).2) 23 ∧ AllK (partEqLoop (ltc c) a i j d).2 ∧ (partEqLoop (ltc c) a i j d).2.size = d.size ∧ (partEqLoop (ltc c) a i j d).1 ≤ max i (j + 1) ∧ Grow n0 h0 h') := by
  intro k
  have hp := plan_Pe8
  simp only [regOps, part, Try.f59, sub] at hp
  induction k with
  | zero => intro i j d tm h N hk; omega
  | succ k ih =>
    intro i j d tm h N hk h1 hi ha hj hd hK hN g0 g1 g4 gi gj hv hg
    obtain ⟨N, rfl⟩ : ∃ a, N = a + 30 := ⟨N - 30, by omega⟩
    have hu := scanUp_in (fun x => !ltc c d[a]! x) d j (j + 1 - i) i (Nat.le_refl _)
    have hdn := scanDown_in (fun x => ltc c d[a]! x) d (scanUp (fun x => !ltc c d[a]! x) d j i) j
    rw [partEqLoop]
    rw [show N + 30 = (N + 29) + 1 from rfl, codeB_loop]
    simp only [bodyPe0, part, Try.f59, sub, symM, symL]
    generalize hX : codeB T0 X0 call _ EPe (.loop _) _ _ _ = X
    obtain ⟨tm1, k1, e1, eh1, p0, p1, p4, pj, pi⟩ := use_exit hX (LPe2 hc v n0 a d h hK hv ha hd j hj (j + 1 - i) i _ _ (Nat.le_refl _) hi (by omega) g0 g1 g4 gi gj)
    clear hX
    rw [eh1] at e1
    subst e1
    generalize scanUp (fun x => !ltc c d[a]! x) d j i = i2 at *
    simp only [symM, symL]
    generalize hX : codeB T0 X0 call _ EPe (.loop _) _ _ _ = X
    obtain ⟨tm2, k2, e2, eh2, q0, q1, q4, qi, qj⟩ := use_exit hX (LPe4 hc v n0 a d h hK hv ha hd i2 (by omega) j _ _ hj (by omega) p0 p1 p4 pi pj)
    clear hX
    rw [eh2] at e2
    subst e2
    generalize scanDown (fun x => ltc c d[a]! x) d i2 j = j2 at *
    by_cases hij : i2 > j2
    · rw [if_pos hij]
      apply Exists.intro; apply Exists.intro; apply And.intro
      · simp only [symM, opFn, Nat.reduceLT, Nat.reduceBEq, symL, qi, qj, bin_gtr, decide_eq_true (show (j2 : Int) < (i2 : Nat) by omega)]
        rfl
      · exact ⟨by simp only [symM, Nat.reduceBEq, q0], by simp only [symM, Nat.reduceBEq, q1], by simp only [symM, Nat.reduceBEq, qi], hv, hK, rfl, by omega, hg⟩
    · obtain ⟨p, q, h2, h3, a1, a2, a3, a4, a5, a6, a7, a8⟩ := hv.swap (i := i2) (j := j2) (by omega) (by omega)
      have hsz := swp_size d i2 j2
      have hw : IntKind.i64.wrap ((j2 : Int) - 1) = ((j2 - 1 : Nat) : Int) := by rw [wz (by omega)]; omega
      rw [if_neg hij, dif_pos (show j2 - 1 + 1 - (i2 + 1) < j + 1 - i by omega)]
      simp only [symM, opFn, Nat.reduceLT, Nat.reduceBEq, symL, qi, qj, bin_gtr, decide_eq_false (show ¬ (j2 : Int) < (i2 : Nat) by omega), codeB_draw]
      rw [draw_plan hp rfl]
      simp only [drawAll, opFn, Nat.reduceLT, Nat.reduceBEq, q0, qi, qj, effE_cons, a1, a2, a3, a4, a5, a6, hv.eqv, bin_add, wadd1 (show i2 ≤ 400000 by omega), bin_sub, hw]
      have ihs := ih (i2 + 1) (j2 - 1) (swp d i2 j2)
      rw [hsz] at ihs
      generalize hX : codeB T0 X0 call _ EPe (.loop _) _ _ _ = X
      obtain ⟨t5, h5, z1, z2, z3, z4, z5, z6, z7, z8, z9⟩ := use_exit hX (ihs _ h3 (N + 29) (by omega) (by omega) (by omega) ha (by omega) hd (swp_K hK _ _) (by omega) (by simp only [symM, Nat.reduceBEq, q0]) (by simp only [symM, Nat.reduceBEq, q1]) (by simp only [symM, Nat.reduceBEq, q4]) (by simp only [symM, Nat.reduceBEq]) get_same a7 (hg.trans a8 (Nat.le_refl _)))
      clear hX
      subst z1
      exact ⟨t5, h5, rfl, z2, z3, z4, z5, z6, z7, by omega, z9⟩
theorem plan_Pt1 : planB (regOps Try.f60 [1, 0]) 178 = some ([.one 0, .one 1, .one 2, .one 3, .one 4, .one 5, .one 6, .one 7, .one 8, .one 9, .one 10, .one 11, .one 12, .eff [] 13 [2, 3], .one 14, .eff [] 15 []], []) := by kernel_rfl
theorem plan_Pt8w : planB (regOps Try.f60 [1, 1, 1, 1, 1, 0, 1, 0, 0]) 178 = some ([.one 0, .one 1, .one 2, .one 3, .one 4, .one 5, .one 6, .one 7, .one 8, .one 9, .one 10, .one 11, .one 12, .eff [] 13 [2, 3], .one 14, .eff [] 15 []], []) := by kernel_rfl
theorem plan_Pt10 : planB (regOps Try.f60 [1, 1, 1, 1, 1, 1, 0]) 178 = some ([.one 0, .one 1, .one 2, .one 3, .one 4, .one 5, .one 6, .one 7, .one 8, .one 9, .one 10, .one 11, .one 12, .eff [] 13 [2, 3], .one 14, .eff [] 15 []], []) := by kernel_rfl
theorem plan_Pt21 : planB (regOps Try.f60 [1, 1, 1, 1, 1, 1, 1, 1, 1, 1, 0]) 178 = some ([.one 0, .one 1, .one 2, .one 3, .one 4, .one 5, .one 6, .one 7, .one 8, .one 9, .one 10, .one 11, .one 12, .eff [] 13 [2, 3], .one 14, .eff [] 15 []], []) := by kernel_rfl
theorem plan_Pe1 : planB (regOps Try.f59 [1, 0]) 90 = some ([.one 0, .one 1, .one 2, .one 3, .one 4, .one 5, .one 6, .one 7, .one 8, .one 9, .one 10, .one 11, .one 12, .eff [] 13 [2, 3], .one 14, .eff [] 15 []], []) := by kernel_rfl
set_option maxHeartbeats 4000000 in
theorem partition_S {g : Nat} {c : Nat × Nat → Nat × Nat → Int} (hc : CmpOK call g c) (v : Value) (n0 a b p0 : Nat) (d : Array (Nat × Nat)) (h : AH) (hab : a < b) (hap : a ≤ p0) (hpb : p0 < b) (hb : b ≤ d.size) (hd : d.size ≤ 480) (hK : AllK d) (hv : Own n0 h v (rA d) 23) :
    ∃ h', frameB T0 X0 call 3000 60 [v, iv a, iv b, iv p0, fnV g] h = some (.tuple #[iv (partition (ltc c) d a b p0).1, .bool (partition (ltc c) d a b p0).2.1], h') ∧ Own n0 h' v (rA (partition (ltc c) d a b p0).2.2) 23 ∧ AllK (partition (ltc c) d a b p0).2.2 ∧ (partition (ltc c) d a b p0).2.2.size = d.size ∧ Grow n0 h h' := by
  have hp1 := plan_Pt1
  simp only [regOps, part, Try.f60, sub] at hp1
  have hp8 := plan_Pt8w
  simp only [regOps, part, Try.f60, sub] at hp8
  have hp10 := plan_Pt10
  simp only [regOps, part, Try.f60, sub] at hp10
  have hp21 := plan_Pt21
  simp only [regOps, part, Try.f60, sub] at hp21
  rw [frameB_eq ft60 rfl rfl]
  unfold partition
  simp only
  obtain ⟨p, q, h2, h3, a1, a2, a3, a4, a5, a6, a7, a8⟩ := hv.swap (i := a) (j := p0) (by omega) (by omega)
  have hsz := swp_size d a p0
  have hK1 := swp_K hK a p0
  have hw : IntKind.i64.wrap ((b : Int) - 1) = ((b - 1 : Nat) : Int) := by rw [wz (by omega)]; omega
  generalize swp d a p0 = d1 at *
  simp only [Try.f60, symM, opFn, Nat.reduceLT, codeB_draw]
  rw [draw_plan hp1 rfl]
  simp only [drawAll, opFn, Nat.reduceLT, Nat.reduceBEq, symL, effE_cons, a1, a2, a3, a4, a5, a6, hv.eqv, bin_add, wadd1 (show a ≤ 400000 by omega), bin_sub, hw]
  have hu := scanUp_in (fun x => ltc c x d1[a]!) d1 (b - 1) (b - 1 + 1 - (a + 1)) (a + 1) (Nat.le_refl _)
  have hdn := scanDown_in (fun x => !ltc c x d1[a]!) d1 (scanUp (fun x => ltc c x d1[a]!) d1 (b - 1) (a + 1)) (b - 1)
  generalize hX : codeB T0 X0 call _ EPt (.loop _) _ _ _ = X
  obtain ⟨tm1, k1, e1, eh1, p0, p1, p4, pj, pi⟩ := use_exit hX (LPt0 hc v n0 a d1 h3 hK1 a7 (by omega) (by omega) (b - 1) (by omega) (b - 1 + 1 - (a + 1)) (a + 1) _ _ (Nat.le_refl _) (by omega) (by omega) (by simp only [symM, Nat.reduceBEq]) (by simp only [symM, Nat.reduceBEq]) (by simp only [symM, Nat.reduceBEq]) (by simp only [symM, Nat.reduceBEq]) get_same)
  clear hX
  rw [eh1] at e1
  subst e1
  generalize scanUp (fun x => ltc c x d1[a]!) d1 (b - 1) (a + 1) = i2 at *
  simp only [symM, symL]
  generalize hX : codeB T0 X0 call _ EPt (.loop _) _ _ _ = X
  obtain ⟨tm2, k2, e2, eh2, q0, q1, q4, qi, qj⟩ := use_exit hX (LPt2 hc v n0 a d1 h3 hK1 a7 (by omega) (by omega) i2 (by omega) (b - 1) _ _ (by omega) (by omega) p0 p1 p4 pi pj)
  clear hX
  rw [eh2] at e2
  subst e2
  generalize scanDown (fun x => !ltc c x d1[a]!) d1 i2 (b - 1) = j2 at *
  by_cases hij : i2 > j2
  · rw [if_pos hij]
    obtain ⟨p', q', h4, h5, b1, b2, b3, b4, b5, b6, b7, b8⟩ := a7.swap (i := j2) (j := a) (by omega) (by omega)
    refine ⟨h5, ?_, b7, swp_K hK1 _ _, (swp_size _ _ _).trans hsz, a8.trans b8 (Nat.le_refl _)⟩
    simp only [symM, opFn, Nat.reduceLT, Nat.reduceBEq, symL, qi, qj, bin_gtr, decide_eq_true (show (j2 : Int) < (i2 : Nat) by omega), codeB_draw]
    rw [draw_plan hp8 rfl]
    simp only [drawAll, opFn, Nat.reduceLT, Nat.reduceBEq, q0, q1, qj, effE_cons, b1, b2, b3, b4, b5, b6, hv.eqv]
    exact retB_two ft60 rfl (by simp only [symM, Nat.reduceBEq]) (by simp only [symM])
  · rw [if_neg hij]
    obtain ⟨p', q', h4, h5, b1, b2, b3, b4, b5, b6, b7, b8⟩ := a7.swap (i := i2) (j := j2) (by omega) (by omega)
    have hsz2 := swp_size d1 i2 j2
    have hw2 : IntKind.i64.wrap ((j2 : Int) - 1) = ((j2 - 1 : Nat) : Int) := by rw [wz (by omega)]; omega
    simp only [symM, opFn, Nat.reduceLT, Nat.reduceBEq, symL, qi, qj, bin_gtr, decide_eq_false (show ¬ (j2 : Int) < (i2 : Nat) by omega), codeB_draw]
    rw [draw_plan hp10 rfl]
    simp only [drawAll, opFn, Nat.reduceLT, Nat.reduceBEq, symL, q0, qi, qj, effE_cons, b1, b2, b3, b4, b5, b6, hv.eqv, bin_add, wadd1 (show i2 ≤ 400000 by omega), bin_sub, hw2]
    generalize hX : codeB T0 X0 call _ EPt (.loop _) _ _ _ = X
    obtain ⟨t5, k5, z1, z2, z3, z4, z5, z6, z7, z8, z9⟩ := use_exit hX (Pt4L hc v n0 a h (j2 - 1 + 1 - (i2 + 1) + 1) (i2 + 1) (j2 - 1) (swp d1 i2 j2) _ h5 _ (Nat.lt_succ_self _) (by omega) (by omega) (by omega) (by omega) (by omega) (swp_K hK1 _ _) (by omega) (by simp only [symM, Nat.reduceBEq, q0]) (by simp only [symM, Nat.reduceBEq, q1]) (by simp only [symM, Nat.reduceBEq, q4]) (by simp only [symM, Nat.reduceBEq]) get_same b7 (a8.trans b8 (Nat.le_refl _)))
    clear hX
    subst z1
    generalize partLoop (ltc c) a (i2 + 1) (j2 - 1) (swp d1 i2 j2) = r at *
    obtain ⟨p'', q'', h6, h7, c1, c2, c3, c4, c5, c6, c7, c8⟩ := z5.swap (i := r.1) (j := a) (by omega) (by omega)
    refine ⟨h7, ?_, c7, swp_K z6 _ _, ((swp_size _ _ _).trans z7).trans (hsz2.trans hsz), z9.trans c8 (Nat.le_refl _)⟩
    simp only [symM, symL, codeB_draw]
    rw [draw_plan hp21 rfl]
    simp only [drawAll, opFn, Nat.reduceLT, Nat.reduceBEq, z2, z3, z4, effE_cons, c1, c2, c3, c4, c5, c6, hv.eqv]
    exact retB_two ft60 rfl (by simp only [symM, Nat.reduceBEq]) (by simp only [symM])
set_option maxHeartbeats 4000000 in
theorem partitionEqual_S {g : Nat} {c : Nat × Nat → Nat × Nat → Int} (hc : CmpOK call g c) (v : Value) (n0 a b p0 : Nat) (d : Array (Nat × Nat)) (h : AH) (hab : a < b) (hap : a ≤ p0) (hpb : p0 < b) (hb : b ≤ d.size) (hd : d.size ≤ 480) (hK : AllK d) (hv : Own n0 h v (rA d) 23) :
    ∃ h', frameB T0 X0 call 3000 59 [v, iv a, iv b, iv p0, fnV g] h = some (iv (partitionEqual (ltc c) d a b p0).1, h') ∧ Own n0 h' v (rA (partitionEqual (ltc c) d a b p0).2) 23 ∧ AllK (partitionEqual (ltc c) d a b p0).2 ∧ (partitionEqual (ltc c) d a b p0).2.size = d.size ∧ Grow n0 h h' := by
  have hp1 := plan_Pe1
  simp only [regOps, part, Try.f59, sub] at hp1
  rw [frameB_eq ft59 rfl rfl]
  unfold partitionEqual
  obtain ⟨p, q, h2, h3, a1, a2, a3, a4, a5, a6, a7, a8⟩ := hv.swap (i := a) (j := p0) (by omega) (by omega)
  have hsz := swp_size d a p0
  have hK1 := swp_K hK a p0
  have hw : IntKind.i64.wrap ((b : Int) - 1) = ((b - 1 : Nat) : Int) := by rw [wz (by omega)]; omega
  generalize swp d a p0 = d1 at *
  simp only [Try.f59, symM, opFn, Nat.reduceLT, codeB_draw]
  rw [draw_plan hp1 rfl]
  simp only [drawAll, opFn, Nat.reduceLT, Nat.reduceBEq, symL, effE_cons, a1, a2, a3, a4, a5, a6, hv.eqv, bin_add, wadd1 (show a ≤ 400000 by omega), bin_sub, hw]
  generalize hX : codeB T0 X0 call _ EPe (.loop _) _ _ _ = X
  obtain ⟨t5, k5, z1, z2, z3, z4, z5, z6, z7, z8, z9⟩ := use_exit hX (Pe0L hc v n0 a h (b - 1 + 1 - (a + 1) + 1) (a + 1) (b - 1) d1 _ h3 _ (Nat.lt_succ_self _) (by omega) (by omega) (by omega) (by omega) (by omega) hK1 (by omega) (by simp only [symM, Nat.reduceBEq]) (by simp only [symM, Nat.reduceBEq]) (by simp only [symM, Nat.reduceBEq]) (by simp only [symM, Nat.reduceBEq]) get_same a7 a8)
  clear hX
  subst z1
  refine ⟨k5, ?_, z5, z6, z7.trans hsz, z9⟩
  simp only [symM, opFn, Nat.reduceLT, symL, z4]
  exact retB_one ft59 rfl get_same
end
end Go.Proofs.Ytcpihpjphdlmfaa.Abs
namespace Go.Proofs.Ytcpihpjphdlmfaa.Abs
open Go Go.Proofs Go.Sort
noncomputable section
variable {call : Abs.Callee}
set_option maxRecDepth 10000
theorem ft58 : T0.ft.get 58 = some Try.f58 := by kernel_rfl
abbrev EPi : Env := ⟨58, 141, none⟩
theorem wm1 {a : Nat} (h : a ≤ 400000) (h1 : 1 ≤ a) : IntKind.i64.wrap ((a : Int) - 1) = ((a - 1 : Nat) : Int) := by rw [wz (by omega)]; omega
noncomputable def bodyPi2 : Code := part Try.f58 [1, 1, 0, 1, 0, 0, 1, 0, 0, 0, 0, 0]
noncomputable def bodyPi4 : Code := part Try.f58 [1, 1, 0, 1, 0, 0, 1, 0, 0, 1, 1, 1, 1, 0, 1, 0, 1, 0, 0]
noncomputable def bodyPi6 : Code := part Try.f58 [1, 1, 0, 1, 0, 0, 1, 0, 0, 1, 1, 1, 1, 1, 1, 0, 1, 0, 0]
noncomputable def bodyPi0 : Code := part Try.f58 [1, 1, 0, 1, 0, 0]
theorem plan_Pi5 : planB (regOps Try.f58 [1, 1, 0, 1, 0, 0, 1, 0, 0, 0, 0, 0, 0, 0]) 141 = some ([.one 0, .one 1, .one 2, .one 3, .one 4, .one 5, .one 6, .one 7, .one 8, .one 9, .one 10, .one 11, .one 12, .one 13, .eff [] 14 [], .one 15, .one 16, .one 17], []) := by kernel_rfl
theorem plan_Pi11 : planB (regOps Try.f58 [1, 1, 0, 1, 0, 0, 1, 0, 0, 1, 1, 1, 0]) 141 = some ([.one 0, .one 1, .one 2, .one 3, .one 4, .one 5, .one 6, .one 7, .one 8, .one 9, .one 10, .one 11, .one 12, .one 13, .one 14, .eff [] 15 [2, 3, 4], .one 16, .eff [] 17 []], []) := by kernel_rfl
theorem plan_Pi16 : planB (regOps Try.f58 [1, 1, 0, 1, 0, 0, 1, 0, 0, 1, 1, 1, 1, 0, 1, 0, 1, 0, 0, 1, 0, 0, 0, 0]) 141 = some ([.one 0, .one 1, .one 2, .one 3, .one 4, .one 5, .one 6, .one 7, .one 8, .one 9, .eff [] 10 [], .one 11, .one 12], []) := by kernel_rfl
theorem plan_Pi17 : planB (regOps Try.f58 [1, 1, 0, 1, 0, 0, 1, 0, 0, 1, 1, 1, 1, 0, 1, 0, 1, 0, 0, 1, 0, 0, 1]) 141 = some ([.one 0, .one 1, .one 2, .one 3, .one 4, .one 5, .one 6, .one 7, .one 8, .one 9, .one 10, .one 11, .one 12, .one 13, .one 14, .eff [] 15 [2, 3, 4], .one 16, .eff [] 17 []], []) := by kernel_rfl
theorem plan_Pi22 : planB (regOps Try.f58 [1, 1, 0, 1, 0, 0, 1, 0, 0, 1, 1, 1, 1, 1, 1, 0, 1, 0, 0, 1, 0, 0, 0, 0]) 141 = some ([.one 0, .one 1, .one 2, .one 3, .one 4, .one 5, .one 6, .one 7, .one 8, .one 9, .eff [] 10 [], .one 11, .one 12], []) := by kernel_rfl
theorem plan_Pi23 : planB (regOps Try.f58 [1, 1, 0, 1, 0, 0, 1, 0, 0, 1, 1, 1, 1, 1, 1, 0, 1, 0, 0, 1, 0, 0, 1]) 141 = some ([.one 0, .one 1, .one 2, .one 3, .one 4, .one 5, .one 6, .one 7, .one 8, .one 9, .one 10, .one 11, .one 12, .one 13, .one 14, .eff [] 15 [2, 3, 4], .one 16, .eff [] 17 []], []) := by kernel_rfl
theorem scanSorted_in (lt : Nat × Nat → Nat × Nat → Bool) (d : Array (Nat × Nat)) (b : Nat) : ∀ (k i : Nat), b - i ≤ k → i ≤ b → i ≤ scanSorted lt d b i ∧ scanSorted lt d b i ≤ b := by
  intro k
  induction k with
  | zero => intro i hk hi; rw [scanSorted, decide_eq_false (show ¬ i < b by omega), Bool.false_and, if_neg Bool.false_ne_true]; omega
  | succ k ih =>
    intro i hk hi
    rw [scanSorted]
    split
    · rename_i h
      have hij : i < b := by simp at h; exact h.1
      have := ih (i + 1) (by omega) (by omega)
      omega
    · omega
set_option maxHeartbeats 1000000 in
theorem pi2L {g : Nat} {c : Nat × Nat → Nat × Nat → Int} (hc : CmpOK call g c) (v : Value) (n0 a b s : Nat) (d : Array (Nat × Nat)) (h : AH) (hK : AllK d) (hv : Own n0 h v (rA d) 23) (hb : b ≤ d.size) (hd : d.size ≤ 480) :
    ∀ (k i : Nat) (tm : PM Value) (N : Nat), b - i ≤ k → 1 ≤ i → i ≤ 481 → k + 60 ≤ N → tm.get 0 = some v → tm.get 1 = some (iv a) → tm.get 2 = some (iv b) → tm.get 3 = some (fnV g) → tm.get 10 = some (iv s) → tm.get 9 = some (iv i) →
      ∃ tm' h', codeB T0 X0 call N EPi (.loop bodyPi2) tm h [] = .jump (.exit 2) tm' h' [] ∧ (h' = h ∧ tm'.get 0 = some v ∧ tm'.get 1 = some (iv a) ∧ tm'.get 2 = some (iv b) ∧ tm'.get 3 = some (fnV g) ∧ tm'.get 10 = some (iv s) ∧ tm'.get 9 = some (iv (scanSorted (ltc c) d b i))) := by
  intro k
  have hp := plan_Pi5
  simp only [regOps, part, Try.f58, sub] at hp
  have stop : ∀ (i : Nat) (tm : PM Value) (N : Nat), 60 ≤ N → ¬ i < b → tm.get 0 = some v → tm.get 1 = some (iv a) → tm.get 2 = some (iv b) → tm.get 3 = some (fnV g) → tm.get 10 = some (iv s) → tm.get 9 = some (iv i) →
      ∃ tm' h', codeB T0 X0 call N EPi (.loop bodyPi2) tm h [] = .jump (.exit 2) tm' h' [] ∧ (h' = h ∧ tm'.get 0 = some v ∧ tm'.get 1 = some (iv a) ∧ tm'.get 2 = some (iv b) ∧ tm'.get 3 = some (fnV g) ∧ tm'.get 10 = some (iv s) ∧ tm'.get 9 = some (iv (scanSorted (ltc c) d b i))) := by
    intro i tm N hN hij g0 g1 g2 g3 gs gi
    obtain ⟨N, rfl⟩ : ∃ a, N = a + 30 := ⟨N - 30, by omega⟩
    rw [scanSorted, decide_eq_false hij, Bool.false_and, if_neg Bool.false_ne_true]
    apply Exists.intro; apply Exists.intro; apply And.intro
    · rw [codeB_loop]
      simp only [bodyPi2, part, Try.f58, sub, symM, codeB_draw]
      rw [draw_plan hp rfl]
      simp only [drawAll, opFn, Nat.reduceBEq, g2, gi, bin_lss, decide_eq_false (show ¬ (i : Int) < (b : Nat) by omega)]
      rfl
    · exact ⟨rfl, by simp only [symM, Nat.reduceBEq, g0], by simp only [symM, Nat.reduceBEq, g1], by simp only [symM, Nat.reduceBEq, g2], by simp only [symM, Nat.reduceBEq, g3], by simp only [symM, Nat.reduceBEq, gs], by simp only [symM, Nat.reduceBEq, gi]⟩
  induction k with
  | zero => intro i tm N hk h1 hi hN g0 g1 g2 g3 gs gi; exact stop i tm N (by omega) (by omega) g0 g1 g2 g3 gs gi
  | succ k ih =>
    intro i tm N hk h1 hi hN g0 g1 g2 g3 gs gi
    by_cases hij : i < b
    · obtain ⟨N, rfl⟩ : ∃ a, N = a + 30 := ⟨N - 30, by omega⟩
      obtain ⟨p, a1, a2⟩ := hv.fetch (i := i) (by omega)
      obtain ⟨q, b1, b2⟩ := hv.fetch (i := i - 1) (by omega)
      have hrun := hc.run d[i]! d[i - 1]! h (hK _) (hK _)
      cases hlt : ltc c d[i]! d[i - 1]! with
      | false =>
        have hlt2 : decide (c d[i]! d[i - 1]! < 0) = false := hlt
        rw [scanSorted, decide_eq_true hij, Bool.true_and, hlt, if_pos (show (!false) = true from rfl)]
        rw [show N + 30 = (N + 29) + 1 from rfl, codeB_loop]
        simp only [bodyPi2, part, Try.f58, sub, symM, codeB_draw]
        rw [draw_plan hp rfl]
        simp only [drawAll, opFn, Nat.reduceLT, Nat.reduceBEq, g0, g2, g3, gi, bin_lss, decide_eq_true (show (i : Int) < (b : Nat) by omega), bin_sub, wm1 (show i ≤ 400000 by omega) h1, a1, a2, b1, b2, hc.en, hrun, hlt2, bin_add, wadd1 (show i ≤ 400000 by omega)]
        refine ih (i + 1) _ (N + 29) (by omega) (by omega) (by omega) (by omega) ?_ ?_ ?_ ?_ ?_ get_same <;> simp only [symM, Nat.reduceBEq, g0, g1, g2, g3, gs]
      | true =>
        have hlt2 : decide (c d[i]! d[i - 1]! < 0) = true := hlt
        rw [scanSorted, decide_eq_true hij, Bool.true_and, hlt, if_neg (show ¬ (!true) = true by decide)]
        apply Exists.intro; apply Exists.intro; apply And.intro
        · rw [codeB_loop]
          simp only [bodyPi2, part, Try.f58, sub, symM, codeB_draw]
          rw [draw_plan hp rfl]
          simp only [drawAll, opFn, Nat.reduceBEq, g0, g2, g3, gi, bin_lss, decide_eq_true (show (i : Int) < (b : Nat) by omega), bin_sub, wm1 (show i ≤ 400000 by omega) h1, a1, a2, b1, b2, hc.en, hrun, hlt2]
          rfl
        · exact ⟨rfl, by simp only [symM, Nat.reduceBEq, g0], by simp only [symM, Nat.reduceBEq, g1], by simp only [symM, Nat.reduceBEq, g2], by simp only [symM, Nat.reduceBEq, g3], by simp only [symM, Nat.reduceBEq, gs], by simp only [symM, Nat.reduceBEq, gi]⟩
    · exact stop i tm N (by omega) hij g0 g1 g2 g3 gs gi
set_option maxHeartbeats 1000000 in
theorem pi4L {g : Nat} {c : Nat × Nat → Nat × Nat → Int} (hc : CmpOK call g c) (v : Value) (n0 a b s : Nat) (x9 : Value) (h0 : AH) :
    ∀ (j : Nat) (d : Array (Nat × Nat)) (tm : PM Value) (h : AH) (N : Nat), j < d.size → d.size ≤ 480 → AllK d → j + 60 ≤ N → tm.get 0 = some v → tm.get 1 = some (iv a) → tm.get 2 = some (iv b) → tm.get 3 = some (fnV g) → tm.get 10 = some (iv s) → tm.get 9 = some x9 → tm.get 11 = some (iv j) → Own n0 h v (rA d) 23 → Grow n0 h0 h →
      ∃ tm' h', codeB T0 X0 call N EPi (.loop bodyPi4) tm h [] = .jump (.exit 4) tm' h' [] ∧ (tm'.get 0 = some v ∧ tm'.get 1 = some (iv a) ∧ tm'.get 2 = some (iv b) ∧ tm'.get 3 = some (fnV g) ∧ tm'.get 10 = some (iv s) ∧ tm'.get 9 = some x9 ∧ Own n0 h' v (rA (shiftDown (ltc c) j d)) 23 ∧ AllK (shiftDown (ltc c) j d) ∧ (shiftDown (ltc c) j d).size = d.size ∧ Grow n0 h0 h') := by
  intro j
  have hp16 := plan_Pi16
  simp only [regOps, part, Try.f58, sub] at hp16
  have hp17 := plan_Pi17
  simp only [regOps, part, Try.f58, sub] at hp17
  induction j with
  | zero =>
    intro d tm h N hj hd hK hN g0 g1 g2 g3 gs g9 g11 hv hg
    obtain ⟨N, rfl⟩ : ∃ a, N = a + 30 := ⟨N - 30, by omega⟩
    apply Exists.intro; apply Exists.intro; apply And.intro
    · rw [codeB_loop]
      simp only [bodyPi4, part, Try.f58, sub, symM, opFn, Nat.reduceLT, g11, bin_geq, show decide ((1 : Int) ≤ ((0 : Nat) : Int)) = false from rfl]
      rfl
    · exact ⟨by simp only [symM, Nat.reduceBEq, g0], by simp only [symM, Nat.reduceBEq, g1], by simp only [symM, Nat.reduceBEq, g2], by simp only [symM, Nat.reduceBEq, g3], by simp only [symM, Nat.reduceBEq, gs], by simp only [symM, Nat.reduceBEq, g9], hv, hK, rfl, hg⟩
  | succ j ih =>
    intro d tm h N hj hd hK hN g0 g1 g2 g3 gs g9 g11 hv hg
    obtain ⟨N, rfl⟩ : ∃ a, N = a + 30 := ⟨N - 30, by omega⟩
    obtain ⟨p, q, h2, h3, a1, a2, a3, a4, a5, a6, a7, a8⟩ := hv.swap (i := j + 1) (j := j) hj (by omega)
    have hrun := hc.run d[j + 1]! d[j]! h (hK _) (hK _)
    cases hlt : ltc c d[j + 1]! d[j]! with
    | false =>
      have hlt2 : decide (c d[j + 1]! d[j]! < 0) = false := hlt
      rw [shiftDown, hlt, if_pos (show (!false) = true from rfl)]
      apply Exists.intro; apply Exists.intro; apply And.intro
      · rw [codeB_loop]
        simp only [bodyPi4, part, Try.f58, sub, symM, opFn, Nat.reduceLT, g11, bin_geq, decide_eq_true (show (1 : Int) ≤ ((j + 1 : Nat) : Int) by omega), codeB_draw]
        rw [draw_plan hp16 rfl]
        simp only [drawAll, opFn, Nat.reduceBEq, symL, g0, g3, g11, bin_sub, wsub1 (show j ≤ 400000 by omega), a1, a2, a3, a4, hc.en, hrun, bin_lss, hlt2]
        rfl
      · exact ⟨by simp only [symM, Nat.reduceBEq, g0], by simp only [symM, Nat.reduceBEq, g1], by simp only [symM, Nat.reduceBEq, g2], by simp only [symM, Nat.reduceBEq, g3], by simp only [symM, Nat.reduceBEq, gs], by simp only [symM, Nat.reduceBEq, g9], hv, hK, rfl, hg⟩
    | true =>
      have hlt2 : decide (c d[j + 1]! d[j]! < 0) = true := hlt
      have hsz := swp_size d (j + 1) j
      rw [shiftDown, hlt, if_neg (show ¬ (!true) = true by decide), show N + 30 = (N + 29) + 1 from rfl, codeB_loop]
      simp only [bodyPi4, part, Try.f58, sub, symM, opFn, Nat.reduceLT, g11, bin_geq, decide_eq_true (show (1 : Int) ≤ ((j + 1 : Nat) : Int) by omega), codeB_draw]
      rw [draw_plan hp16 rfl]
      simp only [drawAll, opFn, Nat.reduceBEq, g0, g3, g11, bin_sub, wsub1 (show j ≤ 400000 by omega), a1, a2, a3, a4, hc.en, hrun, bin_lss, hlt2]
      rw [draw_plan hp17 rfl]
      simp only [drawAll, opFn, Nat.reduceLT, Nat.reduceBEq, g0, g11, effE_cons, bin_sub, wsub1 (show j ≤ 400000 by omega), a1, a2, a3, a4, a5, a6, hv.eqv]
      rw [← hsz]
      refine ih (swp d (j + 1) j) _ h3 (N + 29) (by rw [hsz]; omega) (by rw [hsz]; omega) (swp_K hK _ _) (by omega) ?_ ?_ ?_ ?_ ?_ ?_ get_same a7 (hg.trans a8 (Nat.le_refl _)) <;> simp only [symM, Nat.reduceBEq, g0, g1, g2, g3, gs, g9]
set_option maxHeartbeats 1000000 in
theorem pi6L {g : Nat} {c : Nat × Nat → Nat × Nat → Int} (hc : CmpOK call g c) (v : Value) (n0 a b s : Nat) (x9 : Value) (h0 : AH) :
    ∀ (k j : Nat) (d : Array (Nat × Nat)) (tm : PM Value) (h : AH) (N : Nat), b - j ≤ k → 1 ≤ j → j ≤ 482 → b ≤ d.size → d.size ≤ 480 → AllK d → k + 60 ≤ N → tm.get 0 = some v → tm.get 1 = some (iv a) → tm.get 2 = some (iv b) → tm.get 3 = some (fnV g) → tm.get 10 = some (iv s) → tm.get 9 = some x9 → tm.get 12 = some (iv j) → Own n0 h v (rA d) 23 → Grow n0 h0 h →
      ∃ tm' h', codeB T0 X0 call N EPi (.loop bodyPi6) tm h [] = .jump (.exit 6) tm' h' [] ∧ (tm'.get 0 = some v ∧ tm'.get 1 = some (iv a) ∧ tm'.get 2 = some (iv b) ∧ tm'.get 3 = some (fnV g) ∧ tm'.get 10 = some (iv s) ∧ tm'.get 9 = some x9 ∧ Own n0 h' v (rA (shiftUp (ltc c) b j d)) 23 ∧ AllK (shiftUp (ltc c) b j d) ∧ (shiftUp (ltc c) b j d).size = d.size ∧ Grow n0 h0 h') := by
  intro k
  have hp22 := plan_Pi22
  simp only [regOps, part, Try.f58, sub] at hp22
  have hp23 := plan_Pi23
  simp only [regOps, part, Try.f58, sub] at hp23
  have stop : ∀ (j : Nat) (d : Array (Nat × Nat)) (tm : PM Value) (h : AH) (N : Nat), ¬ j < b → AllK d → 60 ≤ N → tm.get 0 = some v → tm.get 1 = some (iv a) → tm.get 2 = some (iv b) → tm.get 3 = some (fnV g) → tm.get 10 = some (iv s) → tm.get 9 = some x9 → tm.get 12 = some (iv j) → Own n0 h v (rA d) 23 → Grow n0 h0 h →
      ∃ tm' h', codeB T0 X0 call N EPi (.loop bodyPi6) tm h [] = .jump (.exit 6) tm' h' [] ∧ (tm'.get 0 = some v ∧ tm'.get 1 = some (iv a) ∧ tm'.get 2 = some (iv b) ∧ tm'.get 3 = some (fnV g) ∧ tm'.get 10 = some (iv s) ∧ tm'.get 9 = some x9 ∧ Own n0 h' v (rA (shiftUp (ltc c) b j d)) 23 ∧ AllK (shiftUp (ltc c) b j d) ∧ (shiftUp (ltc c) b j d).size = d.size ∧ Grow n0 h0 h') := by
    intro j d tm h N hij hK hN g0 g1 g2 g3 gs g9 g12 hv hg
    obtain ⟨N, rfl⟩ : ∃ a, N = a + 30 := ⟨N - 30, by omega⟩
    rw [shiftUp, if_neg hij]
    apply Exists.intro; apply Exists.intro; apply And.intro
    · rw [codeB_loop]
      simp only [bodyPi6, part, Try.f58, sub, symM, opFn, Nat.reduceLT, Nat.reduceBEq, g2, g12, bin_lss, decide_eq_false (show ¬ (j : Int) < (b : Nat) by omega)]
      rfl
    · exact ⟨by simp only [symM, Nat.reduceBEq, g0], by simp only [symM, Nat.reduceBEq, g1], by simp only [symM, Nat.reduceBEq, g2], by simp only [symM, Nat.reduceBEq, g3], by simp only [symM, Nat.reduceBEq, gs], by simp only [symM, Nat.reduceBEq, g9], hv, hK, rfl, hg⟩
  induction k with
  | zero => intro j d tm h N hk h1 hj hb hd hK hN g0 g1 g2 g3 gs g9 g12 hv hg; exact stop j d tm h N (by omega) hK (by omega) g0 g1 g2 g3 gs g9 g12 hv hg
  | succ k ih =>
    intro j d tm h N hk h1 hj hb hd hK hN g0 g1 g2 g3 gs g9 g12 hv hg
    by_cases hij : j < b
    · obtain ⟨N, rfl⟩ : ∃ a, N = a + 30 := ⟨N - 30, by omega⟩
      obtain ⟨p, q, h2, h3, a1, a2, a3, a4, a5, a6, a7, a8⟩ := hv.swap (i := j) (j := j - 1) (by omega) (by omega)
      have hrun := hc.run d[j]! d[j - 1]! h (hK _) (hK _)
      cases hlt : ltc c d[j]! d[j - 1]! with
      | false =>
        have hlt2 : decide (c d[j]! d[j - 1]! < 0) = false := hlt
        rw [shiftUp, if_pos hij, hlt, if_pos (show (!false) = true from rfl)]
        apply Exists.intro; apply Exists.intro; apply And.intro
        · rw [codeB_loop]
          simp only [bodyPi6, part, Try.f58, sub, symM, opFn, Nat.reduceLT, Nat.reduceBEq, g2, g12, bin_lss, decide_eq_true (show (j : Int) < (b : Nat) by omega), codeB_draw]
          rw [draw_plan hp22 rfl]
          simp only [drawAll, opFn, Nat.reduceBEq, symL, g0, g3, g12, bin_sub, wm1 (show j ≤ 400000 by omega) h1, a1, a2, a3, a4, hc.en, hrun, bin_lss, hlt2]
          rfl
        · exact ⟨by simp only [symM, Nat.reduceBEq, g0], by simp only [symM, Nat.reduceBEq, g1], by simp only [symM, Nat.reduceBEq, g2], by simp only [symM, Nat.reduceBEq, g3], by simp only [symM, Nat.reduceBEq, gs], by simp only [symM, Nat.reduceBEq, g9], hv, hK, rfl, hg⟩
      | true =>
        have hlt2 : decide (c d[j]! d[j - 1]! < 0) = true := hlt
        have hsz := swp_size d j (j - 1)
        rw [shiftUp, if_pos hij, hlt, if_neg (show ¬ (!true) = true by decide), show N + 30 = (N + 29) + 1 from rfl, codeB_loop]
        simp only [bodyPi6, part, Try.f58, sub, symM, opFn, Nat.reduceLT, Nat.reduceBEq, g2, g12, bin_lss, decide_eq_true (show (j : Int) < (b : Nat) by omega), codeB_draw]
        rw [draw_plan hp22 rfl]
        simp only [drawAll, opFn, Nat.reduceBEq, g0, g3, g12, bin_sub, wm1 (show j ≤ 400000 by omega) h1, a1, a2, a3, a4, hc.en, hrun, bin_lss, hlt2]
        rw [draw_plan hp23 rfl]
        simp only [drawAll, opFn, Nat.reduceLT, Nat.reduceBEq, g0, g12, effE_cons, bin_sub, wm1 (show j ≤ 400000 by omega) h1, a1, a2, a3, a4, a5, a6, hv.eqv, bin_add, wadd1 (show j ≤ 400000 by omega)]
        rw [← hsz]
        refine ih (j + 1) (swp d j (j - 1)) _ h3 (N + 29) (by omega) (by omega) (by omega) (by rw [hsz]; omega) (by rw [hsz]; omega) (swp_K hK _ _) (by omega) ?_ ?_ ?_ ?_ ?_ ?_ get_same a7 (hg.trans a8 (Nat.le_refl _)) <;> simp only [symM, Nat.reduceBEq, g0, g1, g2, g3, gs, g9]
    · exact stop j d tm h N hij hK (by omega) g0 g1 g2 g3 gs g9 g12 hv hg
set_option maxHeartbeats 8000000 in
theorem pi0L {g : Nat} {c : Nat × Nat → Nat × Nat → Int} (hc : CmpOK call g c) (v : Value) (n0 a b : Nat) (h0 : AH) :
    ∀ (s i : Nat) (d : Array (Nat × Nat)) (tm : PM Value) (h : AH) (N : Nat), s ≤ 5 → a + 1 ≤ i → i ≤ b → b ≤ d.size → d.size ≤ 480 → AllK d → s + 700 ≤ N → tm.get 0 = some v → tm.get 1 = some (iv a) → tm.get 2 = some (iv b) → tm.get 3 = some (fnV g) → tm.get 9 = some (iv i) → tm.get 10 = some (iv ((5 - s : Nat) : Int)) → Own n0 h v (rA d) 23 → Grow n0 h0 h →
      ∃ tm' h', ((codeB T0 X0 call N EPi (.loop bodyPi0) tm h [] = .jump (.exit 0) tm' h' [] ∧ (partialIns (ltc c) a b s i d).2 = false) ∨ (codeB T0 X0 call N EPi (.loop bodyPi0) tm h [] = .jump .ret tm' h' [] ∧ tm'.get 8 = some (.bool (partialIns (ltc c) a b s i d).2))) ∧ (Own n0 h' v (rA (partialIns (ltc c) a b s i d).1) 23 ∧ AllK (partialIns (ltc c) a b s i d).1 ∧ (partialIns (ltc c) a b s i d).1.size = d.size ∧ Grow n0 h0 h') := by
  intro s
  have hp11 := plan_Pi11
  simp only [regOps, part, Try.f58, sub] at hp11
  induction s with
  | zero =>
    intro i d tm h N hs hi1 hi2 hb hd hK hN g0 g1 g2 g3 g9 g10 hv hg
    obtain ⟨N, rfl⟩ : ∃ a, N = a + 30 := ⟨N - 30, by omega⟩
    apply Exists.intro; apply Exists.intro; apply And.intro
    · refine .inl ⟨?_, rfl⟩
      rw [codeB_loop]
      simp only [bodyPi0, part, Try.f58, sub, symM, opFn, Nat.reduceLT, g10, bin_lss, show decide (((5 - 0 : Nat) : Int) < 5) = false from rfl]
      rfl
    · exact ⟨hv, hK, rfl, hg⟩
  | succ s ih =>
    intro i d tm h N hs hi1 hi2 hb hd hK hN g0 g1 g2 g3 g9 g10 hv hg
    obtain ⟨N, rfl⟩ : ∃ a, N = a + 30 := ⟨N - 30, by omega⟩
    have hst := scanSorted_in (ltc c) d b (b - i) i (Nat.le_refl _) hi2
    have hws : IntKind.i64.wrap (((5 - (s + 1) : Nat) : Int) + 1) = ((5 - s : Nat) : Int) := by rw [wz (by omega)]; omega
    have hwba : IntKind.i64.wrap ((b : Int) - a) = ((b - a : Nat) : Int) := wsub (by omega) (by omega)
    rw [show N + 30 = (N + 29) + 1 from rfl, codeB_loop, partialIns]
    simp only [bodyPi0, part, Try.f58, sub, symM, opFn, Nat.reduceLT, symL, g10, bin_lss, decide_eq_true (show ((5 - (s + 1) : Nat) : Int) < 5 by omega)]
    generalize hX : codeB T0 X0 call _ EPi (.loop _) _ _ _ = X
    obtain ⟨tm1, k1, e1, eh1, p0, p1, p2, p3, ps, p9⟩ := use_exit hX (pi2L hc v n0 a b (5 - (s + 1)) d h hK hv hb hd (b - i) i _ _ (Nat.le_refl _) (by omega) (by omega) (by omega) (by simp only [symM, Nat.reduceBEq, g0]) (by simp only [symM, Nat.reduceBEq, g1]) (by simp only [symM, Nat.reduceBEq, g2]) (by simp only [symM, Nat.reduceBEq, g3]) (by simp only [symM, Nat.reduceBEq, g10]) (by simp only [symM, Nat.reduceBEq, g9]))
    clear hX
    rw [eh1] at e1
    subst e1
    generalize scanSorted (ltc c) d b i = i2 at *
    by_cases hib : i2 = b
    · rw [if_pos hib]
      have hib2 : ((i2 : Int) == (b : Nat)) = true := by simp [hib]
      apply Exists.intro; apply Exists.intro; apply And.intro
      · refine .inr ⟨?_, ?_⟩
        · simp only [symM, opFn, Nat.reduceLT, Nat.reduceBEq, symL, p2, p9, bin_eql, hib2]
          rfl
        · exact get_same
      · exact ⟨hv, hK, rfl, hg⟩
    · rw [if_neg hib]
      have hib2 : ((i2 : Int) == (b : Nat)) = false := by simp; omega
      by_cases h50 : b - a < 50
      · rw [if_pos h50]
        apply Exists.intro; apply Exists.intro; apply And.intro
        · refine .inr ⟨?_, ?_⟩
          · simp only [symM, opFn, Nat.reduceLT, Nat.reduceBEq, symL, p1, p2, p9, bin_eql, hib2, bin_sub, hwba, bin_lss, decide_eq_true (show ((b - a : Nat) : Int) < 50 by omega)]
            rfl
          · exact get_same
        · exact ⟨hv, hK, rfl, hg⟩
      · rw [if_neg h50]
        obtain ⟨p, q, h2, h3, a1, a2, a3, a4, a5, a6, a7, a8⟩ := hv.swap (i := i2) (j := i2 - 1) (by omega) (by omega)
        have hsz := swp_size d i2 (i2 - 1)
        have hK1 := swp_K hK i2 (i2 - 1)
        generalize swp d i2 (i2 - 1) = d1 at *
        have hg1 := hg.trans a8 (Nat.le_refl _)
        have hwia : IntKind.i64.wrap ((i2 : Int) - a) = ((i2 - a : Nat) : Int) := wsub (by omega) (by omega)
        have hwbi : IntKind.i64.wrap ((b : Int) - i2) = ((b - i2 : Nat) : Int) := wsub (by omega) (by omega)
        simp only [symM, opFn, Nat.reduceLT, Nat.reduceBEq, symL, p1, p2, p9, bin_eql, hib2, bin_sub, hwba, bin_lss, decide_eq_false (show ¬ ((b - a : Nat) : Int) < 50 by omega), codeB_draw]
        rw [draw_plan hp11 rfl]
        by_cases hA : i2 - a ≥ 2
        · rw [if_pos hA]
          simp only [drawAll, opFn, Nat.reduceLT, Nat.reduceBEq, symL, p0, p1, p9, effE_cons, wm1 (show i2 ≤ 400000 by omega) (show 1 ≤ i2 by omega), a1, a2, a3, a4, a5, a6, hv.eqv, hwia, bin_sub, bin_geq, decide_eq_true (show (2 : Int) ≤ ((i2 - a : Nat) : Int) by omega)]
          generalize hX : codeB T0 X0 call _ EPi (.loop _) _ _ _ = X
          obtain ⟨tm2, k2, e2, q0, q1, q2, q3, qs, q9, qv, qK, qz, qg⟩ := use_exit hX (pi4L hc v n0 a b (5 - (s + 1)) (iv i2) h0 (i2 - 1) d1 _ h3 _ (by omega) (by omega) hK1 (by omega) (by simp only [symM, Nat.reduceBEq, p0]) (by simp only [symM, Nat.reduceBEq, p1]) (by simp only [symM, Nat.reduceBEq, p2]) (by simp only [symM, Nat.reduceBEq, p3]) (by simp only [symM, Nat.reduceBEq, ps]) (by simp only [symM, Nat.reduceBEq, p9]) get_same a7 hg1)
          clear hX
          subst e2
          by_cases hB : b - i2 ≥ 2
          · rw [if_pos hB]
            simp only [symM, opFn, Nat.reduceLT, Nat.reduceBEq, symL, q2, q9, bin_sub, hwbi, bin_geq, decide_eq_true (show (2 : Int) ≤ ((b - i2 : Nat) : Int) by omega), bin_add, wadd1 (show i2 ≤ 400000 by omega)]
            generalize hX : codeB T0 X0 call _ EPi (.loop _) _ _ _ = X
            obtain ⟨tm3, k3, e3, r0, r1, r2, r3, rs, r9, rv, rK, rz, rg⟩ := use_exit hX (pi6L hc v n0 a b (5 - (s + 1)) (iv i2) h0 (b - (i2 + 1)) (i2 + 1) (shiftDown (ltc c) (i2 - 1) d1) _ k2 _ (Nat.le_refl _) (by omega) (by omega) (by rw [qz.trans hsz]; omega) (by rw [qz.trans hsz]; omega) qK (by omega) (by simp only [symM, Nat.reduceBEq, q0]) (by simp only [symM, Nat.reduceBEq, q1]) (by simp only [symM, Nat.reduceBEq, q2]) (by simp only [symM, Nat.reduceBEq, q3]) (by simp only [symM, Nat.reduceBEq, qs]) (by simp only [symM, Nat.reduceBEq, q9]) get_same qv qg)
            clear hX
            subst e3
            simp only [symM, opFn, Nat.reduceLT, symL, rs, bin_add, hws]
            generalize hX : codeB T0 X0 call _ EPi (.loop _) _ _ _ = X
            obtain ⟨t5, h5, z1, z2, z3, z4, z5⟩ := use_loop (P := fun X => ∃ tm' h', ((X = .jump (.exit 0) tm' h' [] ∧ (partialIns (ltc c) a b s i2 (shiftUp (ltc c) b (i2 + 1) (shiftDown (ltc c) (i2 - 1) d1))).2 = false) ∨ (X = .jump .ret tm' h' [] ∧ tm'.get 8 = some (.bool (partialIns (ltc c) a b s i2 (shiftUp (ltc c) b (i2 + 1) (shiftDown (ltc c) (i2 - 1) d1))).2))) ∧ (Own n0 h' v (rA (partialIns (ltc c) a b s i2 (shiftUp (ltc c) b (i2 + 1) (shiftDown (ltc c) (i2 - 1) d1))).1) 23 ∧ AllK (partialIns (ltc c) a b s i2 (shiftUp (ltc c) b (i2 + 1) (shiftDown (ltc c) (i2 - 1) d1))).1 ∧ (partialIns (ltc c) a b s i2 (shiftUp (ltc c) b (i2 + 1) (shiftDown (ltc c) (i2 - 1) d1))).1.size = (shiftUp (ltc c) b (i2 + 1) (shiftDown (ltc c) (i2 - 1) d1)).size ∧ Grow n0 h0 h')) hX (ih i2 (shiftUp (ltc c) b (i2 + 1) (shiftDown (ltc c) (i2 - 1) d1)) _ k3 (N + 29) (by omega) (by omega) (by omega) (by rw [rz.trans (qz.trans hsz)]; omega) (by rw [rz.trans (qz.trans hsz)]; omega) rK (by omega) (by simp only [symM, Nat.reduceBEq, r0]) (by simp only [symM, Nat.reduceBEq, r1]) (by simp only [symM, Nat.reduceBEq, r2]) (by simp only [symM, Nat.reduceBEq, r3]) (by simp only [symM, Nat.reduceBEq, r9]) get_same rv rg)
            exact ⟨t5, h5, z1, z2, z3, z4.trans (rz.trans (qz.trans hsz)), z5⟩
          · rw [if_neg hB]
            simp only [symM, opFn, Nat.reduceLT, Nat.reduceBEq, symL, q2, q9, bin_sub, hwbi, bin_geq, decide_eq_false (show ¬ (2 : Int) ≤ ((b - i2 : Nat) : Int) by omega), qs, bin_add, hws]
            generalize hX : codeB T0 X0 call _ EPi (.loop _) _ _ _ = X
            obtain ⟨t5, h5, z1, z2, z3, z4, z5⟩ := use_loop (P := fun X => ∃ tm' h', ((X = .jump (.exit 0) tm' h' [] ∧ (partialIns (ltc c) a b s i2 (shiftDown (ltc c) (i2 - 1) d1)).2 = false) ∨ (X = .jump .ret tm' h' [] ∧ tm'.get 8 = some (.bool (partialIns (ltc c) a b s i2 (shiftDown (ltc c) (i2 - 1) d1)).2))) ∧ (Own n0 h' v (rA (partialIns (ltc c) a b s i2 (shiftDown (ltc c) (i2 - 1) d1)).1) 23 ∧ AllK (partialIns (ltc c) a b s i2 (shiftDown (ltc c) (i2 - 1) d1)).1 ∧ (partialIns (ltc c) a b s i2 (shiftDown (ltc c) (i2 - 1) d1)).1.size = (shiftDown (ltc c) (i2 - 1) d1).size ∧ Grow n0 h0 h')) hX (ih i2 (shiftDown (ltc c) (i2 - 1) d1) _ k2 (N + 29) (by omega) (by omega) (by omega) (by rw [qz.trans hsz]; omega) (by rw [qz.trans hsz]; omega) qK (by omega) (by simp only [symM, Nat.reduceBEq, q0]) (by simp only [symM, Nat.reduceBEq, q1]) (by simp only [symM, Nat.reduceBEq, q2]) (by simp only [symM, Nat.reduceBEq, q3]) (by simp only [symM, Nat.reduceBEq, q9]) get_same qv qg)
            exact ⟨t5, h5, z1, z2, z3, z4.trans (qz.trans hsz), z5⟩
        · rw [if_neg hA]
          simp only [drawAll, opFn, Nat.reduceLT, Nat.reduceBEq, p0, p1, p2, p9, effE_cons, wm1 (show i2 ≤ 400000 by omega) (show 1 ≤ i2 by omega), a1, a2, a3, a4, a5, a6, hv.eqv, hwia, bin_sub, bin_geq, decide_eq_false (show ¬ (2 : Int) ≤ ((i2 - a : Nat) : Int) by omega)]
          by_cases hB : b - i2 ≥ 2
          · rw [if_pos hB]
            simp only [symM, opFn, Nat.reduceLT, Nat.reduceBEq, symL, p9, hwbi, decide_eq_true (show (2 : Int) ≤ ((b - i2 : Nat) : Int) by omega), bin_add, wadd1 (show i2 ≤ 400000 by omega)]
            generalize hX : codeB T0 X0 call _ EPi (.loop _) _ _ _ = X
            obtain ⟨tm3, k3, e3, r0, r1, r2, r3, rs, r9, rv, rK, rz, rg⟩ := use_exit hX (pi6L hc v n0 a b (5 - (s + 1)) (iv i2) h0 (b - (i2 + 1)) (i2 + 1) (d1) _ h3 _ (Nat.le_refl _) (by omega) (by omega) (by rw [hsz]; omega) (by rw [hsz]; omega) hK1 (by omega) (by simp only [symM, Nat.reduceBEq, p0]) (by simp only [symM, Nat.reduceBEq, p1]) (by simp only [symM, Nat.reduceBEq, p2]) (by simp only [symM, Nat.reduceBEq, p3]) (by simp only [symM, Nat.reduceBEq, ps]) (by simp only [symM, Nat.reduceBEq, p9]) get_same a7 hg1)
            clear hX
            subst e3
            simp only [symM, opFn, Nat.reduceLT, symL, rs, bin_add, hws]
            generalize hX : codeB T0 X0 call _ EPi (.loop _) _ _ _ = X
            obtain ⟨t5, h5, z1, z2, z3, z4, z5⟩ := use_loop (P := fun X => ∃ tm' h', ((X = .jump (.exit 0) tm' h' [] ∧ (partialIns (ltc c) a b s i2 (shiftUp (ltc c) b (i2 + 1) (d1))).2 = false) ∨ (X = .jump .ret tm' h' [] ∧ tm'.get 8 = some (.bool (partialIns (ltc c) a b s i2 (shiftUp (ltc c) b (i2 + 1) (d1))).2))) ∧ (Own n0 h' v (rA (partialIns (ltc c) a b s i2 (shiftUp (ltc c) b (i2 + 1) (d1))).1) 23 ∧ AllK (partialIns (ltc c) a b s i2 (shiftUp (ltc c) b (i2 + 1) (d1))).1 ∧ (partialIns (ltc c) a b s i2 (shiftUp (ltc c) b (i2 + 1) (d1))).1.size = (shiftUp (ltc c) b (i2 + 1) (d1)).size ∧ Grow n0 h0 h')) hX (ih i2 (shiftUp (ltc c) b (i2 + 1) (d1)) _ k3 (N + 29) (by omega) (by omega) (by omega) (by rw [rz.trans (hsz)]; omega) (by rw [rz.trans (hsz)]; omega) rK (by omega) (by simp only [symM, Nat.reduceBEq, r0]) (by simp only [symM, Nat.reduceBEq, r1]) (by simp only [symM, Nat.reduceBEq, r2]) (by simp only [symM, Nat.reduceBEq, r3]) (by simp only [symM, Nat.reduceBEq, r9]) get_same rv rg)
            exact ⟨t5, h5, z1, z2, z3, z4.trans (rz.trans (hsz)), z5⟩
          · rw [if_neg hB]
            simp only [symM, opFn, Nat.reduceLT, Nat.reduceBEq, hwbi, decide_eq_false (show ¬ (2 : Int) ≤ ((b - i2 : Nat) : Int) by omega), ps, bin_add, hws]
            generalize hX : codeB T0 X0 call _ EPi (.loop _) _ _ _ = X
            obtain ⟨t5, h5, z1, z2, z3, z4, z5⟩ := use_loop (P := fun X => ∃ tm' h', ((X = .jump (.exit 0) tm' h' [] ∧ (partialIns (ltc c) a b s i2 (d1)).2 = false) ∨ (X = .jump .ret tm' h' [] ∧ tm'.get 8 = some (.bool (partialIns (ltc c) a b s i2 (d1)).2))) ∧ (Own n0 h' v (rA (partialIns (ltc c) a b s i2 (d1)).1) 23 ∧ AllK (partialIns (ltc c) a b s i2 (d1)).1 ∧ (partialIns (ltc c) a b s i2 (d1)).1.size = (d1).size ∧ Grow n0 h0 h')) hX (ih i2 (d1) _ h3 (N + 29) (by omega) (by omega) (by omega) (by rw [hsz]; omega) (by rw [hsz]; omega) hK1 (by omega) (by simp only [symM, Nat.reduceBEq, p0]) (by simp only [symM, Nat.reduceBEq, p1]) (by simp only [symM, Nat.reduceBEq, p2]) (by simp only [symM, Nat.reduceBEq, p3]) (by simp only [symM, Nat.reduceBEq, p9]) get_same a7 hg1)
            exact ⟨t5, h5, z1, z2, z3, z4.trans (hsz), z5⟩
theorem partialInsertionSort_S {g : Nat} {c : Nat × Nat → Nat × Nat → Int} (hc : CmpOK call g c) (v : Value) (n0 a b : Nat) (d : Array (Nat × Nat)) (h : AH) (hab : a < b) (hb : b ≤ d.size) (hd : d.size ≤ 480) (hK : AllK d) (hv : Own n0 h v (rA d) 23) :
    ∃ h', frameB T0 X0 call 3000 58 [v, iv a, iv b, fnV g] h = some (.bool (partialInsertionSort (ltc c) d a b).2, h') ∧ Own n0 h' v (rA (partialInsertionSort (ltc c) d a b).1) 23 ∧ AllK (partialInsertionSort (ltc c) d a b).1 ∧ (partialInsertionSort (ltc c) d a b).1.size = d.size ∧ Grow n0 h h' := by
  rw [frameB_eq ft58 rfl rfl]
  unfold partialInsertionSort
  simp only [Try.f58, symM, opFn, Nat.reduceLT, Nat.reduceBEq, symL, bin_add, wadd1 (show a ≤ 400000 by omega)]
  generalize hX : codeB T0 X0 call _ EPi (.loop _) _ _ _ = X
  obtain ⟨t5, h5, z1, z2, z3, z4, z5⟩ := use_loop (P := fun X => ∃ tm' h', ((X = .jump (.exit 0) tm' h' [] ∧ (partialIns (ltc c) a b 5 (a + 1) d).2 = false) ∨ (X = .jump .ret tm' h' [] ∧ tm'.get 8 = some (.bool (partialIns (ltc c) a b 5 (a + 1) d).2))) ∧ (Own n0 h' v (rA (partialIns (ltc c) a b 5 (a + 1) d).1) 23 ∧ AllK (partialIns (ltc c) a b 5 (a + 1) d).1 ∧ (partialIns (ltc c) a b 5 (a + 1) d).1.size = d.size ∧ Grow n0 h h')) hX (pi0L hc v n0 a b h 5 (a + 1) d _ h _ (by omega) (by omega) (by omega) hb hd hK (by omega) (by simp only [symM, Nat.reduceBEq]) (by simp only [symM, Nat.reduceBEq]) (by simp only [symM, Nat.reduceBEq]) (by simp only [symM, Nat.reduceBEq]) (by simp only [symM, Nat.reduceBEq]) (by simp only [symM]; rfl) hv (Grow.refl _ _))
  clear hX
  refine ⟨h5, ?_, z2, z3, z4, z5⟩
  rcases z1 with ⟨z1, zr⟩ | ⟨z1, zr⟩ <;> subst z1
  · rw [zr]
    simp only [symM, opFn, Nat.reduceLT, symL]
    exact retB_one ft58 rfl get_same
  · simp only [symM]
    exact retB_one ft58 rfl zr
end
end Go.Proofs.Ytcpihpjphdlmfaa.Abs
