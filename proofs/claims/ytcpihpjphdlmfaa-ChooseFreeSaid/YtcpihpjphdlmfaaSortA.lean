/- Sorting: the ground, and slices.insertionSortCmpFunc. -/
import Derived.Test.YtcpihpjphdlmfaaTight
import Derived.Sort.Defs
namespace Go.Proofs.Ytcpihpjphdlmfaa.Abs
open Go Go.Proofs Go.Sort
noncomputable section
variable {call : Abs.Callee}
set_option maxRecDepth 10000
/-- A run whose parts are small. -/
def KP (p : Nat × Nat) : Prop := p.1 ≤ 480 ∧ p.2 ≤ 480
def AllK (d : Array (Nat × Nat)) : Prop := ∀ i : Nat, KP d[i]!
def rA (d : Array (Nat × Nat)) : List Value := runsV d.toList
theorem rA_len (d : Array (Nat × Nat)) : (rA d).length = d.size := by simp [rA, runsV]
theorem rA_at {d : Array (Nat × Nat)} {i : Nat} (h : i < d.size) : (rA d)[i]? = some (cx (d[i]!).1 (d[i]!).2) := by
  simp [rA, runsV, h]
theorem swp_size {α : Type} [Inhabited α] (d : Array α) (i j : Nat) : (swp d i j).size = d.size := by simp [swp]
theorem get_set {α : Type} [Inhabited α] (d : Array α) (i : Nat) (x : α) (k : Nat) : (d.setIfInBounds i x)[k]! = if i = k ∧ k < d.size then x else d[k]! := by
  simp only [getElem!_def, Array.getElem?_setIfInBounds]
  by_cases h1 : i = k
  · subst h1
    rw [if_pos rfl]
    by_cases h2 : i < d.size
    · rw [if_pos h2, if_pos ⟨rfl, h2⟩]
    · rw [if_neg h2, if_neg (fun h => h2 h.2)]
      rw [Array.getElem?_eq_none (by omega)]
  · rw [if_neg h1, if_neg (fun h => h1 h.1)]
theorem swp_get {α : Type} [Inhabited α] (d : Array α) (i j k : Nat) : (swp d i j)[k]! = d[k]! ∨ (swp d i j)[k]! = d[i]! ∨ (swp d i j)[k]! = d[j]! := by
  unfold swp
  rw [get_set]
  split
  · exact .inr (.inl rfl)
  · rw [get_set]
    split
    · exact .inr (.inr rfl)
    · exact .inl rfl
theorem swp_K {d : Array (Nat × Nat)} (h : AllK d) (i j : Nat) : AllK (swp d i j) := by
  intro k
  rcases swp_get d i j k with e | e | e <;> rw [e] <;> exact h _
theorem rA_set (d : Array (Nat × Nat)) (i : Nat) (x : Nat × Nat) : rA (d.setIfInBounds i x) = (rA d).set i (cx x.1 x.2) := by
  unfold rA runsV
  rw [Array.toList_setIfInBounds, List.map_set]
/-- Two elements change their places. -/
theorem Own.swap {n : Nat} {h : AH} {v : Value} {d : Array (Nat × Nat)} (hv : Own n h v (rA d) 23) {i j : Nat} (hi : i < d.size) (hj : j < d.size) :
    ∃ p q h2 h3, evIndexAddr T0 29 v (iv i) = some p ∧ evIndexAddr T0 29 v (iv j) = some q ∧ evLoad T0 23 p h = some (cx (d[i]!).1 (d[i]!).2) ∧ evLoad T0 23 q h = some (cx (d[j]!).1 (d[j]!).2) ∧
      evStore T0 23 p (cx (d[j]!).1 (d[j]!).2) h = some h2 ∧ evStore T0 23 q (cx (d[i]!).1 (d[i]!).2) h2 = some h3 ∧ Own n h3 v (rA (swp d i j)) 23 ∧ Grow n h h3 := by
  obtain ⟨p, a1, a2⟩ := hv.row.at und_c128s sz_c128 agg_c128 (rA_at hi)
  obtain ⟨q, b1, b2⟩ := hv.row.at und_c128s sz_c128 agg_c128 (rA_at hj)
  obtain ⟨p', h2, c1, c2, c3, c4, c5⟩ := hv.store und_c128s sz_c128 (x := cx (d[j]!).1 (d[j]!).2) rfl (rA_at hi)
  rw [a1] at c1; cases c1
  rw [← rA_set] at c3
  obtain ⟨q', h3, d1, d2, d3, d4, d5⟩ := c3.store und_c128s sz_c128 (x := cx (d[i]!).1 (d[i]!).2) rfl (rA_at (i := j) (by simpa using hj))
  rw [b1] at d1; cases d1
  rw [← rA_set] at d3
  exact ⟨p, q, h2, h3, a1, b1, a2, b2, c2, d2, d3, c4.trans d4 (Nat.le_refl _)⟩
theorem Own.fetch {n : Nat} {h : AH} {v : Value} {d : Array (Nat × Nat)} (hv : Own n h v (rA d) 23) {i : Nat} (hi : i < d.size) :
    ∃ p, evIndexAddr T0 29 v (iv i) = some p ∧ evLoad T0 23 p h = some (cx (d[i]!).1 (d[i]!).2) := hv.row.at und_c128s sz_c128 agg_c128 (rA_at hi)
/-- A function that compares two runs. -/
structure CmpOK (call : Abs.Callee) (g : Nat) (c : Nat × Nat → Nat × Nat → Int) : Prop where
  en : ∀ args h, evCall T0 X0 (.func (.func g) #[] #[]) args h = some (.enter g args, h)
  run : ∀ (p q : Nat × Nat) (h : AH), KP p → KP q → call g [cx p.1 p.2, cx q.1 q.2] h = some (iv (c p q), h)
def ltc (c : Nat × Nat → Nat × Nat → Int) (p q : Nat × Nat) : Bool := decide (c p q < 0)
abbrev fnV (g : Nat) : Value := .func (.func g) #[] #[]
theorem wz {z : Int} (h : -4000000 ≤ z ∧ z ≤ 4000000) : IntKind.i64.wrap z = z := by rw [IntWalk.i64_in _ (by omega)]
theorem wadd {a b : Nat} (h : a + b ≤ 4000000) : IntKind.i64.wrap ((a : Int) + b) = ((a + b : Nat) : Int) := by rw [wz (by omega)]; omega
theorem wadd1 {a : Nat} (h : a ≤ 400000) : IntKind.i64.wrap ((a : Int) + 1) = ((a + 1 : Nat) : Int) := by rw [wz (by omega)]; omega
theorem wsub {a b : Nat} (h : a ≤ 4000000) (hb : b ≤ a) : IntKind.i64.wrap ((a : Int) - b) = ((a - b : Nat) : Int) := by rw [wz (by omega)]; omega
theorem wsub1 {a : Nat} (h : a ≤ 400000) : IntKind.i64.wrap (((a + 1 : Nat) : Int) - 1) = (a : Int) := by rw [wz (by omega)]; omega
theorem retB_zero {f : Nat} {tm : PM Value} {h : AH} {fd : Func} (hf : T0.ft.get f = some fd) (hr : fd.results = #[]) : retB T0 f tm h [] = some (.tuple #[], h) := by
  unfold retB undef1
  simp only [resultA, hf, hr]
  rfl
/-- An inner loop that was left. -/
theorem use_loop {N : Nat} {E : Env} {b : Code} {tm : PM Value} {h : AH} {df : List Nat} {X : CO} {P : CO → Prop} (hX : codeB T0 X0 call N E (.loop b) tm h df = X)
    (H : P (codeB T0 X0 call N E (.loop b) tm h df)) : P X := hX ▸ H
theorem use_exit {N : Nat} {E : Env} {b : Code} {tm : PM Value} {h : AH} {df : List Nat} {i : Nat} {X : CO} {Q : PM Value → AH → Prop} (hX : codeB T0 X0 call N E (.loop b) tm h df = X)
    (H : ∃ tm' h', codeB T0 X0 call N E (.loop b) tm h df = .jump (.exit i) tm' h' df ∧ Q tm' h') : ∃ tm' h', X = .jump (.exit i) tm' h' df ∧ Q tm' h' := hX ▸ H
theorem nbF {a b : Nat} (h : (a == b) = false) : Nat.beq a b = false := by
  cases hb : Nat.beq a b with
  | false => rfl
  | true => have := Nat.eq_of_beq_eq_true hb; subst this; simp at h
theorem symL : type_of% (And.intro @loop_same (And.intro @unblock_exit (And.intro @Nat.beq_refl @nbF))) := And.intro @loop_same (And.intro @unblock_exit (And.intro @Nat.beq_refl @nbF))
theorem ft52 : T0.ft.get 52 = some Try.f52 := by kernel_rfl
noncomputable def bodyIs2 : Code := part Try.f52 [1, 0, 0, 1, 0, 0, 1, 0, 0]
noncomputable def bodyIs1 : Code := part Try.f52 [1, 0, 0]
abbrev EIs : Env := ⟨52, 53, none⟩
theorem plan_Is4 : planB (regOps Try.f52 [1, 0, 0, 1, 0, 0, 1, 0, 0, 0, 0]) 53 = some ([.one 0, .one 1, .one 2, .one 3, .one 4, .one 5, .one 6, .one 7, .one 8, .one 9, .one 10, .one 11, .one 12, .one 13, .eff [] 14 [], .one 15, .one 16], []) := by kernel_rfl
theorem plan_Is6 : planB (regOps Try.f52 [1, 0, 0, 1, 0, 0, 1, 0, 0, 1, 0, 0]) 53 = some ([.one 0, .one 1, .one 2, .one 3, .one 4, .one 5, .one 6, .one 7, .one 8, .one 9, .one 10, .one 11, .one 12, .one 13, .one 14, .eff [] 15 [2, 3, 4], .one 16, .eff [] 17 []], []) := by kernel_rfl
set_option maxHeartbeats 2000000 in
theorem isL2 {g : Nat} {c : Nat × Nat → Nat × Nat → Int} (hc : CmpOK call g c) (v x2 x8 : Value) (n0 a : Nat) (h0 : AH) :
    ∀ (j : Nat) (d : Array (Nat × Nat)) (tm : PM Value) (h : AH) (N : Nat), j < d.size → d.size ≤ 480 → AllK d → j + 40 ≤ N → tm.get 0 = some v → tm.get 1 = some (iv a) → tm.get 2 = some x2 → tm.get 3 = some (fnV g) → tm.get 8 = some x8 → tm.get 9 = some (iv j) → Own n0 h v (rA d) 23 → Grow n0 h0 h →
      ∃ tm' h', codeB T0 X0 call N EIs (.loop bodyIs2) tm h [] = .jump (.exit 2) tm' h' [] ∧ (tm'.get 0 = some v ∧ tm'.get 1 = some (iv a) ∧ tm'.get 2 = some x2 ∧ tm'.get 3 = some (fnV g) ∧ tm'.get 8 = some x8 ∧ Own n0 h' v (rA (insInner (ltc c) a j d)) 23 ∧ AllK (insInner (ltc c) a j d) ∧ (insInner (ltc c) a j d).size = d.size ∧ Grow n0 h0 h') := by
  intro j
  have hp4 := plan_Is4
  simp only [regOps, part, Try.f52, sub] at hp4
  have hp6 := plan_Is6
  simp only [regOps, part, Try.f52, sub] at hp6
  induction j with
  | zero =>
    intro d tm h N hj hd hK hN g0 g1 g2 g3 g8 g9 hv hg
    obtain ⟨N, rfl⟩ : ∃ a, N = a + 30 := ⟨N - 30, by omega⟩
    apply Exists.intro; apply Exists.intro; apply And.intro
    · rw [codeB_loop]
      simp only [bodyIs2, part, Try.f52, sub, symM, codeB_draw]
      rw [draw_plan hp4 rfl]
      simp only [drawAll, opFn, Nat.reduceBEq, g1, g9, bin_gtr, decide_eq_false (show ¬ (a : Int) < ((0 : Nat) : Int) by omega)]
      rfl
    · refine ⟨by simp only [symM, Nat.reduceBEq, g0], by simp only [symM, Nat.reduceBEq, g1], by simp only [symM, Nat.reduceBEq, g2], by simp only [symM, Nat.reduceBEq, g3], by simp only [symM, Nat.reduceBEq, g8], hv, hK, rfl, hg⟩
  | succ j ih =>
    intro d tm h N hj hd hK hN g0 g1 g2 g3 g8 g9 hv hg
    obtain ⟨N, rfl⟩ : ∃ a, N = a + 30 := ⟨N - 30, by omega⟩
    by_cases ha : a < j + 1
    · obtain ⟨p, q, h2, h3, a1, a2, a3, a4, a5, a6, a7, a8⟩ := hv.swap (i := j + 1) (j := j) hj (by omega)
      have hrun := hc.run (d[j + 1]!) (d[j]!) h (hK _) (hK _)
      cases hlt : ltc c d[j + 1]! d[j]! with
      | true =>
        have hi : insInner (ltc c) a (j + 1) d = insInner (ltc c) a j (swp d (j + 1) j) := by rw [insInner, hlt, decide_eq_true (show j + 1 > a from ha)]; rfl
        have hlt2 : decide (c d[j + 1]! d[j]! < 0) = true := hlt
        rw [hi, show N + 30 = (N + 29) + 1 from rfl, codeB_loop]
        simp only [bodyIs2, part, Try.f52, sub, symM, codeB_draw]
        rw [draw_plan hp4 rfl]
        simp only [drawAll, opFn, Nat.reduceBEq, g0, g1, g3, g9, bin_gtr, decide_eq_true (show (a : Int) < ((j + 1 : Nat) : Int) by omega), bin_sub, wsub1 (show j ≤ 400000 by omega), a1, a2, a3, a4, hc.en, hrun, bin_lss, hlt2]
        rw [draw_plan hp6 rfl]
        simp only [drawAll, opFn, Nat.reduceLT, Nat.reduceBEq, g0, g9, effE_cons, bin_sub, wsub1 (show j ≤ 400000 by omega), a1, a2, a3, a4, a5, a6, hv.eqv]
        have hsz := swp_size d (j + 1) j
        rw [← hsz]
        refine ih (swp d (j + 1) j) _ h3 (N + 29) (by rw [hsz]; omega) (by rw [hsz]; omega) (swp_K hK _ _) (by omega) ?_ ?_ ?_ ?_ ?_ get_same a7 (hg.trans a8 (Nat.le_refl _)) <;> simp only [symM, Nat.reduceBEq, g0, g1, g2, g3, g8]
      | false =>
        have hi : insInner (ltc c) a (j + 1) d = d := by rw [insInner, hlt]; simp
        have hlt2 : decide (c d[j + 1]! d[j]! < 0) = false := hlt
        rw [hi]
        apply Exists.intro; apply Exists.intro; apply And.intro
        · rw [codeB_loop]
          simp only [bodyIs2, part, Try.f52, sub, symM, codeB_draw]
          rw [draw_plan hp4 rfl]
          simp only [drawAll, opFn, Nat.reduceBEq, g0, g1, g3, g9, bin_gtr, decide_eq_true (show (a : Int) < ((j + 1 : Nat) : Int) by omega), bin_sub, wsub1 (show j ≤ 400000 by omega), a1, a2, a3, a4, hc.en, hrun, bin_lss, hlt2]
          rfl
        · refine ⟨by simp only [symM, Nat.reduceBEq, g0], by simp only [symM, Nat.reduceBEq, g1], by simp only [symM, Nat.reduceBEq, g2], by simp only [symM, Nat.reduceBEq, g3], by simp only [symM, Nat.reduceBEq, g8], hv, hK, rfl, hg⟩
    · have hi : insInner (ltc c) a (j + 1) d = d := by rw [insInner, decide_eq_false (show ¬ j + 1 > a from ha)]; rfl
      rw [hi]
      apply Exists.intro; apply Exists.intro; apply And.intro
      · rw [codeB_loop]
        simp only [bodyIs2, part, Try.f52, sub, symM, codeB_draw]
        rw [draw_plan hp4 rfl]
        simp only [drawAll, opFn, Nat.reduceBEq, g1, g9, bin_gtr, decide_eq_false (show ¬ (a : Int) < ((j + 1 : Nat) : Int) by omega)]
        rfl
      · refine ⟨by simp only [symM, Nat.reduceBEq, g0], by simp only [symM, Nat.reduceBEq, g1], by simp only [symM, Nat.reduceBEq, g2], by simp only [symM, Nat.reduceBEq, g3], by simp only [symM, Nat.reduceBEq, g8], hv, hK, rfl, hg⟩
theorem isL1 {g : Nat} {c : Nat × Nat → Nat × Nat → Int} (hc : CmpOK call g c) (v : Value) (n0 a b : Nat) (hb : b ≤ 480) (h0 : AH) :
    ∀ (k i : Nat) (d : Array (Nat × Nat)) (tm : PM Value) (h : AH) (N : Nat), b - i = k → b ≤ d.size → d.size ≤ 480 → AllK d → k + 600 ≤ N → tm.get 0 = some v → tm.get 1 = some (iv a) → tm.get 2 = some (iv b) → tm.get 3 = some (fnV g) → tm.get 8 = some (iv i) → Own n0 h v (rA d) 23 → Grow n0 h0 h →
      ∃ tm' h', codeB T0 X0 call N EIs (.loop bodyIs1) tm h [] = .jump (.exit 0) tm' h' [] ∧ (Own n0 h' v (rA (insOuter (ltc c) a b i d)) 23 ∧ AllK (insOuter (ltc c) a b i d) ∧ (insOuter (ltc c) a b i d).size = d.size ∧ Grow n0 h0 h') := by
  intro k
  induction k with
  | zero =>
    intro i d tm h N hk hbd hd hK hN g0 g1 g2 g3 g8 hv hg
    obtain ⟨N, rfl⟩ : ∃ a, N = a + 30 := ⟨N - 30, by omega⟩
    rw [insOuter, if_neg (show ¬ i < b by omega)]
    apply Exists.intro; apply Exists.intro; apply And.intro
    · rw [codeB_loop]
      simp only [bodyIs1, part, Try.f52, sub, symM, opFn, Nat.reduceLT, Nat.reduceBEq, g2, g8, bin_lss, decide_eq_false (show ¬ (i : Int) < (b : Nat) by omega)]
      rfl
    · exact ⟨hv, hK, rfl, hg⟩
  | succ k ih =>
    intro i d tm h N hk hbd hd hK hN g0 g1 g2 g3 g8 hv hg
    obtain ⟨N, rfl⟩ : ∃ a, N = a + 30 := ⟨N - 30, by omega⟩
    rw [insOuter, if_pos (show i < b by omega)]
    rw [show N + 30 = (N + 29) + 1 from rfl, codeB_loop]
    simp only [bodyIs1, part, Try.f52, sub, symM, opFn, Nat.reduceLT, Nat.reduceBEq, g2, g8, bin_lss, decide_eq_true (show (i : Int) < (b : Nat) by omega)]
    simp only [loop_same]
    generalize hX : codeB T0 X0 call _ EIs (.loop _) _ _ _ = X
    obtain ⟨tm', h', e', q0, q1, q2, q3, q8, qv, qK, qs, qg⟩ := use_exit hX (isL2 hc v (iv b) (iv i) n0 a h0 i d _ h _ (by omega) hd hK (by omega) (by simp only [symM, Nat.reduceBEq, g0]) (by simp only [symM, Nat.reduceBEq, g1]) (by simp only [symM, Nat.reduceBEq, g2]) (by simp only [symM, Nat.reduceBEq, g3]) (by simp only [symM, Nat.reduceBEq, g8]) get_same hv hg)
    clear hX
    subst e'
    simp only [symM, opFn, Nat.reduceLT, symL, q8, bin_add, wadd1 (show i ≤ 400000 by omega)]
    rw [← qs]
    refine ih (i + 1) _ _ h' (N + 29) (by omega) (by rw [qs]; exact hbd) (by rw [qs]; exact hd) qK (by omega) ?_ ?_ ?_ ?_ get_same qv qg <;> simp only [symM, Nat.reduceBEq, q0, q1, q2, q3]
/-- The contract of a function that sorts data[a:b] in place. -/
theorem insertionSort_S {g : Nat} {c : Nat × Nat → Nat × Nat → Int} (hc : CmpOK call g c) (v : Value) (n0 a b : Nat) (d : Array (Nat × Nat)) (h : AH) (hab : a ≤ b) (hb : b ≤ d.size) (hd : d.size ≤ 480) (hK : AllK d) (hv : Own n0 h v (rA d) 23) :
    ∃ h', frameB T0 X0 call 3000 52 [v, iv a, iv b, fnV g] h = some (.tuple #[], h') ∧ Own n0 h' v (rA (insertionSort (ltc c) d a b)) 23 ∧ AllK (insertionSort (ltc c) d a b) ∧ (insertionSort (ltc c) d a b).size = d.size ∧ Grow n0 h h' := by
  rw [frameB_eq ft52 rfl rfl]
  unfold insertionSort
  simp only [Try.f52, symM, opFn, Nat.reduceLT, bin_add, wadd1 (show a ≤ 400000 by omega)]
  simp only [loop_same]
  generalize hX : codeB T0 X0 call _ EIs (.loop _) _ _ _ = X
  obtain ⟨tm', h', e', qv, qK, qs, qg⟩ := use_exit hX (isL1 hc v n0 a b (by omega) h (b - (a + 1)) (a + 1) d _ h _ rfl hb hd hK (by omega) (by simp only [symM, Nat.reduceBEq]) (by simp only [symM, Nat.reduceBEq]) (by simp only [symM, Nat.reduceBEq]) (by simp only [symM, Nat.reduceBEq]) get_same hv (Grow.refl _ _))
  clear hX
  subst e'
  refine ⟨h', ?_, qv, qK, qs, qg⟩
  simp only [symM, symL]
  exact retB_zero ft52 rfl
end
end Go.Proofs.Ytcpihpjphdlmfaa.Abs
namespace Go.Proofs.Ytcpihpjphdlmfaa.Abs
open Go Go.Proofs Go.Sort
noncomputable section
variable {call : Abs.Callee}
set_option maxRecDepth 10000
theorem wmul {a : Nat} (h : a ≤ 400000) : IntKind.i64.wrap (2 * (a : Int)) = ((2 * a : Nat) : Int) := by rw [wz (by omega)]; omega
theorem quo2 {T : Tab} {t : TypeId} {a b : Operand} {k : IntKind} {m : Nat} {h : AH} : evBin T .quo t a b (.int k (m : Int)) (.int k 2) h = some (.int k (k.wrap ((m / 2 : Nat) : Int))) := bin_quo (n := 2) (by decide)
theorem quo4 {T : Tab} {t : TypeId} {a b : Operand} {k : IntKind} {m : Nat} {h : AH} : evBin T .quo t a b (.int k (m : Int)) (.int k 4) h = some (.int k (k.wrap ((m / 4 : Nat) : Int))) := bin_quo (n := 4) (by decide)
theorem quo8 {T : Tab} {t : TypeId} {a b : Operand} {k : IntKind} {m : Nat} {h : AH} : evBin T .quo t a b (.int k (m : Int)) (.int k 8) h = some (.int k (k.wrap ((m / 8 : Nat) : Int))) := bin_quo (n := 8) (by decide)
theorem ft66 : T0.ft.get 66 = some Try.f66 := by kernel_rfl
theorem ft54 : T0.ft.get 54 = some Try.f54 := by kernel_rfl
noncomputable def bodySd : Code := part Try.f66 [1, 0, 0]
abbrev ESd : Env := ⟨66, 82, none⟩
theorem plan_Sd3 : planB (regOps Try.f66 [1, 0, 0, 0, 1, 1, 0, 0]) 82 = some ([.one 0, .one 1, .one 2, .one 3, .one 4, .one 5, .one 6, .one 7, .one 8, .one 9, .one 10, .one 11, .one 12, .one 13, .one 14, .one 15, .one 16, .one 17, .one 18, .eff [] 19 [], .one 20, .one 21], []) := by kernel_rfl
theorem plan_Sd5 : planB (regOps Try.f66 [1, 0, 0, 0, 1, 1, 1, 0, 0]) 82 = some ([.one 0, .one 1, .one 2, .one 3, .one 4, .one 5, .one 6, .one 7, .one 8, .one 9, .one 10, .one 11, .one 12, .eff [] 13 [], .one 14, .one 15], []) := by kernel_rfl
theorem plan_Sd6 : planB (regOps Try.f66 [1, 0, 0, 0, 1, 1, 1, 1, 0]) 82 = some ([.one 0, .one 1, .one 2, .one 3, .one 4, .one 5, .one 6, .one 7, .one 8, .one 9, .one 10, .one 11, .one 12, .one 13, .one 14, .one 15, .one 16, .one 17, .one 18, .one 19, .one 20, .eff [] 21 [4, 5, 6, 7], .one 22, .eff [] 23 []], []) := by kernel_rfl
set_option maxHeartbeats 4000000 in
theorem sdL {g : Nat} {c : Nat × Nat → Nat × Nat → Int} (hc : CmpOK call g c) (v : Value) (n0 hi first : Nat) (h0 : AH) :
    ∀ (k root : Nat) (d : Array (Nat × Nat)) (tm : PM Value) (h : AH) (N : Nat), hi - root ≤ k → first + hi ≤ d.size → d.size ≤ 480 → root ≤ 480 → AllK d → k + 60 ≤ N → tm.get 0 = some v → tm.get 2 = some (iv hi) → tm.get 3 = some (iv first) → tm.get 4 = some (fnV g) → tm.get 10 = some (iv root) → Own n0 h v (rA d) 23 → Grow n0 h0 h →
      ∃ tm' h', (codeB T0 X0 call N ESd (.loop bodySd) tm h [] = .jump (.exit 0) tm' h' [] ∨ codeB T0 X0 call N ESd (.loop bodySd) tm h [] = .jump .ret tm' h' []) ∧ (Own n0 h' v (rA (siftDown (ltc c) hi first root d)) 23 ∧ AllK (siftDown (ltc c) hi first root d) ∧ (siftDown (ltc c) hi first root d).size = d.size ∧ Grow n0 h0 h') := by
  intro k
  have hp3 := plan_Sd3
  simp only [regOps, part, Try.f66, sub] at hp3
  have hp5 := plan_Sd5
  simp only [regOps, part, Try.f66, sub] at hp5
  have hp6 := plan_Sd6
  simp only [regOps, part, Try.f66, sub] at hp6
  induction k with
  | zero =>
    intro root d tm h N hk hfd hd hr hK hN g0 g2 g3 g4 g10 hv hg
    obtain ⟨N, rfl⟩ : ∃ a, N = a + 30 := ⟨N - 30, by omega⟩
    have hw1 : IntKind.i64.wrap (((2 * root : Nat) : Int) + 1) = ((2 * root + 1 : Nat) : Int) := wadd1 (by omega)
    rw [siftDown, dif_pos (show 2 * root + 1 ≥ hi by omega)]
    apply Exists.intro; apply Exists.intro; apply And.intro
    · refine .inl ?_
      rw [codeB_loop]
      simp only [bodySd, part, Try.f66, sub, symM, opFn, Nat.reduceLT, Nat.reduceBEq, symL, g10, g2, bin_mul, wmul (show root ≤ 400000 by omega), bin_add, hw1, bin_geq, decide_eq_true (show (hi : Int) ≤ ((2 * root + 1 : Nat) : Int) by omega)]
      rfl
    · exact ⟨hv, hK, rfl, hg⟩
  | succ k ih =>
    intro root d tm h N hk hfd hd hr hK hN g0 g2 g3 g4 g10 hv hg
    obtain ⟨N, rfl⟩ : ∃ a, N = a + 30 := ⟨N - 30, by omega⟩
    have hw1 : IntKind.i64.wrap (((2 * root : Nat) : Int) + 1) = ((2 * root + 1 : Nat) : Int) := wadd1 (by omega)
    have hw2 : IntKind.i64.wrap (((2 * root + 1 : Nat) : Int) + 1) = ((2 * root + 2 : Nat) : Int) := wadd1 (by omega)
    by_cases h1 : 2 * root + 1 ≥ hi
    · rw [siftDown, dif_pos h1]
      apply Exists.intro; apply Exists.intro; apply And.intro
      · refine .inl ?_
        rw [codeB_loop]
        simp only [bodySd, part, Try.f66, sub, symM, opFn, Nat.reduceLT, Nat.reduceBEq, symL, g10, g2, bin_mul, wmul (show root ≤ 400000 by omega), bin_add, hw1, bin_geq, decide_eq_true (show (hi : Int) ≤ ((2 * root + 1 : Nat) : Int) by omega)]
        rfl
      · exact ⟨hv, hK, rfl, hg⟩
    · have hge : decide ((hi : Int) ≤ ((2 * root + 1 : Nat) : Int)) = false := decide_eq_false (by omega)
      have hwr : IntKind.i64.wrap ((first : Int) + root) = ((first + root : Nat) : Int) := wadd (by omega)
      have hwc : IntKind.i64.wrap ((first : Int) + ((2 * root + 1 : Nat) : Int)) = ((first + (2 * root + 1) : Nat) : Int) := wadd (by omega)
      have hwd : IntKind.i64.wrap ((first : Int) + ((2 * root + 2 : Nat) : Int)) = ((first + (2 * root + 2) : Nat) : Int) := wadd (by omega)
      have hwe : IntKind.i64.wrap (((first + (2 * root + 1) : Nat) : Int) + 1) = ((first + (2 * root + 2) : Nat) : Int) := wadd1 (by omega)
      obtain ⟨pc, c1, c2⟩ := hv.fetch (i := first + (2 * root + 1)) (by omega)
      have hrun1 := hc.run (d[first + (2 * root + 1)]!) (d[first + (2 * root + 2)]!) h (hK _) (hK _)
      rw [siftDown, dif_neg h1]
      by_cases hlt0 : 2 * root + 1 + 1 < hi
      · obtain ⟨pd, d1, d2⟩ := hv.fetch (i := first + (2 * root + 2)) (by omega)
        have hl2 : decide (((2 * root + 2 : Nat) : Int) < (hi : Int)) = true := decide_eq_true (by omega)
        cases hb : ltc c d[first + (2 * root + 1)]! d[first + (2 * root + 2)]! with
        | true =>
          have hb2 : decide (c d[first + (2 * root + 1)]! d[first + (2 * root + 2)]! < 0) = true := hb
          rw [if_pos (show (decide (2 * root + 1 + 1 < hi) && true) = true from by rw [decide_eq_true hlt0]; rfl)]
          obtain ⟨p, q, h2, h3, a1, a2, a3, a4, a5, a6, a7, a8⟩ := hv.swap (i := first + root) (j := first + (2 * root + 2)) (by omega) (by omega)
          have hrun := hc.run (d[first + root]!) (d[first + (2 * root + 2)]!) h (hK _) (hK _)
          cases hlt : ltc c d[first + root]! d[first + (2 * root + 2)]! with
          | false =>
            have hlt2 : decide (c d[first + root]! d[first + (2 * root + 2)]! < 0) = false := hlt
            rw [if_pos (show (!false) = true from rfl)]
            apply Exists.intro; apply Exists.intro; apply And.intro
            · refine .inr ?_
              rw [codeB_loop]
              simp only [bodySd, part, Try.f66, sub, symM, opFn, Nat.reduceLT, Nat.reduceBEq, g10, g2, bin_mul, wmul (show root ≤ 400000 by omega), bin_add, hw1, bin_geq, hge, codeB_draw]
              rw [draw_plan hp3 rfl]
              simp only [drawAll, opFn, Nat.reduceLT, Nat.reduceBEq, g0, g2, g3, g4, bin_add, hw2, hwc, hwe, bin_lss, hl2, c1, c2, d1, d2, hc.en, hrun1, hb2]
              rw [draw_plan hp5 rfl]
              simp only [drawAll, opFn, Nat.reduceBEq, g0, g3, g4, g10, bin_add, hwr, hwd, a1, a2, a3, a4, hc.en, hrun, bin_lss, hlt2]
              rfl
            · exact ⟨hv, hK, rfl, hg⟩
          | true =>
            have hlt2 : decide (c d[first + root]! d[first + (2 * root + 2)]! < 0) = true := hlt
            rw [if_neg (show ¬ (!true) = true by decide), dif_pos (show 2 * root + 2 < hi from hlt0)]
            rw [show N + 30 = (N + 29) + 1 from rfl, codeB_loop]
            simp only [bodySd, part, Try.f66, sub, symM, opFn, Nat.reduceLT, Nat.reduceBEq, g10, g2, bin_mul, wmul (show root ≤ 400000 by omega), bin_add, hw1, bin_geq, hge, codeB_draw]
            rw [draw_plan hp3 rfl]
            simp only [drawAll, opFn, Nat.reduceLT, Nat.reduceBEq, g0, g2, g3, g4, bin_add, hw2, hwc, hwe, bin_lss, hl2, c1, c2, d1, d2, hc.en, hrun1, hb2]
            rw [draw_plan hp5 rfl]
            simp only [drawAll, opFn, Nat.reduceBEq, g0, g3, g4, g10, bin_add, hwr, hwd, a1, a2, a3, a4, hc.en, hrun, bin_lss, hlt2]
            rw [draw_plan hp6 rfl]
            simp only [drawAll, opFn, Nat.reduceLT, Nat.reduceBEq, g0, g3, g10, effE_cons, bin_add, hwr, hwd, a1, a2, a3, a4, a5, a6, hv.eqv]
            have hsz := swp_size d (first + root) (first + (2 * root + 2))
            rw [← hsz]
            refine ih (2 * root + 2) _ _ h3 (N + 29) (by omega) (by rw [hsz]; omega) (by rw [hsz]; omega) (by omega) (swp_K hK _ _) (by omega) ?_ ?_ ?_ ?_ get_same a7 (hg.trans a8 (Nat.le_refl _)) <;> simp only [symM, Nat.reduceBEq, g0, g2, g3, g4]
        | false =>
          have hb2 : decide (c d[first + (2 * root + 1)]! d[first + (2 * root + 2)]! < 0) = false := hb
          rw [if_neg (show ¬ (decide (2 * root + 1 + 1 < hi) && false) = true from by simp)]
          obtain ⟨p, q, h2, h3, a1, a2, a3, a4, a5, a6, a7, a8⟩ := hv.swap (i := first + root) (j := first + (2 * root + 1)) (by omega) (by omega)
          have hrun := hc.run (d[first + root]!) (d[first + (2 * root + 1)]!) h (hK _) (hK _)
          cases hlt : ltc c d[first + root]! d[first + (2 * root + 1)]! with
          | false =>
            have hlt2 : decide (c d[first + root]! d[first + (2 * root + 1)]! < 0) = false := hlt
            rw [if_pos (show (!false) = true from rfl)]
            apply Exists.intro; apply Exists.intro; apply And.intro
            · refine .inr ?_
              rw [codeB_loop]
              simp only [bodySd, part, Try.f66, sub, symM, opFn, Nat.reduceLT, Nat.reduceBEq, g10, g2, bin_mul, wmul (show root ≤ 400000 by omega), bin_add, hw1, bin_geq, hge, codeB_draw]
              rw [draw_plan hp3 rfl]
              simp only [drawAll, opFn, Nat.reduceBEq, g0, g2, g3, g4, bin_add, hw2, hwc, hwe, bin_lss, hl2, c1, c2, d1, d2, hc.en, hrun1, hb2]
              rw [draw_plan hp5 rfl]
              simp only [drawAll, opFn, Nat.reduceBEq, g0, g3, g4, g10, bin_add, hwr, hwc, a1, a2, a3, a4, hc.en, hrun, bin_lss, hlt2]
              rfl
            · exact ⟨hv, hK, rfl, hg⟩
          | true =>
            have hlt2 : decide (c d[first + root]! d[first + (2 * root + 1)]! < 0) = true := hlt
            rw [if_neg (show ¬ (!true) = true by decide)]
            rw [show N + 30 = (N + 29) + 1 from rfl, codeB_loop]
            simp only [bodySd, part, Try.f66, sub, symM, opFn, Nat.reduceLT, Nat.reduceBEq, g10, g2, bin_mul, wmul (show root ≤ 400000 by omega), bin_add, hw1, bin_geq, hge, codeB_draw]
            rw [draw_plan hp3 rfl]
            simp only [drawAll, opFn, Nat.reduceBEq, g0, g2, g3, g4, bin_add, hw2, hwc, hwe, bin_lss, hl2, c1, c2, d1, d2, hc.en, hrun1, hb2]
            rw [draw_plan hp5 rfl]
            simp only [drawAll, opFn, Nat.reduceBEq, g0, g3, g4, g10, bin_add, hwr, hwc, a1, a2, a3, a4, hc.en, hrun, bin_lss, hlt2]
            rw [draw_plan hp6 rfl]
            simp only [drawAll, opFn, Nat.reduceLT, Nat.reduceBEq, g0, g3, g10, effE_cons, bin_add, hwr, hwc, a1, a2, a3, a4, a5, a6, hv.eqv]
            have hsz := swp_size d (first + root) (first + (2 * root + 1))
            rw [← hsz]
            refine ih (2 * root + 1) _ _ h3 (N + 29) (by omega) (by rw [hsz]; omega) (by rw [hsz]; omega) (by omega) (swp_K hK _ _) (by omega) ?_ ?_ ?_ ?_ get_same a7 (hg.trans a8 (Nat.le_refl _)) <;> simp only [symM, Nat.reduceBEq, g0, g2, g3, g4]
      · have hl2 : decide (((2 * root + 2 : Nat) : Int) < (hi : Int)) = false := decide_eq_false (by omega)
        rw [if_neg (show ¬ (decide (2 * root + 1 + 1 < hi) && ltc c d[first + (2 * root + 1)]! d[first + (2 * root + 1) + 1]!) = true from by rw [decide_eq_false hlt0]; simp)]
        obtain ⟨p, q, h2, h3, a1, a2, a3, a4, a5, a6, a7, a8⟩ := hv.swap (i := first + root) (j := first + (2 * root + 1)) (by omega) (by omega)
        have hrun := hc.run (d[first + root]!) (d[first + (2 * root + 1)]!) h (hK _) (hK _)
        cases hlt : ltc c d[first + root]! d[first + (2 * root + 1)]! with
        | false =>
          have hlt2 : decide (c d[first + root]! d[first + (2 * root + 1)]! < 0) = false := hlt
          rw [if_pos (show (!false) = true from rfl)]
          apply Exists.intro; apply Exists.intro; apply And.intro
          · refine .inr ?_
            rw [codeB_loop]
            simp only [bodySd, part, Try.f66, sub, symM, opFn, Nat.reduceLT, Nat.reduceBEq, g10, g2, bin_mul, wmul (show root ≤ 400000 by omega), bin_add, hw1, bin_geq, hge, codeB_draw]
            rw [draw_plan hp3 rfl]
            simp only [drawAll, opFn, Nat.reduceBEq, g2, bin_add, hw2, bin_lss, hl2]
            rw [draw_plan hp5 rfl]
            simp only [drawAll, opFn, Nat.reduceBEq, g0, g3, g4, g10, bin_add, hwr, hwc, a1, a2, a3, a4, hc.en, hrun, bin_lss, hlt2]
            rfl
          · exact ⟨hv, hK, rfl, hg⟩
        | true =>
          have hlt2 : decide (c d[first + root]! d[first + (2 * root + 1)]! < 0) = true := hlt
          rw [if_neg (show ¬ (!true) = true by decide)]
          rw [show N + 30 = (N + 29) + 1 from rfl, codeB_loop]
          simp only [bodySd, part, Try.f66, sub, symM, opFn, Nat.reduceLT, Nat.reduceBEq, g10, g2, bin_mul, wmul (show root ≤ 400000 by omega), bin_add, hw1, bin_geq, hge, codeB_draw]
          rw [draw_plan hp3 rfl]
          simp only [drawAll, opFn, Nat.reduceBEq, g2, bin_add, hw2, bin_lss, hl2]
          rw [draw_plan hp5 rfl]
          simp only [drawAll, opFn, Nat.reduceBEq, g0, g3, g4, g10, bin_add, hwr, hwc, a1, a2, a3, a4, hc.en, hrun, bin_lss, hlt2]
          rw [draw_plan hp6 rfl]
          simp only [drawAll, opFn, Nat.reduceLT, Nat.reduceBEq, g0, g3, g10, effE_cons, bin_add, hwr, hwc, a1, a2, a3, a4, a5, a6, hv.eqv]
          have hsz := swp_size d (first + root) (first + (2 * root + 1))
          rw [← hsz]
          refine ih (2 * root + 1) _ _ h3 (N + 29) (by omega) (by rw [hsz]; omega) (by rw [hsz]; omega) (by omega) (swp_K hK _ _) (by omega) ?_ ?_ ?_ ?_ get_same a7 (hg.trans a8 (Nat.le_refl _)) <;> simp only [symM, Nat.reduceBEq, g0, g2, g3, g4]
theorem siftDown_S {g : Nat} {c : Nat × Nat → Nat × Nat → Int} (hc : CmpOK call g c) (v : Value) (n0 lo hi first : Nat) (d : Array (Nat × Nat)) (h : AH) (hl : lo ≤ 480) (hb : first + hi ≤ d.size) (hd : d.size ≤ 480) (hK : AllK d) (hv : Own n0 h v (rA d) 23) :
    ∃ h', frameB T0 X0 call 3000 66 [v, iv lo, iv hi, iv first, fnV g] h = some (.tuple #[], h') ∧ Own n0 h' v (rA (siftDown (ltc c) hi first lo d)) 23 ∧ AllK (siftDown (ltc c) hi first lo d) ∧ (siftDown (ltc c) hi first lo d).size = d.size ∧ Grow n0 h h' := by
  rw [frameB_eq ft66 rfl rfl]
  simp only [Try.f66, symM, opFn, Nat.reduceLT, symL]
  generalize hX : codeB T0 X0 call _ ESd (.loop _) _ _ _ = X
  obtain ⟨tm', h', e', qv, qK, qs, qg⟩ := use_loop (P := fun X => ∃ tm' h', (X = .jump (.exit 0) tm' h' [] ∨ X = .jump .ret tm' h' []) ∧ (Own n0 h' v (rA (siftDown (ltc c) hi first lo d)) 23 ∧ AllK (siftDown (ltc c) hi first lo d) ∧ (siftDown (ltc c) hi first lo d).size = d.size ∧ Grow n0 h h')) hX (sdL hc v n0 hi first h (hi - lo) lo d _ h _ (Nat.le_refl _) hb hd hl hK (by omega) (by simp only [symM, Nat.reduceBEq]) (by simp only [symM, Nat.reduceBEq]) (by simp only [symM, Nat.reduceBEq]) (by simp only [symM, Nat.reduceBEq]) get_same hv (Grow.refl _ _))
  clear hX
  refine ⟨h', ?_, qv, qK, qs, qg⟩
  rcases e' with e' | e' <;> subst e' <;> simp only [symM, symL] <;> exact retB_zero ft66 rfl
noncomputable def bodyHb : Code := part Try.f54 [1, 1, 1, 0, 1, 0, 0]
noncomputable def bodyHp : Code := part Try.f54 [1, 1, 1, 1, 1, 0, 0]
abbrev EHs : Env := ⟨54, 60, none⟩
theorem plan_Hs10 : planB (regOps Try.f54 [1, 1, 1, 1, 1, 0, 0, 1, 0, 0, 0]) 60 = some ([.one 0, .one 1, .one 2, .one 3, .one 4, .one 5, .one 6, .one 7, .one 8, .one 9, .one 10, .one 11, .one 12, .one 13, .one 14, .one 15, .one 16, .eff [] 17 [2, 3, 4, 5], .one 18, .eff [] 19 []], []) := by kernel_rfl
/-- The contract of siftDown, as its caller wants it. -/
def SdOK (call : Abs.Callee) (g : Nat) (c : Nat × Nat → Nat × Nat → Int) (v : Value) (n0 : Nat) : Prop := ∀ (lo hi first : Nat) (d : Array (Nat × Nat)) (h : AH), lo ≤ 480 → first + hi ≤ d.size → d.size ≤ 480 → AllK d → Own n0 h v (rA d) 23 →
    ∃ h', call 66 [v, iv lo, iv hi, iv first, fnV g] h = some (.tuple #[], h') ∧ Own n0 h' v (rA (siftDown (ltc c) hi first lo d)) 23 ∧ AllK (siftDown (ltc c) hi first lo d) ∧ (siftDown (ltc c) hi first lo d).size = d.size ∧ Grow n0 h h'
theorem hbL {g : Nat} {c : Nat × Nat → Nat × Nat → Int} {v : Value} {n0 : Nat} (hs : SdOK call g c v n0) (hi first : Nat) (h0 : AH) :
    ∀ (k : Nat) (d : Array (Nat × Nat)) (tm : PM Value) (h : AH) (N : Nat), k ≤ 480 → first + hi ≤ d.size → d.size ≤ 480 → AllK d → k + 60 ≤ N → tm.get 0 = some v → tm.get 3 = some (fnV g) → tm.get 8 = some (iv first) → tm.get 9 = some (iv 0) → tm.get 10 = some (iv hi) → tm.get 11 = some (iv ((k : Int) - 1)) → Own n0 h v (rA d) 23 → Grow n0 h0 h →
      ∃ tm' h', codeB T0 X0 call N EHs (.loop bodyHb) tm h [] = .jump (.exit 0) tm' h' [] ∧ (tm'.get 0 = some v ∧ tm'.get 3 = some (fnV g) ∧ tm'.get 8 = some (iv first) ∧ tm'.get 9 = some (iv 0) ∧ tm'.get 10 = some (iv hi) ∧ Own n0 h' v (rA (heapBuild (ltc c) hi first k d)) 23 ∧ AllK (heapBuild (ltc c) hi first k d) ∧ (heapBuild (ltc c) hi first k d).size = d.size ∧ Grow n0 h0 h') := by
  intro k
  induction k with
  | zero =>
    intro d tm h N hk hfd hd hK hN g0 g3 g8 g9 g10 g11 hv hg
    obtain ⟨N, rfl⟩ : ∃ a, N = a + 30 := ⟨N - 30, by omega⟩
    apply Exists.intro; apply Exists.intro; apply And.intro
    · rw [codeB_loop]
      simp only [bodyHb, part, Try.f54, sub, symM, opFn, Nat.reduceLT, g11, bin_geq, show decide ((0 : Int) ≤ ((0 : Nat) : Int) - 1) = false from rfl]
      rfl
    · exact ⟨by simp only [symM, Nat.reduceBEq, g0], by simp only [symM, Nat.reduceBEq, g3], by simp only [symM, Nat.reduceBEq, g8], by simp only [symM, Nat.reduceBEq, g9], by simp only [symM, Nat.reduceBEq, g10], hv, hK, rfl, hg⟩
  | succ k ih =>
    intro d tm h N hk hfd hd hK hN g0 g3 g8 g9 g10 g11 hv hg
    obtain ⟨N, rfl⟩ : ∃ a, N = a + 30 := ⟨N - 30, by omega⟩
    rw [show (((k + 1 : Nat) : Int) - 1) = (k : Int) from by omega] at g11
    obtain ⟨h1, e1, e2, e3, e4, e5⟩ := hs k hi first d h (by omega) hfd hd hK hv
    rw [show N + 30 = (N + 29) + 1 from rfl, codeB_loop, heapBuild]
    simp only [bodyHb, part, Try.f54, sub, symM, opFn, Nat.reduceLT, Nat.reduceBEq, g0, g3, g8, g10, g11, bin_geq, decide_eq_true (show (0 : Int) ≤ (k : Nat) by omega), evCall_fn ft66 rfl, e1, bin_sub, wz (z := (k : Int) - 1) (by omega)]
    rw [← e4]
    refine ih _ _ h1 (N + 29) (by omega) (by rw [e4]; omega) (by rw [e4]; omega) e3 (by omega) ?_ ?_ ?_ ?_ ?_ get_same e2 (hg.trans e5 (Nat.le_refl _)) <;> simp only [symM, Nat.reduceBEq, g0, g3, g8, g9, g10]
set_option maxHeartbeats 1000000 in
theorem hpL {g : Nat} {c : Nat × Nat → Nat × Nat → Int} {v : Value} {n0 : Nat} (hs : SdOK call g c v n0) (first : Nat) (h0 : AH) :
    ∀ (k : Nat) (d : Array (Nat × Nat)) (tm : PM Value) (h : AH) (N : Nat), first + k ≤ d.size → d.size ≤ 480 → AllK d → k + 60 ≤ N → tm.get 0 = some v → tm.get 3 = some (fnV g) → tm.get 8 = some (iv first) → tm.get 9 = some (iv 0) → tm.get 12 = some (iv ((k : Int) - 1)) → Own n0 h v (rA d) 23 → Grow n0 h0 h →
      ∃ tm' h', codeB T0 X0 call N EHs (.loop bodyHp) tm h [] = .jump (.exit 2) tm' h' [] ∧ (Own n0 h' v (rA (heapPop (ltc c) first k d)) 23 ∧ AllK (heapPop (ltc c) first k d) ∧ (heapPop (ltc c) first k d).size = d.size ∧ Grow n0 h0 h') := by
  intro k
  have hp10 := plan_Hs10
  simp only [regOps, part, Try.f54, sub] at hp10
  induction k with
  | zero =>
    intro d tm h N hfd hd hK hN g0 g3 g8 g9 g12 hv hg
    obtain ⟨N, rfl⟩ : ∃ a, N = a + 30 := ⟨N - 30, by omega⟩
    apply Exists.intro; apply Exists.intro; apply And.intro
    · rw [codeB_loop]
      simp only [bodyHp, part, Try.f54, sub, symM, opFn, Nat.reduceLT, g12, bin_geq, show decide ((0 : Int) ≤ ((0 : Nat) : Int) - 1) = false from rfl]
      rfl
    · exact ⟨hv, hK, rfl, hg⟩
  | succ k ih =>
    intro d tm h N hfd hd hK hN g0 g3 g8 g9 g12 hv hg
    obtain ⟨N, rfl⟩ : ∃ a, N = a + 30 := ⟨N - 30, by omega⟩
    rw [show (((k + 1 : Nat) : Int) - 1) = (k : Int) from by omega] at g12
    obtain ⟨p, q, h2, h3, a1, a2, a3, a4, a5, a6, a7, a8⟩ := hv.swap (i := first) (j := first + k) (by omega) (by omega)
    have hsz := swp_size d first (first + k)
    obtain ⟨h1, e1, e2, e3, e4, e5⟩ := hs 0 k first (swp d first (first + k)) h3 (by omega) (by rw [hsz]; omega) (by rw [hsz]; omega) (swp_K hK _ _) a7
    rw [show (((0 : Nat) : Int)) = 0 from rfl] at e1
    have hw : IntKind.i64.wrap ((first : Int) + k) = ((first + k : Nat) : Int) := wadd (by omega)
    rw [show N + 30 = (N + 29) + 1 from rfl, codeB_loop, heapPop]
    simp only [bodyHp, part, Try.f54, sub, symM, opFn, Nat.reduceLT, g12, bin_geq, decide_eq_true (show (0 : Int) ≤ (k : Nat) by omega), codeB_draw]
    rw [draw_plan hp10 rfl]
    simp only [drawAll, opFn, Nat.reduceLT, Nat.reduceBEq, g0, g3, g8, g9, g12, effE_cons, bin_add, hw, a1, a2, a3, a4, a5, a6, hv.eqv, evCall_fn ft66 rfl, e1, bin_sub, wz (z := (k : Int) - 1) (by omega)]
    rw [← hsz, ← e4]
    refine ih _ _ h1 (N + 29) (by rw [e4, hsz]; omega) (by rw [e4, hsz]; omega) e3 (by omega) ?_ ?_ ?_ ?_ get_same e2 ((hg.trans a8 (Nat.le_refl _)).trans e5 (Nat.le_refl _)) <;> simp only [symM, Nat.reduceBEq, g0, g3, g8, g9]
theorem heapSort_S {g : Nat} {c : Nat × Nat → Nat × Nat → Int} {v : Value} {n0 : Nat} (hs : SdOK call g c v n0) (a b : Nat) (d : Array (Nat × Nat)) (h : AH) (hab : a < b) (hb : b ≤ d.size) (hd : d.size ≤ 480) (hK : AllK d) (hv : Own n0 h v (rA d) 23) :
    ∃ h', frameB T0 X0 call 3000 54 [v, iv a, iv b, fnV g] h = some (.tuple #[], h') ∧ Own n0 h' v (rA (heapSort (ltc c) d a b)) 23 ∧ AllK (heapSort (ltc c) d a b) ∧ (heapSort (ltc c) d a b).size = d.size ∧ Grow n0 h h' := by
  rw [frameB_eq ft54 rfl rfl]
  unfold heapSort
  have hw1 : IntKind.i64.wrap ((b : Int) - a) = ((b - a : Nat) : Int) := wsub (by omega) (by omega)
  have hw2 : IntKind.i64.wrap (((b - a : Nat) : Int) - 1) = ((b - a - 1 : Nat) : Int) := by rw [wz (by omega)]; omega
  have hw3 : IntKind.i64.wrap (((b - a - 1) / 2 : Nat) : Int) = (((((b - a - 1) / 2 + 1 : Nat) : Int)) - 1) := by rw [wz (by omega)]; omega
  simp only [Try.f54, symM, opFn, Nat.reduceLT, Nat.reduceBEq, symL, bin_sub, hw1, hw2, quo2, hw3]
  generalize hX : codeB T0 X0 call _ EHs (.loop _) _ _ _ = X
  obtain ⟨tm1, h1, e1, p0, p3, p8, p9, p10, pv, pK, ps, pg⟩ := use_exit hX (hbL hs (b - a) a h ((b - a - 1) / 2 + 1) d _ h _ (by omega) (by omega) hd hK (by omega) (by simp only [symM, Nat.reduceBEq]) (by simp only [symM, Nat.reduceBEq]) (by simp only [symM, Nat.reduceBEq]) (by simp only [symM, Nat.reduceBEq]) (by simp only [symM, Nat.reduceBEq]) get_same hv (Grow.refl _ _))
  clear hX
  subst e1
  have hw4 : IntKind.i64.wrap (((b - a : Nat) : Int) - 1) = ((b - a : Nat) : Int) - 1 := wz (by omega)
  simp only [symM, opFn, Nat.reduceLT, symL, p10, bin_sub, hw4]
  generalize hX : codeB T0 X0 call _ EHs (.loop _) _ _ _ = X
  obtain ⟨tm2, h2, e2, qv, qK, qs, qg⟩ := use_exit hX (hpL hs a h (b - a) _ _ h1 _ (by rw [ps]; omega) (by rw [ps]; omega) pK (by omega) (by simp only [symM, Nat.reduceBEq, p0]) (by simp only [symM, Nat.reduceBEq, p3]) (by simp only [symM, Nat.reduceBEq, p8]) (by simp only [symM, Nat.reduceBEq, p9]) get_same pv pg)
  clear hX
  subst e2
  refine ⟨h2, ?_, qv, qK, qs.trans ps, qg⟩
  simp only [symM, symL]
  exact retB_zero ft54 rfl
end
end Go.Proofs.Ytcpihpjphdlmfaa.Abs
namespace Go.Proofs.Ytcpihpjphdlmfaa.Abs
open Go Go.Proofs Go.Sort
noncomputable section
variable {call : Abs.Callee}
set_option maxRecDepth 10000
theorem ft62 : T0.ft.get 62 = some Try.f62 := by kernel_rfl
theorem ft46 : T0.ft.get 46 = some Try.f46 := by kernel_rfl
theorem ft67 : T0.ft.get 67 = some Try.f67 := by kernel_rfl
theorem ft68 : T0.ft.get 68 = some Try.f68 := by kernel_rfl
theorem ft55 : T0.ft.get 55 = some Try.f55 := by kernel_rfl
theorem und_uint : und T0 64 = some (.int .u64) := by kernel_rfl
theorem und_u64 : und T0 81 = some (.int .u64) := by kernel_rfl
theorem und_xs : und T0 84 = some (.int .u64) := by kernel_rfl
abbrev uv (n : Int) : Value := .int .u64 n
def lenStr : Value := match (regOps Try.f62 [1, 1, 1, 1, 0])[3]? with
  | some o => (match o.op with
    | .index _ (.const v) _ => v
    | _ => undef)
  | none => undef
def isU8 (m : Nat) : Option Value → Bool
  | some (.int .u8 (.ofNat k)) => Nat.beq k m
  | _ => false
theorem isU8_of {m : Nat} {x : Option Value} (h : isU8 m x = true) : x = some (.int .u8 (m : Int)) := by
  unfold isU8 at h
  split at h
  · have := Nat.eq_of_beq_eq_true h; subst this; rfl
  · cases h
theorem lenTab : (List.range 256).all (fun i => isU8 (bitsLen i) (evIndex T0 9 lenStr (.int .u8 (Int.ofNat i)))) = true := by kernel_rfl
theorem lenAt {i : Nat} (h : i < 256) : evIndex T0 9 lenStr (.int .u8 (i : Int)) = some (.int .u8 (bitsLen i : Int)) := by
  have := List.all_eq_true.1 lenTab i (List.mem_range.2 h)
  exact isU8_of this
theorem len512 : ∀ n < 512, bitsLen n ≤ 9 ∧ (256 ≤ n → bitsLen n = 9 ∧ n >>> 8 = 1) := by decide +kernel
theorem wu8 {n : Nat} (h : n < 256) : IntKind.u8.wrap (n : Int) = (n : Int) := by rw [IntKind.wrap]; simp [IntKind.bits, IntKind.signed]; omega
theorem shr8 {T : Tab} {t : TypeId} {a b : Operand} {m : Nat} {h : AH} : evBin T .shr t a b (uv (m : Int)) (uv 8) h = some (uv ((m >>> 8 : Nat) : Int)) := bin_shr (n := 8) (by decide)
theorem Len64_S (n : Nat) (hn : n < 512) (h : AH) : frameB T0 X0 call 3000 62 [uv n] h = some (iv (bitsLen n), h) := by
  rw [frameB_eq ft62 rfl rfl]
  have hb := (len512 n hn).1
  by_cases h1 : n < 256
  · have hT := lenAt h1
    have hw : IntKind.i64.wrap ((0 : Int) + (bitsLen n : Nat)) = (bitsLen n : Nat) := by rw [wz (by omega)]; omega
    simp only [lenStr, regOps, part, Try.f62, sub, ops_0, ops_s, ops_arr] at hT
    simp only [Try.f62, symM, opFn, Nat.reduceLT, Nat.reduceBEq, bin_geq, decide_eq_false (show ¬ (4294967296 : Int) ≤ n by omega), decide_eq_false (show ¬ (65536 : Int) ≤ n by omega), decide_eq_false (show ¬ (256 : Int) ≤ n by omega), conv_i2i und_u64 und_u8, wu8 h1, hT, conv_i2i und_u8 und_int, bin_add, wz (z := (bitsLen n : Nat)) (by omega), hw]
    exact retB_one ft62 rfl get_same
  · have hT := lenAt (i := 1) (by omega)
    obtain ⟨e1, e2⟩ := (len512 n hn).2 (by omega)
    have hb1 : bitsLen 1 = 1 := by decide +kernel
    rw [hb1] at hT
    have hw1 : IntKind.i64.wrap ((1 : Nat) : Int) = ((1 : Nat) : Int) := by decide
    have hw9 : IntKind.i64.wrap ((0 : Int) + 8) = 8 := by decide
    have hw8 : IntKind.i64.wrap ((8 : Int) + ((1 : Nat) : Int)) = ((9 : Nat) : Int) := by decide
    simp only [lenStr, regOps, part, Try.f62, sub, ops_0, ops_s, ops_arr] at hT
    simp only [Try.f62, symM, opFn, Nat.reduceLT, Nat.reduceBEq, bin_geq, decide_eq_false (show ¬ (4294967296 : Int) ≤ n by omega), decide_eq_false (show ¬ (65536 : Int) ≤ n by omega), decide_eq_true (show (256 : Int) ≤ n by omega), shr8, e2, conv_i2i und_u64 und_u8, wu8 (show 1 < 256 by omega), hT, conv_i2i und_u8 und_int, bin_add, hw1, hw9, hw8, e1]
    exact retB_one ft62 rfl get_same
theorem wu64 {n : Nat} (h : n < 18446744073709551616) : IntKind.u64.wrap (n : Int) = (n : Int) := by rw [IntKind.wrap]; simp [IntKind.bits, IntKind.signed]; omega
theorem Len_S (hL : ∀ (n : Nat) (h : AH), n < 512 → call 62 [uv n] h = some (iv (bitsLen n), h)) (n : Nat) (hn : n < 512) (h : AH) : frameB T0 X0 call 3000 46 [uv n] h = some (iv (bitsLen n), h) := by
  rw [frameB_eq ft46 rfl rfl]
  simp only [Try.f46, symM, opFn, Nat.reduceLT, Nat.reduceBEq, evCall_fn ft62 rfl, hL n h hn]
  exact retB_one ft46 rfl get_same
theorem pow512 : ∀ n < 512, 1 <<< bitsLen n ≤ 1024 ∧ (1 ≤ n → 1 <<< bitsLen n ≤ 2 * n ∧ 1 ≤ 1 <<< bitsLen n) := by decide +kernel
theorem Next2_S (hL : ∀ (n : Nat) (h : AH), n < 512 → call 46 [uv n] h = some (iv (bitsLen n), h)) (n : Nat) (hn : n < 512) (h : AH) : frameB T0 X0 call 3000 67 [iv n] h = some (uv ((1 <<< bitsLen n : Nat) : Int), h) := by
  have hb := (len512 n hn).1
  have hp := (pow512 n hn).1
  have hs := fun {T t p q h} => bin_shl (T := T) (t := t) (a := p) (b := q) (h := h) (k := .u64) (k' := .i64) (m := 1) (n := bitsLen n) (by show _ < 64; omega)
  rw [frameB_eq ft67 rfl rfl]
  simp only [Try.f67, symM, opFn, Nat.reduceLT, Nat.reduceBEq, conv_i2i und_int und_uint, wu64 (show n < 18446744073709551616 by omega), evCall_fn ft46 rfl, hL n h hn, show (Value.int IntKind.u64 1) = Value.int IntKind.u64 ((1 : Nat) : Int) from rfl, hs, wu64 (show 1 <<< bitsLen n < 18446744073709551616 by omega)]
  exact retB_one ft67 rfl get_same
/-- A variable of its own that holds one value. -/
def BoxT (h : AH) (b : Nat) (ty : TypeId) (x : Value) : Prop := b < h.next ∧ ∃ c, h.get b = some (.cells c 1 ty 0 0 .ex) ∧ c.get 0 = some x
abbrev ptr (b : Nat) : Value := .pointer (some ⟨b, 0, none⟩)
theorem BoxT.load {h : AH} {b : Nat} {ty : TypeId} {x : Value} (hb : BoxT h b ty x) (ha : aggT T0 ty = some false) : evLoad T0 ty (ptr b) h = some x := by
  obtain ⟨_, c, h1, h2⟩ := hb
  exact load_one ha h1 (by omega) h2
theorem BoxT.store {h : AH} {b : Nat} {ty : TypeId} {x y : Value} (hb : BoxT h b ty x) (hs : szOf T0 ty = some 1) (hy : oneCell y = true) :
    ∃ h', evStore T0 ty (ptr b) y h = some h' ∧ BoxT h' b ty y ∧ h'.next = h.next ∧ ∀ k, k ≠ b → h'.get k = h.get k := by
  obtain ⟨h0, c, h1, h2⟩ := hb
  refine ⟨h.set b (.cells (storeN c 0 [y]) 1 ty 0 0 .ex), ?_, ⟨h0, _, by rw [AH.get_set, if_pos rfl], by rw [storeN_get]; rfl⟩, rfl, fun k hk => by rw [AH.get_set, if_neg hk]⟩
  simp only [evStore, storeVarA, hs, cells_one hy]
  rw [show Nat.beq [y].length 1 = true from rfl, ifB_true]
  simp only [storeRow, h1]
  have hw : writable 0 [y].length 1 0 0 = true := rfl
  have hall : ([y].all oneCell) = true := by simp [hy]
  simp only [hw, hall, Bool.and_self, ifB_true]
theorem BoxT.keep {h h' : AH} {b : Nat} {ty : TypeId} {x : Value} (hb : BoxT h b ty x) (hn : h.next ≤ h'.next) (hg : h'.get b = h.get b) : BoxT h' b ty x := by
  obtain ⟨h0, c, h1, h2⟩ := hb
  exact ⟨Nat.lt_of_lt_of_le h0 hn, c, hg.trans h1, h2⟩
theorem alloc_one {h : AH} {ty : TypeId} {z : Value} (hz : zeroOf T0 ty = some z) (h1 : oneCell z = true) : evAlloc T0 ty h = some (ptr h.next, h.new (.cells (PM.ofList [z]) 1 ty 0 0 .ex)) := by
  unfold evAlloc evNewVar newCells
  rw [hz]
  simp only [cells_one h1]
  rfl
theorem BoxT.new {h : AH} {ty : TypeId} {z : Value} : BoxT (h.new (.cells (PM.ofList [z]) 1 ty 0 0 .ex)) h.next ty z := ⟨Nat.lt_succ_self _, _, get_new_same _ _, by rw [PM.get_ofList]; rfl⟩
/-- The slice does not lie in this block. -/
def Off (v : Value) (k : Nat) : Prop := ∀ o l c, v ≠ .slice (some ⟨k, o, none⟩) l c
theorem Own.apart {n : Nat} {h : AH} {v : Value} {l : List Value} {e : TypeId} (ho : Own n h v l e) {k : Nat} (hk : h.next ≤ k) : Off v k := by
  intro o l' c' hv
  rcases ho with ⟨rfl, _⟩ | ⟨b, c, kd, cap, _, q2, rfl, _⟩
  · cases hv
  · cases hv; omega
theorem Own.but {n : Nat} {h h' : AH} {v : Value} {l : List Value} {e : TypeId} (ho : Own n h v l e) {b : Nat} (hb : Off v b) (hn : h.next ≤ h'.next) (hg : ∀ k, k ≠ b → h'.get k = h.get k) : Own n h' v l e := by
  rcases ho with h1 | ⟨k, c, kd, cap, h1, h2, rfl, h4, h5⟩
  · exact .inl h1
  · exact .inr ⟨k, c, kd, cap, h1, Nat.lt_of_lt_of_le h2 hn, rfl, (hg k (fun e => by subst e; exact hb _ _ _ rfl)).trans h4, h5⟩
theorem Own.store2 {T : Tab} {t e : TypeId} (ht : und T t = some (.slice e)) (hs : szOf T e = some 1) {n : Nat} {h : AH} {v x y : Value} {l : List Value} (hv : Own n h v l e) (hx : oneCell x = true) {i : Nat} (hi : l[i]? = some y) :
    ∃ p h', evIndexAddr T t v (.int .i64 (i : Nat)) = some p ∧ evStore T e p x h = some h' ∧ Own n h' v (l.set i x) e ∧ Grow n h h' ∧ h'.next = h.next ∧ ∀ k, Off v k → h'.get k = h.get k := by
  obtain ⟨p, h', e1, e2, e3, e4, e5⟩ := hv.store ht hs hx hi
  refine ⟨p, h', e1, e2, e3, e4, e5, fun k hk => ?_⟩
  rcases hv with ⟨rfl, rfl⟩ | ⟨b, c, kd, cap, q1, q2, rfl, q4, q5, q6⟩
  · simp at hi
  · have hl := (List.getElem?_eq_some_iff.1 hi).1
    rw [idx_slice ht hs hl] at e1
    cases e1
    simp only [evStore, storeVarA, hs, cells_one hx] at e2
    rw [show Nat.beq [x].length 1 = true from rfl, ifB_true] at e2
    simp only [storeRow, q4] at e2
    have hkb : k ≠ b := fun e => by subst e; exact hk _ _ _ rfl
    have hkd : kd ≠ .ro := by rcases q6 with ⟨rfl, _⟩ | ⟨rfl, _⟩ <;> simp
    cases kd with
    | ro => exact absurd rfl hkd
    | _ =>
      obtain ⟨_, e2⟩ := ifB_some e2
      rw [← Option.some.inj e2, AH.get_set, if_neg hkb]
theorem Own.swap2 {n : Nat} {h : AH} {v : Value} {d : Array (Nat × Nat)} (hv : Own n h v (rA d) 23) {i j : Nat} (hi : i < d.size) (hj : j < d.size) :
    ∃ p q h2 h3, evIndexAddr T0 29 v (iv i) = some p ∧ evIndexAddr T0 29 v (iv j) = some q ∧ evLoad T0 23 p h = some (cx (d[i]!).1 (d[i]!).2) ∧ evLoad T0 23 q h = some (cx (d[j]!).1 (d[j]!).2) ∧
      evStore T0 23 p (cx (d[j]!).1 (d[j]!).2) h = some h2 ∧ evStore T0 23 q (cx (d[i]!).1 (d[i]!).2) h2 = some h3 ∧ Own n h3 v (rA (swp d i j)) 23 ∧ Grow n h h3 ∧ h3.next = h.next ∧ ∀ k, Off v k → h3.get k = h.get k := by
  obtain ⟨p, a1, a2⟩ := hv.row.at und_c128s sz_c128 agg_c128 (rA_at hi)
  obtain ⟨q, b1, b2⟩ := hv.row.at und_c128s sz_c128 agg_c128 (rA_at hj)
  obtain ⟨p', h2, c1, c2, c3, c4, c5, c6⟩ := hv.store2 und_c128s sz_c128 (x := cx (d[j]!).1 (d[j]!).2) rfl (rA_at hi)
  rw [a1] at c1; cases c1
  rw [← rA_set] at c3
  obtain ⟨q', h3, d1, d2, d3, d4, d5, d6⟩ := c3.store2 und_c128s sz_c128 (x := cx (d[i]!).1 (d[i]!).2) rfl (rA_at (i := j) (by simpa using hj))
  rw [b1] at d1; cases d1
  rw [← rA_set] at d3
  exact ⟨p, q, h2, h3, a1, b1, a2, b2, c2, d2, d3, c4.trans d4 (Nat.le_refl _), d5.trans c5, fun k hk => (d6 k hk).trans (c6 k hk)⟩
theorem bin_xor {T : Tab} {t : TypeId} {a b : Operand} {k : IntKind} {m n : Nat} {h : AH} (hm : m < bitsOf k) (hn : n < bitsOf k) : evBin T .xor t a b (.int k (m : Int)) (.int k (n : Int)) h = some (.int k (k.wrap ((m ^^^ n : Nat) : Int))) := by
  show orV (ifB (decide (k = k)) (ifB (Nat.blt m (bitsOf k) && Nat.blt n (bitsOf k)) (some (.int k (wrapF k (.ofNat (Nat.xor m n))))) none) none) _ = _
  rw [bits_blt hm, bits_blt hn, wrapF_eq]; simp [ifB, orV]
theorem xorU {T : Tab} {t : TypeId} {a b : Operand} {h : AH} {x y : UInt64} : evBin T .xor t a b (uv (x.toNat : Int)) (uv (y.toNat : Int)) h = some (uv ((x ^^^ y).toNat : Int)) := by
  rw [bin_xor x.toNat_lt y.toNat_lt, ← UInt64.toNat_xor, wu64 (x ^^^ y).toNat_lt]
theorem wmod {n : Nat} : IntKind.u64.wrap (n : Int) = ((n % 18446744073709551616 : Nat) : Int) := by rw [IntKind.wrap]; simp [IntKind.bits, IntKind.signed]
theorem shl13 {T : Tab} {t : TypeId} {a b : Operand} {h : AH} {x : UInt64} : evBin T .shl t a b (uv (x.toNat : Int)) (uv 13) h = some (uv ((x <<< 13).toNat : Int)) := by
  have e := bin_shl (T := T) (t := t) (a := a) (b := b) (h := h) (k := .u64) (k' := .u64) (m := x.toNat) (n := 13) (by decide)
  rw [wmod] at e
  rw [UInt64.toNat_shiftLeft]; exact e
theorem shl17 {T : Tab} {t : TypeId} {a b : Operand} {h : AH} {x : UInt64} : evBin T .shl t a b (uv (x.toNat : Int)) (uv 17) h = some (uv ((x <<< 17).toNat : Int)) := by
  have e := bin_shl (T := T) (t := t) (a := a) (b := b) (h := h) (k := .u64) (k' := .u64) (m := x.toNat) (n := 17) (by decide)
  rw [wmod] at e
  rw [UInt64.toNat_shiftLeft]; exact e
theorem shr7 {T : Tab} {t : TypeId} {a b : Operand} {h : AH} {x : UInt64} : evBin T .shr t a b (uv (x.toNat : Int)) (uv 7) h = some (uv ((x >>> 7).toNat : Int)) := by
  have e := bin_shr (T := T) (t := t) (a := a) (b := b) (h := h) (k := .u64) (k' := .u64) (m := x.toNat) (n := 7) (by decide)
  rw [UInt64.toNat_shiftRight]; exact e
theorem nilCheck_ptr {b : Nat} : evNilCheck (ptr b) = some (ptr b) := rfl
theorem agg_xs : aggT T0 84 = some false := by kernel_rfl
theorem sz_xs : szOf T0 84 = some 1 := by kernel_rfl
theorem zero_xs : zeroOf T0 84 = some (uv 0) := by kernel_rfl
theorem plan_Nx1 : planB (regOps Try.f68 [1, 0]) 33 = some ([.one 0, .one 1, .one 2, .one 3, .one 4, .one 5, .one 6, .one 7, .one 8, .eff [] 9 []], []) := by kernel_rfl
theorem plan_Nx2 : planB (regOps Try.f68 [1, 1, 0]) 33 = some ([.one 0, .one 1, .one 2, .one 3, .one 4, .one 5, .one 6, .one 7, .one 8, .eff [] 9 []], []) := by kernel_rfl
theorem plan_Nx3 : planB (regOps Try.f68 [1, 1, 1, 0]) 33 = some ([.one 0, .one 1, .one 2, .one 3, .one 4, .one 5, .one 6, .one 7, .one 8, .eff [] 9 []], []) := by kernel_rfl
theorem Next_S (b : Nat) (r : UInt64) (h : AH) (hb : BoxT h b 84 (uv (r.toNat : Int))) :
    ∃ h', frameB T0 X0 call 3000 68 [ptr b] h = some (uv ((xorNext r).toNat : Int), h') ∧ BoxT h' b 84 (uv ((xorNext r).toNat : Int)) ∧ h'.next = h.next ∧ ∀ k, k ≠ b → h'.get k = h.get k := by
  have hp1 := plan_Nx1
  simp only [regOps, part, Try.f68, sub] at hp1
  have hp2 := plan_Nx2
  simp only [regOps, part, Try.f68, sub] at hp2
  have hp3 := plan_Nx3
  simp only [regOps, part, Try.f68, sub] at hp3
  have hr : xorNext r = ((r ^^^ (r <<< 13)) ^^^ ((r ^^^ (r <<< 13)) >>> 7)) ^^^ (((r ^^^ (r <<< 13)) ^^^ ((r ^^^ (r <<< 13)) >>> 7)) <<< 17) := rfl
  generalize hr1 : r ^^^ (r <<< 13) = r1 at hr
  generalize hr2 : r1 ^^^ (r1 >>> 7) = r2 at hr
  have l0 := hb.load agg_xs
  obtain ⟨h1, s1, b1, n1, k1⟩ := hb.store (y := uv (r1.toNat : Int)) sz_xs rfl
  have l1 := b1.load agg_xs
  obtain ⟨h2, s2, b2, n2, k2⟩ := b1.store (y := uv (r2.toNat : Int)) sz_xs rfl
  have l2 := b2.load agg_xs
  obtain ⟨h3, s3, b3, n3, k3⟩ := b2.store (y := uv ((xorNext r).toNat : Int)) sz_xs rfl
  have l3 := b3.load agg_xs
  refine ⟨h3, ?_, b3, by rw [n3, n2, n1], fun k hk => by rw [k3 k hk, k2 k hk, k1 k hk]⟩
  rw [frameB_eq ft68 rfl rfl]
  simp only [Try.f68, symM, opFn, Nat.reduceLT, codeB_draw]
  rw [draw_plan hp1 rfl]
  simp only [drawAll, opFn, Nat.reduceBEq, nilCheck_ptr, l0, shl13, xorU, hr1, s1]
  rw [draw_plan hp2 rfl]
  simp only [drawAll, opFn, Nat.reduceBEq, nilCheck_ptr, l1, shr7, xorU, hr2, s2]
  rw [draw_plan hp3 rfl]
  simp only [drawAll, opFn, Nat.reduceLT, Nat.reduceBEq, nilCheck_ptr, l2, shl17, xorU, ← hr, s3, l3]
  exact retB_one ft68 rfl get_same
end
end Go.Proofs.Ytcpihpjphdlmfaa.Abs
namespace Go.Proofs.Ytcpihpjphdlmfaa.Abs
open Go Go.Proofs Go.Sort
noncomputable section
variable {call : Abs.Callee}
set_option maxRecDepth 10000
/-- So many rounds of breakPatterns. -/
def bpIter (a length modulus : Nat) : Nat → UInt64 × Array (Nat × Nat) → Nat → UInt64 × Array (Nat × Nat)
  | 0, st, _ => st
  | k + 1, st, idx => bpIter a length modulus k (breakStep a length modulus st idx) (idx + 1)
noncomputable def bodyBp : Code := part Try.f55 [1, 1, 0, 1, 1, 1, 0, 0]
abbrev EBp : Env := ⟨55, 67, none⟩
theorem plan_Bp10 : planB (regOps Try.f55 [1, 1, 0, 1, 1, 1, 0, 0, 1, 0, 0, 1, 1]) 67 = some ([.one 0, .one 1, .one 2, .one 3, .one 4, .one 5, .one 6, .one 7, .one 8, .one 9, .one 10, .one 11, .one 12, .one 13, .one 14, .one 15, .one 16, .eff [] 17 [2, 3, 4, 5], .one 18, .eff [] 19 []], []) := by kernel_rfl
set_option maxHeartbeats 1000000 in
theorem bpL (v : Value) (n0 a len m : Nat) (h0 : AH) (bx : Nat) (hbx : n0 ≤ bx) (hoff : Off v bx) (hlen : 8 ≤ len) (hm1 : 1 ≤ m) (hm2 : m ≤ 2 * len)
    (hNx : ∀ (b : Nat) (r : UInt64) (h : AH), BoxT h b 84 (uv (r.toNat : Int)) → ∃ h', call 68 [ptr b] h = some (uv ((xorNext r).toNat : Int), h') ∧ BoxT h' b 84 (uv ((xorNext r).toNat : Int)) ∧ h'.next = h.next ∧ ∀ k, k ≠ b → h'.get k = h.get k) :
    ∀ (k idx : Nat) (st : UInt64 × Array (Nat × Nat)) (tm : PM Value) (h : AH) (N : Nat), idx + k = a + len / 4 * 2 + 2 → a ≤ idx → a + len ≤ st.2.size → st.2.size ≤ 480 → AllK st.2 → k + 60 ≤ N → tm.get 0 = some v → tm.get 1 = some (iv a) → tm.get 8 = some (iv len) → tm.get 9 = some (ptr bx) → tm.get 10 = some (uv m) → tm.get 11 = some (iv idx) → BoxT h bx 84 (uv (st.1.toNat : Int)) → Own n0 h v (rA st.2) 23 → Grow n0 h0 h →
      ∃ tm' h', codeB T0 X0 call N EBp (.loop bodyBp) tm h [] = .jump (.exit 0) tm' h' [] ∧ (Own n0 h' v (rA (bpIter a len m k st idx).2) 23 ∧ AllK (bpIter a len m k st idx).2 ∧ (bpIter a len m k st idx).2.size = st.2.size ∧ Grow n0 h0 h') := by
  intro k
  have hp10 := plan_Bp10
  simp only [regOps, part, Try.f55, sub] at hp10
  induction k with
  | zero =>
    intro idx st tm h N hi hai hfd hd hK hN g0 g1 g8 g9 g10 g11 hb hv hg
    obtain ⟨N, rfl⟩ : ∃ a, N = a + 30 := ⟨N - 30, by omega⟩
    have hw4 : IntKind.i64.wrap ((len / 4 : Nat) : Int) = ((len / 4 : Nat) : Int) := wz (by omega)
    have hw5 : IntKind.i64.wrap (((len / 4 : Nat) : Int) * 2) = ((len / 4 * 2 : Nat) : Int) := by rw [wz (by omega)]; omega
    have hw6 : IntKind.i64.wrap ((a : Int) + ((len / 4 * 2 : Nat) : Int)) = ((a + len / 4 * 2 : Nat) : Int) := wadd (by omega)
    have hw7 : IntKind.i64.wrap (((a + len / 4 * 2 : Nat) : Int) + 1) = ((a + len / 4 * 2 + 1 : Nat) : Int) := wadd1 (by omega)
    apply Exists.intro; apply Exists.intro; apply And.intro
    · rw [codeB_loop]
      simp only [bodyBp, part, Try.f55, sub, symM, opFn, Nat.reduceLT, Nat.reduceBEq, g1, g8, g11, quo4, hw4, bin_mul, hw5, bin_add, hw6, hw7, bin_leq, decide_eq_false (show ¬ (idx : Int) ≤ ((a + len / 4 * 2 + 1 : Nat) : Int) by omega)]
      rfl
    · exact ⟨hv, hK, rfl, hg⟩
  | succ k ih =>
    intro idx st tm h N hi hai hfd hd hK hN g0 g1 g8 g9 g10 g11 hb hv hg
    obtain ⟨N, rfl⟩ : ∃ a, N = a + 30 := ⟨N - 30, by omega⟩
    have hw4 : IntKind.i64.wrap ((len / 4 : Nat) : Int) = ((len / 4 : Nat) : Int) := wz (by omega)
    have hw5 : IntKind.i64.wrap (((len / 4 : Nat) : Int) * 2) = ((len / 4 * 2 : Nat) : Int) := by rw [wz (by omega)]; omega
    have hw6 : IntKind.i64.wrap ((a : Int) + ((len / 4 * 2 : Nat) : Int)) = ((a + len / 4 * 2 : Nat) : Int) := wadd (by omega)
    have hw7 : IntKind.i64.wrap (((a + len / 4 * 2 : Nat) : Int) + 1) = ((a + len / 4 * 2 + 1 : Nat) : Int) := wadd1 (by omega)
    have hle := decide_eq_true (show (idx : Int) ≤ ((a + len / 4 * 2 + 1 : Nat) : Int) by omega)
    obtain ⟨h1, x1, x2, x3, x4⟩ := hNx bx st.1 h hb
    generalize hr : xorNext st.1 = r at x1 x2
    generalize ho : r.toNat &&& (m - 1) = o
    have hol : o ≤ m - 1 := by rw [← ho]; exact Nat.and_le_right
    have hbs : breakStep a len m st idx = (r, swp st.2 idx (a + (if o ≥ len then o - len else o))) := by unfold breakStep; rw [hr]; simp only [ho]
    have hv1 : Own n0 h1 v (rA st.2) 23 := hv.but hoff (by omega) x4
    have hg1 : Grow n0 h h1 := ⟨by omega, fun k hk => x4 k (by omega)⟩
    have hwm : IntKind.u64.wrap ((m : Int) - 1) = ((m - 1 : Nat) : Int) := by rw [show (m : Int) - 1 = ((m - 1 : Nat) : Int) by omega]; exact wu64 (by omega)
    have hand := fun {T t p q h} => bin_and (T := T) (t := t) (a := p) (b := q) (h := h) (k := .u64) (m := r.toNat) (n := m - 1) r.toNat_lt (show m - 1 < 18446744073709551616 by omega)
    have hwo : IntKind.i64.wrap (o : Int) = (o : Int) := wz (by omega)
    rw [bpIter, hbs, show N + 30 = (N + 29) + 1 from rfl, codeB_loop]
    by_cases hc : o ≥ len
    · have hws : IntKind.i64.wrap ((o : Int) - len) = ((o - len : Nat) : Int) := wsub (by omega) (by omega)
      have hwa : IntKind.i64.wrap ((a : Int) + ((o - len : Nat) : Int)) = ((a + (o - len) : Nat) : Int) := wadd (by omega)
      obtain ⟨p, q, h2, h3, a1, a2, a3, a4, a5, a6, a7, a8, a9, a10⟩ := hv1.swap2 (i := idx) (j := a + (o - len)) (by omega) (by omega)
      have hsz := swp_size st.2 idx (a + (o - len))
      rw [if_pos hc]
      simp only [bodyBp, part, Try.f55, sub, symM, opFn, Nat.reduceLT, Nat.reduceBEq, g1, g8, g9, g10, g11, quo4, hw4, bin_mul, hw5, bin_add, hw6, hw7, bin_leq, hle, evCall_fn ft68 rfl, x1, bin_sub, hwm, hand, ho, wu64 (show o < 18446744073709551616 by omega), conv_i2i und_uint und_int, hwo, bin_geq, decide_eq_true (show (len : Int) ≤ (o : Int) by omega), hws, codeB_draw]
      rw [draw_plan hp10 rfl]
      simp only [drawAll, opFn, Nat.reduceLT, Nat.reduceBEq, g0, g1, g11, effE_cons, bin_add, hwa, a1, a2, a3, a4, a5, a6, hv.eqv, wadd1 (show idx ≤ 400000 by omega)]
      have ihs := ih (idx + 1) (r, swp st.2 idx (a + (o - len)))
      rw [show (r, swp st.2 idx (a + (o - len))).2 = swp st.2 idx (a + (o - len)) from rfl, hsz] at ihs
      refine ihs _ h3 (N + 29) (by omega) (by omega) (by omega) (by omega) (swp_K hK _ _) (by omega) ?_ ?_ ?_ ?_ ?_ get_same (x2.keep (by omega) (a10 bx hoff)) a7 ((hg.trans hg1 (Nat.le_refl _)).trans a8 (Nat.le_refl _)) <;> simp only [symM, Nat.reduceBEq, g0, g1, g8, g9, g10]
    · have hwa : IntKind.i64.wrap ((a : Int) + (o : Int)) = ((a + o : Nat) : Int) := wadd (by omega)
      obtain ⟨p, q, h2, h3, a1, a2, a3, a4, a5, a6, a7, a8, a9, a10⟩ := hv1.swap2 (i := idx) (j := a + o) (by omega) (by omega)
      have hsz := swp_size st.2 idx (a + o)
      rw [if_neg hc]
      simp only [bodyBp, part, Try.f55, sub, symM, opFn, Nat.reduceLT, Nat.reduceBEq, g1, g8, g9, g10, g11, quo4, hw4, bin_mul, hw5, bin_add, hw6, hw7, bin_leq, hle, evCall_fn ft68 rfl, x1, bin_sub, hwm, hand, ho, wu64 (show o < 18446744073709551616 by omega), conv_i2i und_uint und_int, hwo, bin_geq, decide_eq_false (show ¬ (len : Int) ≤ (o : Int) by omega), codeB_draw]
      rw [draw_plan hp10 rfl]
      simp only [drawAll, opFn, Nat.reduceLT, Nat.reduceBEq, g0, g1, g11, effE_cons, bin_add, hwa, a1, a2, a3, a4, a5, a6, hv.eqv, wadd1 (show idx ≤ 400000 by omega)]
      have ihs := ih (idx + 1) (r, swp st.2 idx (a + o))
      rw [show (r, swp st.2 idx (a + o)).2 = swp st.2 idx (a + o) from rfl, hsz] at ihs
      refine ihs _ h3 (N + 29) (by omega) (by omega) (by omega) (by omega) (swp_K hK _ _) (by omega) ?_ ?_ ?_ ?_ ?_ get_same (x2.keep (by omega) (a10 bx hoff)) a7 ((hg.trans hg1 (Nat.le_refl _)).trans a8 (Nat.le_refl _)) <;> simp only [symM, Nat.reduceBEq, g0, g1, g8, g9, g10]
theorem breakPatterns_S (v : Value) (n0 a b : Nat) (g : Nat) (d : Array (Nat × Nat)) (h : AH) (hn0 : n0 ≤ h.next) (hab : a ≤ b) (hb : b ≤ d.size) (hd : d.size ≤ 480) (hK : AllK d) (hv : Own n0 h v (rA d) 23)
    (hNx : ∀ (b : Nat) (r : UInt64) (h : AH), BoxT h b 84 (uv (r.toNat : Int)) → ∃ h', call 68 [ptr b] h = some (uv ((xorNext r).toNat : Int), h') ∧ BoxT h' b 84 (uv ((xorNext r).toNat : Int)) ∧ h'.next = h.next ∧ ∀ k, k ≠ b → h'.get k = h.get k)
    (hP : ∀ (n : Nat) (h : AH), n < 512 → call 67 [iv n] h = some (uv ((1 <<< bitsLen n : Nat) : Int), h)) :
    ∃ h', frameB T0 X0 call 3000 55 [v, iv a, iv b, fnV g] h = some (.tuple #[], h') ∧ Own n0 h' v (rA (breakPatterns d a b)) 23 ∧ AllK (breakPatterns d a b) ∧ (breakPatterns d a b).size = d.size ∧ Grow n0 h h' := by
  rw [frameB_eq ft55 rfl rfl]
  have hw1 : IntKind.i64.wrap ((b : Int) - a) = ((b - a : Nat) : Int) := wsub (by omega) (by omega)
  by_cases h8 : b - a ≥ 8
  · generalize hh1 : h.new (.cells (PM.ofList [uv 0]) 1 84 0 0 .ex) = h1
    have b0 : BoxT h1 h.next 84 (uv 0) := by rw [← hh1]; exact BoxT.new
    have g1 : Grow h.next h h1 := by rw [← hh1]; exact Grow.new _ _
    obtain ⟨h2, s1, b1, n1, k1⟩ := b0.store (y := uv (((UInt64.ofNat (b - a)).toNat : Nat) : Int)) sz_xs rfl
    have hof : (UInt64.ofNat (b - a)).toNat = b - a := by
      show (b - a) % 18446744073709551616 = b - a
      omega
    rw [hof] at s1 b1
    have hoff : Off v h.next := hv.apart (Nat.le_refl _)
    have hv2 : Own n0 h2 v (rA d) 23 := (hv.grow g1).but hoff (by omega) k1
    have g2 : Grow n0 h h2 := (g1.less hn0).trans (m := n0) ⟨by omega, fun k hk => k1 k (by omega)⟩ (Nat.le_refl _)
    have hpow := pow512 (b - a) (by omega)
    have hbp : breakPatterns d a b = (bpIter a (b - a) (1 <<< bitsLen (b - a)) 3 (UInt64.ofNat (b - a), d) (a + (b - a) / 4 * 2 - 1)).2 := by
      unfold breakPatterns
      simp only
      rw [if_pos h8]
      have e : a + (b - a) / 4 * 2 - 1 + 1 + 1 = a + (b - a) / 4 * 2 - 1 + 2 := rfl
      rfl
    rw [hbp]
    have hw4 : IntKind.i64.wrap (((b - a) / 4 : Nat) : Int) = (((b - a) / 4 : Nat) : Int) := wz (by omega)
    have hw5 : IntKind.i64.wrap ((((b - a) / 4 : Nat) : Int) * 2) = (((b - a) / 4 * 2 : Nat) : Int) := by rw [wz (by omega)]; omega
    have hw6 : IntKind.i64.wrap ((a : Int) + (((b - a) / 4 * 2 : Nat) : Int)) = ((a + (b - a) / 4 * 2 : Nat) : Int) := wadd (by omega)
    have hw7 : IntKind.i64.wrap (((a + (b - a) / 4 * 2 : Nat) : Int) - 1) = ((a + (b - a) / 4 * 2 - 1 : Nat) : Int) := by rw [wz (by omega)]; omega
    simp only [Try.f55, symM, opFn, Nat.reduceLT, Nat.reduceBEq, symL, bin_sub, hw1, bin_geq, decide_eq_true (show (8 : Int) ≤ ((b - a : Nat) : Int) by omega), conv_i2i und_int und_xs, wu64 (show b - a < 18446744073709551616 by omega), alloc_one zero_xs rfl, hh1, s1, evCall_fn ft67 rfl, hP (b - a) h2 (by omega), quo4, hw4, bin_mul, hw5, bin_add, hw6, hw7]
    generalize hX : codeB T0 X0 call _ EBp (.loop _) _ _ _ = X
    obtain ⟨tm', h', e', qv, qK, qs, qg⟩ := use_exit hX (bpL v n0 a (b - a) (1 <<< bitsLen (b - a)) h h.next hn0 hoff h8 (hpow.2 (by omega)).2 (hpow.2 (by omega)).1 hNx 3 (a + (b - a) / 4 * 2 - 1) (UInt64.ofNat (b - a), d) _ h2 _ (by omega) (by omega) (show a + (b - a) ≤ d.size by omega) hd hK (by omega) (by simp only [symM, Nat.reduceBEq]) (by simp only [symM, Nat.reduceBEq]) (by simp only [symM, Nat.reduceBEq]) (by simp only [symM, Nat.reduceBEq]) (by simp only [symM, Nat.reduceBEq]) get_same (by rw [hof]; exact b1) hv2 g2)
    clear hX
    subst e'
    refine ⟨h', ?_, qv, qK, qs, qg⟩
    simp only [symM, symL]
    exact retB_zero ft55 rfl
  · have hbp : breakPatterns d a b = d := by unfold breakPatterns; simp only; rw [if_neg h8]
    rw [hbp]
    refine ⟨h, ?_, hv, hK, rfl, Grow.refl _ _⟩
    simp only [Try.f55, symM, opFn, Nat.reduceLT, Nat.reduceBEq, bin_sub, hw1, bin_geq, decide_eq_false (show ¬ (8 : Int) ≤ ((b - a : Nat) : Int) by omega)]
    exact retB_zero ft55 rfl
theorem ft57 : T0.ft.get 57 = some Try.f57 := by kernel_rfl
noncomputable def bodyRr : Code := part Try.f57 [1, 1, 0, 0]
abbrev ERr : Env := ⟨57, 34, none⟩
theorem plan_Rr3 : planB (regOps Try.f57 [1, 1, 0, 0, 1, 0, 0]) 34 = some ([.one 0, .one 1, .one 2, .one 3, .one 4, .one 5, .one 6, .one 7, .one 8, .one 9, .one 10, .one 11, .one 12, .eff [] 13 [2, 3], .one 14, .eff [] 15 []], []) := by kernel_rfl
theorem rrL (v : Value) (n0 : Nat) (h0 : AH) :
    ∀ (k i j : Nat) (d : Array (Nat × Nat)) (tm : PM Value) (h : AH) (N : Nat), j - i ≤ k → (i < j → j < d.size) → i ≤ 481 → j ≤ 481 → d.size ≤ 480 → AllK d → k + 60 ≤ N → tm.get 0 = some v → tm.get 8 = some (iv i) → tm.get 9 = some (iv j) → Own n0 h v (rA d) 23 → Grow n0 h0 h →
      ∃ tm' h', codeB T0 X0 call N ERr (.loop bodyRr) tm h [] = .jump (.exit 0) tm' h' [] ∧ (Own n0 h' v (rA (reverseLoop i j d)) 23 ∧ AllK (reverseLoop i j d) ∧ (reverseLoop i j d).size = d.size ∧ Grow n0 h0 h') := by
  intro k
  have hp3 := plan_Rr3
  simp only [regOps, part, Try.f57, sub] at hp3
  induction k with
  | zero =>
    intro i j d tm h N hk hj hi4 hj4 hd hK hN g0 g8 g9 hv hg
    obtain ⟨N, rfl⟩ : ∃ a, N = a + 30 := ⟨N - 30, by omega⟩
    rw [reverseLoop, if_neg (show ¬ i < j by omega)]
    apply Exists.intro; apply Exists.intro; apply And.intro
    · rw [codeB_loop]
      simp only [bodyRr, part, Try.f57, sub, symM, opFn, Nat.reduceLT, Nat.reduceBEq, g8, g9, bin_lss, decide_eq_false (show ¬ (i : Int) < (j : Nat) by omega)]
      rfl
    · exact ⟨hv, hK, rfl, hg⟩
  | succ k ih =>
    intro i j d tm h N hk hj hi4 hj4 hd hK hN g0 g8 g9 hv hg
    obtain ⟨N, rfl⟩ : ∃ a, N = a + 30 := ⟨N - 30, by omega⟩
    by_cases hij : i < j
    · have hjd := hj hij
      obtain ⟨p, q, h2, h3, a1, a2, a3, a4, a5, a6, a7, a8⟩ := hv.swap (i := i) (j := j) (by omega) hjd
      have hsz := swp_size d i j
      have hw : IntKind.i64.wrap ((j : Int) - 1) = ((j - 1 : Nat) : Int) := by rw [wz (by omega)]; omega
      rw [reverseLoop, if_pos hij, show N + 30 = (N + 29) + 1 from rfl, codeB_loop]
      simp only [bodyRr, part, Try.f57, sub, symM, opFn, Nat.reduceLT, Nat.reduceBEq, g8, g9, bin_lss, decide_eq_true (show (i : Int) < (j : Nat) by omega), codeB_draw]
      rw [draw_plan hp3 rfl]
      simp only [drawAll, opFn, Nat.reduceLT, Nat.reduceBEq, g0, g8, g9, effE_cons, a1, a2, a3, a4, a5, a6, hv.eqv, bin_add, bin_sub, wadd1 (show i ≤ 400000 by omega), hw]
      rw [← hsz]
      refine ih (i + 1) (j - 1) _ _ h3 (N + 29) (by omega) (by rw [hsz]; omega) (by omega) (by omega) (by rw [hsz]; omega) (swp_K hK _ _) (by omega) ?_ ?_ get_same a7 (hg.trans a8 (Nat.le_refl _)) <;> simp only [symM, Nat.reduceBEq, g0]
    · rw [reverseLoop, if_neg hij]
      apply Exists.intro; apply Exists.intro; apply And.intro
      · rw [codeB_loop]
        simp only [bodyRr, part, Try.f57, sub, symM, opFn, Nat.reduceLT, Nat.reduceBEq, g8, g9, bin_lss, decide_eq_false (show ¬ (i : Int) < (j : Nat) by omega)]
        rfl
      · exact ⟨hv, hK, rfl, hg⟩
theorem reverseRange_S (v : Value) (n0 a b g : Nat) (d : Array (Nat × Nat)) (h : AH) (hab : a < b) (hb : b ≤ d.size) (hd : d.size ≤ 480) (hK : AllK d) (hv : Own n0 h v (rA d) 23) :
    ∃ h', frameB T0 X0 call 3000 57 [v, iv a, iv b, fnV g] h = some (.tuple #[], h') ∧ Own n0 h' v (rA (reverseRange d a b)) 23 ∧ AllK (reverseRange d a b) ∧ (reverseRange d a b).size = d.size ∧ Grow n0 h h' := by
  rw [frameB_eq ft57 rfl rfl]
  unfold reverseRange
  have hw : IntKind.i64.wrap ((b : Int) - 1) = ((b - 1 : Nat) : Int) := by rw [wz (by omega)]; omega
  simp only [Try.f57, symM, opFn, Nat.reduceLT, Nat.reduceBEq, symL, bin_sub, hw]
  generalize hX : codeB T0 X0 call _ ERr (.loop _) _ _ _ = X
  obtain ⟨tm', h', e', qv, qK, qs, qg⟩ := use_exit hX (rrL v n0 h (b - 1 - a) a (b - 1) d _ h _ (Nat.le_refl _) (by omega) (by omega) (by omega) hd hK (by omega) (by simp only [symM, Nat.reduceBEq]) (by simp only [symM, Nat.reduceBEq]) get_same hv (Grow.refl _ _))
  clear hX
  subst e'
  refine ⟨h', ?_, qv, qK, qs, qg⟩
  simp only [symM, symL]
  exact retB_zero ft57 rfl
end
end Go.Proofs.Ytcpihpjphdlmfaa.Abs
