/- Sorting: slices.choosePivotCmpFunc and what it calls. -/
import Derived.Test.YtcpihpjphdlmfaaSortA
namespace Go.Proofs.Ytcpihpjphdlmfaa.Abs
open Go Go.Proofs Go.Sort
noncomputable section
variable {call : Abs.Callee}
set_option maxRecDepth 10000
theorem ft73 : T0.ft.get 73 = some Try.f73 := by kernel_rfl
theorem ft70 : T0.ft.get 70 = some Try.f70 := by kernel_rfl
theorem ft69 : T0.ft.get 69 = some Try.f69 := by kernel_rfl
theorem ft56 : T0.ft.get 56 = some Try.f56 := by kernel_rfl
theorem sz_int : szOf T0 3 = some 1 := by kernel_rfl
theorem zero_int : zeroOf T0 3 = some (iv 0) := by kernel_rfl
/-- Only this block is another one. -/
def Only (bx : Nat) (h h' : AH) : Prop := h'.next = h.next ∧ ∀ k, k ≠ bx → h'.get k = h.get k
theorem Only.refl (bx : Nat) (h : AH) : Only bx h h := ⟨rfl, fun _ _ => rfl⟩
theorem Only.trans {bx : Nat} {a b c : AH} (x : Only bx a b) (y : Only bx b c) : Only bx a c := ⟨y.1.trans x.1, fun k hk => (y.2 k hk).trans (x.2 k hk)⟩
theorem Own.only {n : Nat} {h h' : AH} {v : Value} {l : List Value} {e : TypeId} {bx : Nat} (ho : Own n h v l e) (hb : Off v bx) (o : Only bx h h') : Own n h' v l e := ho.but hb (Nat.le_of_eq o.1.symm) o.2
theorem plan_O2 : planB (regOps Try.f73 [1, 0, 0]) 32 = some ([.one 0, .one 1, .one 2, .one 3, .one 4, .one 5, .one 6, .one 7, .one 8, .eff [] 9 [], .one 10], []) := by kernel_rfl
theorem order2_S {g : Nat} {c : Nat × Nat → Nat × Nat → Int} (hc : CmpOK call g c) (v : Value) (n0 : Nat) (d : Array (Nat × Nat)) (bx : Nat) (hK : AllK d) (a b s : Nat) (h : AH) (ha : a < d.size) (hb : b < d.size) (hs : s ≤ 100) (hx : BoxT h bx 3 (iv s)) (hv : Own n0 h v (rA d) 23) :
    ∃ h', frameB T0 X0 call 3000 73 [v, iv a, iv b, ptr bx, fnV g] h = some (.tuple #[iv (order2 (ltc c) d a b s).1, iv (order2 (ltc c) d a b s).2.1], h') ∧ BoxT h' bx 3 (iv (order2 (ltc c) d a b s).2.2) ∧ Only bx h h' := by
  have hp := plan_O2
  simp only [regOps, part, Try.f73, sub] at hp
  rw [frameB_eq ft73 rfl rfl]
  obtain ⟨p, a1, a2⟩ := hv.fetch ha
  obtain ⟨q, b1, b2⟩ := hv.fetch hb
  have hrun := hc.run d[b]! d[a]! h (hK _) (hK _)
  unfold order2
  cases hlt : ltc c d[b]! d[a]! with
  | true =>
    have hlt2 : decide (c d[b]! d[a]! < 0) = true := hlt
    obtain ⟨h1, s1, s2, s3, s4⟩ := hx.store (y := iv ((s + 1 : Nat) : Int)) sz_int rfl
    have hl := hx.load agg_int
    refine ⟨h1, ?_, s2, s3, s4⟩
    simp only [Try.f73, symM, opFn, Nat.reduceLT, codeB_draw]
    rw [draw_plan hp rfl]
    simp only [drawAll, opFn, Nat.reduceLT, Nat.reduceBEq, a1, a2, b1, b2, hc.en, hrun, bin_lss, hlt2, nilCheck_ptr, hl, bin_add, wadd1 (show s ≤ 400000 by omega), s1]
    exact retB_two ft73 rfl (by simp only [symM, Nat.reduceBEq]; rfl) (by simp only [symM]; rfl)
  | false =>
    have hlt2 : decide (c d[b]! d[a]! < 0) = false := hlt
    refine ⟨h, ?_, hx, Only.refl _ _⟩
    simp only [Try.f73, symM, opFn, Nat.reduceLT, codeB_draw]
    rw [draw_plan hp rfl]
    simp only [drawAll, opFn, Nat.reduceLT, Nat.reduceBEq, a1, a2, b1, b2, hc.en, hrun, bin_lss, hlt2]
    exact retB_two ft73 rfl (by simp only [symM, Nat.reduceBEq]; rfl) (by simp only [symM]; rfl)
def O2OK (call : Abs.Callee) (g : Nat) (c : Nat × Nat → Nat × Nat → Int) (v : Value) (n0 : Nat) (d : Array (Nat × Nat)) (bx : Nat) : Prop := ∀ (a b s : Nat) (h : AH), a < d.size → b < d.size → s ≤ 100 → BoxT h bx 3 (iv s) → Own n0 h v (rA d) 23 →
    ∃ h', call 73 [v, iv a, iv b, ptr bx, fnV g] h = some (.tuple #[iv (order2 (ltc c) d a b s).1, iv (order2 (ltc c) d a b s).2.1], h') ∧ BoxT h' bx 3 (iv (order2 (ltc c) d a b s).2.2) ∧ Only bx h h'
theorem order2_in (lt : Nat × Nat → Nat × Nat → Bool) (d : Array (Nat × Nat)) (a b s : Nat) : ((order2 lt d a b s).1 = a ∧ (order2 lt d a b s).2.1 = b ∨ (order2 lt d a b s).1 = b ∧ (order2 lt d a b s).2.1 = a) ∧ (order2 lt d a b s).2.2 ≤ s + 1 := by
  unfold order2
  split
  · exact ⟨.inr ⟨rfl, rfl⟩, Nat.le_refl _⟩
  · exact ⟨.inl ⟨rfl, rfl⟩, Nat.le_succ _⟩
theorem median_in (lt : Nat × Nat → Nat × Nat → Bool) (d : Array (Nat × Nat)) (a b c s : Nat) : ((median lt d a b c s).1 = a ∨ (median lt d a b c s).1 = b ∨ (median lt d a b c s).1 = c) ∧ (median lt d a b c s).2 ≤ s + 3 := by
  unfold median
  simp only
  generalize h1 : order2 lt d a b s = r1
  have i1 := order2_in lt d a b s
  rw [h1] at i1
  generalize h2 : order2 lt d r1.2.1 c r1.2.2 = r2
  have i2 := order2_in lt d r1.2.1 c r1.2.2
  rw [h2] at i2
  have i3 := order2_in lt d r1.1 r2.1 r2.2.2
  generalize order2 lt d r1.1 r2.1 r2.2.2 = r3 at i3
  omega
theorem median_S {g : Nat} {c : Nat × Nat → Nat × Nat → Int} {v : Value} {n0 : Nat} {d : Array (Nat × Nat)} {bx : Nat} (ho : O2OK call g c v n0 d bx) (hoff : Off v bx) (i j k s : Nat) (h : AH) (hi : i < d.size) (hj : j < d.size) (hk : k < d.size) (hs : s ≤ 50) (hx : BoxT h bx 3 (iv s)) (hv : Own n0 h v (rA d) 23) :
    ∃ h', frameB T0 X0 call 3000 70 [v, iv i, iv j, iv k, ptr bx, fnV g] h = some (iv (median (ltc c) d i j k s).1, h') ∧ BoxT h' bx 3 (iv (median (ltc c) d i j k s).2) ∧ Only bx h h' := by
  rw [frameB_eq ft70 rfl rfl]
  unfold median
  simp only
  obtain ⟨h1, e1, x1, o1⟩ := ho i j s h hi hj (by omega) hx hv
  have i1 := order2_in (ltc c) d i j s
  generalize order2 (ltc c) d i j s = r1 at *
  have v1 := hv.only hoff o1
  obtain ⟨h2, e2, x2, o2⟩ := ho r1.2.1 k r1.2.2 h1 (by omega) hk (by omega) x1 v1
  have i2 := order2_in (ltc c) d r1.2.1 k r1.2.2
  generalize order2 (ltc c) d r1.2.1 k r1.2.2 = r2 at *
  have v2 := v1.only hoff o2
  obtain ⟨h3, e3, x3, o3⟩ := ho r1.1 r2.1 r2.2.2 h2 (by omega) (by omega) (by omega) x2 v2
  generalize order2 (ltc c) d r1.1 r2.1 r2.2.2 = r3 at *
  refine ⟨h3, ?_, x3, (o1.trans o2).trans o3⟩
  simp only [Try.f70, symM, opFn, Nat.reduceLT, Nat.reduceBEq, evCall_fn ft73 rfl, e1, e2, e3]
  exact retB_one ft70 rfl get_same
def MedOK (call : Abs.Callee) (g : Nat) (c : Nat × Nat → Nat × Nat → Int) (v : Value) (n0 : Nat) (d : Array (Nat × Nat)) (bx : Nat) : Prop := ∀ (i j k s : Nat) (h : AH), i < d.size → j < d.size → k < d.size → s ≤ 50 → BoxT h bx 3 (iv s) → Own n0 h v (rA d) 23 →
    ∃ h', call 70 [v, iv i, iv j, iv k, ptr bx, fnV g] h = some (iv (median (ltc c) d i j k s).1, h') ∧ BoxT h' bx 3 (iv (median (ltc c) d i j k s).2) ∧ Only bx h h'
theorem medianAdjacent_S {g : Nat} {c : Nat × Nat → Nat × Nat → Int} {v : Value} {n0 : Nat} {d : Array (Nat × Nat)} {bx : Nat} (ho : MedOK call g c v n0 d bx) (i s : Nat) (h : AH) (hi : 1 ≤ i) (hi2 : i + 1 < d.size) (hd : d.size ≤ 480) (hs : s ≤ 50) (hx : BoxT h bx 3 (iv s)) (hv : Own n0 h v (rA d) 23) :
    ∃ h', frameB T0 X0 call 3000 69 [v, iv i, ptr bx, fnV g] h = some (iv (medianAdjacent (ltc c) d i s).1, h') ∧ BoxT h' bx 3 (iv (medianAdjacent (ltc c) d i s).2) ∧ Only bx h h' := by
  rw [frameB_eq ft69 rfl rfl]
  unfold medianAdjacent
  obtain ⟨h1, e1, x1, o1⟩ := ho (i - 1) i (i + 1) s h (by omega) (by omega) hi2 hs hx hv
  have hw : IntKind.i64.wrap ((i : Int) - 1) = ((i - 1 : Nat) : Int) := by rw [wz (by omega)]; omega
  refine ⟨h1, ?_, x1, o1⟩
  simp only [Try.f69, symM, opFn, Nat.reduceLT, Nat.reduceBEq, bin_sub, hw, bin_add, wadd1 (show i ≤ 400000 by omega), evCall_fn ft70 rfl, e1]
  exact retB_one ft69 rfl get_same
def MadOK (call : Abs.Callee) (g : Nat) (c : Nat × Nat → Nat × Nat → Int) (v : Value) (n0 : Nat) (d : Array (Nat × Nat)) (bx : Nat) : Prop := ∀ (i s : Nat) (h : AH), 1 ≤ i → i + 1 < d.size → s ≤ 50 → BoxT h bx 3 (iv s) → Own n0 h v (rA d) 23 →
    ∃ h', call 69 [v, iv i, ptr bx, fnV g] h = some (iv (medianAdjacent (ltc c) d i s).1, h') ∧ BoxT h' bx 3 (iv (medianAdjacent (ltc c) d i s).2) ∧ Only bx h h'
def hintZ : Hint → Int
  | .unknown => 0
  | .increasing => 1
  | .decreasing => 2
set_option maxHeartbeats 2000000 in
theorem choosePivot_S {g : Nat} {c : Nat × Nat → Nat × Nat → Int} {v : Value} {n0 : Nat} {d : Array (Nat × Nat)} (hm : ∀ bx, Off v bx → MedOK call g c v n0 d bx) (ha : ∀ bx, Off v bx → MadOK call g c v n0 d bx) (a b : Nat) (h : AH) (hab : a ≤ b) (hb : b ≤ d.size) (h8 : 8 ≤ b - a) (hd : d.size ≤ 480) (hv : Own n0 h v (rA d) 23) :
    ∃ h', frameB T0 X0 call 3000 56 [v, iv a, iv b, fnV g] h = some (.tuple #[iv (choosePivot (ltc c) d a b).1, iv (hintZ (choosePivot (ltc c) d a b).2)], h') ∧ Own n0 h' v (rA d) 23 ∧ Grow h.next h h' := by
  rw [frameB_eq ft56 rfl rfl]
  generalize hh1 : h.new (.cells (PM.ofList [iv 0]) 1 3 0 0 .ex) = h1
  have b0 : BoxT h1 h.next 3 (iv ((0 : Nat) : Int)) := by rw [← hh1]; exact BoxT.new
  have g1 : Grow h.next h h1 := by rw [← hh1]; exact Grow.new _ _
  have hoff : Off v h.next := hv.apart (Nat.le_refl _)
  have hv1 := hv.grow g1
  have hw1 : IntKind.i64.wrap ((b : Int) - a) = ((b - a : Nat) : Int) := wsub (by omega) (by omega)
  generalize hl : b - a = l at *
  have hw4 : IntKind.i64.wrap ((l / 4 : Nat) : Int) = ((l / 4 : Nat) : Int) := wz (by omega)
  have hq1 : IntKind.i64.wrap (((l / 4 : Nat) : Int) * 1) = ((l / 4 * 1 : Nat) : Int) := by rw [wz (by omega)]; omega
  have hq2 : IntKind.i64.wrap (((l / 4 : Nat) : Int) * 2) = ((l / 4 * 2 : Nat) : Int) := by rw [wz (by omega)]; omega
  have hq3 : IntKind.i64.wrap (((l / 4 : Nat) : Int) * 3) = ((l / 4 * 3 : Nat) : Int) := by rw [wz (by omega)]; omega
  have hr1 : IntKind.i64.wrap ((a : Int) + ((l / 4 * 1 : Nat) : Int)) = ((a + l / 4 * 1 : Nat) : Int) := wadd (by omega)
  have hr2 : IntKind.i64.wrap ((a : Int) + ((l / 4 * 2 : Nat) : Int)) = ((a + l / 4 * 2 : Nat) : Int) := wadd (by omega)
  have hr3 : IntKind.i64.wrap ((a : Int) + ((l / 4 * 3 : Nat) : Int)) = ((a + l / 4 * 3 : Nat) : Int) := wadd (by omega)
  have h8d : decide ((8 : Int) ≤ (l : Nat)) = true := decide_eq_true (by omega)
  have key : ∀ (i j k s : Nat) (h2 : AH), i < d.size → j < d.size → k < d.size → s ≤ 50 → BoxT h2 h.next 3 (iv s) → Only h.next h1 h2 → ∃ h3, call 70 [v, iv i, iv j, iv k, ptr h.next, fnV g] h2 = some (iv (median (ltc c) d i j k s).1, h3) ∧ evLoad T0 3 (ptr h.next) h3 = some (iv (median (ltc c) d i j k s).2) ∧ Only h.next h1 h3 := by
    intro i j k s h2 hi hj hk hs hx ho
    obtain ⟨h3, e1, e2, e3⟩ := hm h.next hoff i j k s h2 hi hj hk hs hx (hv1.only hoff ho)
    exact ⟨h3, e1, e2.load agg_int, ho.trans e3⟩
  have fin : ∀ h3, Only h.next h1 h3 → Own n0 h3 v (rA d) 23 ∧ Grow h.next h h3 := fun h3 ho => ⟨hv1.only hoff ho, g1.trans (m := h.next) ⟨Nat.le_of_eq ho.1.symm, fun k hk => ho.2 k (by omega)⟩ (Nat.le_refl _)⟩
  have hn12 : ∀ s : Nat, ((s : Int) == 0) = decide (s = 0) ∧ ((s : Int) == 12) = decide (s = 12) := fun s => ⟨by by_cases h : s = 0 <;> simp [h], by by_cases h : s = 12 <;> simp [h]; omega⟩
  by_cases h50 : l ≥ 50
  · have h50d : decide ((50 : Int) ≤ (l : Nat)) = true := decide_eq_true (by omega)
    obtain ⟨k1, e1, x1, o1⟩ := ha h.next hoff (a + l / 4 * 1) 0 h1 (by omega) (by omega) (by omega) b0 hv1
    have i1 := median_in (ltc c) d (a + l / 4 * 1 - 1) (a + l / 4 * 1) (a + l / 4 * 1 + 1) 0
    have u1 : medianAdjacent (ltc c) d (a + l / 4 * 1) 0 = median (ltc c) d (a + l / 4 * 1 - 1) (a + l / 4 * 1) (a + l / 4 * 1 + 1) 0 := rfl
    rw [← u1] at i1
    obtain ⟨k2, e2, x2, o2⟩ := ha h.next hoff (a + l / 4 * 2) (medianAdjacent (ltc c) d (a + l / 4 * 1) 0).2 k1 (by omega) (by omega) (by omega) x1 (hv1.only hoff o1)
    have i2 := median_in (ltc c) d (a + l / 4 * 2 - 1) (a + l / 4 * 2) (a + l / 4 * 2 + 1) (medianAdjacent (ltc c) d (a + l / 4 * 1) 0).2
    have u2 : medianAdjacent (ltc c) d (a + l / 4 * 2) (medianAdjacent (ltc c) d (a + l / 4 * 1) 0).2 = median (ltc c) d (a + l / 4 * 2 - 1) (a + l / 4 * 2) (a + l / 4 * 2 + 1) (medianAdjacent (ltc c) d (a + l / 4 * 1) 0).2 := rfl
    rw [← u2] at i2
    obtain ⟨k3, e3, x3, o3⟩ := ha h.next hoff (a + l / 4 * 3) (medianAdjacent (ltc c) d (a + l / 4 * 2) (medianAdjacent (ltc c) d (a + l / 4 * 1) 0).2).2 k2 (by omega) (by omega) (by omega) x2 (hv1.only hoff (o1.trans o2))
    have i3 := median_in (ltc c) d (a + l / 4 * 3 - 1) (a + l / 4 * 3) (a + l / 4 * 3 + 1) (medianAdjacent (ltc c) d (a + l / 4 * 2) (medianAdjacent (ltc c) d (a + l / 4 * 1) 0).2).2
    have u3 : medianAdjacent (ltc c) d (a + l / 4 * 3) (medianAdjacent (ltc c) d (a + l / 4 * 2) (medianAdjacent (ltc c) d (a + l / 4 * 1) 0).2).2 = median (ltc c) d (a + l / 4 * 3 - 1) (a + l / 4 * 3) (a + l / 4 * 3 + 1) (medianAdjacent (ltc c) d (a + l / 4 * 2) (medianAdjacent (ltc c) d (a + l / 4 * 1) 0).2).2 := rfl
    rw [← u3] at i3
    unfold choosePivot
    simp only
    rw [hl, if_pos h8, if_pos h50]
    generalize medianAdjacent (ltc c) d (a + l / 4 * 3) (medianAdjacent (ltc c) d (a + l / 4 * 2) (medianAdjacent (ltc c) d (a + l / 4 * 1) 0).2).2 = r3 at *
    generalize medianAdjacent (ltc c) d (a + l / 4 * 2) (medianAdjacent (ltc c) d (a + l / 4 * 1) 0).2 = r2 at *
    generalize medianAdjacent (ltc c) d (a + l / 4 * 1) 0 = r1 at *
    obtain ⟨k4, e4, x4, o4⟩ := key r1.1 r2.1 r3.1 r3.2 k3 (by omega) (by omega) (by omega) (by omega) x3 ((o1.trans o2).trans o3)
    generalize median (ltc c) d r1.1 r2.1 r3.1 r3.2 = r4 at *
    obtain ⟨f1, f2⟩ := fin k4 o4
    refine ⟨k4, ?_, f1, f2⟩
    by_cases s0 : r4.2 = 0
    · simp only [Try.f56, symM, opFn, Nat.reduceLT, Nat.reduceBEq, bin_sub, hw1, alloc_one zero_int rfl, hh1, quo4, hw4, bin_mul, hq1, hq2, hq3, bin_add, hr1, hr2, hr3, bin_geq, h8d, h50d, evCall_fn ft69 rfl, e1, e2, e3, evCall_fn ft70 rfl, e4, x4, bin_eql, (hn12 r4.2).1, decide_eq_true s0, if_pos s0, hintZ]
      exact retB_two ft56 rfl (by simp only [symM, Nat.reduceBEq]) (by simp only [symM])
    · by_cases s12 : r4.2 = 12
      · simp only [Try.f56, symM, opFn, Nat.reduceLT, Nat.reduceBEq, bin_sub, hw1, alloc_one zero_int rfl, hh1, quo4, hw4, bin_mul, hq1, hq2, hq3, bin_add, hr1, hr2, hr3, bin_geq, h8d, h50d, evCall_fn ft69 rfl, e1, e2, e3, evCall_fn ft70 rfl, e4, x4, bin_eql, (hn12 r4.2).1, (hn12 r4.2).2, decide_eq_false s0, if_neg s0, decide_eq_true s12, if_pos s12, hintZ]
        exact retB_two ft56 rfl (by simp only [symM, Nat.reduceBEq]) (by simp only [symM])
      · simp only [Try.f56, symM, opFn, Nat.reduceLT, Nat.reduceBEq, bin_sub, hw1, alloc_one zero_int rfl, hh1, quo4, hw4, bin_mul, hq1, hq2, hq3, bin_add, hr1, hr2, hr3, bin_geq, h8d, h50d, evCall_fn ft69 rfl, e1, e2, e3, evCall_fn ft70 rfl, e4, x4, bin_eql, (hn12 r4.2).1, (hn12 r4.2).2, decide_eq_false s0, if_neg s0, decide_eq_false s12, if_neg s12, hintZ]
        exact retB_two ft56 rfl (by simp only [symM, Nat.reduceBEq]) (by simp only [symM])
  · have h50d : decide ((50 : Int) ≤ (l : Nat)) = false := decide_eq_false (by omega)
    unfold choosePivot
    simp only
    rw [hl, if_pos h8, if_neg h50]
    obtain ⟨k4, e4, x4, o4⟩ := key (a + l / 4 * 1) (a + l / 4 * 2) (a + l / 4 * 3) 0 h1 (by omega) (by omega) (by omega) (by omega) b0 (Only.refl _ _)
    generalize median (ltc c) d (a + l / 4 * 1) (a + l / 4 * 2) (a + l / 4 * 3) 0 = r4 at *
    obtain ⟨f1, f2⟩ := fin k4 o4
    refine ⟨k4, ?_, f1, f2⟩
    by_cases s0 : r4.2 = 0
    · simp only [Try.f56, symM, opFn, Nat.reduceLT, Nat.reduceBEq, bin_sub, hw1, alloc_one zero_int rfl, hh1, quo4, hw4, bin_mul, hq1, hq2, hq3, bin_add, hr1, hr2, hr3, bin_geq, h8d, h50d, evCall_fn ft70 rfl, e4, x4, bin_eql, (hn12 r4.2).1, decide_eq_true s0, if_pos s0, hintZ]
      exact retB_two ft56 rfl (by simp only [symM, Nat.reduceBEq]) (by simp only [symM])
    · by_cases s12 : r4.2 = 12
      · simp only [Try.f56, symM, opFn, Nat.reduceLT, Nat.reduceBEq, bin_sub, hw1, alloc_one zero_int rfl, hh1, quo4, hw4, bin_mul, hq1, hq2, hq3, bin_add, hr1, hr2, hr3, bin_geq, h8d, h50d, evCall_fn ft70 rfl, e4, x4, bin_eql, (hn12 r4.2).1, (hn12 r4.2).2, decide_eq_false s0, if_neg s0, decide_eq_true s12, if_pos s12, hintZ]
        exact retB_two ft56 rfl (by simp only [symM, Nat.reduceBEq]) (by simp only [symM])
      · simp only [Try.f56, symM, opFn, Nat.reduceLT, Nat.reduceBEq, bin_sub, hw1, alloc_one zero_int rfl, hh1, quo4, hw4, bin_mul, hq1, hq2, hq3, bin_add, hr1, hr2, hr3, bin_geq, h8d, h50d, evCall_fn ft70 rfl, e4, x4, bin_eql, (hn12 r4.2).1, (hn12 r4.2).2, decide_eq_false s0, if_neg s0, decide_eq_false s12, if_neg s12, hintZ]
        exact retB_two ft56 rfl (by simp only [symM, Nat.reduceBEq]) (by simp only [symM])
end
end Go.Proofs.Ytcpihpjphdlmfaa.Abs
namespace Go.Proofs.Ytcpihpjphdlmfaa.Abs
open Go Go.Proofs Go.Sort
noncomputable section
variable {call : Abs.Callee}
set_option maxRecDepth 10000
theorem ft60 : T0.ft.get 60 = some Try.f60 := by kernel_rfl
theorem ft59 : T0.ft.get 59 = some Try.f59 := by kernel_rfl
abbrev EPt : Env := ⟨60, 178, none⟩
abbrev EPe : Env := ⟨59, 90, none⟩
theorem scanUp_in {α : Type} [Inhabited α] (p : α → Bool) (d : Array α) (j : Nat) : ∀ (k i : Nat), j + 1 - i ≤ k → i ≤ scanUp p d j i ∧ scanUp p d j i ≤ max i (j + 1) := by
  intro k
  induction k with
  | zero =>
    intro i hk
    rw [scanUp, decide_eq_false (show ¬ i ≤ j by omega), Bool.false_and, if_neg Bool.false_ne_true]
    omega
  | succ k ih =>
    intro i hk
    rw [scanUp]
    split
    · rename_i h
      have hij : i ≤ j := by simp at h; exact h.1
      have := ih (i + 1) (by omega)
      omega
    · omega
theorem scanDown_in {α : Type} [Inhabited α] (p : α → Bool) (d : Array α) (i : Nat) : ∀ (j : Nat), scanDown p d i j ≤ j ∧ min j (i - 1) ≤ scanDown p d i j := by
  intro j
  induction j with
  | zero => rw [scanDown]; omega
  | succ j ih =>
    rw [scanDown]
    split
    · rename_i h
      have hij : i ≤ j + 1 := by simp at h; exact h.1
      omega
    · omega
noncomputable def bodyPt0 : Code := part Try.f60 [1, 1, 1, 0, 0, 0]
theorem plan_Pt0 : planB (regOps Try.f60 [1, 1, 1, 0, 0, 0, 0, 0]) 178 = some ([.one 0, .one 1, .one 2, .one 3, .one 4, .one 5, .one 6, .one 7, .one 8, .one 9, .one 10, .one 11, .one 12, .eff [] 13 [], .one 14, .one 15], []) := by kernel_rfl
set_option maxHeartbeats 1000000 in
theorem LPt0 {g : Nat} {c : Nat × Nat → Nat × Nat → Int} (hc : CmpOK call g c) (v : Value) (n0 a : Nat) (d : Array (Nat × Nat)) (h : AH) (hK : AllK d) (hv : Own n0 h v (rA d) 23) (ha : a < d.size) (hd : d.size ≤ 480) (j : Nat) (hj : j < d.size) :
    ∀ (k i : Nat) (tm : PM Value) (N : Nat), j + 1 - i ≤ k → i ≤ 481 → k + 60 ≤ N → tm.get 0 = some v → tm.get 1 = some (iv a) → tm.get 4 = some (fnV g) → tm.get 12 = some (iv i) → tm.get 13 = some (iv j) →
      ∃ tm' h', codeB T0 X0 call N EPt (.loop bodyPt0) tm h [] = .jump (.exit 0) tm' h' [] ∧ (h' = h ∧ tm'.get 0 = some v ∧ tm'.get 1 = some (iv a) ∧ tm'.get 4 = some (fnV g) ∧ tm'.get 13 = some (iv j) ∧ tm'.get 12 = some (iv (scanUp (fun x => ltc c x d[a]!) d j i))) := by
  intro k
  have hp := plan_Pt0
  simp only [regOps, part, Try.f60, sub] at hp
  have stop : ∀ (i : Nat) (tm : PM Value) (N : Nat), 60 ≤ N → ¬ i ≤ j → tm.get 0 = some v → tm.get 1 = some (iv a) → tm.get 4 = some (fnV g) → tm.get 12 = some (iv i) → tm.get 13 = some (iv j) →
      ∃ tm' h', codeB T0 X0 call N EPt (.loop bodyPt0) tm h [] = .jump (.exit 0) tm' h' [] ∧ (h' = h ∧ tm'.get 0 = some v ∧ tm'.get 1 = some (iv a) ∧ tm'.get 4 = some (fnV g) ∧ tm'.get 13 = some (iv j) ∧ tm'.get 12 = some (iv (scanUp (fun x => ltc c x d[a]!) d j i))) := by
    intro i tm N hN hij g0 g1 g4 gi gj
    obtain ⟨N, rfl⟩ : ∃ a, N = a + 30 := ⟨N - 30, by omega⟩
    rw [scanUp, decide_eq_false hij, Bool.false_and, if_neg Bool.false_ne_true]
    apply Exists.intro; apply Exists.intro; apply And.intro
    · rw [codeB_loop]
      simp only [bodyPt0, part, Try.f60, sub, symM, codeB_draw]
      rw [draw_plan hp rfl]
      simp only [drawAll, opFn, Nat.reduceBEq, gi, gj, bin_leq, decide_eq_false (show ¬ (i : Int) ≤ (j : Nat) by omega)]
      rfl
    · exact ⟨rfl, by simp only [symM, Nat.reduceBEq, g0], by simp only [symM, Nat.reduceBEq, g1], by simp only [symM, Nat.reduceBEq, g4], by simp only [symM, Nat.reduceBEq, gj], by simp only [symM, Nat.reduceBEq, gi]⟩
  induction k with
  | zero => intro i tm N hk hi hN g0 g1 g4 gi gj; exact stop i tm N (by omega) (by omega) g0 g1 g4 gi gj
  | succ k ih =>
    intro i tm N hk hi hN g0 g1 g4 gi gj
    by_cases hij : i ≤ j
    · obtain ⟨N, rfl⟩ : ∃ a, N = a + 30 := ⟨N - 30, by omega⟩
      obtain ⟨p, a1, a2⟩ := hv.fetch (i := i) (by omega)
      obtain ⟨q, b1, b2⟩ := hv.fetch ha
      have hrun := hc.run d[i]! d[a]! h (hK _) (hK _)
      cases hlt : ltc c d[i]! d[a]! with
      | true =>
        have hlt2 : decide (c d[i]! d[a]! < 0) = true := hlt
        rw [scanUp, decide_eq_true hij, Bool.true_and]
        simp only [hlt]
        rw [if_pos trivial]
        rw [show N + 30 = (N + 29) + 1 from rfl, codeB_loop]
        simp only [bodyPt0, part, Try.f60, sub, symM, codeB_draw]
        rw [draw_plan hp rfl]
        simp only [drawAll, opFn, Nat.reduceLT, Nat.reduceBEq, g0, g1, g4, gi, gj, bin_leq, decide_eq_true (show (i : Int) ≤ (j : Nat) by omega), a1, a2, b1, b2, hc.en, hrun, bin_lss, hlt2, bin_add, wadd1 (show i ≤ 400000 by omega)]
        refine ih (i + 1) _ (N + 29) (by omega) (by omega) (by omega) ?_ ?_ ?_ get_same ?_ <;> simp only [symM, Nat.reduceBEq, g0, g1, g4, gj]
      | false =>
        have hlt2 : decide (c d[i]! d[a]! < 0) = false := hlt
        rw [scanUp, decide_eq_true hij, Bool.true_and]
        simp only [hlt]
        rw [if_neg Bool.false_ne_true]
        apply Exists.intro; apply Exists.intro; apply And.intro
        · rw [codeB_loop]
          simp only [bodyPt0, part, Try.f60, sub, symM, codeB_draw]
          rw [draw_plan hp rfl]
          simp only [drawAll, opFn, Nat.reduceBEq, g0, g1, g4, gi, gj, bin_leq, decide_eq_true (show (i : Int) ≤ (j : Nat) by omega), a1, a2, b1, b2, hc.en, hrun, bin_lss, hlt2]
          rfl
        · exact ⟨rfl, by simp only [symM, Nat.reduceBEq, g0], by simp only [symM, Nat.reduceBEq, g1], by simp only [symM, Nat.reduceBEq, g4], by simp only [symM, Nat.reduceBEq, gj], by simp only [symM, Nat.reduceBEq, gi]⟩
    · exact stop i tm N (by omega) hij g0 g1 g4 gi gj
noncomputable def bodyPt2 : Code := part Try.f60 [1, 1, 1, 1, 0, 0, 0]
theorem plan_Pt2 : planB (regOps Try.f60 [1, 1, 1, 1, 0, 0, 0, 0, 0]) 178 = some ([.one 0, .one 1, .one 2, .one 3, .one 4, .one 5, .one 6, .one 7, .one 8, .one 9, .one 10, .one 11, .one 12, .eff [] 13 [], .one 14, .one 15, .one 16], []) := by kernel_rfl
set_option maxHeartbeats 1000000 in
theorem LPt2 {g : Nat} {c : Nat × Nat → Nat × Nat → Int} (hc : CmpOK call g c) (v : Value) (n0 a : Nat) (d : Array (Nat × Nat)) (h : AH) (hK : AllK d) (hv : Own n0 h v (rA d) 23) (ha : a < d.size) (hd : d.size ≤ 480) (i : Nat) (hi : 1 ≤ i) :
    ∀ (j : Nat) (tm : PM Value) (N : Nat), j < d.size → j + 60 ≤ N → tm.get 0 = some v → tm.get 1 = some (iv a) → tm.get 4 = some (fnV g) → tm.get 12 = some (iv i) → tm.get 13 = some (iv j) →
      ∃ tm' h', codeB T0 X0 call N EPt (.loop bodyPt2) tm h [] = .jump (.exit 2) tm' h' [] ∧ (h' = h ∧ tm'.get 0 = some v ∧ tm'.get 1 = some (iv a) ∧ tm'.get 4 = some (fnV g) ∧ tm'.get 12 = some (iv i) ∧ tm'.get 13 = some (iv (scanDown (fun x => !ltc c x d[a]!) d i j))) := by
  intro j
  have hp := plan_Pt2
  simp only [regOps, part, Try.f60, sub] at hp
  induction j with
  | zero =>
    intro tm N hj hN g0 g1 g4 gi gj
    obtain ⟨N, rfl⟩ : ∃ a, N = a + 30 := ⟨N - 30, by omega⟩
    rw [scanDown]
    apply Exists.intro; apply Exists.intro; apply And.intro
    · rw [codeB_loop]
      simp only [bodyPt2, part, Try.f60, sub, symM, codeB_draw]
      rw [draw_plan hp rfl]
      simp only [drawAll, opFn, Nat.reduceBEq, gi, gj, bin_leq, decide_eq_false (show ¬ (i : Int) ≤ ((0 : Nat) : Int) by omega)]
      rfl
    · exact ⟨rfl, by simp only [symM, Nat.reduceBEq, g0], by simp only [symM, Nat.reduceBEq, g1], by simp only [symM, Nat.reduceBEq, g4], by simp only [symM, Nat.reduceBEq, gi], by simp only [symM, Nat.reduceBEq, gj]⟩
  | succ j ih =>
    intro tm N hj hN g0 g1 g4 gi gj
    obtain ⟨N, rfl⟩ : ∃ a, N = a + 30 := ⟨N - 30, by omega⟩
    by_cases hij : i ≤ j + 1
    · obtain ⟨p, a1, a2⟩ := hv.fetch (i := j + 1) (by omega)
      obtain ⟨q, b1, b2⟩ := hv.fetch ha
      have hrun := hc.run d[j + 1]! d[a]! h (hK _) (hK _)
      cases hlt : ltc c d[j + 1]! d[a]! with
      | false =>
        have hlt2 : decide (c d[j + 1]! d[a]! < 0) = false := hlt
        rw [scanDown, decide_eq_true hij, Bool.true_and]
        simp only [hlt]
        rw [if_pos (show (!false) = true from rfl)]
        rw [show N + 30 = (N + 29) + 1 from rfl, codeB_loop]
        simp only [bodyPt2, part, Try.f60, sub, symM, codeB_draw]
        rw [draw_plan hp rfl]
        simp only [drawAll, opFn, Nat.reduceLT, Nat.reduceBEq, g0, g1, g4, gi, gj, bin_leq, decide_eq_true (show (i : Int) ≤ ((j + 1 : Nat) : Int) by omega), a1, a2, b1, b2, hc.en, hrun, bin_lss, hlt2, bin_sub, wsub1 (show j ≤ 400000 by omega)]
        refine ih _ (N + 29) (by omega) (by omega) ?_ ?_ ?_ ?_ get_same <;> simp only [symM, Nat.reduceBEq, g0, g1, g4, gi]
      | true =>
        have hlt2 : decide (c d[j + 1]! d[a]! < 0) = true := hlt
        rw [scanDown, decide_eq_true hij, Bool.true_and]
        simp only [hlt]
        rw [if_neg (show ¬ (!true) = true by decide)]
        apply Exists.intro; apply Exists.intro; apply And.intro
        · rw [codeB_loop]
          simp only [bodyPt2, part, Try.f60, sub, symM, codeB_draw]
          rw [draw_plan hp rfl]
          simp only [drawAll, opFn, Nat.reduceBEq, g0, g1, g4, gi, gj, bin_leq, decide_eq_true (show (i : Int) ≤ ((j + 1 : Nat) : Int) by omega), a1, a2, b1, b2, hc.en, hrun, bin_lss, hlt2]
          rfl
        · exact ⟨rfl, by simp only [symM, Nat.reduceBEq, g0], by simp only [symM, Nat.reduceBEq, g1], by simp only [symM, Nat.reduceBEq, g4], by simp only [symM, Nat.reduceBEq, gi], by simp only [symM, Nat.reduceBEq, gj]⟩
    · rw [scanDown, decide_eq_false hij, Bool.false_and, if_neg Bool.false_ne_true]
      apply Exists.intro; apply Exists.intro; apply And.intro
      · rw [codeB_loop]
        simp only [bodyPt2, part, Try.f60, sub, symM, codeB_draw]
        rw [draw_plan hp rfl]
        simp only [drawAll, opFn, Nat.reduceBEq, gi, gj, bin_leq, decide_eq_false (show ¬ (i : Int) ≤ ((j + 1 : Nat) : Int) by omega)]
        rfl
      · exact ⟨rfl, by simp only [symM, Nat.reduceBEq, g0], by simp only [symM, Nat.reduceBEq, g1], by simp only [symM, Nat.reduceBEq, g4], by simp only [symM, Nat.reduceBEq, gi], by simp only [symM, Nat.reduceBEq, gj]⟩
noncomputable def bodyPt6 : Code := part Try.f60 [1, 1, 1, 1, 1, 1, 1, 1, 1, 0, 0, 0, 0, 0, 0, 0]
theorem plan_Pt6 : planB (regOps Try.f60 [1, 1, 1, 1, 1, 1, 1, 1, 1, 0, 0, 0, 0, 0, 0, 0, 0, 0]) 178 = some ([.one 0, .one 1, .one 2, .one 3, .one 4, .one 5, .one 6, .one 7, .one 8, .one 9, .one 10, .one 11, .one 12, .eff [] 13 [], .one 14, .one 15], []) := by kernel_rfl
set_option maxHeartbeats 1000000 in
theorem LPt6 {g : Nat} {c : Nat × Nat → Nat × Nat → Int} (hc : CmpOK call g c) (v : Value) (n0 a : Nat) (d : Array (Nat × Nat)) (h : AH) (hK : AllK d) (hv : Own n0 h v (rA d) 23) (ha : a < d.size) (hd : d.size ≤ 480) (j : Nat) (hj : j < d.size) :
    ∀ (k i : Nat) (tm : PM Value) (N : Nat), j + 1 - i ≤ k → i ≤ 481 → k + 60 ≤ N → tm.get 0 = some v → tm.get 1 = some (iv a) → tm.get 4 = some (fnV g) → tm.get 12 = some (iv i) → tm.get 13 = some (iv j) →
      ∃ tm' h', codeB T0 X0 call N EPt (.loop bodyPt6) tm h [] = .jump (.exit 6) tm' h' [] ∧ (h' = h ∧ tm'.get 0 = some v ∧ tm'.get 1 = some (iv a) ∧ tm'.get 4 = some (fnV g) ∧ tm'.get 13 = some (iv j) ∧ tm'.get 12 = some (iv (scanUp (fun x => ltc c x d[a]!) d j i))) := by
  intro k
  have hp := plan_Pt6
  simp only [regOps, part, Try.f60, sub] at hp
  have stop : ∀ (i : Nat) (tm : PM Value) (N : Nat), 60 ≤ N → ¬ i ≤ j → tm.get 0 = some v → tm.get 1 = some (iv a) → tm.get 4 = some (fnV g) → tm.get 12 = some (iv i) → tm.get 13 = some (iv j) →
      ∃ tm' h', codeB T0 X0 call N EPt (.loop bodyPt6) tm h [] = .jump (.exit 6) tm' h' [] ∧ (h' = h ∧ tm'.get 0 = some v ∧ tm'.get 1 = some (iv a) ∧ tm'.get 4 = some (fnV g) ∧ tm'.get 13 = some (iv j) ∧ tm'.get 12 = some (iv (scanUp (fun x => ltc c x d[a]!) d j i))) := by
    intro i tm N hN hij g0 g1 g4 gi gj
    obtain ⟨N, rfl⟩ : ∃ a, N = a + 30 := ⟨N - 30, by omega⟩
    rw [scanUp, decide_eq_false hij, Bool.false_and, if_neg Bool.false_ne_true]
    apply Exists.intro; apply Exists.intro; apply And.intro
    · rw [codeB_loop]
      simp only [bodyPt6, part, Try.f60, sub, symM, codeB_draw]
      rw [draw_plan hp rfl]
      simp only [drawAll, opFn, Nat.reduceBEq, gi, gj, bin_leq, decide_eq_false (show ¬ (i : Int) ≤ (j : Nat) by omega)]
      rfl
    · exact ⟨rfl, by simp only [symM, Nat.reduceBEq, g0], by simp only [symM, Nat.reduceBEq, g1], by simp only [symM, Nat.reduceBEq, g4], by simp only [symM, Nat.reduceBEq, gj], by simp only [symM, Nat.reduceBEq, gi]⟩
  induction k with
  | zero => intro i tm N hk hi hN g0 g1 g4 gi gj; exact stop i tm N (by omega) (by omega) g0 g1 g4 gi gj
  | succ k ih =>
    intro i tm N hk hi hN g0 g1 g4 gi gj
    by_cases hij : i ≤ j
    · obtain ⟨N, rfl⟩ : ∃ a, N = a + 30 := ⟨N - 30, by omega⟩
      obtain ⟨p, a1, a2⟩ := hv.fetch (i := i) (by omega)
      obtain ⟨q, b1, b2⟩ := hv.fetch ha
      have hrun := hc.run d[i]! d[a]! h (hK _) (hK _)
      cases hlt : ltc c d[i]! d[a]! with
      | true =>
        have hlt2 : decide (c d[i]! d[a]! < 0) = true := hlt
        rw [scanUp, decide_eq_true hij, Bool.true_and]
        simp only [hlt]
        rw [if_pos trivial]
        rw [show N + 30 = (N + 29) + 1 from rfl, codeB_loop]
        simp only [bodyPt6, part, Try.f60, sub, symM, codeB_draw]
        rw [draw_plan hp rfl]
        simp only [drawAll, opFn, Nat.reduceLT, Nat.reduceBEq, g0, g1, g4, gi, gj, bin_leq, decide_eq_true (show (i : Int) ≤ (j : Nat) by omega), a1, a2, b1, b2, hc.en, hrun, bin_lss, hlt2, bin_add, wadd1 (show i ≤ 400000 by omega)]
        refine ih (i + 1) _ (N + 29) (by omega) (by omega) (by omega) ?_ ?_ ?_ get_same ?_ <;> simp only [symM, Nat.reduceBEq, g0, g1, g4, gj]
      | false =>
        have hlt2 : decide (c d[i]! d[a]! < 0) = false := hlt
        rw [scanUp, decide_eq_true hij, Bool.true_and]
        simp only [hlt]
        rw [if_neg Bool.false_ne_true]
        apply Exists.intro; apply Exists.intro; apply And.intro
        · rw [codeB_loop]
          simp only [bodyPt6, part, Try.f60, sub, symM, codeB_draw]
          rw [draw_plan hp rfl]
          simp only [drawAll, opFn, Nat.reduceBEq, g0, g1, g4, gi, gj, bin_leq, decide_eq_true (show (i : Int) ≤ (j : Nat) by omega), a1, a2, b1, b2, hc.en, hrun, bin_lss, hlt2]
          rfl
        · exact ⟨rfl, by simp only [symM, Nat.reduceBEq, g0], by simp only [symM, Nat.reduceBEq, g1], by simp only [symM, Nat.reduceBEq, g4], by simp only [symM, Nat.reduceBEq, gj], by simp only [symM, Nat.reduceBEq, gi]⟩
    · exact stop i tm N (by omega) hij g0 g1 g4 gi gj
noncomputable def bodyPt8 : Code := part Try.f60 [1, 1, 1, 1, 1, 1, 1, 1, 1, 0, 0, 0, 0, 1, 0, 0, 0]
theorem plan_Pt8 : planB (regOps Try.f60 [1, 1, 1, 1, 1, 1, 1, 1, 1, 0, 0, 0, 0, 1, 0, 0, 0, 0, 0]) 178 = some ([.one 0, .one 1, .one 2, .one 3, .one 4, .one 5, .one 6, .one 7, .one 8, .one 9, .one 10, .one 11, .one 12, .eff [] 13 [], .one 14, .one 15, .one 16], []) := by kernel_rfl
set_option maxHeartbeats 1000000 in
theorem LPt8 {g : Nat} {c : Nat × Nat → Nat × Nat → Int} (hc : CmpOK call g c) (v : Value) (n0 a : Nat) (d : Array (Nat × Nat)) (h : AH) (hK : AllK d) (hv : Own n0 h v (rA d) 23) (ha : a < d.size) (hd : d.size ≤ 480) (i : Nat) (hi : 1 ≤ i) :
    ∀ (j : Nat) (tm : PM Value) (N : Nat), j < d.size → j + 60 ≤ N → tm.get 0 = some v → tm.get 1 = some (iv a) → tm.get 4 = some (fnV g) → tm.get 12 = some (iv i) → tm.get 13 = some (iv j) →
      ∃ tm' h', codeB T0 X0 call N EPt (.loop bodyPt8) tm h [] = .jump (.exit 8) tm' h' [] ∧ (h' = h ∧ tm'.get 0 = some v ∧ tm'.get 1 = some (iv a) ∧ tm'.get 4 = some (fnV g) ∧ tm'.get 12 = some (iv i) ∧ tm'.get 13 = some (iv (scanDown (fun x => !ltc c x d[a]!) d i j))) := by
  intro j
  have hp := plan_Pt8
  simp only [regOps, part, Try.f60, sub] at hp
  induction j with
  | zero =>
    intro tm N hj hN g0 g1 g4 gi gj
    obtain ⟨N, rfl⟩ : ∃ a, N = a + 30 := ⟨N - 30, by omega⟩
    rw [scanDown]
    apply Exists.intro; apply Exists.intro; apply And.intro
    · rw [codeB_loop]
      simp only [bodyPt8, part, Try.f60, sub, symM, codeB_draw]
      rw [draw_plan hp rfl]
      simp only [drawAll, opFn, Nat.reduceBEq, gi, gj, bin_leq, decide_eq_false (show ¬ (i : Int) ≤ ((0 : Nat) : Int) by omega)]
      rfl
    · exact ⟨rfl, by simp only [symM, Nat.reduceBEq, g0], by simp only [symM, Nat.reduceBEq, g1], by simp only [symM, Nat.reduceBEq, g4], by simp only [symM, Nat.reduceBEq, gi], by simp only [symM, Nat.reduceBEq, gj]⟩
  | succ j ih =>
    intro tm N hj hN g0 g1 g4 gi gj
    obtain ⟨N, rfl⟩ : ∃ a, N = a + 30 := ⟨N - 30, by omega⟩
    by_cases hij : i ≤ j + 1
    · obtain ⟨p, a1, a2⟩ := hv.fetch (i := j + 1) (by omega)
      obtain ⟨q, b1, b2⟩ := hv.fetch ha
      have hrun := hc.run d[j + 1]! d[a]! h (hK _) (hK _)
      cases hlt : ltc c d[j + 1]! d[a]! with
      | false =>
        have hlt2 : decide (c d[j + 1]! d[a]! < 0) = false := hlt
        rw [scanDown, decide_eq_true hij, Bool.true_and]
        simp only [hlt]
        rw [if_pos (show (!false) = true from rfl)]
        rw [show N + 30 = (N + 29) + 1 from rfl, codeB_loop]
        simp only [bodyPt8, part, Try.f60, sub, symM, codeB_draw]
        rw [draw_plan hp rfl]
        simp only [drawAll, opFn, Nat.reduceLT, Nat.reduceBEq, g0, g1, g4, gi, gj, bin_leq, decide_eq_true (show (i : Int) ≤ ((j + 1 : Nat) : Int) by omega), a1, a2, b1, b2, hc.en, hrun, bin_lss, hlt2, bin_sub, wsub1 (show j ≤ 400000 by omega)]
        refine ih _ (N + 29) (by omega) (by omega) ?_ ?_ ?_ ?_ get_same <;> simp only [symM, Nat.reduceBEq, g0, g1, g4, gi]
      | true =>
        have hlt2 : decide (c d[j + 1]! d[a]! < 0) = true := hlt
        rw [scanDown, decide_eq_true hij, Bool.true_and]
        simp only [hlt]
        rw [if_neg (show ¬ (!true) = true by decide)]
        apply Exists.intro; apply Exists.intro; apply And.intro
        · rw [codeB_loop]
          simp only [bodyPt8, part, Try.f60, sub, symM, codeB_draw]
          rw [draw_plan hp rfl]
          simp only [drawAll, opFn, Nat.reduceBEq, g0, g1, g4, gi, gj, bin_leq, decide_eq_true (show (i : Int) ≤ ((j + 1 : Nat) : Int) by omega), a1, a2, b1, b2, hc.en, hrun, bin_lss, hlt2]
          rfl
        · exact ⟨rfl, by simp only [symM, Nat.reduceBEq, g0], by simp only [symM, Nat.reduceBEq, g1], by simp only [symM, Nat.reduceBEq, g4], by simp only [symM, Nat.reduceBEq, gi], by simp only [symM, Nat.reduceBEq, gj]⟩
    · rw [scanDown, decide_eq_false hij, Bool.false_and, if_neg Bool.false_ne_true]
      apply Exists.intro; apply Exists.intro; apply And.intro
      · rw [codeB_loop]
        simp only [bodyPt8, part, Try.f60, sub, symM, codeB_draw]
        rw [draw_plan hp rfl]
        simp only [drawAll, opFn, Nat.reduceBEq, gi, gj, bin_leq, decide_eq_false (show ¬ (i : Int) ≤ ((j + 1 : Nat) : Int) by omega)]
        rfl
      · exact ⟨rfl, by simp only [symM, Nat.reduceBEq, g0], by simp only [symM, Nat.reduceBEq, g1], by simp only [symM, Nat.reduceBEq, g4], by simp only [symM, Nat.reduceBEq, gi], by simp only [symM, Nat.reduceBEq, gj]⟩
noncomputable def bodyPe2 : Code := part Try.f59 [1, 1, 1, 0, 0, 0, 0, 0, 0, 0]
theorem plan_Pe2 : planB (regOps Try.f59 [1, 1, 1, 0, 0, 0, 0, 0, 0, 0, 0, 0]) 90 = some ([.one 0, .one 1, .one 2, .one 3, .one 4, .one 5, .one 6, .one 7, .one 8, .one 9, .one 10, .one 11, .one 12, .eff [] 13 [], .one 14, .one 15, .one 16], []) := by kernel_rfl
set_option maxHeartbeats 1000000 in
theorem LPe2 {g : Nat} {c : Nat × Nat → Nat × Nat → Int} (hc : CmpOK call g c) (v : Value) (n0 a : Nat) (d : Array (Nat × Nat)) (h : AH) (hK : AllK d) (hv : Own n0 h v (rA d) 23) (ha : a < d.size) (hd : d.size ≤ 480) (j : Nat) (hj : j < d.size) :
    ∀ (k i : Nat) (tm : PM Value) (N : Nat), j + 1 - i ≤ k → i ≤ 481 → k + 60 ≤ N → tm.get 0 = some v → tm.get 1 = some (iv a) → tm.get 4 = some (fnV g) → tm.get 11 = some (iv i) → tm.get 12 = some (iv j) →
      ∃ tm' h', codeB T0 X0 call N EPe (.loop bodyPe2) tm h [] = .jump (.exit 2) tm' h' [] ∧ (h' = h ∧ tm'.get 0 = some v ∧ tm'.get 1 = some (iv a) ∧ tm'.get 4 = some (fnV g) ∧ tm'.get 12 = some (iv j) ∧ tm'.get 11 = some (iv (scanUp (fun x => !ltc c d[a]! x) d j i))) := by
  intro k
  have hp := plan_Pe2
  simp only [regOps, part, Try.f59, sub] at hp
  have stop : ∀ (i : Nat) (tm : PM Value) (N : Nat), 60 ≤ N → ¬ i ≤ j → tm.get 0 = some v → tm.get 1 = some (iv a) → tm.get 4 = some (fnV g) → tm.get 11 = some (iv i) → tm.get 12 = some (iv j) →
      ∃ tm' h', codeB T0 X0 call N EPe (.loop bodyPe2) tm h [] = .jump (.exit 2) tm' h' [] ∧ (h' = h ∧ tm'.get 0 = some v ∧ tm'.get 1 = some (iv a) ∧ tm'.get 4 = some (fnV g) ∧ tm'.get 12 = some (iv j) ∧ tm'.get 11 = some (iv (scanUp (fun x => !ltc c d[a]! x) d j i))) := by
    intro i tm N hN hij g0 g1 g4 gi gj
    obtain ⟨N, rfl⟩ : ∃ a, N = a + 30 := ⟨N - 30, by omega⟩
    rw [scanUp, decide_eq_false hij, Bool.false_and, if_neg Bool.false_ne_true]
    apply Exists.intro; apply Exists.intro; apply And.intro
    · rw [codeB_loop]
      simp only [bodyPe2, part, Try.f59, sub, symM, codeB_draw]
      rw [draw_plan hp rfl]
      simp only [drawAll, opFn, Nat.reduceBEq, gi, gj, bin_leq, decide_eq_false (show ¬ (i : Int) ≤ (j : Nat) by omega)]
      rfl
    · exact ⟨rfl, by simp only [symM, Nat.reduceBEq, g0], by simp only [symM, Nat.reduceBEq, g1], by simp only [symM, Nat.reduceBEq, g4], by simp only [symM, Nat.reduceBEq, gj], by simp only [symM, Nat.reduceBEq, gi]⟩
  induction k with
  | zero => intro i tm N hk hi hN g0 g1 g4 gi gj; exact stop i tm N (by omega) (by omega) g0 g1 g4 gi gj
  | succ k ih =>
    intro i tm N hk hi hN g0 g1 g4 gi gj
    by_cases hij : i ≤ j
    · obtain ⟨N, rfl⟩ : ∃ a, N = a + 30 := ⟨N - 30, by omega⟩
      obtain ⟨p, a1, a2⟩ := hv.fetch (i := i) (by omega)
      obtain ⟨q, b1, b2⟩ := hv.fetch ha
      have hrun := hc.run d[a]! d[i]! h (hK _) (hK _)
      cases hlt : ltc c d[a]! d[i]! with
      | false =>
        have hlt2 : decide (c d[a]! d[i]! < 0) = false := hlt
        rw [scanUp, decide_eq_true hij, Bool.true_and]
        simp only [hlt]
        rw [if_pos (show (!false) = true from rfl)]
        rw [show N + 30 = (N + 29) + 1 from rfl, codeB_loop]
        simp only [bodyPe2, part, Try.f59, sub, symM, codeB_draw]
        rw [draw_plan hp rfl]
        simp only [drawAll, opFn, Nat.reduceLT, Nat.reduceBEq, g0, g1, g4, gi, gj, bin_leq, decide_eq_true (show (i : Int) ≤ (j : Nat) by omega), a1, a2, b1, b2, hc.en, hrun, bin_lss, hlt2, bin_add, wadd1 (show i ≤ 400000 by omega)]
        refine ih (i + 1) _ (N + 29) (by omega) (by omega) (by omega) ?_ ?_ ?_ get_same ?_ <;> simp only [symM, Nat.reduceBEq, g0, g1, g4, gj]
      | true =>
        have hlt2 : decide (c d[a]! d[i]! < 0) = true := hlt
        rw [scanUp, decide_eq_true hij, Bool.true_and]
        simp only [hlt]
        rw [if_neg (show ¬ (!true) = true by decide)]
        apply Exists.intro; apply Exists.intro; apply And.intro
        · rw [codeB_loop]
          simp only [bodyPe2, part, Try.f59, sub, symM, codeB_draw]
          rw [draw_plan hp rfl]
          simp only [drawAll, opFn, Nat.reduceBEq, g0, g1, g4, gi, gj, bin_leq, decide_eq_true (show (i : Int) ≤ (j : Nat) by omega), a1, a2, b1, b2, hc.en, hrun, bin_lss, hlt2]
          rfl
        · exact ⟨rfl, by simp only [symM, Nat.reduceBEq, g0], by simp only [symM, Nat.reduceBEq, g1], by simp only [symM, Nat.reduceBEq, g4], by simp only [symM, Nat.reduceBEq, gj], by simp only [symM, Nat.reduceBEq, gi]⟩
    · exact stop i tm N (by omega) hij g0 g1 g4 gi gj
noncomputable def bodyPe4 : Code := part Try.f59 [1, 1, 1, 0, 0, 0, 0, 1, 0, 0, 0]
theorem plan_Pe4 : planB (regOps Try.f59 [1, 1, 1, 0, 0, 0, 0, 1, 0, 0, 0, 0, 0]) 90 = some ([.one 0, .one 1, .one 2, .one 3, .one 4, .one 5, .one 6, .one 7, .one 8, .one 9, .one 10, .one 11, .one 12, .eff [] 13 [], .one 14, .one 15], []) := by kernel_rfl
set_option maxHeartbeats 1000000 in
theorem LPe4 {g : Nat} {c : Nat × Nat → Nat × Nat → Int} (hc : CmpOK call g c) (v : Value) (n0 a : Nat) (d : Array (Nat × Nat)) (h : AH) (hK : AllK d) (hv : Own n0 h v (rA d) 23) (ha : a < d.size) (hd : d.size ≤ 480) (i : Nat) (hi : 1 ≤ i) :
    ∀ (j : Nat) (tm : PM Value) (N : Nat), j < d.size → j + 60 ≤ N → tm.get 0 = some v → tm.get 1 = some (iv a) → tm.get 4 = some (fnV g) → tm.get 11 = some (iv i) → tm.get 12 = some (iv j) →
      ∃ tm' h', codeB T0 X0 call N EPe (.loop bodyPe4) tm h [] = .jump (.exit 4) tm' h' [] ∧ (h' = h ∧ tm'.get 0 = some v ∧ tm'.get 1 = some (iv a) ∧ tm'.get 4 = some (fnV g) ∧ tm'.get 11 = some (iv i) ∧ tm'.get 12 = some (iv (scanDown (fun x => ltc c d[a]! x) d i j))) := by
  intro j
  have hp := plan_Pe4
  simp only [regOps, part, Try.f59, sub] at hp
  induction j with
  | zero =>
    intro tm N hj hN g0 g1 g4 gi gj
    obtain ⟨N, rfl⟩ : ∃ a, N = a + 30 := ⟨N - 30, by omega⟩
    rw [scanDown]
    apply Exists.intro; apply Exists.intro; apply And.intro
    · rw [codeB_loop]
      simp only [bodyPe4, part, Try.f59, sub, symM, codeB_draw]
      rw [draw_plan hp rfl]
      simp only [drawAll, opFn, Nat.reduceBEq, gi, gj, bin_leq, decide_eq_false (show ¬ (i : Int) ≤ ((0 : Nat) : Int) by omega)]
      rfl
    · exact ⟨rfl, by simp only [symM, Nat.reduceBEq, g0], by simp only [symM, Nat.reduceBEq, g1], by simp only [symM, Nat.reduceBEq, g4], by simp only [symM, Nat.reduceBEq, gi], by simp only [symM, Nat.reduceBEq, gj]⟩
  | succ j ih =>
    intro tm N hj hN g0 g1 g4 gi gj
    obtain ⟨N, rfl⟩ : ∃ a, N = a + 30 := ⟨N - 30, by omega⟩
    by_cases hij : i ≤ j + 1
    · obtain ⟨p, a1, a2⟩ := hv.fetch (i := j + 1) (by omega)
      obtain ⟨q, b1, b2⟩ := hv.fetch ha
      have hrun := hc.run d[a]! d[j + 1]! h (hK _) (hK _)
      cases hlt : ltc c d[a]! d[j + 1]! with
      | true =>
        have hlt2 : decide (c d[a]! d[j + 1]! < 0) = true := hlt
        rw [scanDown, decide_eq_true hij, Bool.true_and]
        simp only [hlt]
        rw [if_pos trivial]
        rw [show N + 30 = (N + 29) + 1 from rfl, codeB_loop]
        simp only [bodyPe4, part, Try.f59, sub, symM, codeB_draw]
        rw [draw_plan hp rfl]
        simp only [drawAll, opFn, Nat.reduceLT, Nat.reduceBEq, g0, g1, g4, gi, gj, bin_leq, decide_eq_true (show (i : Int) ≤ ((j + 1 : Nat) : Int) by omega), a1, a2, b1, b2, hc.en, hrun, bin_lss, hlt2, bin_sub, wsub1 (show j ≤ 400000 by omega)]
        refine ih _ (N + 29) (by omega) (by omega) ?_ ?_ ?_ ?_ get_same <;> simp only [symM, Nat.reduceBEq, g0, g1, g4, gi]
      | false =>
        have hlt2 : decide (c d[a]! d[j + 1]! < 0) = false := hlt
        rw [scanDown, decide_eq_true hij, Bool.true_and]
        simp only [hlt]
        rw [if_neg Bool.false_ne_true]
        apply Exists.intro; apply Exists.intro; apply And.intro
        · rw [codeB_loop]
          simp only [bodyPe4, part, Try.f59, sub, symM, codeB_draw]
          rw [draw_plan hp rfl]
          simp only [drawAll, opFn, Nat.reduceBEq, g0, g1, g4, gi, gj, bin_leq, decide_eq_true (show (i : Int) ≤ ((j + 1 : Nat) : Int) by omega), a1, a2, b1, b2, hc.en, hrun, bin_lss, hlt2]
          rfl
        · exact ⟨rfl, by simp only [symM, Nat.reduceBEq, g0], by simp only [symM, Nat.reduceBEq, g1], by simp only [symM, Nat.reduceBEq, g4], by simp only [symM, Nat.reduceBEq, gi], by simp only [symM, Nat.reduceBEq, gj]⟩
    · rw [scanDown, decide_eq_false hij, Bool.false_and, if_neg Bool.false_ne_true]
      apply Exists.intro; apply Exists.intro; apply And.intro
      · rw [codeB_loop]
        simp only [bodyPe4, part, Try.f59, sub, symM, codeB_draw]
        rw [draw_plan hp rfl]
        simp only [drawAll, opFn, Nat.reduceBEq, gi, gj, bin_leq, decide_eq_false (show ¬ (i : Int) ≤ ((j + 1 : Nat) : Int) by omega)]
        rfl
      · exact ⟨rfl, by simp only [symM, Nat.reduceBEq, g0], by simp only [symM, Nat.reduceBEq, g1], by simp only [symM, Nat.reduceBEq, g4], by simp only [symM, Nat.reduceBEq, gi], by simp only [symM, Nat.reduceBEq, gj]⟩
end
end Go.Proofs.Ytcpihpjphdlmfaa.Abs
