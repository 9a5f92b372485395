/- The reference's numbers and runs, for every memory. -/
import Derived.Test.YtcpihpjphdlmfaaGaps
namespace Go.Proofs.Ytcpihpjphdlmfaa.Abs
open Go Go.Proofs
noncomputable section
theorem ft47 : T0.ft.get 47 = some Try.f47 := by kernel_rfl
theorem ft38 : T0.ft.get 38 = some Try.f38 := by kernel_rfl
theorem ft18 : T0.ft.get 18 = some Try.f18 := by kernel_rfl
theorem ft42 : T0.ft.get 42 = some Try.f42 := by kernel_rfl
theorem ft26 : T0.ft.get 26 = some Try.f26 := by kernel_rfl
theorem ft27 : T0.ft.get 27 = some Try.f27 := by kernel_rfl
theorem ft37 : T0.ft.get 37 = some Try.f37 := by kernel_rfl
variable {call : Abs.Callee}
set_option maxRecDepth 10000
theorem zd_m1m : zd (-1048576) = 13920626448202203136 := by decide
theorem rpart_S (x : Nat) (hx : x ≤ 1048576) (h : AH) : frameB T0 X0 call 3000 47 [fl x] h = some (.tuple #[iv x, .bool true], h) := by
  have zx : zok (x : Int) = true := zok_k (by omega)
  have hge : ∀ p q, evBin T0 .geq 38 p q (fl x) (.float .f64 13920626448202203136) h = some (.bool true) := fun p q => by
    rw [← zd_m1m, f_geq zx (by decide), decide_eq_true (by omega)]
  have hle : ∀ p q, evBin T0 .leq 38 p q (fl x) (.float .f64 4697254411347427328) h = some (.bool true) := fun p q => by
    rw [← zd_1m, f_leq zx (by decide), decide_eq_true (by omega)]
  have heq : ∀ p q, evBin T0 .eql 38 p q (fl x) (fl x) h = some (.bool true) := fun p q => by rw [f_eql zx zx, decide_eq_true rfl]
  rw [frameB_eq ft47 rfl rfl]
  simp only [Try.f47, symM, opFn, Nat.reduceLT, Nat.reduceBEq, hge, hle, heq, conv_f2i und_f64 und_int zx (i64_range hx), conv_i2f und_int und_f64 zx]
  exact retB_two ft47 rfl (by simp only [symM, Nat.reduceBEq]) get_same
abbrev zv (x y : Int) : Value := .agg #[iv x, iv y]
theorem alloc_Z {h : AH} : evAlloc T0 53 h = some (.pointer (some ⟨h.next, 0, none⟩), h.new (.cells (PM.ofList [iv 0, iv 0]) 2 53 0 0 .ex)) := by
  unfold evAlloc
  rw [show zeroOf T0 53 = some (zv 0 0) from by kernel_rfl]
  rfl
theorem build_Z {x y : Int} {h : AH} : evBuild T0 53 [(0, iv x), (1, iv y)] h = some (zv x y, h) := by kernel_rfl
/-- A pair of numbers in a cell. -/
def BoxZ (h : AH) (b : Nat) (x y : Int) : Prop := ∃ c, h.get b = some (.cells c 2 53 0 0 .ex) ∧ c.get 0 = some (iv x) ∧ c.get 1 = some (iv y)
theorem sz_Z : szOf T0 53 = some 2 := by kernel_rfl
theorem agg_Z : aggT T0 53 = some true := by kernel_rfl
theorem BoxZ.new (h : AH) (x y : Int) : BoxZ (h.new (.cells (PM.ofList [iv x, iv y]) 2 53 0 0 .ex)) h.next x y := ⟨_, get_new_same _ _, by rw [PM.get_ofList]; rfl, by rw [PM.get_ofList]; rfl⟩
theorem BoxZ.grow {n : Nat} {h h' : AH} {b : Nat} {x y : Int} (hb : BoxZ h b x y) (g : Grow n h h') (hn : b < n) : BoxZ h' b x y := by
  obtain ⟨c, h1, h2⟩ := hb
  exact ⟨c, (g.keep b hn).trans h1, h2⟩
theorem BoxZ.store {h : AH} {b : Nat} {x y u v : Int} {n : Nat} (hb : BoxZ h b x y) (hn : n ≤ b) : ∃ h', evStore T0 53 (.pointer (some ⟨b, 0, none⟩)) (zv u v) h = some h' ∧ BoxZ h' b u v ∧ Grow n h h' ∧ h'.next = h.next := by
  obtain ⟨c, h1, h2, h3⟩ := hb
  refine ⟨h.set b (.cells (storeN c 0 [iv u, iv v]) 2 53 0 0 .ex), ?_, ⟨_, by rw [AH.get_set, if_pos rfl], ?_, ?_⟩, Grow.set h _ hn, rfl⟩
  · simp only [evStore, storeVarA, sz_Z]
    show ifB (Nat.beq 2 2) (storeRow b 0 [iv u, iv v] h) none = _
    rw [show Nat.beq 2 2 = true from rfl, ifB_true]
    simp only [storeRow, h1]
    rfl
  · rw [storeN_get]; rfl
  · rw [storeN_get]; rfl
theorem BoxZ.load {h : AH} {b : Nat} {x y : Int} (hb : BoxZ h b x y) : evLoad T0 53 (.pointer (some ⟨b, 0, none⟩)) h = some (zv x y) := by
  obtain ⟨c, h1, h2, h3⟩ := hb
  simp only [evLoad, loadVarA, agg_Z, sz_Z]
  have : loadRow h b 0 2 = some [iv x, iv y] := loadRow_of (l := [iv x, iv y]) h1 (by simp) (fun i v hi => by
    match i with
    | 0 => simp at hi; subst hi; exact h2
    | 1 => simp at hi; subst hi; exact h3
    | i + 2 => simp at hi)
  rw [this]
theorem field_Z0 {b : Nat} : evFieldAddr T0 53 (.pointer (some ⟨b, 0, none⟩)) 0 = some (.pointer (some ⟨b, 0, none⟩)) := by kernel_rfl
theorem field_Z1 {b : Nat} : evFieldAddr T0 53 (.pointer (some ⟨b, 0, none⟩)) 1 = some (.pointer (some ⟨b, 1, none⟩)) := by kernel_rfl
theorem BoxZ.load0 {h : AH} {b : Nat} {x y : Int} (hb : BoxZ h b x y) : evLoad T0 3 (.pointer (some ⟨b, 0, none⟩)) h = some (iv x) := by
  obtain ⟨c, h1, h2, h3⟩ := hb
  exact load_one agg_int h1 (by omega) h2
theorem BoxZ.load1 {h : AH} {b : Nat} {x y : Int} (hb : BoxZ h b x y) : evLoad T0 3 (.pointer (some ⟨b, 1, none⟩)) h = some (iv y) := by
  obtain ⟨c, h1, h2, h3⟩ := hb
  exact load_one agg_int h1 (by omega) h3
theorem rOf_S (hp : ∀ (x : Nat) h, x ≤ 1048576 → call 47 [fl x] h = some (.tuple #[iv x, .bool true], h)) (x y : Nat) (hx : x ≤ 1048576) (hy : y ≤ 1048576) (h : AH) :
    ∃ h', frameB T0 X0 call 3000 38 [cx x y] h = some (.tuple #[zv x y, .bool true], h') ∧ Grow h.next h h' := by
  generalize hh1 : h.new (.cells (PM.ofList [iv 0, iv 0]) 2 53 0 0 .ex) = h1
  have g1 : Grow h.next h h1 := by rw [← hh1]; exact Grow.new _ _
  have hb1 : BoxZ h1 h.next 0 0 := by rw [← hh1]; exact BoxZ.new _ _ _
  obtain ⟨h2, s1, s2, s3, s4⟩ := hb1.store (u := x) (v := y) (n := h.next) (Nat.le_refl _)
  refine ⟨h2, ?_, g1.trans s3 (Nat.le_refl _)⟩
  rw [frameB_eq ft38 rfl rfl]
  simp only [Try.f38, symM, opFn, Nat.reduceLT, Nat.reduceBEq, alloc_Z, hh1, evCall_fn ft47 rfl, hp x _ hx, hp y _ hy, build_Z, s1]
  exact retB_cell1 ft38 rfl (by simp only [symM, Nat.reduceBEq]) s2.load get_same
theorem plan_Parts : planB (part Try.f18 [1, 1, 0] |> fun | .region _ ops _ => ops | _ => #[]) 35 = some ([.one 0, .one 1, .one 2, .one 3, .one 4, .one 5, .one 6, .one 7, .one 8, .one 9, .one 10, .one 11, .one 12, .one 13, .one 14, .one 15, .one 16, .one 17, .one 18, .one 19, .one 20, .one 21, .one 22, .one 23, .one 24, .one 25], []) := by kernel_rfl
theorem rParts_S (x y : Nat) (h : AH) (hO : ∃ h', call 38 [cx x y] h = some (.tuple #[zv x y, .bool true], h') ∧ Grow h.next h h') (hx : x ≤ 1048576) (hy : y ≤ 1048576) :
    ∃ h', frameB T0 X0 call 3000 18 [cx x y] h = some (.tuple #[iv x, iv y, .bool (runOK x y)], h') ∧ Grow h.next h h' := by
  obtain ⟨h1, e1, g1⟩ := hO
  generalize hh2 : h1.new (.cells (PM.ofList [iv 0, iv 0]) 2 53 0 0 .ex) = h2
  have g2 : Grow h1.next h1 h2 := by rw [← hh2]; exact Grow.new _ _
  have hb2 : BoxZ h2 h1.next 0 0 := by rw [← hh2]; exact BoxZ.new _ _ _
  obtain ⟨h3, s1, s2, s3, s4⟩ := hb2.store (u := x) (v := y) (n := h1.next) (Nat.le_refl _)
  refine ⟨h3, ?_, g1.trans (g2.trans s3 (Nat.le_refl _)) g1.next⟩
  have hw : IntKind.i64.wrap ((x : Int) + y) = ((x + y : Nat) : Int) := by rw [IntWalk.i64_in _ (by omega)]; simp
  have hp := plan_Parts
  simp only [part, Try.f18, sub] at hp
  rw [frameB_eq ft18 rfl rfl]
  unfold runOK
  by_cases h1y : 1 ≤ y
  · have k1 : decide ((1 : Int) ≤ y) = true := decide_eq_true (by omega)
    have k3 : decide (((x + y : Nat) : Int) ≤ 480) = decide (1 ≤ y ∧ x + y ≤ 480) := decide_eq_decide.2 (by omega)
    simp only [Try.f18, symM, opFn, Nat.reduceLT, Nat.reduceBEq, alloc_Z, evCall_fn ft38 rfl, e1, hh2, s1, codeB_draw]
    rw [draw_plan hp rfl]
    simp only [drawAll, opFn, Nat.reduceLT, Nat.reduceBEq, field_Z0, field_Z1, s2.load0, s2.load1, bin_geq, decide_eq_true (show (0 : Int) ≤ x by omega), k1, bin_add, hw, bin_leq, k3]
    exact retB_three ft18 rfl (by simp only [symM, Nat.reduceBEq]) (by simp only [symM, Nat.reduceBEq]) get_same
  · have k1 : decide ((1 : Int) ≤ y) = false := decide_eq_false (by omega)
    have k3 : decide (1 ≤ y ∧ x + y ≤ 480) = false := decide_eq_false (by omega)
    rw [k3]
    simp only [Try.f18, symM, opFn, Nat.reduceLT, Nat.reduceBEq, alloc_Z, evCall_fn ft38 rfl, e1, hh2, s1, codeB_draw]
    rw [draw_plan hp rfl]
    simp only [drawAll, opFn, Nat.reduceLT, Nat.reduceBEq, field_Z0, field_Z1, s2.load0, s2.load1, bin_geq, decide_eq_true (show (0 : Int) ≤ x by omega), k1]
    exact retB_three ft18 rfl (by simp only [symM, Nat.reduceBEq]) (by simp only [symM, Nat.reduceBEq]) get_same
/-- The run of a first block and so many. -/
theorem rRun_S (x y : Int) (hx : zok x = true) (hy : zok y = true) (h : AH) : frameB T0 X0 call 3000 42 [iv x, iv y] h = some (make1V x y, h) := by
  rw [frameB_eq ft42 rfl rfl]
  unfold make1V
  by_cases h0 : y ≤ 0
  · simp only [Try.f42, symM, opFn, Nat.reduceLT, Nat.reduceBEq, bin_leq, decide_eq_true h0, if_pos h0]
    exact retB_one ft42 rfl get_same
  · simp only [Try.f42, symM, opFn, Nat.reduceLT, Nat.reduceBEq, bin_leq, decide_eq_false h0, if_neg h0, conv_i2f und_int und_f64 hx, conv_i2f und_int und_f64 hy]
    exact retB_one ft42 rfl get_same
theorem rsize_S (x y : Nat) (h : AH) (hP : ∃ h', call 18 [cx x y] h = some (.tuple #[iv x, iv y, .bool (runOK x y)], h') ∧ Grow h.next h h') :
    ∃ h', frameB T0 X0 call 3000 26 [cx x y] h = some (iv y, h') ∧ Grow h.next h h' := by
  obtain ⟨h1, e1, g1⟩ := hP
  refine ⟨h1, ?_, g1⟩
  rw [frameB_eq ft26 rfl rfl]
  simp only [Try.f26, symM, opFn, Nat.reduceLT, Nat.reduceBEq, evCall_fn ft18 rfl, e1]
  exact retB_one ft26 rfl get_same
theorem rbegin_S (x y n : Nat) (h : AH) (hP : ∃ h', call 18 [cx x y] h = some (.tuple #[iv x, iv y, .bool (runOK x y)], h') ∧ Grow h.next h h')
    (hR : ∀ (x y : Int) h, zok x = true → zok y = true → call 42 [iv x, iv y] h = some (make1V x y, h)) (hx : x ≤ 1048576) (hn : n ≤ 1048576) (h1n : 1 ≤ n) :
    ∃ h', frameB T0 X0 call 3000 27 [cx x y, iv n] h = some (cx x n, h') ∧ Grow h.next h h' := by
  obtain ⟨h1, e1, g1⟩ := hP
  refine ⟨h1, ?_, g1⟩
  have hm : make1V x n = cx x n := if_neg (by omega)
  rw [frameB_eq ft27 rfl rfl]
  simp only [Try.f27, symM, opFn, Nat.reduceLT, Nat.reduceBEq, evCall_fn ft18 rfl, e1, evCall_fn ft42 rfl, hR x n _ (zok_k (by omega)) (zok_k (by omega)), hm]
  exact retB_one ft27 rfl get_same
theorem rpow0 (h : AH) : frameB T0 X0 call 3000 37 [iv 0] h = some (.int .u8 1, h) := by kernel_rfl
theorem rpow1 (h : AH) : frameB T0 X0 call 3000 37 [iv 1] h = some (.int .u8 2, h) := by kernel_rfl
theorem rpow2 (h : AH) : frameB T0 X0 call 3000 37 [iv 2] h = some (.int .u8 4, h) := by kernel_rfl
theorem rpow3 (h : AH) : frameB T0 X0 call 3000 37 [iv 3] h = some (.int .u8 8, h) := by kernel_rfl
theorem rpow4 (h : AH) : frameB T0 X0 call 3000 37 [iv 4] h = some (.int .u8 16, h) := by kernel_rfl
theorem rpow5 (h : AH) : frameB T0 X0 call 3000 37 [iv 5] h = some (.int .u8 32, h) := by kernel_rfl
theorem rpow6 (h : AH) : frameB T0 X0 call 3000 37 [iv 6] h = some (.int .u8 64, h) := by kernel_rfl
theorem rpow7 (h : AH) : frameB T0 X0 call 3000 37 [iv 7] h = some (.int .u8 128, h) := by kernel_rfl
theorem rpower_S (n : Nat) (hn : n < 8) (h : AH) : frameB T0 X0 call 3000 37 [iv n] h = some (.int .u8 ((2 ^ n : Nat) : Int), h) := by
  have hc : n = 0 ∨ n = 1 ∨ n = 2 ∨ n = 3 ∨ n = 4 ∨ n = 5 ∨ n = 6 ∨ n = 7 := by omega
  rcases hc with rfl | rfl | rfl | rfl | rfl | rfl | rfl | rfl
  · exact rpow0 h
  · exact rpow1 h
  · exact rpow2 h
  · exact rpow3 h
  · exact rpow4 h
  · exact rpow5 h
  · exact rpow6 h
  · exact rpow7 h
end
end Go.Proofs.Ytcpihpjphdlmfaa.Abs
