
/- ChainFew returns true at every two numbers, and leaves what was in memory alone: no condition. -/
import Derived.Test.YtglmahefcdhmgaaLaw
import Derived.Test.YtglmahefcdhmgaaAwake
import Derived.WalkKit
import Derived.ProofKit
import Derived.OpenShut
import Derived.HandedShaped
namespace Go.Proofs.Ytglmahefcdhmgaa.Abs
open Go Go.Proofs
noncomputable section
theorem walk (ok : TabOK T0) (oz : TabZ T0) (hX : ExtOK T0 X0) (a b : Nat) (ha : a < 65536) (hb : b < 256) {W : World} (hg : Try.prog.globals.size ≤ W.heap.size) :
    Calls Try.prog 4 #[.int .u16 (a : Int), .int .u8 (b : Int)] W fun e w' => e = .returned (.bool true) ∧ Kept W w' := by
  have hS : SumOK T0 awS := addS_ok (noSums_ok T0) (trueT_ok (P := Try.prog) (by show RecOK T0 (callN T0 X0 noSums 100000 100); rw [callN_eq]; exact callB_sound ok oz hX (noSums_ok T0) _ _) awake_run)
  have hC : RecOK T0 (C 20) := callB_sound ok oz hX hS _ _
  obtain ⟨h', e⟩ := law_S a b ha hb (startH Try.prog)
  exact calls_of (args := [.int .u16 (a : Int), .int .u8 (b : Int)]) rfl rfl (hC _ _ _ _ _ e) hg
end
end Go.Proofs.Ytglmahefcdhmgaa.Abs
namespace Go.Proofs.Ytglmahefcdhmgaa.chainFew
open Go.ChangeShapes Go.WideShapes Go.ChangeAt Go.RowKit Abs

theorem own : ownKnob Try.prog.godebug = none := by kernel_rfl
theorem laidOut : laidOutB Try.prog = true := by kernel_rfl
theorem nok : namesOK Try.prog.funcs.toList = true := by kernel_rfl
theorem zok : zerosOK Try.prog.types.toList = true := by kernel_rfl
theorem mok : Try.prog.follows .mixedOrders = true := by kernel_rfl
theorem tok : TabOK T0 := tabOK mok nok
theorem tz : TabZ T0 := tabZ zok
theorem e1 : ExtFn Try.prog 65 Extern.MathFloatBits.float64frombits := ⟨Try.f65, Try.func65, by decide, by kernel_rfl, by kernel_rfl, by kernel_rfl⟩
theorem e2 : ExtFn Try.prog 66 Extern.MathFloatBits.float64bits := ⟨Try.f66, Try.func66, by decide, by kernel_rfl, by kernel_rfl, by kernel_rfl⟩
theorem e3 : ExtFn Try.prog 67 (Extern.MathFloor.toIntegral "math.archTrunc" .zero) := ⟨Try.f67, Try.func67, by decide, by kernel_rfl, by kernel_rfl, by kernel_rfl⟩
theorem xok : ExtOK T0 X0 := xMath_ok e1 e2 e3
theorem globals_lt : Nat.blt Try.prog.globals.size (begin Try.prog (fun _ _ => 0) default).world.heap.size = true := by kernel_rfl
theorem globals_in {w : World} (h : w.ShapedOpen Try.prog) : Try.prog.globals.size ≤ w.heap.size := by
  obtain ⟨o, o2, h1, _⟩ := h.2 Try.prog.globals.size (Nat.le_refl _) (Nat.le_of_ble_eq_true globals_lt)
  exact Nat.le_of_lt (Array.getElem?_eq_some_iff.1 h1).1

set_option maxRecDepth 100000 in
theorem lifted (os : Os) (started : os.Started) (H : Type) (enc : TypeId × Value → H) :
    ReturnsInHanded {} Try.checked os 4 .any (Rows.chainFewSpec.pre6 enc Try.prog Try.f4 Rows.chainFewRow.domain false) (Rows.chainFewSpec.post enc Try.prog Try.f4 false true false false) := by
  refine returnsInHanded_of_change_shaped (C := Try.checked) own started (by kernel_rfl) Try.func4
    (ChangeSpec.witness6 (enc := enc) (C := Try.checked) false ⟨#[], #[.int .u16 0, .int .u8 0], []⟩ 8 (by kernel_rfl) (by kernel_rfl) (by kernel_rfl) (by kernel_rfl)) ?_
  intro W base args ds gs before hval0 hW hcnd _ hsh _
  have hval : ∀ (j : Nat) t v, Try.f4.params[j]? = some t → args[j]? = some v → Value.okWide Try.prog W .any base t v := hval0
  have hW' := hW
  have hlt := fun x hx => hW.lt x hx
  obtain ⟨p, q, hA0, hV, rfl, hfz, hnd⟩ := hW
  have hA : DataW.TrodAll enc Try.prog W 0 (fun _ => true) true Try.f4.params.toList args.toList ds p := hA0
  rw [Try.params4] at hA hval
  obtain ⟨v0, v1, d0, d1, p0, p1, rfl, rfl, rfl, h0, h1⟩ := trodAll_two hA
  obtain ⟨rfl, rfl⟩ := trodVars_none hV
  obtain ⟨a0, rfl, rfl, rfl, w0⟩ := open_int Try.underlying28 (hval 0 28 v0 rfl rfl) h0
  obtain ⟨a1, rfl, rfl, rfl, w1⟩ := open_int Try.underlying5 (hval 1 5 v1 rfl rfl) h1
  clear hA0 hval0
  simp only [List.append_nil] at hW' hlt
  have r0 : 0 ≤ a0 ∧ a0 ≤ 65535 := by
    have w := w0
    simp only [Lit.wf, Bool.and_eq_true, decide_eq_true_eq] at w
    exact w
  have r1 : 0 ≤ a1 ∧ a1 ≤ 255 := by
    have w := w1
    simp only [Lit.wf, Bool.and_eq_true, decide_eq_true_eq] at w
    exact w
  obtain ⟨m0, rfl⟩ := Int.eq_ofNat_of_zero_le r0.1
  obtain ⟨m1, rfl⟩ := Int.eq_ofNat_of_zero_le r1.1
  refine (walk tok tz xok m0 m1 (by omega) (by omega) (globals_in hsh)).mono fun e W' ⟨he, hk⟩ => ?_
  subst he
  exact ⟨_, rfl, _, _, _, [], _, [], hW', trodAll_cons_mk (shut_bool Try.underlying4 _) trodAll_mk0, trodAll_mk2 (shut_int Try.underlying28 w0) (shut_int Try.underlying5 w1), rfl, hk.but _, fun h => nomatch h⟩

theorem over : Rows.chainFewRow.holds Try.pinned (OpenSpec.ofChange Rows.chainFewSpec) :=
  OpenClaim.holds_of_wide 4 Try.f4 rfl rfl rfl rfl rfl rfl rfl ⟨rfl, rfl, rfl, rfl, rfl⟩ rfl rfl rfl rfl rfl (by kernel_rfl) Try.func4 (by kernel_rfl)
    (of_decide_eq_true (by kernel_rfl)) (by unfold Func.isWrapper; first | (rw [if_pos (by decide +kernel)]; kernel_rfl) | (rw [if_neg (by decide +kernel)]; exact ⟨rfl, rfl⟩))
    (fun os started H enc _ => lifted os started H enc)

theorem proved : Rows.ChainFewSaid :=
  over
#print axioms proved
end Go.Proofs.Ytglmahefcdhmgaa.chainFew
