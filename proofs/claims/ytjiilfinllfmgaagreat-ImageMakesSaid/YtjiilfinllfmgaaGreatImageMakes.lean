
/- ImageMakes returns true at every two numbers, and leaves what was in memory alone: no condition. -/
import Derived.Test.YtjiilfinllfmgaaGreatLaw
import Derived.Test.YtjiilfinllfmgaaGreatAwake
import Derived.WalkKit
import Derived.ProofKit
import Derived.OpenShut
import Derived.HandedShaped
namespace Go.Proofs.YtjiilfinllfmgaaGreat.Abs
open Go Go.Proofs
noncomputable section
theorem walk (ok : TabOK T0) (oz : TabZ T0) (hX : ExtOK T0 X0) (a b : Int) {W : World} (hg : Tryz.prog.globals.size ≤ W.heap.size) :
    Calls Tryz.prog 3 #[.int .i64 a, .int .i64 b] W fun e w' => e = .returned (.bool true) ∧ Kept W w' := by
  have hS : SumOK T0 awS := addS_ok (noSums_ok T0) (trueT_ok (P := Tryz.prog) (by show RecOK T0 (callN T0 X0 Sp.encS 100000 100); rw [callN_eq]; exact callB_sound ok oz hX (Sp.encS_ok ok oz hX) _ _) awake_run)
  have hC : RecOK T0 (C 20) := callB_sound ok oz hX hS _ _
  obtain ⟨h', e⟩ := law_S a b (startH Tryz.prog)
  exact calls_of (args := [.int .i64 a, .int .i64 b]) rfl rfl (hC _ _ _ _ _ e) hg
end
end Go.Proofs.YtjiilfinllfmgaaGreat.Abs
namespace Go.Proofs.YtjiilfinllfmgaaGreat.imageMakes
open Go.ChangeShapes Go.WideShapes Go.ChangeAt Go.RowKit Abs

theorem own : ownKnob Tryz.prog.godebug = none := by kernel_rfl
theorem laidOut : laidOutB Tryz.prog = true := by kernel_rfl
theorem nok : namesOK Tryz.prog.funcs.toList = true := by kernel_rfl
theorem zok : zerosOK Tryz.prog.types.toList = true := by kernel_rfl
theorem mok : Tryz.prog.follows .mixedOrders = true := by kernel_rfl
theorem tok : TabOK T0 := tabOK mok nok
theorem tz : TabZ T0 := tabZ zok
theorem e1 : ExtFn Tryz.prog 192 Extern.MathFloatBits.float64frombits := ⟨Tryz.f192, Tryz.func192, by decide, by kernel_rfl, by kernel_rfl, by kernel_rfl⟩
theorem e2 : ExtFn Tryz.prog 193 Extern.MathFloatBits.float64bits := ⟨Tryz.f193, Tryz.func193, by decide, by kernel_rfl, by kernel_rfl, by kernel_rfl⟩
theorem e3 : ExtFn Tryz.prog 194 (Extern.MathFloor.toIntegral "math.archTrunc" .zero) := ⟨Tryz.f194, Tryz.func194, by decide, by kernel_rfl, by kernel_rfl, by kernel_rfl⟩
theorem xok : ExtOK T0 X0 := xMath_ok e1 e2 e3
theorem globals_lt : Nat.blt Tryz.prog.globals.size (begin Tryz.prog (fun _ _ => 0) default).world.heap.size = true := by kernel_rfl
theorem globals_in {w : World} (h : w.ShapedOpen Tryz.prog) : Tryz.prog.globals.size ≤ w.heap.size := by
  obtain ⟨o, o2, h1, _⟩ := h.2 Tryz.prog.globals.size (Nat.le_refl _) (Nat.le_of_ble_eq_true globals_lt)
  exact Nat.le_of_lt (Array.getElem?_eq_some_iff.1 h1).1

set_option maxRecDepth 100000 in
theorem lifted (os : Os) (started : os.Started) (H : Type) (enc : TypeId × Value → H) :
    ReturnsInHanded {} Tryz.checked os 3 .any (Rows.imageMakesSpec.pre6 enc Tryz.prog Tryz.f3 Rows.imageMakesRow.domain false) (Rows.imageMakesSpec.post enc Tryz.prog Tryz.f3 false true false false) := by
  refine returnsInHanded_of_change_shaped (C := Tryz.checked) own started (by kernel_rfl) Tryz.func3
    (ChangeSpec.witness6 (enc := enc) (C := Tryz.checked) false ⟨#[], #[.int .i64 0, .int .i64 0], []⟩ 8 (by kernel_rfl) (by kernel_rfl) (by kernel_rfl) (by kernel_rfl)) ?_
  intro W base args ds gs before hval0 hW hcnd _ hsh _
  have hval : ∀ (j : Nat) t v, Tryz.f3.params[j]? = some t → args[j]? = some v → Value.okWide Tryz.prog W .any base t v := hval0
  have hW' := hW
  have hlt := fun x hx => hW.lt x hx
  obtain ⟨p, q, hA0, hV, rfl, hfz, hnd⟩ := hW
  have hA : DataW.TrodAll enc Tryz.prog W 0 (fun _ => true) true Tryz.f3.params.toList args.toList ds p := hA0
  rw [Tryz.params3] at hA hval
  obtain ⟨v0, v1, d0, d1, p0, p1, rfl, rfl, rfl, h0, h1⟩ := trodAll_two hA
  obtain ⟨rfl, rfl⟩ := trodVars_none hV
  obtain ⟨a0, rfl, rfl, rfl, w0⟩ := open_int Tryz.underlying3 (hval 0 3 v0 rfl rfl) h0
  obtain ⟨a1, rfl, rfl, rfl, w1⟩ := open_int Tryz.underlying3 (hval 1 3 v1 rfl rfl) h1
  clear hA0 hval0
  simp only [List.append_nil, List.nil_append] at hW' hlt
  refine (walk tok tz xok a0 a1 (globals_in hsh)).mono fun e W' ⟨he, hk⟩ => ?_
  subst he
  exact ⟨_, rfl, _, _, _, [], _, [], hW', trodAll_cons_mk (shut_bool Tryz.underlying4 _) trodAll_mk0, trodAll_mk2 (shut_int Tryz.underlying3 w0) (shut_int Tryz.underlying3 w1), rfl, hk.but _, fun h => nomatch h⟩

theorem over : Rows.imageMakesRow.holds Tryz.pinned (OpenSpec.ofChange Rows.imageMakesSpec) :=
  OpenClaim.holds_of_wide 3 Tryz.f3 rfl rfl rfl rfl rfl rfl rfl ⟨rfl, rfl, rfl, rfl, rfl⟩ rfl rfl rfl rfl rfl (by kernel_rfl) Tryz.func3 (by kernel_rfl)
    (of_decide_eq_true (by kernel_rfl)) (by unfold Func.isWrapper; first | (rw [if_pos (by decide +kernel)]; kernel_rfl) | (rw [if_neg (by decide +kernel)]; exact ⟨rfl, rfl⟩))
    (fun os started H enc _ => lifted os started H enc)

theorem proved : Rows.ImageMakesSaid :=
  over
#print axioms proved
end Go.Proofs.YtjiilfinllfmgaaGreat.imageMakes
