
/- CheckEmpty returns true at every number of sixteen bits and every bool, and leaves what was in memory alone: no condition. -/
import Derived.Test.YtonfgflgnnkniaaGreatLaw
import Derived.WalkKit
import Derived.ProofKit
import Derived.OpenShut
import Derived.HandedShaped
namespace Go.Proofs.YtonfgflgnnkniaaGreat.Abs
open Go Go.Proofs
noncomputable section
theorem walk (ok : TabOK T0) (oz : TabZ T0) (hX : ExtOK T0 X0) (a : Int) (b : Bool) (wa : (Lit.int .u16 a).wf = true) {W : World} (hg : Tryz.prog.globals.size ≤ W.heap.size) :
    Calls Tryz.prog 3 #[.int .u16 a, .bool b] W fun e w' => e = .returned (.bool true) ∧ Kept W w' := by
  have hC : RecOK T0 (C 20) := callB_sound ok oz hX (noSums_ok T0) _ _
  have h2 : 0 ≤ a ∧ a < 65536 := by
    simp only [Lit.wf, Bool.and_eq_true, decide_eq_true_eq] at wa
    have h1 : IntKind.u16.min = 0 := by decide
    have h2 : IntKind.u16.max = 65535 := by decide
    rw [h1, h2] at wa
    omega
  obtain ⟨s, rfl⟩ := Int.eq_ofNat_of_zero_le h2.1
  obtain ⟨h', e⟩ := law_S s (by omega) b (startH Tryz.prog)
  exact calls_of (args := [.int .u16 (s : Int), .bool b]) rfl rfl (hC _ _ _ _ _ e) hg
end
end Go.Proofs.YtonfgflgnnkniaaGreat.Abs
namespace Go.Proofs.YtonfgflgnnkniaaGreat.checkEmpty
open Go.ChangeShapes Go.WideShapes Go.ChangeAt Go.RowKit Abs

theorem own : ownKnob Tryz.prog.godebug = none := by kernel_rfl
theorem laidOut : laidOutB Tryz.prog = true := by kernel_rfl
theorem nok : namesOK Tryz.prog.funcs.toList = true := by kernel_rfl
theorem zok : zerosOK Tryz.prog.types.toList = true := by kernel_rfl
theorem mok : Tryz.prog.follows .mixedOrders = true := by kernel_rfl
theorem tok : TabOK T0 := tabOK mok nok
theorem tz : TabZ T0 := tabZ zok
theorem e1 : ExtFn Tryz.prog 147 Extern.MathFloatBits.float64frombits := ⟨Tryz.f147, Tryz.func147, by decide, by kernel_rfl, by kernel_rfl, by kernel_rfl⟩
theorem e2 : ExtFn Tryz.prog 148 Extern.MathFloatBits.float64bits := ⟨Tryz.f148, Tryz.func148, by decide, by kernel_rfl, by kernel_rfl, by kernel_rfl⟩
theorem e3 : ExtFn Tryz.prog 149 (Extern.MathFloor.toIntegral "math.archTrunc" .zero) := ⟨Tryz.f149, Tryz.func149, by decide, by kernel_rfl, by kernel_rfl, by kernel_rfl⟩
theorem xok : ExtOK T0 X0 := xMath_ok e1 e2 e3
theorem globals_lt : Nat.blt Tryz.prog.globals.size (begin Tryz.prog (fun _ _ => 0) default).world.heap.size = true := by kernel_rfl
theorem globals_in {w : World} (h : w.ShapedOpen Tryz.prog) : Tryz.prog.globals.size ≤ w.heap.size := by
  obtain ⟨o, o2, h1, _⟩ := h.2 Tryz.prog.globals.size (Nat.le_refl _) (Nat.le_of_ble_eq_true globals_lt)
  exact Nat.le_of_lt (Array.getElem?_eq_some_iff.1 h1).1

set_option maxRecDepth 100000 in
theorem lifted (os : Os) (started : os.Started) (H : Type) (enc : TypeId × Value → H) :
    ReturnsInHanded {} Tryz.checked os 3 .any (Rows.checkEmptySpec.pre6 enc Tryz.prog Tryz.f3 Rows.checkEmptyRow.domain false) (Rows.checkEmptySpec.post enc Tryz.prog Tryz.f3 false true false false) := by
  refine returnsInHanded_of_change_shaped (C := Tryz.checked) own started (by kernel_rfl) Tryz.func3
    (ChangeSpec.witness6 (enc := enc) (C := Tryz.checked) false ⟨#[], #[.int .u16 0, .bool false], []⟩ 8 (by kernel_rfl) (by kernel_rfl) (by kernel_rfl) (by kernel_rfl)) ?_
  intro W base args ds gs before hval0 hW hcnd _ hsh _
  have hval : ∀ (j : Nat) t v, Tryz.f3.params[j]? = some t → args[j]? = some v → Value.okWide Tryz.prog W .any base t v := hval0
  have hW' := hW
  have hlt := fun x hx => hW.lt x hx
  obtain ⟨p, q, hA0, hV, rfl, hfz, hnd⟩ := hW
  have hA : DataW.TrodAll enc Tryz.prog W 0 (fun _ => true) true Tryz.f3.params.toList args.toList ds p := hA0
  rw [Tryz.params3] at hA hval
  obtain ⟨v0, v1, d0, d1, p0, p1, rfl, rfl, rfl, h0, h1⟩ := trodAll_two hA
  obtain ⟨rfl, rfl⟩ := trodVars_none hV
  obtain ⟨a0, rfl, rfl, rfl, w0⟩ := open_int Tryz.underlying22 (hval 0 22 v0 rfl rfl) h0
  obtain ⟨a1, rfl, rfl, rfl⟩ := open_bool Tryz.underlying4 (hval 1 4 v1 rfl rfl) h1
  clear hA0 hval0
  simp only [List.append_nil] at hW' hlt
  refine (walk tok tz xok a0 a1 w0 (globals_in hsh)).mono fun e W' ⟨he, hk⟩ => ?_
  subst he
  exact ⟨_, rfl, _, _, _, [], _, [], hW', trodAll_cons_mk (shut_bool Tryz.underlying4 _) trodAll_mk0, trodAll_mk2 (shut_int Tryz.underlying22 w0) (shut_bool Tryz.underlying4 a1), rfl, hk.but _, fun h => nomatch h⟩

theorem over : Rows.checkEmptyRow.holds Tryz.pinned (OpenSpec.ofChange Rows.checkEmptySpec) :=
  OpenClaim.holds_of_wide 3 Tryz.f3 rfl rfl rfl rfl rfl rfl rfl ⟨rfl, rfl, rfl, rfl, rfl⟩ rfl rfl rfl rfl rfl (by kernel_rfl) Tryz.func3 (by kernel_rfl)
    (of_decide_eq_true (by kernel_rfl)) (by unfold Func.isWrapper; first | (rw [if_pos (by decide +kernel)]; kernel_rfl) | (rw [if_neg (by decide +kernel)]; exact ⟨rfl, rfl⟩))
    (fun os started H enc _ => lifted os started H enc)

theorem proved : Rows.CheckEmptySaid :=
  over
#print axioms proved
end Go.Proofs.YtonfgflgnnkniaaGreat.checkEmpty
