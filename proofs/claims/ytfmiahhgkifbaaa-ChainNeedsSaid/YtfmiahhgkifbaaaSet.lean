/- The machine's tables for this program, and that awake returns true: for every memory that holds the package variables, whatever order is drawn. -/
import Derived.Test.YtfmiahhgkifbaaaAbsZC
import Derived.Test.YtfmiahhgkifbaaaRows
import Derived.KernelRfl
namespace Go.Proofs.Ytfmiahhgkifbaaa
open Go Abs

theorem nok : namesOK Try.prog.funcs.toList = true := by kernel_rfl
theorem zok : zerosOK Try.prog.types.toList = true := by kernel_rfl
theorem mok : Try.prog.follows .mixedOrders = true := by kernel_rfl
theorem tok : TabOK (mkTab Try.prog) := tabOK mok nok
theorem tz : TabZ (mkTab Try.prog) := tabZ zok
theorem e65 : ExtFn Try.prog 65 Extern.MathFloatBits.float64frombits := ⟨Try.f65, Try.func65, by decide, by kernel_rfl, by kernel_rfl, by kernel_rfl⟩
theorem e66 : ExtFn Try.prog 66 Extern.MathFloatBits.float64bits := ⟨Try.f66, Try.func66, by decide, by kernel_rfl, by kernel_rfl, by kernel_rfl⟩
theorem e67 : ExtFn Try.prog 67 (Extern.MathFloor.toIntegral "math.archTrunc" .zero) := ⟨Try.f67, Try.func67, by decide, by kernel_rfl, by kernel_rfl, by kernel_rfl⟩
theorem xok : ExtOK (mkTab Try.prog) (xMath Try.prog 65 66 67) := xMath_ok e65 e66 e67
theorem awake_run : endsTrue 6 (runCall (mkTab Try.prog) (xMath Try.prog 65 66 67) 100000 6 []) = true := by kernel_rfl
theorem awake_any {w : World} (hw : Try.prog.globals.size ≤ w.heap.size) : Calls Try.prog 6 #[] w fun e w' => e = .returned (.bool true) ∧ Kept w w' := calls_true tok tz xok awake_run hw
theorem globals_lt : Nat.blt Try.prog.globals.size (begin Try.prog (fun _ _ => 0) default).world.heap.size = true := by kernel_rfl
theorem globals_in {w : World} (h : w.ShapedOpen Try.prog) : Try.prog.globals.size ≤ w.heap.size := by
  obtain ⟨o, o2, h1, _⟩ := h.2 Try.prog.globals.size (Nat.le_refl _) (Nat.le_of_ble_eq_true globals_lt)
  exact Nat.le_of_lt (Array.getElem?_eq_some_iff.1 h1).1
end Go.Proofs.Ytfmiahhgkifbaaa
