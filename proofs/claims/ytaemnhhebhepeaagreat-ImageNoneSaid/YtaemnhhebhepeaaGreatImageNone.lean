/- ImageNone returns true at every number and every slice of bytes, and leaves what was in memory alone: no condition. -/
import Derived.Test.YtaemnhhebhepeaaGreatAwake
import Derived.Test.YtaemnhhebhepeaaGreatAbsZJ
import Derived.WalkKit
import Derived.ProofKit
import Derived.OpenShut
import Derived.HandedShaped
namespace Go.Proofs.YtaemnhhebhepeaaGreat.Abs
open Go Go.Proofs
noncomputable section
def awS : Sums := addS 9 trueT noSums
theorem law_run (n : Int) (v : Value) : endsT (callN T0 X0 awS 1000 100 3 [.int .i64 n, v] (startK Tryz.prog 1)) = true := by kernel_rfl
theorem call_true {S : Sums} {k : Nat} (ok : TabOK T0) (oz : TabZ T0) (hX : ExtOK T0 X0) (hS : SumOK T0 S) {n d f : Nat} {args : List Value} (e : endsT (callN T0 X0 S n d f args (startK Tryz.prog k)) = true) :
    ∃ h1, CallOK T0 f args (startK Tryz.prog k) (.bool true) h1 := by
  have hc : RecOK T0 (callN T0 X0 S n d) := by rw [callN_eq]; exact callB_sound ok oz hX hS _ _
  cases hr : callN T0 X0 S n d f args (startK Tryz.prog k) with
  | none => rw [hr] at e; cases e
  | some p =>
    obtain ⟨u, h1⟩ := p
    rw [hr] at e
    simp only [endsT] at e
    split at e
    · subst e
      exact ⟨h1, hc f args _ _ _ hr⟩
    · cases e
theorem walk (ok : TabOK T0) (oz : TabZ T0) (hX : ExtOK T0 X0) (n : Int) (v : Value) {W : World} (hg : Tryz.prog.globals.size ≤ W.heap.size)
    (hv : v = .slice none 0 0 ∨ ∃ b o len cap, v = .slice (some ⟨b, o, none⟩) len cap ∧ b < W.heap.size ∧ len ≤ cap) :
    Calls Tryz.prog 3 #[.int .i64 n, v] W fun e w' => e = .returned (.bool true) ∧ Kept W w' := by
  have hS : SumOK T0 awS := addS_ok (noSums_ok T0) (trueT_ok (P := Tryz.prog) (by show RecOK T0 (callN T0 X0 encS 100000 100); rw [callN_eq]; exact callB_sound ok oz hX (encS_ok ok oz hX) _ _) awake_run)
  rcases hv with rfl | ⟨b, o, len, cap, rfl, hb, hl⟩
  · obtain ⟨h1, E⟩ := call_true ok oz hX hS (law_run n (.slice none 0 0))
    have hg0 : Tryz.prog.globals.size = 1 := by decide
    refine calls_startK (P := Tryz.prog) (bs := [⟨0, 0, 0, 0⟩]) rfl E hg (by intro bk hbk; simp at hbk; subst hbk; show 0 < _; omega) ?_
    exact ((LR.nil _).cons .slNil).cons (.int _ _)
  · obtain ⟨h1, E⟩ := call_true ok oz hX hS (law_run n (.slice (some ⟨Tryz.prog.globals.size, o, none⟩) len (XB + len)))
    refine calls_startK (P := Tryz.prog) (bs := [⟨b, 0, o, 0⟩]) rfl E hg (by intro bk hbk; simp at hbk; subst hbk; exact hb) ?_
    exact ((LR.nil _).cons (VR.someSlice (by simp [renK]) hl)).cons (.int _ _)
end
end Go.Proofs.YtaemnhhebhepeaaGreat.Abs
namespace Go.Proofs.YtaemnhhebhepeaaGreat.imageNone
open Go.ChangeShapes Go.WideShapes Go.ChangeAt Go.RowKit Abs

theorem own : ownKnob Tryz.prog.godebug = none := by kernel_rfl
theorem laidOut : laidOutB Tryz.prog = true := by kernel_rfl
theorem nok : namesOK Tryz.prog.funcs.toList = true := by kernel_rfl
theorem zok : zerosOK Tryz.prog.types.toList = true := by kernel_rfl
theorem mok : Tryz.prog.follows .mixedOrders = true := by kernel_rfl
theorem tok : TabOK T0 := tabOK mok nok
theorem tz : TabZ T0 := tabZ zok
theorem e1 : ExtFn Tryz.prog 175 Extern.MathFloatBits.float64frombits := ⟨Tryz.f175, Tryz.func175, by decide, by kernel_rfl, by kernel_rfl, by kernel_rfl⟩
theorem e2 : ExtFn Tryz.prog 176 Extern.MathFloatBits.float64bits := ⟨Tryz.f176, Tryz.func176, by decide, by kernel_rfl, by kernel_rfl, by kernel_rfl⟩
theorem e3 : ExtFn Tryz.prog 177 (Extern.MathFloor.toIntegral "math.archTrunc" .zero) := ⟨Tryz.f177, Tryz.func177, by decide, by kernel_rfl, by kernel_rfl, by kernel_rfl⟩
theorem xok : ExtOK T0 X0 := xMath_ok e1 e2 e3
theorem globals_lt : Nat.blt Tryz.prog.globals.size (begin Tryz.prog (fun _ _ => 0) default).world.heap.size = true := by kernel_rfl
theorem globals_in {w : World} (h : w.ShapedOpen Tryz.prog) : Tryz.prog.globals.size ≤ w.heap.size := by
  obtain ⟨o, o2, h1, _⟩ := h.2 Tryz.prog.globals.size (Nat.le_refl _) (Nat.le_of_ble_eq_true globals_lt)
  exact Nat.le_of_lt (Array.getElem?_eq_some_iff.1 h1).1

set_option maxRecDepth 100000 in
theorem lifted (os : Os) (started : os.Started) (H : Type) (enc : TypeId × Value → H) :
    ReturnsInHanded {} Tryz.checked os 3 .any (Rows.imageNoneSpec.pre6 enc Tryz.prog Tryz.f3 Rows.imageNoneRow.domain false) (Rows.imageNoneSpec.post enc Tryz.prog Tryz.f3 false true false false) := by
  refine returnsInHanded_of_change_shaped (C := Tryz.checked) own started (by kernel_rfl) Tryz.func3
    (ChangeSpec.witness6 (enc := enc) (C := Tryz.checked) false ⟨#[], #[.int .i64 0, .slice none 0 0], []⟩ 8 (by kernel_rfl) (by kernel_rfl) (by kernel_rfl) (by kernel_rfl)) ?_
  intro W base args ds gs before hval0 hW hcnd _ hsh _
  have hval : ∀ (j : Nat) t v, Tryz.f3.params[j]? = some t → args[j]? = some v → Value.okWide Tryz.prog W .any base t v := hval0
  have hW' := hW
  have hlt := fun x hx => hW.lt x hx
  obtain ⟨p, q, hA0, hV, rfl, hfz, hnd⟩ := hW
  have hA : DataW.TrodAll enc Tryz.prog W 0 (fun _ => true) true Tryz.f3.params.toList args.toList ds p := hA0
  rw [Tryz.params3] at hA hval
  obtain ⟨v0, v1, d0, d1, p0, p1, rfl, rfl, rfl, h0, h1⟩ := trodAll_two hA
  obtain ⟨rfl, rfl⟩ := trodVars_none hV
  obtain ⟨a0, rfl, rfl, rfl, w0⟩ := open_int Tryz.underlying3 (hval 0 3 v0 rfl rfl) h0
  have hs := arg_slice Tryz.underlying22 (hval 1 22 v1 rfl rfl) h1
  clear hA0 hval0
  simp only [List.append_nil, List.nil_append] at hW' hlt
  refine (walk tok tz xok a0 v1 (globals_in hsh) hs).mono fun e W' ⟨he, hk⟩ => ?_
  subst he
  exact ⟨_, rfl, _, _, _, [], _, [], hW', trodAll_cons_mk (shut_bool Tryz.underlying4 _) trodAll_mk0, trodAll_mk2 (shut_int Tryz.underlying3 w0) (trod_kept laidOut (by kernel_rfl) (of_decide_eq_true (by kernel_rfl)) h1 hk hlt), rfl, hk.but _, fun h => nomatch h⟩

theorem over : Rows.imageNoneRow.holds Tryz.pinned (OpenSpec.ofChange Rows.imageNoneSpec) :=
  OpenClaim.holds_of_wide 3 Tryz.f3 rfl rfl rfl rfl rfl rfl rfl ⟨rfl, rfl, rfl, rfl, rfl⟩ rfl rfl rfl rfl rfl (by kernel_rfl) Tryz.func3 (by kernel_rfl)
    (of_decide_eq_true (by kernel_rfl)) (by unfold Func.isWrapper; first | (rw [if_pos (by decide +kernel)]; kernel_rfl) | (rw [if_neg (by decide +kernel)]; exact ⟨rfl, rfl⟩))
    (fun os started H enc _ => lifted os started H enc)

theorem proved : Rows.ImageNoneSaid :=
  over
#print axioms proved
end Go.Proofs.YtaemnhhebhepeaaGreat.imageNone
