/- ChooseFree returns true at every slice of bytes and all numbers, and leaves what was in memory alone: no condition. -/
import Derived.Test.YtcpihpjphdlmfaaLawSome
import Derived.Test.YtcpihpjphdlmfaaAwake
import Derived.WalkKit
import Derived.ProofKit
import Derived.OpenShut
import Derived.HandedShaped
namespace Go.Proofs.Ytcpihpjphdlmfaa.Abs
open Go Go.Proofs
noncomputable section
theorem walk (ok : TabOK T0) (oz : TabZ T0) (hX : ExtOK T0 X0) (bs : List Nat) (hbs : ∀ x ∈ bs, x < 256) (v : Value) (n a b : Int) {W : World} (hg : Try.prog.globals.size ≤ W.heap.size)
    (hv : (v = .slice none 0 0 ∧ bs = []) ∨ ∃ k o' o cap cs el fz, v = .slice (some ⟨k, o', none⟩) bs.length cap ∧ (bs.length ≠ 0 → o' = o) ∧ bs.length ≤ cap ∧ W.heap[k]? = some (.cells cs el fz) ∧ o + bs.length ≤ cs.size ∧ ∀ (i x : Nat), bs[i]? = some x → cs[o + i]? = some (.int .u8 (x : Int))) :
    Calls Try.prog 6 #[v, .int .i64 n, .int .i64 a, .int .i64 b] W fun e w' => e = .returned (.bool true) ∧ Kept W w' := by
  have hS : SumOK T0 awS := addS_ok (noSums_ok T0) (trueT_ok (P := Try.prog) (by show RecOK T0 (callN T0 X0 noSums 100000 100); rw [callN_eq]; exact callB_sound ok oz hX (noSums_ok T0) _ _) awake_run)
  have hC : RecOK T0 (C 1100) := callB_sound ok oz hX hS _ _
  rcases hv with ⟨rfl, rfl⟩ | ⟨k, o', o, cap, cs, el, fz, rfl, q1, q2, q3, q4, q5⟩
  · obtain ⟨h', e⟩ := lawFree_S [] hbs (.slice none 0 0) (startH Try.prog) n a b (.inl ⟨rfl, rfl⟩)
    exact calls_of (args := [.slice none 0 0, .int .i64 n, .int .i64 a, .int .i64 b]) rfl rfl (hC _ _ _ _ _ e) hg
  · have hc : ∀ i, i < bs.length → ∃ w, (PM.ofList (bytesV bs)).get i = some w ∧ cs[o + i]? = some w ∧ flat w = true := by
      intro i hi
      have hx := List.getElem?_eq_getElem hi
      refine ⟨.int .u8 ((bs[i] : Nat) : Int), ?_, q5 i _ hx, rfl⟩
      rw [PM.get_ofList]
      simp [bytesV, hx]
    obtain ⟨h', e⟩ := lawFree_S bs hbs (.slice (some ⟨Try.prog.globals.size, 0, none⟩) bs.length (XB + bs.length)) (startW Try.prog (PM.ofList (bytesV bs)) bs.length el) n a b (.inr ⟨Try.prog.globals.size, 0, XB + bs.length, PM.ofList (bytesV bs), bs.length, 0, bs.length + 1, .ro, el, by simp [bytesV], Nat.lt_succ_self _, get_new_same (startH Try.prog) _, by simp [bytesV], fun i x hx => by rw [Nat.zero_add, PM.get_ofList]; exact hx⟩)
    refine calls_startW (room := o') (sz := 0) rfl (hC _ _ _ _ _ e) hg q3 q4 hc ?_
    refine LR.cons ?_ (((LR.nil _).cons (.int _ _)).cons (.int _ _) |>.cons (.int _ _))
    exact .slIn Try.prog.globals.size 0 bs.length bs.length o' cap ⟨k, o, o', 0⟩ (by simp [renK]) (Nat.le_refl _) q2 (fun q => by rw [q1 q]; simp) (by simp)
end
end Go.Proofs.Ytcpihpjphdlmfaa.Abs
namespace Go.Proofs.Ytcpihpjphdlmfaa.chooseFree
open Go.ChangeShapes Go.WideShapes Go.ChangeAt Go.RowKit Abs

theorem own : ownKnob Try.prog.godebug = none := by kernel_rfl
theorem laidOut : laidOutB Try.prog = true := by kernel_rfl
theorem nok : namesOK Try.prog.funcs.toList = true := by kernel_rfl
theorem zok : zerosOK Try.prog.types.toList = true := by kernel_rfl
theorem mok : Try.prog.follows .mixedOrders = true := by kernel_rfl
theorem tok : TabOK T0 := tabOK mok nok
theorem tz : TabZ T0 := tabZ zok
theorem e1 : ExtFn Try.prog 77 Extern.MathFloatBits.float64frombits := ⟨Try.f77, Try.func77, by decide, by kernel_rfl, by kernel_rfl, by kernel_rfl⟩
theorem e2 : ExtFn Try.prog 78 Extern.MathFloatBits.float64bits := ⟨Try.f78, Try.func78, by decide, by kernel_rfl, by kernel_rfl, by kernel_rfl⟩
theorem e3 : ExtFn Try.prog 79 (Extern.MathFloor.toIntegral "math.archTrunc" .zero) := ⟨Try.f79, Try.func79, by decide, by kernel_rfl, by kernel_rfl, by kernel_rfl⟩
theorem xok : ExtOK T0 X0 := xMath_ok e1 e2 e3
theorem globals_lt : Nat.blt Try.prog.globals.size (begin Try.prog (fun _ _ => 0) default).world.heap.size = true := by kernel_rfl
theorem globals_in {w : World} (h : w.ShapedOpen Try.prog) : Try.prog.globals.size ≤ w.heap.size := by
  obtain ⟨o, o2, h1, _⟩ := h.2 Try.prog.globals.size (Nat.le_refl _) (Nat.le_of_ble_eq_true globals_lt)
  exact Nat.le_of_lt (Array.getElem?_eq_some_iff.1 h1).1

set_option maxRecDepth 100000 in
theorem lifted (os : Os) (started : os.Started) (H : Type) (enc : TypeId × Value → H) :
    ReturnsInHanded {} Try.checked os 6 .any (Rows.chooseFreeSpec.pre6 enc Try.prog Try.f6 Rows.chooseFreeRow.domain false) (Rows.chooseFreeSpec.post enc Try.prog Try.f6 false true false false) := by
  refine returnsInHanded_of_change_shaped (C := Try.checked) own started (by kernel_rfl) Try.func6
    (ChangeSpec.witness6 (enc := enc) (C := Try.checked) false ⟨#[], #[.slice none 0 0, .int .i64 0, .int .i64 0, .int .i64 0], []⟩ 8 (by kernel_rfl) (by kernel_rfl) (by kernel_rfl) (by kernel_rfl)) ?_
  intro W base args ds gs before hval0 hW hcnd _ hsh _
  have hval : ∀ (j : Nat) t v, Try.f6.params[j]? = some t → args[j]? = some v → Value.okWide Try.prog W .any base t v := hval0
  have hW' := hW
  have hlt := fun x hx => hW.lt x hx
  obtain ⟨p, q, hA0, hV, rfl, hfz, hnd⟩ := hW
  have hA : DataW.TrodAll enc Try.prog W 0 (fun _ => true) true Try.f6.params.toList args.toList ds p := hA0
  rw [Try.params6] at hA hval
  obtain ⟨v0, v1, v2, v3, d0, d1, d2, d3, p0, p1, p2, p3, rfl, rfl, rfl, h0, h1, h2, h3⟩ := trodAll_four hA
  obtain ⟨rfl, rfl⟩ := trodVars_none hV
  obtain ⟨a1, rfl, rfl, rfl, w1⟩ := open_int Try.underlying3 (hval 1 3 v1 rfl rfl) h1
  obtain ⟨a2, rfl, rfl, rfl, w2⟩ := open_int Try.underlying3 (hval 2 3 v2 rfl rfl) h2
  obtain ⟨a3, rfl, rfl, rfl, w3⟩ := open_int Try.underlying3 (hval 3 3 v3 rfl rfl) h3
  obtain ⟨bs, hbs, hs⟩ := arg_bytes Try.underlying22 Try.underlying5 (by kernel_rfl) (hval 0 22 v0 rfl rfl) h0
  clear hA0 hval0
  simp only [List.append_nil] at hW' hlt
  refine (walk tok tz xok bs hbs v0 a1 a2 a3 (globals_in hsh) hs).mono fun e W' ⟨he, hk⟩ => ?_
  subst he
  exact ⟨_, rfl, _, _, _, [], _, [], hW', trodAll_cons_mk (shut_bool Try.underlying4 _) trodAll_mk0, trodAll_mk4 (trod_kept laidOut (by kernel_rfl) (of_decide_eq_true (by kernel_rfl)) h0 hk hlt) (shut_int Try.underlying3 w1) (shut_int Try.underlying3 w2) (shut_int Try.underlying3 w3), rfl, hk.but _, fun h => nomatch h⟩

theorem over : Rows.chooseFreeRow.holds Try.pinned (OpenSpec.ofChange Rows.chooseFreeSpec) :=
  OpenClaim.holds_of_wide 6 Try.f6 rfl rfl rfl rfl rfl rfl rfl ⟨rfl, rfl, rfl, rfl, rfl⟩ rfl rfl rfl rfl rfl (by kernel_rfl) Try.func6 (by kernel_rfl)
    (of_decide_eq_true (by kernel_rfl)) (by unfold Func.isWrapper; first | (rw [if_pos (by decide +kernel)]; kernel_rfl) | (rw [if_neg (by decide +kernel)]; exact ⟨rfl, rfl⟩))
    (fun os started H enc _ => lifted os started H enc)

theorem proved : Rows.ChooseFreeSaid :=
  over
#print axioms proved
end Go.Proofs.Ytcpihpjphdlmfaa.chooseFree
