
/- NodeDecodes returns true at every slice of bytes, and leaves what was in memory alone: no condition. -/
import Derived.Test.YthpfgiabdpeiaaaLawS
import Derived.Test.YthpfgiabdpeiaaaAwake
import Derived.WalkKit
import Derived.ProofKit
import Derived.OpenShut
import Derived.HandedShaped
namespace Go.Proofs.Ythpfgiabdpeiaaa.Abs
open Go Go.Proofs
noncomputable section
theorem walk (ok : TabOK T0) (oz : TabZ T0) (hX : ExtOK T0 X0) (bs : List Nat) (hbs : ∀ x ∈ bs, x < 256) (v : Value) {W : World} (hg : Try.prog.globals.size ≤ W.heap.size)
    (hv : (v = .slice none 0 0 ∧ bs = []) ∨ ∃ k o' o cap cs el fz, v = .slice (some ⟨k, o', none⟩) bs.length cap ∧ cap < XB ∧ (bs.length ≠ 0 → o' = o) ∧ bs.length ≤ cap ∧ W.heap[k]? = some (.cells cs el fz) ∧ o + bs.length ≤ cs.size ∧ ∀ (i x : Nat), bs[i]? = some x → cs[o + i]? = some (.int .u8 (x : Int))) :
    Calls Try.prog 3 #[v] W fun e w' => e = .returned (.bool true) ∧ Kept W w' := by
  have hS : SumOK T0 awS := addS_ok (noSums_ok T0) (trueT_ok (P := Try.prog) (by show RecOK T0 (callN T0 X0 noSums 100000 100); rw [callN_eq]; exact callB_sound ok oz hX (noSums_ok T0) _ _) awake_run)
  have hC : RecOK T0 (C 20) := callB_sound ok oz hX hS _ _
  rcases hv with ⟨rfl, rfl⟩ | ⟨k, o', o, cap, cs, el, fz, rfl, q0, q1, q2, q3, q4, q5⟩
  · obtain ⟨h', e⟩ := law_S [] hbs (.slice none 0 0) (startH Try.prog) (.inl ⟨rfl, rfl⟩) (fun q => nomatch q)
    exact calls_of (args := [.slice none 0 0]) rfl rfl (hC _ _ _ _ _ e) hg
  · have hc : ∀ i, i < bs.length → ∃ w, (PM.ofList (bytesV bs)).get i = some w ∧ cs[o + i]? = some w ∧ flat w = true := by
      intro i hi
      have hx := List.getElem?_eq_getElem hi
      refine ⟨.int .u8 ((bs[i] : Nat) : Int), ?_, q5 i _ hx, rfl⟩
      rw [PM.get_ofList]
      simp [bytesV, hx]
    by_cases h0 : bs.length = 0
    · obtain ⟨h', e⟩ := law_S bs hbs (.slice (some ⟨Try.prog.globals.size, 0, none⟩) bs.length (XB + bs.length)) (startW Try.prog (PM.ofList (bytesV bs)) bs.length el) (.inr ⟨Try.prog.globals.size, 0, XB + bs.length, PM.ofList (bytesV bs), bs.length, 0, bs.length + 1, .ro, el, by simp [bytesV], Nat.lt_succ_self _, get_new_same (startH Try.prog) _, by simp [bytesV], fun i x hx => by rw [Nat.zero_add, PM.get_ofList]; exact hx⟩) (fun q => by omega)
      refine calls_startW (room := o') (sz := 0) rfl (hC _ _ _ _ _ e) hg q3 q4 hc ?_
      refine LR.cons ?_ (LR.nil _)
      exact .slIn Try.prog.globals.size 0 bs.length bs.length o' cap ⟨k, o, o', 0⟩ (by simp [renK]) (Nat.le_refl _) q2 (fun q => by rw [q1 q]; simp) (by simp)
    · obtain rfl := q1 h0
      obtain ⟨h', e⟩ := law_S bs hbs (.slice (some ⟨Try.prog.globals.size, 0, none⟩) bs.length cap) (startW Try.prog (PM.ofList (bytesV bs)) bs.length el) (.inr ⟨Try.prog.globals.size, 0, cap, PM.ofList (bytesV bs), bs.length, 0, bs.length + 1, .ro, el, by simp [bytesV], Nat.lt_succ_self _, get_new_same (startH Try.prog) _, by simp [bytesV], fun i x hx => by rw [Nat.zero_add, PM.get_ofList]; exact hx⟩)
        (fun _ => ⟨Try.prog.globals.size, 0, cap, PM.ofList (bytesV bs), bs.length, 0, bs.length + 1, .ro, el, rfl, q0, q2, Nat.lt_succ_self _, get_new_same (startH Try.prog) _, by simp, fun i x hx => by rw [Nat.zero_add, PM.get_ofList]; simp [bytesV, hx]⟩)
      refine calls_startW (room := o') (sz := 0) rfl (hC _ _ _ _ _ e) hg q3 q4 hc ?_
      refine LR.cons ?_ (LR.nil _)
      have := VR.slEx (r := renK Try.prog [⟨k, o', o', 0⟩]) Try.prog.globals.size 0 bs.length cap ⟨k, o', o', 0⟩ (by simp [renK]) q0
      simpa using this
theorem arg_cap {P : Program} {W : World} {base len cap : Nat} {t e : TypeId} {a : Addr} (ht : P.underlying t = some (.slice e)) (hv : Value.okWide P W .any base t (.slice (some a) len cap)) : cap < XB := by
  simp only [Value.okWide, ht, Cell.okWide, Cell.ok] at hv
  have h2 := hv.2.1
  have : IntKind.i64.max = 9223372036854775807 := by decide
  rw [XB_val]; omega
end
end Go.Proofs.Ythpfgiabdpeiaaa.Abs
namespace Go.Proofs.Ythpfgiabdpeiaaa.nodeDecodes
open Go.ChangeShapes Go.WideShapes Go.ChangeAt Go.RowKit Abs

theorem own : ownKnob Try.prog.godebug = none := by kernel_rfl
theorem laidOut : laidOutB Try.prog = true := by kernel_rfl
theorem nok : namesOK Try.prog.funcs.toList = true := by kernel_rfl
theorem zok : zerosOK Try.prog.types.toList = true := by kernel_rfl
theorem mok : Try.prog.follows .mixedOrders = true := by kernel_rfl
theorem tok : TabOK T0 := tabOK mok nok
theorem tz : TabZ T0 := tabZ zok
theorem e1 : ExtFn Try.prog 62 Extern.MathFloatBits.float64frombits := ⟨Try.f62, Try.func62, by decide, by kernel_rfl, by kernel_rfl, by kernel_rfl⟩
theorem e2 : ExtFn Try.prog 63 Extern.MathFloatBits.float64bits := ⟨Try.f63, Try.func63, by decide, by kernel_rfl, by kernel_rfl, by kernel_rfl⟩
theorem e3 : ExtFn Try.prog 64 (Extern.MathFloor.toIntegral "math.archTrunc" .zero) := ⟨Try.f64, Try.func64, by decide, by kernel_rfl, by kernel_rfl, by kernel_rfl⟩
theorem xok : ExtOK T0 X0 := xMath_ok e1 e2 e3
theorem globals_lt : Nat.blt Try.prog.globals.size (begin Try.prog (fun _ _ => 0) default).world.heap.size = true := by kernel_rfl
theorem globals_in {w : World} (h : w.ShapedOpen Try.prog) : Try.prog.globals.size ≤ w.heap.size := by
  obtain ⟨o, o2, h1, _⟩ := h.2 Try.prog.globals.size (Nat.le_refl _) (Nat.le_of_ble_eq_true globals_lt)
  exact Nat.le_of_lt (Array.getElem?_eq_some_iff.1 h1).1

set_option maxRecDepth 100000 in
theorem lifted (os : Os) (started : os.Started) (H : Type) (enc : TypeId × Value → H) :
    ReturnsInHanded {} Try.checked os 3 .any (Rows.nodeDecodesSpec.pre6 enc Try.prog Try.f3 Rows.nodeDecodesRow.domain false) (Rows.nodeDecodesSpec.post enc Try.prog Try.f3 false true false false) := by
  refine returnsInHanded_of_change_shaped (C := Try.checked) own started (by kernel_rfl) Try.func3
    (ChangeSpec.witness6 (enc := enc) (C := Try.checked) false ⟨#[], #[.slice none 0 0], []⟩ 8 (by kernel_rfl) (by kernel_rfl) (by kernel_rfl) (by kernel_rfl)) ?_
  intro W base args ds gs before hval0 hW hcnd _ hsh _
  have hval : ∀ (j : Nat) t v, Try.f3.params[j]? = some t → args[j]? = some v → Value.okWide Try.prog W .any base t v := hval0
  have hW' := hW
  have hlt := fun x hx => hW.lt x hx
  obtain ⟨p, q, hA0, hV, rfl, hfz, hnd⟩ := hW
  have hA : DataW.TrodAll enc Try.prog W 0 (fun _ => true) true Try.f3.params.toList args.toList ds p := hA0
  rw [Try.params3] at hA hval
  obtain ⟨v0, d0, rfl, rfl, h0⟩ := trodAll_one hA
  obtain ⟨rfl, rfl⟩ := trodVars_none hV
  have hv0 := hval 0 22 v0 rfl rfl
  obtain ⟨bs, hbs, hs⟩ := arg_bytes Try.underlying22 Try.underlying5 (by kernel_rfl) hv0 h0
  clear hA0 hval0
  simp only [List.append_nil] at hW' hlt
  have hs2 : (v0 = .slice none 0 0 ∧ bs = []) ∨ ∃ k o' o cap cs el fz, v0 = .slice (some ⟨k, o', none⟩) bs.length cap ∧ cap < XB ∧ (bs.length ≠ 0 → o' = o) ∧ bs.length ≤ cap ∧ W.heap[k]? = some (.cells cs el fz) ∧ o + bs.length ≤ cs.size ∧ ∀ (i x : Nat), bs[i]? = some x → cs[o + i]? = some (.int .u8 (x : Int)) := by
    rcases hs with hs | ⟨k, o', o, cap, cs, el, fz, rfl, hs⟩
    · exact .inl hs
    · exact .inr ⟨k, o', o, cap, cs, el, fz, rfl, arg_cap Try.underlying22 hv0, hs⟩
  refine (walk tok tz xok bs hbs v0 (globals_in hsh) hs2).mono fun e W' ⟨he, hk⟩ => ?_
  subst he
  exact ⟨_, rfl, _, _, _, [], _, [], hW', trodAll_cons_mk (shut_bool Try.underlying4 _) trodAll_mk0, trodAll_mk1 (trod_kept laidOut (by kernel_rfl) (of_decide_eq_true (by kernel_rfl)) h0 hk hlt), rfl, hk.but _, fun h => nomatch h⟩

theorem over : Rows.nodeDecodesRow.holds Try.pinned (OpenSpec.ofChange Rows.nodeDecodesSpec) :=
  OpenClaim.holds_of_wide 3 Try.f3 rfl rfl rfl rfl rfl rfl rfl ⟨rfl, rfl, rfl, rfl, rfl⟩ rfl rfl rfl rfl rfl (by kernel_rfl) Try.func3 (by kernel_rfl)
    (of_decide_eq_true (by kernel_rfl)) (by unfold Func.isWrapper; first | (rw [if_pos (by decide +kernel)]; kernel_rfl) | (rw [if_neg (by decide +kernel)]; exact ⟨rfl, rfl⟩))
    (fun os started H enc _ => lifted os started H enc)

theorem proved : Rows.NodeDecodesSaid :=
  over
#print axioms proved
end Go.Proofs.Ythpfgiabdpeiaaa.nodeDecodes
