
/- ImageSupers returns true at every volume, super block, size and blocks, and leaves what was in memory alone: no condition. -/
import Derived.Test.YtjdhdhmoedlfdaaGreatAwake
import Derived.Test.YtjdhdhmoedlfdaaGreatAwake
import Derived.WalkKit
import Derived.ProofKit
import Derived.OpenShut
import Derived.HandedShaped
import Derived.Carry
namespace Go.Proofs.YtjdhdhmoedlfdaaGreat.Abs
open Go Go.Proofs
noncomputable section
theorem arg_cap {P : Program} {W : World} {base len cap : Nat} {t e : TypeId} {a : Addr} (ht : P.underlying t = some (.slice e)) (hv : Value.okWide P W .any base t (.slice (some a) len cap)) : cap < XB := by
  simp only [Value.okWide, ht, Cell.okWide, Cell.ok] at hv
  have h2 := hv.2.1
  have : IntKind.i64.max = 9223372036854775807 := by decide
  rw [XB_val]; omega
end
end Go.Proofs.YtjdhdhmoedlfdaaGreat.Abs
namespace Go.Proofs.YtjdhdhmoedlfdaaGreat.imageSupers
open Go.ChangeShapes Go.WideShapes Go.ChangeAt Go.RowKit Abs
theorem own : ownKnob Tryz.prog.godebug = none := by kernel_rfl
theorem laidOut : laidOutB Tryz.prog = true := by kernel_rfl
theorem nok : namesOK Tryz.prog.funcs.toList = true := by kernel_rfl
theorem zok : zerosOK Tryz.prog.types.toList = true := by kernel_rfl
theorem mok : Tryz.prog.follows .mixedOrders = true := by kernel_rfl
theorem tok : TabOK T0 := tabOK mok nok
theorem tz : TabZ T0 := tabZ zok
theorem e1 : ExtFn Tryz.prog 222 Extern.MathFloatBits.float64frombits := ⟨Tryz.f222, Tryz.func222, by decide, by kernel_rfl, by kernel_rfl, by kernel_rfl⟩
theorem e2 : ExtFn Tryz.prog 223 Extern.MathFloatBits.float64bits := ⟨Tryz.f223, Tryz.func223, by decide, by kernel_rfl, by kernel_rfl, by kernel_rfl⟩
theorem e3 : ExtFn Tryz.prog 224 (Extern.MathFloor.toIntegral "math.archTrunc" .zero) := ⟨Tryz.f224, Tryz.func224, by decide, by kernel_rfl, by kernel_rfl, by kernel_rfl⟩
theorem xok : ExtOK T0 X0 := xMath_ok e1 e2 e3
theorem globals_lt : Nat.blt Tryz.prog.globals.size (begin Tryz.prog (fun _ _ => 0) default).world.heap.size = true := by kernel_rfl
theorem globals_in {w : World} (h : w.ShapedOpen Tryz.prog) : Tryz.prog.globals.size ≤ w.heap.size := by
  obtain ⟨o, o2, h1, _⟩ := h.2 Tryz.prog.globals.size (Nat.le_refl _) (Nat.le_of_ble_eq_true globals_lt)
  exact Nat.le_of_lt (Array.getElem?_eq_some_iff.1 h1).1
set_option maxRecDepth 100000 in
theorem lifted (os : Os) (started : os.Started) (H : Type) (enc : TypeId × Value → H) :
    ReturnsInHanded {} Tryz.checked os 5 .any (Rows.imageSupersSpec.pre6 enc Tryz.prog Tryz.f5 Rows.imageSupersRow.domain false) (Rows.imageSupersSpec.post enc Tryz.prog Tryz.f5 false true false false) := by
  refine returnsInHanded_of_change_shaped (C := Tryz.checked) own started (by kernel_rfl) Tryz.func5
    (ChangeSpec.witness6 (enc := enc) (C := Tryz.checked) false ⟨#[], #[.slice none 0 0, .agg #[.int .i64 0, .int .i64 0, .int .i64 0, .int .i64 0, .int .i64 0], .int .i64 0, .slice none 0 0], []⟩ 8 (by kernel_rfl) (by kernel_rfl) (by kernel_rfl) (by kernel_rfl)) ?_
  intro W base args ds gs before hval0 hW hcnd _ hsh _
  have hval : ∀ (j : Nat) t v, Tryz.f5.params[j]? = some t → args[j]? = some v → Value.okWide Tryz.prog W .any base t v := hval0
  have hW' := hW
  have hlt := fun x hx => hW.lt x hx
  obtain ⟨p, q, hA0, hV, rfl, hfz, hnd⟩ := hW
  have hA : DataW.TrodAll enc Tryz.prog W 0 (fun _ => true) true Tryz.f5.params.toList args.toList ds p := hA0
  rw [Tryz.params5] at hA hval
  obtain ⟨v0, v1, v2, v3, d0, d1, d2, d3, p0, p1, p2, p3, rfl, rfl, rfl, h0, h1, h2, h3⟩ := trodAll_four hA
  obtain ⟨rfl, rfl⟩ := trodVars_none hV
  have hv0 := hval 0 22 v0 rfl rfl
  have hv3 := hval 3 22 v3 rfl rfl
  obtain ⟨bss, hbb, hs⟩ := arg_blocks Tryz.underlying22 Tryz.underlying57 Tryz.underlying5 (by kernel_rfl) (by kernel_rfl) hv0 h0
  obtain ⟨more, hmb, hm⟩ := arg_blocks Tryz.underlying22 Tryz.underlying57 Tryz.underlying5 (by kernel_rfl) (by kernel_rfl) hv3 h3
  obtain ⟨s, rfl⟩ := arg_super (hval 1 36 v1 rfl rfl)
  obtain ⟨a2, rfl, rfl, rfl, w2⟩ := open_int Tryz.underlying3 (hval 2 3 v2 rfl rfl) h2
  clear hA0 hval0
  have b0 : bss.length < XB := by
    rcases hs with ⟨_, rfl⟩ | ⟨k, o', o, cap, cs, el, fz, rfl, _, hle, _⟩
    · rw [XB_val]; decide
    · exact Nat.lt_of_le_of_lt hle (arg_cap Tryz.underlying22 hv0)
  have b3 : more.length < XB := by
    rcases hm with ⟨_, rfl⟩ | ⟨k, o', o, cap, cs, el, fz, rfl, _, hle, _⟩
    · rw [XB_val]; decide
    · exact Nat.lt_of_le_of_lt hle (arg_cap Tryz.underlying22 hv3)
  simp only [List.append_nil, List.append_assoc] at hW' hlt
  refine (walk tok tz xok s a2 bss more hbb hmb v0 v3 (globals_in hsh) hs hm b0 b3).mono fun e W' ⟨he, hk⟩ => ?_
  subst he
  have l0 : ∀ x ∈ p0, x.block < W.heap.size := fun x hx => hlt x (by simp [hx])
  have l1 : ∀ x ∈ p1, x.block < W.heap.size := fun x hx => hlt x (by simp [hx])
  have l3 : ∀ x ∈ p3, x.block < W.heap.size := fun x hx => hlt x (by simp [hx])
  exact ⟨_, rfl, _, _, _, [], _, [], hW', trodAll_cons_mk (shut_bool Tryz.underlying4 _) trodAll_mk0, trodAll_mk4 (trod_kept laidOut (by kernel_rfl) (of_decide_eq_true (by kernel_rfl)) h0 hk l0) (trod_kept laidOut (by kernel_rfl) (of_decide_eq_true (by kernel_rfl)) h1 hk l1) (shut_int Tryz.underlying3 w2) (trod_kept laidOut (by kernel_rfl) (of_decide_eq_true (by kernel_rfl)) h3 hk l3), rfl, hk.but _, fun h => nomatch h⟩
theorem over : Rows.imageSupersRow.holds Tryz.pinned (OpenSpec.ofChange Rows.imageSupersSpec) :=
  OpenClaim.holds_of_wide 5 Tryz.f5 rfl rfl rfl rfl rfl rfl rfl ⟨rfl, rfl, rfl, rfl, rfl⟩ rfl rfl rfl rfl rfl (by kernel_rfl) Tryz.func5 (by kernel_rfl)
    (of_decide_eq_true (by kernel_rfl)) (by unfold Func.isWrapper; first | (rw [if_pos (by decide +kernel)]; kernel_rfl) | (rw [if_neg (by decide +kernel)]; exact ⟨rfl, rfl⟩))
    (fun os started H enc _ => lifted os started H enc)
theorem proved : Rows.ImageSupersSaid :=
  over
#print axioms proved
end Go.Proofs.YtjdhdhmoedlfdaaGreat.imageSupers
