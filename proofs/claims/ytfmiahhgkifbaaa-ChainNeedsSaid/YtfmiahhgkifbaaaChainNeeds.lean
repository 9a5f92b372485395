/- ChainNeeds returns true at every integer, and leaves what was in memory alone: no condition. -/
import Derived.Test.YtfmiahhgkifbaaaSet
import Derived.WalkKit
import Derived.ProofKit
import Derived.OpenShut
import Derived.HandedShaped
namespace Go.Proofs.Ytfmiahhgkifbaaa.chainNeeds
open Go.ChangeShapes Go.WideShapes Go.ChangeAt Go.RowKit Abs

theorem own : ownKnob Try.prog.godebug = none := by kernel_rfl

/- The number of blocks that n extents need. -/
def needN (n : Nat) : Nat := (n - 3 + 13) / 14
theorem need_run : ((List.range 97).all fun n => endsWith 5 (.tuple #[.int .i64 (needN n : Nat), .int .i64 (0 : Nat)]) (runCall (mkTab Try.prog) (xMath Try.prog 65 66 67) 200 5 [.int .i64 (n : Nat)]) &&
  endsWith 7 (.int .i64 (needN n : Nat)) (runCall (mkTab Try.prog) (xMath Try.prog 65 66 67) 200 7 [.int .i64 (n : Nat)])) = true := by kernel_rfl
theorem need_any {w : World} (n : Nat) (hn : n < 97) (hw : Try.prog.globals.size ≤ w.heap.size) : Calls Try.prog 5 #[.int .i64 n] w fun e w' => e = .returned (.tuple #[.int .i64 (needN n : Nat), .int .i64 0]) ∧ Kept w w' := by
  have := List.all_eq_true.1 need_run n (by simpa using hn)
  rw [Bool.and_eq_true] at this
  exact calls_flat tok tz xok (by rfl) this.1 hw
theorem ref_any {w : World} (n : Nat) (hn : n < 97) (hw : Try.prog.globals.size ≤ w.heap.size) : Calls Try.prog 7 #[.int .i64 n] w fun e w' => e = .returned (.int .i64 (needN n : Nat)) ∧ Kept w w' := by
  have := List.all_eq_true.1 need_run n (by simpa using hn)
  rw [Bool.and_eq_true] at this
  exact calls_flat tok tz xok (by rfl) this.2 hw
theorem need_out {w : World} (a : Int) (h : a < 0 ∨ 96 < a) : Calls Try.prog 5 #[.int .i64 a] w fun e w' => e = .returned (.tuple #[.int .i64 0, .int .i64 1]) ∧ w = w' := by
  by_cases h0 : a < 0
  · have h1 : decide (a < 0) = true := by simpa using h0
    go_enter Try.func5, Try.ntmps5
    go_wp2
    go_ret2
    exact ⟨rfl, rfl⟩
  · have h1 : decide (a < 0) = false := by simpa using h0
    have h2 : decide (96 < a) = true := by have := h.resolve_left h0; simpa using this
    go_enter Try.func5, Try.ntmps5
    go_wp2
    go_ret2
    exact ⟨rfl, rfl⟩
theorem walk (a0 : Int) (w : World) (hg : Try.prog.globals.size ≤ w.heap.size) :
    Calls Try.prog 3 #[.int .i64 a0] w fun e w' => e = .returned (.bool true) ∧ Kept w w' := by
  by_cases h : a0 < 0 ∨ 96 < a0
  · by_cases h0 : a0 < 0
    · have h1 : decide (a0 < 0) = true := by simpa using h0
      clear h
      go_enter Try.func3, Try.ntmps3
      go_wp2_with (first | (go_at_call 5; refine (need_out a0 (.inl h0)).mono ?_; rintro e w' ⟨rfl, rfl⟩) | (go_at_call 6; refine (awake_any hg).mono ?_; rintro e w1 ⟨rfl, hk⟩))
      go_ret
      exact ⟨rfl, hk⟩
    · have h1 : decide (a0 < 0) = false := by simpa using h0
      have h2' := h.resolve_left h0
      have h2 : decide (96 < a0) = true := by simpa using h2'
      clear h
      go_enter Try.func3, Try.ntmps3
      go_wp2_with (first | (go_at_call 5; refine (need_out a0 (.inr h2')).mono ?_; rintro e w' ⟨rfl, rfl⟩) | (go_at_call 6; refine (awake_any hg).mono ?_; rintro e w1 ⟨rfl, hk⟩))
      go_ret
      exact ⟨rfl, hk⟩
  · rw [not_or] at h
    obtain ⟨n, rfl⟩ : ∃ n : Nat, a0 = n := ⟨a0.toNat, by omega⟩
    have hn : n < 97 := by omega
    have h1 : decide ((n : Int) < 0) = false := by simp
    have h2 : decide (96 < (n : Int)) = false := by simpa using h.2
    clear h
    go_enter Try.func3, Try.ntmps3
    go_wp2_with (first | (go_at_call 5; refine (need_any n hn hg).mono ?_; rintro e w1 ⟨rfl, k1⟩) | (go_at_call 6; refine (awake_any (Nat.le_trans hg k1.size)).mono ?_; rintro e w2 ⟨rfl, k2⟩) | (go_at_call 7; refine (ref_any n hn (Nat.le_trans hg (k1.trans k2).size)).mono ?_; rintro e w3 ⟨rfl, k3⟩))
    go_ret
    exact ⟨by simp, (k1.trans k2).trans k3⟩

set_option maxRecDepth 100000 in
theorem lifted (os : Os) (started : os.Started) (H : Type) (enc : TypeId × Value → H) :
    ReturnsInHanded {} Try.checked os 3 .any (Rows.chainNeedsSpec.pre6 enc Try.prog Try.f3 Rows.chainNeedsRow.domain false) (Rows.chainNeedsSpec.post enc Try.prog Try.f3 false true false false) := by
  refine returnsInHanded_of_change_shaped (C := Try.checked) own started (by kernel_rfl) Try.func3
    (ChangeSpec.witness6 (enc := enc) (C := Try.checked) false ⟨#[], #[.int .i64 0], []⟩ 8 (by kernel_rfl) (by kernel_rfl) (by kernel_rfl) (by kernel_rfl)) ?_
  intro W base args ds gs before hval0 hW hcnd _ hsh _
  have hval : ∀ (j : Nat) t v, Try.f3.params[j]? = some t → args[j]? = some v → Value.okWide Try.prog W .any base t v := hval0
  have hW' := hW
  obtain ⟨p, q, hA0, hV, rfl, hfz, hnd⟩ := hW
  have hA : DataW.TrodAll enc Try.prog W 0 (fun _ => true) true Try.f3.params.toList args.toList ds p := hA0
  rw [Try.params3] at hA hval
  obtain ⟨v0, vs0, d0, ds0, p0, q0, hargs, rfl, rfl, h0, r0⟩ := trodAll_cons hA
  obtain ⟨rfl, rfl, rfl⟩ := trodAll_nil r0
  obtain rfl : args = #[v0] := by cases args; simp_all
  obtain ⟨rfl, rfl⟩ := trodVars_none hV
  obtain ⟨a0, rfl, rfl, rfl, w0⟩ := open_int Try.underlying3 (hval 0 3 v0 rfl rfl) h0
  clear hA0 hval0
  simp only [List.append_nil] at hW'
  refine (walk a0 W (globals_in hsh)).mono fun e W' ⟨he, hk⟩ => ?_
  subst he
  exact ⟨_, rfl, _, _, _, [], [], [], hW', trodAll_cons_mk (shut_bool Try.underlying4 _) trodAll_mk0, trodAll_cons_mk (shut_int Try.underlying3 w0) trodAll_mk0, rfl, hk.but _, fun h => nomatch h⟩

theorem over : Rows.chainNeedsRow.holds Try.pinned (OpenSpec.ofChange Rows.chainNeedsSpec) :=
  OpenClaim.holds_of_wide 3 Try.f3 rfl rfl rfl rfl rfl rfl rfl ⟨rfl, rfl, rfl, rfl, rfl⟩ rfl rfl rfl rfl rfl (by kernel_rfl) Try.func3 (by kernel_rfl)
    (of_decide_eq_true (by kernel_rfl)) (by unfold Func.isWrapper; first | (rw [if_pos (by decide +kernel)]; kernel_rfl) | (rw [if_neg (by decide +kernel)]; exact ⟨rfl, rfl⟩))
    (fun os started H enc _ => lifted os started H enc)

theorem proved : Rows.ChainNeedsSaid :=
  over
#print axioms proved
end Go.Proofs.Ytfmiahhgkifbaaa.chainNeeds
