/- ActReads returns true at every line (bulk at most 1048576), and leaves what was in memory alone. -/
import Derived.Test.YtknchhnibjfocaaDoorStart
namespace Go.Proofs.YtknchhnibjfocaaDoor.actReads
open Go.ChangeShapes Go.WideShapes Go.ChangeAt Go.RowKit Abs acts
open Go.ChangeMaps (open_string shut_string)
theorem walk {W : World} (g : WorldG W) (hw : Tryd.prog.globals.size ≤ W.heap.size) (s : ByteArray) (hs : s.size ≤ 1048576) : Calls Tryd.prog 4 #[.string s] W fun e W' => e = .returned (.bool true) ∧ Kept W W' := by
  have hs2 : s.data.toList.length ≤ 1048576 := by rw [Array.length_toList]; exact hs
  refine walkG g hw [] [] rfl (fun o h => by cases h) (args := [sv s.data.toList]) rfl 10 100000000 (recC _ _) ?_ (fun r _ i o bk h => by simp at h) (fun r _ => ?_)
  · intro h hg h4 _
    exact l_Reads (by omega) (by omega) s.data.toList h (by omega) hg h4
  · rw [show sv s.data.toList = .string s from (sv_of s).symm]
    exact LR.cons (.string s) (LR.nil _)


theorem small_one {H : Type} {d : DataW H} (h : ∀ k, (Rows.OpenSpec.upto Rows.actReadsSpec).cond = some k → k H [d] = true) : Rows.uptoBulk d ≤ 1048576 := by
  have := of_decide_eq_true (h _ rfl)
  simpa only [Rows.uptoBulkAll, Nat.add_zero] using this
theorem reads (os : Os) {H : Type} (enc : TypeId × Value → H) : ∃ places, DataW.whole enc Tryd.prog ((laidWorld os).forCall (fun _ _ => 0) ⟨#[], #[.string ⟨#[]⟩], []⟩).memory Tryd.f4.params.toList Rows.actReadsSpec.vars false #[Value.string ⟨#[]⟩].toList 8 = some ([.lit (.string [])], [], places) :=
  ⟨[], by kernel_rfl⟩
set_option maxRecDepth 100000 in
theorem lifted (os : Os) (started : os.Started) (H : Type) (enc : TypeId × Value → H) (F : Stop.Interp) :
    ReturnsInHanded {} Tryd.checked os 4 .any ((Rows.OpenSpec.upto Rows.actReadsSpec).preRow enc Tryd.prog Tryd.f4 Rows.actReadsUptoRow.domain false Rows.actReadsUptoRow.laid) (((Rows.OpenSpec.upto Rows.actReadsSpec).at F).post enc Tryd.prog Tryd.f4 false true false false) := by
  obtain ⟨places, hx⟩ := reads os enc
  refine returnsInHanded_of_row (C := Tryd.checked) (s := Rows.OpenSpec.upto Rows.actReadsSpec) own started (by kernel_rfl) Tryd.func4
    (witness_row_atRef (enc := enc) (C := Tryd.checked) false (laidWorld os) #[.string ⟨#[]⟩] rfl (by kernel_rfl) (by kernel_rfl) (by kernel_rfl)
      (OpenSpec.preRow_of_cond 8 hx (by kernel_rfl) (fun k hk => by cases hk; kernel_rfl) (by kernel_rfl) (laid_met os _))) ?_
  intro W base args ds gs before hval0 hW _ hcond _ hL hsh _
  have hval : ∀ (j : Nat) t v, Tryd.f4.params[j]? = some t → args[j]? = some v → Value.okWide Tryd.prog W .any base t v := hval0
  have hW' := hW
  have hlt := fun x hx => hW.lt x hx
  obtain ⟨p, q, hA0, hV, rfl, hfz, hnd⟩ := hW
  have hA : DataW.TrodAll enc Tryd.prog W 0 (fun _ => true) true Tryd.f4.params.toList args.toList ds p := hA0
  rw [Tryd.params4] at hA hval
  obtain ⟨v0, d0, rfl, rfl, h0⟩ := trodAll_one hA
  obtain ⟨rfl, rfl⟩ := trodVars_none hV
  obtain ⟨s, rfl, rfl, rfl, ws⟩ := open_string Tryd.underlying9 (hval 0 9 v0 rfl rfl) h0
  clear hA0 hval0
  simp only [List.append_nil] at hW' hlt
  have hs : s.size ≤ 1048576 := by
    have := small_one (d := .lit (.string s.data.toList)) (fun k hk => hcond k hk)
    simp only [Rows.uptoBulk, Array.length_toList] at this
    have e : s.size = s.data.size := rfl
    omega
  refine (walk (worldG hL hsh) (globals_in hsh) s hs).mono fun e W' ⟨he, hk⟩ => ?_
  subst he
  exact ⟨_, rfl, _, _, _, [], _, [], hW', trodAll_cons_mk (shut_bool Tryd.underlying4 _) trodAll_mk0, trodAll_cons_mk (shut_string Tryd.underlying9 ws) trodAll_mk0, rfl, hk.but _, fun h => nomatch h⟩
theorem saidUpto : Rows.ActReadsUptoSaid :=
  OpenClaim.holds_of_cond 4 Tryd.f4 rfl rfl rfl rfl rfl rfl rfl ⟨rfl, rfl, rfl, rfl, rfl⟩ rfl rfl rfl rfl rfl (by kernel_rfl) Tryd.func4 (by kernel_rfl)
    (of_decide_eq_true (by kernel_rfl)) (by unfold Func.isWrapper; first | (rw [if_pos (by decide +kernel)]; kernel_rfl) | (rw [if_neg (by decide +kernel)]; exact ⟨rfl, rfl⟩))
    (fun os started H enc _ F => by rw [OpenClaim.pre_eq_preRow]; exact lifted os started H enc F)
theorem plain (f : FuncId) (fn : Func) (hf : Tryd.pinned.checked.prog.funcNamed "drydock/drydocklaw21.ActReads" = some f) (hfn : Tryd.pinned.checked.prog.funcs[f]? = some fn) :
    true = Tryd.pinned.checked.prog.looks [] ∧ ∀ (j : Nat) t, fn.params[j]? = some t → Tryd.pinned.checked.prog.wantsStandIn t = false := by
  obtain rfl : f = 4 := Option.some.inj ((show Tryd.prog.funcNamed "drydock/drydocklaw21.ActReads" = some 4 by kernel_rfl).symm.trans hf) |>.symm
  obtain rfl : fn = Tryd.f4 := (Option.some.inj (Tryd.func4.symm.trans hfn)).symm
  refine ⟨by kernel_rfl, fun j t ht => ?_⟩
  rw [Tryd.params4] at ht
  obtain rfl : t = 9 := by simpa using Array.mem_of_getElem? ht
  exact (show Tryd.prog.wantsStandIn 9 = false by kernel_rfl)
theorem proved : Rows.ActReadsUptoCardSaid :=
  Claim7.holds_tied_plain_at .later [] _ _ _ _ saidUpto (fun _ h => by cases h) (by kernel_rfl) (fun _ h => by cases h) actReadsUpto_row_tie rfl ⟨rfl, rfl⟩ (by kernel_rfl) rfl plain (by kernel_rfl)
#print axioms proved
end Go.Proofs.YtknchhnibjfocaaDoor.actReads
