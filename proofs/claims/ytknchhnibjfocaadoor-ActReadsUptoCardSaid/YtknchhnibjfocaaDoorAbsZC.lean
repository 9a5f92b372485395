/- An abstract machine: its code in great steps: soundness. -/
import Derived.Test.YtknchhnibjfocaaDoorAbsZB
namespace Go.Proofs.YtknchhnibjfocaaDoor.Abs
open Go
noncomputable section

section
variable {T : Tab} (ok : TabOK T) (oz : TabZ T) {X : Exts} (hX : ExtOK T X) {call : Callee} (hc : RecOK T call) {self : Self} (hs : SelfOK T self)
include ok oz hX

omit ok oz hX in
theorem region_ops {E : Env} {tm : PM Value} {id : Nat} {ops : Array Oper} {k : List AItem} {df : List Nat} {cs : List AFrame} {h : AH} :
    RunM T ⟨mkF E tm (.code (.region id ops false) :: k) df, cs, h⟩ ⟨mkF E tm (.ops ops ops.toList :: k) df, cs, h⟩ := by
  intro base r w f cs' hr hf hcr
  obtain ⟨b', k', h1, h2, h3⟩ := hf.todo.cons_inv
  cases h2
  refine FinOK.go (st_region (MoR.run_inv hf.mode) h1) (.refl _ _ _) ⟨hf.fn, hf.size, hf.tm, hf.un, .cons (.ops _ _ _ ?_) h3, hf.defers, hf.mode, hf.kind, hf.round⟩ hcr hr
  apply List.ext_getElem?
  intro i
  by_cases hi : i < ops.size
  · simp [hi]
  · simp [hi]

include hc
theorem drawB_sound {E : Env} {tm : PM Value} {id : Nat} {ops : Array Oper} {k : List AItem} {df : List Nat} {cs : List AFrame} {h : AH} {tm' : PM Value} {h' : AH} {df' : List Nat}
    (e : drawB T X call E ops tm h df = .fall tm' h' df') : RunM T ⟨mkF E tm (.code (.region id ops true) :: k) df, cs, h⟩ ⟨mkF E tm' k df', cs, h'⟩ := by
  refine RunM.step ok oz hX (drawA_sound ok oz hX hc) ?_
  show drawA T X call (mkF E tm (.code (.region id ops true) :: k) df) cs h id ops k = _
  unfold drawB at e
  unfold drawA
  simp only at e ⊢
  cases hok : okPlan ops E.size (masks ops.toList []) (mkPlan ops.toList (masks ops.toList [])).1 (mkPlan ops.toList (masks ops.toList [])).2 with
  | false => rw [hok] at e; cases e
  | true =>
    rw [hok, ifB_true] at e
    have hok' : okPlan ops (mkF E tm (.code (.region id ops true) :: k) df).size (masks ops.toList []) (mkPlan ops.toList (masks ops.toList [])).1 (mkPlan ops.toList (masks ops.toList [])).2 = true := hok
    rw [hok', ifB_true]
    have htm : (mkF E tm (.code (.region id ops true) :: k) df).tm = tm := rfl
    rw [htm]
    split at e
    · rename_i p hp
      rw [hp]
      simp only
      split at e
      · rename_i q hq
        rw [hq]
        cases e
        rfl
      · cases e
    · cases e

omit oz in
theorem range_call {base : List Frame} {r r1 : Ren} {h h1 : AH} {w w1 : World} {fr : AFrame} {f : Frame} {c : List AFrame} {cs : List Frame} (hf : FR r fr f) (hcr : CR r base c cs) (hm : fr.mode = .run)
    {g : Operand} {params : Array Tmp} {assign body : Code} {k : List AItem} {k' : List Item} (ht : f.todo = .code (.rangeFunc g params assign body) :: k') (hk : All2 (IR r) k k') {bd : Nat} {bk : Bk} {mark mark' : List Deferred}
    (hh : HR T.P r1 h1 w1) (hx : Ext r h w r1 h1 w1) (hr : HR T.P r h w) (hb : r1 bd = some bk) (hmk : All2 (DefR r1) mark mark')
    (hs : (Instr.enterLoop f.fn f.tmps params assign body f.roundOf).run T.P w = .ok (w1.heap.size, mark') { w1 with heap := w1.heap.push (.loop { state := .ready, pending := none, fn := f.fn, tmps := f.tmps, params, assign, body, defers := bk.blk }) })
    {fv : Value} (hfv : ev T fr.tm g = some fv) {gf : Nat} {args : List Value} {h2 h3 : AH} {v : Value}
    (hcall : evCall T X fv [.func (.yield h1.next) #[] #[]] (h1.new (.loop { state := .ready, pending := none, fn := fr.fn, tmps := (tmpsOf fr.size fr.tm).toArray, params := params, assign := assign, body := body, defers := bd })) = some (.enter gf args, h2))
    (hcc : call gf args h2 = some (v, h3)) :
    FinOK T.P base r h w f cs (.next ⟨{ fr with todo := .endRange h1.next :: k, defers := mark ++ fr.defers }, c, h3⟩) := by
  have hm' : f.mode = .run := MoR.run_inv (hm ▸ hf.mode)
  have hsub := hh.sub_add ⟨w1.heap.size, 0, 0, 0⟩
  obtain ⟨p1, p2⟩ := hh.new (w' := { w1 with heap := w1.heap.push (.loop { state := .ready, pending := none, fn := f.fn, tmps := f.tmps, params, assign, body, defers := bk.blk }) })
    (.loop { state := .ready, pending := none, fn := fr.fn, tmps := (tmpsOf fr.size fr.tm).toArray, params := params, assign := assign, body := body, defers := bd })
    (.loop { state := .ready, pending := none, fn := f.fn, tmps := f.tmps, params, assign, body, defers := bk.blk }) ⟨w1.heap.size, 0, 0, 0⟩ rfl rfl
    ⟨_, bk, rfl, rfl, rfl, hf.fn, rfl, rfl, rfl, by simpa using (tmpsOf_sound hf).mono (hx.sub.trans hsub), hsub _ _ hb, rfl⟩
  have hfx := hf.mono (hx.sub.trans hsub)
  have hvr : VR (r1.add h1.next ⟨w1.heap.size, 0, 0, 0⟩) fv (f.eval g) := by
    have := frame_ER ok p1 hfx.tm
    exact this g fv hfv
  have hyield : LR (r1.add h1.next ⟨w1.heap.size, 0, 0, 0⟩) [.func (.yield h1.next) #[] #[]] (#[.func (.yield w1.heap.size) #[] #[]] : Array Value).toList :=
    (LR.nil _).cons (.func _ _ _ _ _ _ (.yield _ ⟨w1.heap.size, 0, 0, 0⟩ (Ren.add_same _ _ _)) rfl (fun i v v' e => by simp at e) rfl (fun i v v' e => by simp at e))
  obtain ⟨w2, r2, q1, q2, args', q3, q4⟩ := evCall_sound ok hX p1 hvr hyield hcall
  obtain ⟨r3, w3, fr3, v3, s1, _, s3, s4, s5, s6⟩ := hc gf args h2 v h3 hcc ({ f with todo := .inRangeFunc w1.heap.size :: k', defers := mark' ++ f.defers } :: cs) r2 w2 args' q1 q4
  have hxx : Ext r h w r3 h3 w3 := ((hx.trans hr p2).trans hr q2).trans hr s6
  refine ⟨r3, w3, _, cs, .head (st_rangeFunc hm' ht hs q3) (s1.trans (.one (step_leave_returned s3))), ?_, hcr.mono hxx.sub, s5, hxx⟩
  have hf2 := hfx.mono (q2.sub.trans s6.sub)
  have hs2 := ((hx.sub.trans hsub).trans q2.sub).trans s6.sub
  have hC : FR r3 { fr with todo := .inRange h1.next :: k, defers := mark ++ fr.defers } { f with todo := .inRangeFunc w1.heap.size :: k', defers := mark' ++ f.defers } :=
    ⟨hf2.fn, hf2.size, hf2.tm, hf2.un, .cons (.inRange h1.next _ (s6.sub _ _ (q2.sub _ _ (Ren.add_same _ _ _)))) (hk.mono fun _ _ h => h.mono hs2),
      (hmk.mono fun _ _ h => h.mono ((hsub.trans q2.sub).trans s6.sub)).append hf2.defers, hf2.mode, hf2.kind, hf2.round⟩
  exact hC.finish s4 rfl

omit hc in
theorem rangeB_sound {E : Env} {f : Operand} {params : Array Tmp} {assign body : Code} {tm : PM Value} {bd : Nat} {h h1 : AH} {df df1 : List Nat}
    (enter : ∀ (cs : List AFrame) (k : List AItem) (fv : Value) (gf : Nat) (args : List Value) (h2 h3 : AH) (v : Value), ev T tm f = some fv →
      evCall T X fv [.func (.yield h1.next) #[] #[]] (h1.new (.loop { state := .ready, pending := none, fn := E.fn, tmps := (tmpsOf E.size tm).toArray, params := params, assign := assign, body := body, defers := bd })) = some (.enter gf args, h2) →
      call gf args h2 = some (v, h3) → RunM T ⟨mkF E tm (.code (.rangeFunc f params assign body) :: k) df, cs, h⟩ ⟨mkF E tm (.endRange h1.next :: k) df1, cs, h3⟩) :
    Does T E (.code (.rangeFunc f params assign body)) tm h df (rangeB T X call E f params assign body tm bd h1 df1) := by
  unfold rangeB
  split
  · rename_i fv hfv
    split
    · rename_i gf args h2 hcall
      split
      · rename_i v h3 hcc
        have hrun := fun cs k => enter cs k fv gf args h2 h3 v hfv hcall hcc
        split
        · rename_i r hg
          have fin : ∀ (cs : List AFrame) (k : List AItem), r.state ≠ .busy → RunM T ⟨mkF E tm (.endRange h1.next :: k) df1, cs, h3⟩ ⟨mkF E tm ((r.pending.map AItem.code).toList ++ k) df1, cs, h3.set h1.next (.loop { r with state := .exhausted })⟩ := by
            intro cs k hb
            refine RunM.one ok oz hX ?_
            show (match h3.get h1.next with | some (.loop r) => (match r.state with | .busy => Fin.stuck | _ => goOn (mkF E tm ((r.pending.map AItem.code).toList ++ k) df1) cs (h3.set h1.next (.loop { r with state := .exhausted }))) | _ => Fin.stuck) = _
            rw [hg]
            obtain ⟨st, r2, r3, r4, r5, r6, r7, r8⟩ := r
            cases st <;> first | rfl | exact absurd rfl hb
          split
          · trivial
          · rename_i hb
            have fin2 := fun cs k => fin cs k hb
            generalize r.pending = pd at fin2
            cases pd with
            | none => intro cs k; exact RunM.trans (hrun cs k) (fin2 cs k)
            | some j => cases j with
              | ret => intro cs k; exact ⟨k, RunM.trans (hrun cs k) (fin2 cs k), trivial⟩
              | exit i => intro cs k; exact ⟨k, RunM.trans (hrun cs k) (fin2 cs k), rfl⟩
              | goto i => intro cs k; exact ⟨k, RunM.trans (hrun cs k) (fin2 cs k), rfl⟩
              | _ => trivial
        · trivial
      · trivial
    · trivial
  · trivial
end
end
end Go.Proofs.YtknchhnibjfocaaDoor.Abs
