/- An abstract machine: soundness of its steps. -/
import Derived.Test.YtknchhnibjfocaaDoorAbsP
namespace Go.Proofs.YtknchhnibjfocaaDoor.Abs
open Go
noncomputable section

theorem putT_some {r : Ren} {fr : AFrame} {f : Frame} (hf : FR r fr f) {tm tm2 : PM Value} (ht : TR r tm f.tmps) (hu : ∀ t, tm.get t = none → f.tmps.getD t undef = undef) {all : Array Oper} {o : Oper} {rest : List Oper} {k : List AItem} {i : Nat} {is : List Nat} {k' : List Item}
    (htd : f.todo = .inRegion all (i :: is) :: k') (ho : all[i]? = some o) (hi : IR r (.ops all rest) (.inRegion all is)) (hk : All2 (IR r) k k') {v v' : Value} (hv : VR r v v') (e : putT fr.size tm o.dst v = some tm2) :
    FR r { fr with tm := tm2, todo := .ops all rest :: k } (f.finish v') := by
  obtain ⟨p1, p2⟩ := putT_sound hf.size ht hu hv e
  rw [finish_ops htd ho]
  exact ⟨hf.fn, by simpa [putF_size] using hf.size, p1, p2, .cons hi hk, hf.defers, hf.mode, hf.kind, hf.round⟩

theorem enterA_sound {T : Tab} (ok : TabOK T) {r : Ren} {f : Nat} {args : List Value} {args' : Array Value} {kind : CallKind} {c : AFrame} (ha : LR r args args'.toList) (e : enterA T f args kind = some c) :
    FR r c (Frame.enter T.P f args' kind) ∧ c.fn = f ∧ c.defers = [] ∧ c.mode = .run ∧ c.kind = kind := by
  unfold enterA at e
  split at e
  · rename_i fd hfd
    split at e
    · rename_i b hb
      obtain ⟨e1, e2⟩ := ifB_some e
      cases e2
      have hle := ble_le e1
      have h1 := ok.f f fd hfd
      have hlen : args.length = args'.size := by simpa using ha.1
      refine ⟨⟨rfl, ?_, ?_, ?_, ?_, .nil, .run, rfl, .none⟩, rfl, rfl, rfl, rfl⟩
      · simp only [Frame.enter, h1, Option.map_some, Option.getD_some, Array.size_append, Array.size_replicate]; omega
      · intro t v hv
        simp only [PM.get_ofList] at hv
        obtain ⟨v', h2, h3⟩ := ha.get hv
        simp only [Frame.enter, h1, Option.map_some, Option.getD_some, Array.getD_eq_getD_getElem?]
        have ht : t < args'.size := by have := (List.getElem?_eq_some_iff.1 hv).1; omega
        rw [Array.getElem?_append_left ht]
        simp only [Array.getElem?_toList] at h2
        rw [h2]; exact h3
      · intro t hv
        simp only [PM.get_ofList] at hv
        have ht : args'.size ≤ t := by rw [← hlen]; exact List.getElem?_eq_none_iff.1 hv
        simp only [Frame.enter, h1, Option.map_some, Option.getD_some, Array.getD_eq_getD_getElem?]
        rw [Array.getElem?_append_right ht]
        cases hg : (Array.replicate (fd.ntmps - args'.size) undef)[t - args'.size]? with
        | none => rfl
        | some x => simp only [Array.getElem?_replicate] at hg; split at hg <;> cases hg; rfl
      · simp only [Frame.enter, h1, hb, Option.bind_some, Option.getD_some]
        exact .cons (.code b) .nil
    · cases e
  · cases e

theorem round_sound {r : Ren} {l fn : Nat} {tmps : List Value} {tmps' : Array Value} {a b : Code} {bk : Bk} (hl : r l = some bk) (ht : LR r tmps tmps'.toList) :
    FR r { fn := fn, size := tmps.length, tm := PM.ofList tmps, todo := [.code a, .beginRound, .code b], defers := [], mode := .run, kind := .normal, round := some l } (Frame.round bk.blk fn tmps' a b .normal) := by
  have hlen : tmps.length = tmps'.size := by simpa using ht.1
  refine ⟨rfl, ?_, ?_, ?_, .cons (.code a) (.cons .beginRound (.cons (.code b) .nil)), .nil, .run, rfl, .some l bk hl⟩
  · simp [Frame.round, hlen]
  · intro t v hv
    simp only [PM.get_ofList] at hv
    obtain ⟨v', h2, h3⟩ := ht.get hv
    simp only [Frame.round, Array.getD_eq_getD_getElem?]
    simp only [Array.getElem?_toList] at h2
    rw [h2]; exact h3
  · intro t hv
    simp only [PM.get_ofList] at hv
    have ht : tmps'.size ≤ t := by rw [← hlen]; exact List.getElem?_eq_none_iff.1 hv
    simp [Frame.round, Array.getD_eq_getD_getElem?, Array.getElem?_eq_none ht]

theorem MoR.run_inv {r : Ren} {m : FrameMode} (h : MoR r .run m) : m = .run := by cases h; rfl
theorem MoR.ret_inv {r : Ren} {m : FrameMode} (h : MoR r .returning m) : m = .returning := by cases h; rfl

theorem evOp_defer {T : Tab} {X : Exts} {tm : PM Value} {o : Oper} {h h' : AH} {out : Out} {c : Call} (ho : o.op = .defer c) (e : evOp T X tm o h = some (out, h')) : ∃ d, out = .defer d := by
  unfold evOp at e
  rw [ho] at e
  simp only [opFn, evDefer] at e
  split at e
  · obtain ⟨v, _, e⟩ := w1_some e
    split at e
    · split at e
      · cases e; exact ⟨_, rfl⟩
      · cases e
    · cases e
  · cases e

theorem frame_ER {T : Tab} (ok : TabOK T) {r : Ren} {h : AH} {w : World} (hr : HR T.P r h w) {tm : PM Value} {f : Frame} (ht : TR r tm f.tmps) : ER T r tm f.eval := by
  have := ER.of ok hr (a := ⟨f.tmps, f.defers⟩) ht
  have hfe : f.eval = (⟨f.tmps, f.defers⟩ : Act).eval := funext fun x => by cases x <;> rfl
  rw [hfe]; exact this

theorem opsLoop_sound {T : Tab} (ok : TabOK T) (oz : TabZ T) {X : Exts} (hX : ExtOK T X) {fr : AFrame} {c : List AFrame} {all : Array Oper} {k : List AItem} (hm : fr.mode = .run) {base : List Frame} :
    ∀ (rest : List Oper) (tm : PM Value) (h : AH) (r : Ren) (w : World) (f : Frame) (cs : List Frame), HR T.P r h w → FR r { fr with tm := tm, todo := .ops all rest :: k } f → CR r base c cs →
      FinOK T.P base r h w f cs (opsLoop T X fr c all k rest tm h) := by
  intro rest
  induction rest with
  | nil =>
    intro tm h r w f cs hr hf hc
    obtain ⟨b, k', h2, h3, h4⟩ := hf.todo.cons_inv
    have := h3.ops_nil; subst this
    have hm' : f.mode = .run := MoR.run_inv (hm ▸ hf.mode)
    exact FinOK.go (st_region_end hm' h2) (.refl _ _ _) ⟨hf.fn, hf.size, hf.tm, hf.un, h4, hf.defers, hf.mode, hf.kind, hf.round⟩ hc hr
  | cons o rest ih =>
    intro tm h r w f cs hr hf hc
    obtain ⟨b, k', h2, h3, h4⟩ := hf.todo.cons_inv
    obtain ⟨i, is, rfl, h5, h6⟩ := h3.ops_cons
    have hm' : f.mode = .run := MoR.run_inv (hm ▸ hf.mode)
    have fin : ∀ {r1 : Ren} {h1 : AH} {w1 : World} {tm2 : PM Value} {v v' : Value}, HR T.P r1 h1 w1 → Ext r h w r1 h1 w1 → VR r1 v v' → putT fr.size tm o.dst v = some tm2 →
        Go.step T.P (lone f cs w) = .next (lone (f.finish v') cs w1) → FinOK T.P base r h w f cs (opsLoop T X fr c all k rest tm2 h1) := by
      intro r1 h1 w1 tm2 v v' q1 q2 q3 q4 q5
      have hf1 := hf.mono q2.sub
      refine FinOK.of_steps hr (.one q5) q2 (ih tm2 h1 r1 w1 _ cs q1 ?_ (hc.mono q2.sub))
      exact putT_some (fr := { fr with tm := tm, todo := .ops all (o :: rest) :: k }) hf1 hf1.tm hf1.un h2 h5 (h6.mono q2.sub) (by
        obtain ⟨_, _, g1, _, g3⟩ := hf1.todo.cons_inv
        rw [h2] at g1; cases g1; exact g3) q3 q4
    rw [opsLoop]
    split
    · rename_i hw
      have hwd := wantedA_sound hf.tm hf.size hw
      have sound : ∀ {out : Out} {h1 : AH}, (∀ d, out ≠ .defer d) → evOp T X tm o h = some (out, h1) → OOK T.P r h w (execOp f.eval o) out h1 ∧ (f.roundOf = none ∨ ∀ c, o.op ≠ .defer c) := fun hd e =>
        ⟨evOp_sound ok oz hX hr (frame_ER ok hr hf.tm) e, .inr fun c hc => let ⟨d, h⟩ := evOp_defer hc e; hd d h⟩
      split
      · rename_i v h1 he
        obtain ⟨⟨w1, r1, q1, q2, v', q3, q4⟩, hd⟩ := sound (fun _ => by simp) he
        split
        · rename_i tm2 hp
          exact fin q1 q2 q4 hp (st_value hm' h2 h5 hwd hd q3)
        · trivial
      · rename_i h1 he
        obtain ⟨⟨w1, r1, q1, q2, q3⟩, hd⟩ := sound (fun _ => by simp) he
        split
        · rename_i tm2 hp
          exact fin q1 q2 (.tuple _ _ rfl fun i v v' e => by simp at e) hp (st_sk hm' h2 h5 hwd hd q3)
        · trivial
      · rename_i g args h1 he
        obtain ⟨⟨w1, r1, q1, q2, args', q3, q4⟩, hd⟩ := sound (fun _ => by simp) he
        split
        · rename_i cf hcf
          exact FinOK.go (st_enter hm' h2 h5 hwd hd q3) q2 (enterA_sound ok q4 hcf).1 ((hc.mono q2.sub).cons (hf.mono q2.sub)) q1
        · trivial
      · rename_i l g tmps a b h1 he
        obtain ⟨⟨w1, r1, q1, q2, bk, tmps', q3, q4, q5⟩, hd⟩ := sound (fun _ => by simp) he
        exact FinOK.go (st_round hm' h2 h5 hwd hd q4) q2 (round_sound q3 q5) ((hc.mono q2.sub).cons (hf.mono q2.sub)) q1
      · trivial
    · rename_i hw
      split
      · rename_i tm2 hp
        exact fin hr (.refl _ _ _) (.tuple _ _ rfl fun i v v' e => by simp at e) hp (st_unwanted hm' h2 h5 (wantedA_sound hf.tm hf.size hw))
      · trivial
    · trivial

def resOf (a : Array Value) (x : ResultVar) : Sem Value := match x with | .tmp t => pure (a.getD t undef) | .cell c t => do loadVar t (← asAddr (a.getD c undef))
theorem resultsA_sound {T : Tab} (ok : TabOK T) {r : Ren} {h : AH} {w : World} (hr : HR T.P r h w) {tm : PM Value} {a : Array Value} (ht : TR r tm a) : ∀ (l : List ResultVar) (vs : List Value), resultsA T h tm l = some vs →
    ∃ vs', (l.mapM (resOf a)).run T.P w = .ok vs' w ∧ LR r vs vs' := by
  intro l
  induction l with
  | nil => intro vs e; cases e; exact ⟨[], by simp, LR.nil r⟩
  | cons x l ih =>
    intro vs e
    cases x with
    | tmp t =>
      simp only [resultsA] at e
      split at e
      · rename_i v hv
        split at e
        · rename_i l2 hl
          cases e
          obtain ⟨vs', q1, q2⟩ := ih l2 hl
          exact ⟨a.getD t undef :: vs', by simp only [List.mapM_cons, resOf, Sem.run_bind, q1, Sem.run_pure, Result.andThen_ok], q2.cons (ht t v hv)⟩
        · cases e
      · cases e
    | cell c t =>
      simp only [resultsA] at e
      split at e
      · rename_i p hp
        split at e
        · rename_i v hv
          split at e
          · rename_i l2 hl
            cases e
            obtain ⟨vs', q1, q2⟩ := ih l2 hl
            have hpv := ht c _ hp
            generalize hx : a.getD c undef = x at hpv
            cases hpv with
            | ptr b o bk hb =>
              obtain ⟨v', q3, q4⟩ := loadVarA_sound ok hr hb hv
              exact ⟨v' :: vs', by simp only [List.mapM_cons, resOf, Sem.run_bind, hx, asAddr, q3, q1, Sem.run_pure, Result.andThen_ok], q2.cons q4⟩
          · cases e
        · cases e
      · cases e

theorem one_rel {r : Ren} {l l' : List Value} (h : LR r l l') : VR r (one l) (one l') := by
  cases l with
  | nil => rw [h.nil_inv]; exact VR.tuple_list (by simpa using LR.nil r)
  | cons v l =>
    obtain ⟨v', l2, rfl, h1, h2⟩ := h.cons_inv
    cases l with
    | nil => rw [h2.nil_inv]; exact h1
    | cons u l => obtain ⟨u', l3, rfl, h3, h4⟩ := h2.cons_inv; exact VR.tuple_list (by simpa using (h4.cons h3).cons h1)

theorem resultA_sound {T : Tab} (ok : TabOK T) {r : Ren} {h : AH} {w : World} (hr : HR T.P r h w) {tm : PM Value} {a : Array Value} (ht : TR r tm a) {f : Nat} {v : Value} (e : resultA T f tm h = some v) :
    ∃ fn v', T.P.funcs[f]? = some fn ∧ (results fn a).run T.P w = .ok v' w ∧ VR r v v' := by
  unfold resultA at e
  split at e
  · rename_i fn hfn
    split at e
    · rename_i l hl
      cases e
      obtain ⟨vs', q1, q2⟩ := resultsA_sound ok hr ht _ _ hl
      refine ⟨fn, one vs', ok.f f fn hfn, ?_, one_rel q2⟩
      have h1 : (fn.results.mapM (resOf a)).run T.P w = .ok vs'.toArray w := by
        rw [Array.mapM_eq_mapM_toList]
        simp [q1]
      have h2 : results fn a = (do let vs ← fn.results.mapM (resOf a); pure (if h : vs.size = 1 then vs[0] else .tuple vs)) := rfl
      rw [h2, Sem.run_bind, h1, Result.andThen_ok, Sem.run_pure]
      congr 1
      cases vs' with
      | nil => rfl
      | cons x l => cases l with
        | nil => rfl
        | cons y l => simp [one]
    · cases e
  · cases e
end
end Go.Proofs.YtknchhnibjfocaaDoor.Abs
