/- An abstract machine: a step, all of it. -/
import Derived.Test.YtknchhnibjfocaaDoorAbsR
namespace Go.Proofs.YtknchhnibjfocaaDoor.Abs
open Go
noncomputable section

def DrawOK (T : Tab) (D : AFrame → List AFrame → AH → Nat → Array Oper → List AItem → Fin) : Prop :=
  ∀ (base : List Frame) (r : Ren) (h : AH) (w : World) (fr : AFrame) (c : List AFrame) (f : Frame) (cs : List Frame) (id : Nat) (ops : Array Oper) (k : List AItem),
    HR T.P r h w → fr.mode = .run → fr.todo = .code (.region id ops true) :: k → FR r fr f → CR r base c cs → FinOK T.P base r h w f cs (D fr c h id ops k)

theorem DefsR.all2 {r : Ren} : ∀ {l l' : List Deferred}, DefsR r l l' → All2 (DefR r) l l' := by
  intro l
  induction l with
  | nil => intro l' h; cases l' with
    | nil => exact .nil
    | cons a b => have := h.1; simp at this
  | cons a l ih => intro l' h; cases l' with
    | nil => have := h.1; simp at this
    | cons b l' => exact .cons (h.2 0 a b rfl rfl) (ih ⟨by have := h.1; simpa using this, fun i x y e e' => h.2 (i + 1) x y (by simpa using e) (by simpa using e')⟩)

theorem VR.undef (r : Ren) : VR r undef undef := .tuple _ _ rfl fun i v v' e => by simp at e

theorem tmpsOf_sound {r : Ren} {fr : AFrame} {f : Frame} (hf : FR r fr f) : LR r (tmpsOf fr.size fr.tm) f.tmps.toList := by
  refine ⟨by simp [tmpsOf, hf.size], ?_⟩
  intro i v v' e e'
  simp only [tmpsOf, List.getElem?_map] at e
  have hi : i < fr.size := by have := (List.getElem?_eq_some_iff.1 e').1; rw [← hf.size]; simpa using this
  rw [List.getElem?_range hi] at e
  simp only [Option.map_some, Option.some.injEq] at e
  subst e
  have h2 : f.tmps.getD i Go.undef = v' := by rw [Array.getD_eq_getD_getElem?, ← Array.getElem?_toList, e']; rfl
  cases hg : fr.tm.get i with
  | none => have := hf.un i hg; rw [h2] at this; rw [this]; exact VR.undef r
  | some x => have := hf.tm i x hg; rw [h2] at this; exact this

theorem rangeA_sound {T : Tab} (ok : TabOK T) {X : Exts} (hX : ExtOK T X) {base : List Frame} {r r1 : Ren} {h h1 : AH} {w w1 : World} {fr : AFrame} {f : Frame} {c : List AFrame} {cs : List Frame} (hf : FR r fr f) (hc : CR r base c cs) (hm : fr.mode = .run)
    {g : Operand} {params : Array Tmp} {assign body : Code} {k : List AItem} {k' : List Item} (ht : f.todo = .code (.rangeFunc g params assign body) :: k') (hk : All2 (IR r) k k') {bd : Nat} {bk : Bk} {mark mark' : List Deferred}
    (hh : HR T.P r1 h1 w1) (hx : Ext r h w r1 h1 w1) (hr : HR T.P r h w) (hb : r1 bd = some bk) (hmk : All2 (DefR r1) mark mark')
    (hs : (Instr.enterLoop f.fn f.tmps params assign body f.roundOf).run T.P w = .ok (w1.heap.size, mark') { w1 with heap := w1.heap.push (.loop { state := .ready, pending := none, fn := f.fn, tmps := f.tmps, params, assign, body, defers := bk.blk }) }) :
    FinOK T.P base r h w f cs (rangeA T X fr c g params assign body k bd mark h1) := by
  have hm' : f.mode = .run := MoR.run_inv (hm ▸ hf.mode)
  unfold rangeA
  split
  · rename_i fv hfv
    have hsub := hh.sub_add ⟨w1.heap.size, 0, 0, 0⟩
    obtain ⟨p1, p2⟩ := hh.new (w' := { w1 with heap := w1.heap.push (.loop { state := .ready, pending := none, fn := f.fn, tmps := f.tmps, params, assign, body, defers := bk.blk }) })
      (.loop { state := .ready, pending := none, fn := fr.fn, tmps := (tmpsOf fr.size fr.tm).toArray, params := params, assign := assign, body := body, defers := bd })
      (.loop { state := .ready, pending := none, fn := f.fn, tmps := f.tmps, params, assign, body, defers := bk.blk }) ⟨w1.heap.size, 0, 0, 0⟩ rfl rfl
      ⟨_, bk, rfl, rfl, rfl, hf.fn, rfl, rfl, rfl, by simpa using (tmpsOf_sound hf).mono (hx.sub.trans hsub), hsub _ _ hb, rfl⟩
    split
    · rename_i gf args h2 hcall
      split
      · rename_i cf hcf
        have hfx := hf.mono (hx.sub.trans hsub)
        have hvr : VR (r1.add h1.next ⟨w1.heap.size, 0, 0, 0⟩) fv (f.eval g) := by
          have := frame_ER ok p1 hfx.tm
          exact this g fv hfv
        have hyield : LR (r1.add h1.next ⟨w1.heap.size, 0, 0, 0⟩) [.func (.yield h1.next) #[] #[]] (#[.func (.yield w1.heap.size) #[] #[]] : Array Value).toList :=
          (LR.nil _).cons (.func _ _ _ _ _ _ (.yield _ ⟨w1.heap.size, 0, 0, 0⟩ (Ren.add_same _ _ _)) rfl (fun i v v' e => by simp at e) rfl (fun i v v' e => by simp at e))
        obtain ⟨w2, r2, q1, q2, args', q3, q4⟩ := evCall_sound ok hX p1 hvr hyield hcall
        refine FinOK.go (st_rangeFunc hm' ht hs q3) ((hx.trans hr p2).trans hr q2) (enterA_sound ok q4 hcf).1 ?_ q1
        have hf2 := hfx.mono q2.sub
        have hs2 := (hx.sub.trans hsub).trans q2.sub
        refine (hc.mono hs2).cons ⟨hf2.fn, hf2.size, hf2.tm, hf2.un, .cons (.inRange h1.next _ (q2.sub _ _ (Ren.add_same _ _ _))) (hk.mono fun _ _ h => h.mono hs2), ?_, hf2.mode, hf2.kind, hf2.round⟩
        exact (hmk.mono fun _ _ h => h.mono (hsub.trans q2.sub)).append hf2.defers
      · trivial
    · trivial
  · trivial

theorem stepCode_sound {T : Tab} (ok : TabOK T) (oz : TabZ T) {X : Exts} (hX : ExtOK T X) {D : AFrame → List AFrame → AH → Nat → Array Oper → List AItem → Fin} (hD : DrawOK T D) {base : List Frame} {r : Ren} {h : AH} {w : World}
    {fr : AFrame} {f : Frame} {c : List AFrame} {cs : List Frame} (hr : HR T.P r h w) (hf : FR r fr f) (hc : CR r base c cs) (hm : fr.mode = .run) {b : Code} {k : List AItem} (ht : fr.todo = .code b :: k) :
    FinOK T.P base r h w f cs (stepCode T X D fr c h b k) := by
  have hm' : f.mode = .run := MoR.run_inv (hm ▸ hf.mode)
  have hE := frame_ER ok hr hf.tm
  have h0 := hf.todo
  rw [ht] at h0
  obtain ⟨b', k', h1, h2, h3⟩ := h0.cons_inv
  cases h2
  have to : ∀ {k2 : List AItem} {l2 : List Item}, All2 (IR r) k2 l2 → FR r { fr with todo := k2 } { f with todo := l2 } := fun g => ⟨hf.fn, hf.size, hf.tm, hf.un, g, hf.defers, hf.mode, hf.kind, hf.round⟩
  unfold stepCode
  split
  · exact leaveA_sound hr hf hc hm (.ret _ h1)
  · exact FinOK.go (st_skip hm' h1) (.refl _ _ _) (to h3) hc hr
  · exact FinOK.go (st_label hm' h1) (.refl _ _ _) (to h3) hc hr
  · exact FinOK.go (st_seq hm' h1) (.refl _ _ _) (to (.cons (.code _) (.cons (.code _) h3))) hc hr
  · rename_i x a b
    split
    · rename_i t hev
      have hv := hE _ _ hev
      generalize hfx : f.eval x = x' at hv
      cases hv
      refine FinOK.go (st_cond hm' h1 hfx) (.refl _ _ _) (to (.cons ?_ h3)) hc hr
      cases t <;> exact .code _
    · trivial
  · exact FinOK.go (st_block hm' h1) (.refl _ _ _) (to (.cons (.code _) (.cons (.inBlock _) h3))) hc hr
  · exact FinOK.go (st_loop hm' h1) (.refl _ _ _) (to (.cons (.code _) (.cons (.inLoop _) h3))) hc hr
  · exact FinOK.go (st_scope hm' h1) (.refl _ _ _) (to (.cons (.code _) (.cons (.inScope _) h3))) hc hr
  · rename_i i
    split
    · rename_i k2 hk
      obtain ⟨l2, q1, q2⟩ := exitToA_sound h3 hk
      exact FinOK.go (st_exit hm' h1 q1) (.refl _ _ _) (to q2) hc hr
    · rename_i hk
      split
      · exact leaveA_sound hr hf hc hm (.exit _ _ h1 (exitToA_none h3 hk))
      · trivial
  · rename_i i
    split
    · rename_i k2 hk
      obtain ⟨l2, q1, q2⟩ := gotoInA_sound h3 hk
      exact FinOK.go (st_goto hm' h1 q1) (.refl _ _ _) (to q2) hc hr
    · rename_i hk
      split
      · exact leaveA_sound hr hf hc hm (.goto _ _ h1 (gotoInA_none h3 hk))
      · trivial
  · rename_i id ops draw
    split
    · refine FinOK.of_steps hr (.one (st_region hm' h1)) (.refl _ _ _) (opsLoop_sound ok oz hX hm ops.toList fr.tm h r w _ cs hr (to (.cons (.ops _ _ _ ?_) h3)) hc)
      apply List.ext_getElem?
      intro i
      by_cases hi : i < ops.size
      · simp [hi]
      · simp [hi]
    · exact hD base r h w fr c f cs id ops k hr hm ht hf hc
  · rename_i g params assign body
    split
    · rename_i hro
      have hro' : f.roundOf = none := roNone (hro ▸ hf.round)
      obtain ⟨p1, p2⟩ := hr.new (w' := { w with heap := w.heap.push (.deferred (some [])) }) (.defs (some [])) (.deferred (some [])) ⟨w.heap.size, 0, 0, 0⟩ rfl rfl ⟨[], rfl, rfl, fun i d d' e => by simp at e⟩
      refine rangeA_sound ok hX hf hc hm h1 h3 p1 p2 hr (Ren.add_same _ _ _) (mark' := [{ target := .collected w.heap.size, args := #[] }]) (.cons (.inr ⟨_, _, rfl, Ren.add_same _ _ _, rfl⟩) .nil) ?_
      simp [Instr.enterLoop, hro', newObj, Sem.run]
      rfl
    · rename_i l hro
      have hro' := hf.round
      rw [hro] at hro'
      generalize hfr : f.roundOf = ro at hro'
      cases hro' with
      | some _ bk hb =>
        split
        · rename_i lp hg
          obtain ⟨bk', ob, g1, g2, g3⟩ := hr.live l _ hg
          rw [hb] at g1; cases g1
          obtain ⟨l', bd, rfl, k1, k2, k3, k4, k5, k6, k7, k8, k9⟩ := g3
          refine rangeA_sound ok hX hf hc hm h1 h3 hr (.refl _ _ _) hr k8 (mark' := []) .nil ?_
          simp [Instr.enterLoop, hfr, Instr.getLoop, getObj, newObj, Sem.run, g2, k9]
        · trivial
  · trivial

theorem stepA_sound {T : Tab} (ok : TabOK T) (oz : TabZ T) {X : Exts} (hX : ExtOK T X) {D : AFrame → List AFrame → AH → Nat → Array Oper → List AItem → Fin} (hD : DrawOK T D) {base : List Frame} {r : Ren} {h : AH} {w : World}
    {fr : AFrame} {f : Frame} {c : List AFrame} {cs : List Frame} (hr : HR T.P r h w) (hf : FR r fr f) (hc : CR r base c cs) : FinOK T.P base r h w f cs (stepA T X D fr c h) := by
  have h0 := hf.todo
  unfold stepA
  split
  · rename_i hm
    have hm' : f.mode = .run := MoR.run_inv (hm ▸ hf.mode)
    have to : ∀ {k2 : List AItem} {l2 : List Item}, All2 (IR r) k2 l2 → FR r { fr with todo := k2 } { f with todo := l2 } := fun g => ⟨hf.fn, hf.size, hf.tm, hf.un, g, hf.defers, hf.mode, hf.kind, hf.round⟩
    split
    · rename_i ht
      rw [ht] at h0
      exact leaveA_sound hr hf hc hm (.fin h0.nil_inv)
    · rename_i b k ht
      exact stepCode_sound ok oz hX hD hr hf hc hm ht
    · rename_i i k ht
      rw [ht] at h0
      obtain ⟨b', k', h1, h2, h3⟩ := h0.cons_inv
      cases h2
      exact FinOK.go (st_inBlock hm' h1) (.refl _ _ _) (to h3) hc hr
    · rename_i i k ht
      rw [ht] at h0
      obtain ⟨b', k', h1, h2, h3⟩ := h0.cons_inv
      cases h2
      exact FinOK.go (st_inScope hm' h1) (.refl _ _ _) (to h3) hc hr
    · rename_i b k ht
      rw [ht] at h0
      obtain ⟨b', k', h1, h2, h3⟩ := h0.cons_inv
      cases h2
      exact FinOK.go (st_inLoop hm' h1) (.refl _ _ _) (to (.cons (.code _) (.cons (.inLoop _) h3))) hc hr
    · rename_i all rest k ht
      refine opsLoop_sound ok oz hX hm rest fr.tm h r w f cs hr ?_ hc
      rw [ht] at h0
      exact ⟨hf.fn, hf.size, hf.tm, hf.un, h0, hf.defers, hf.mode, hf.kind, hf.round⟩
    · trivial
    · rename_i k ht
      rw [ht] at h0
      obtain ⟨b', k', h1, h2, h3⟩ := h0.cons_inv
      cases h2
      split
      · rename_i l hro
        have hro' := hf.round
        rw [hro] at hro'
        generalize hfr : f.roundOf = ro at hro'
        cases hro' with
        | some _ bk hb =>
          split
          · rename_i lp hg
            split
            · rename_i hst
              obtain ⟨bk', ob, g1, g2, g3⟩ := hr.live l _ hg
              rw [hb] at g1; cases g1
              obtain ⟨l', bd, rfl, k1, k2, k3, k4, k5, k6, k7, k8, k9⟩ := g3
              have hlt := (hr.lt l bk hb).2
              have hup := hr.upd (o' := .loop { lp with state := .busy }) (ob' := .loop { l' with state := .busy })
                (w' := { w with heap := w.heap.setIfInBounds bk.blk (.loop { l' with state := .busy }) }) hg rfl hb (by simp) (by simp [hlt])
                (fun i hi => by simp [Array.getElem?_setIfInBounds_ne (Ne.symm hi)]) ⟨_, bd, rfl, rfl, k2, k3, k4, k5, k6, k7, k8, k9⟩
              refine FinOK.go (st_beginRound hm' h1 hfr ?_) hup.2 (to h3) hc hup.1
              simp [Instr.beginRound, Instr.getLoop, getObj, Sem.run, g2, setObj, k1, hst]
            · trivial
          · trivial
      · trivial
    · rename_i l k ht
      rw [ht] at h0
      obtain ⟨b', k', h1, h2, h3⟩ := h0.cons_inv
      cases h2 with
      | endRange _ bk hb =>
        split
        · rename_i lp hg
          split
          · trivial
          · rename_i hst
            obtain ⟨bk', ob, g1, g2, g3⟩ := hr.live l _ hg
            rw [hb] at g1; cases g1
            obtain ⟨l', bd, rfl, k1, k2, k3, k4, k5, k6, k7, k8, k9⟩ := g3
            have hlt := (hr.lt l bk hb).2
            have hup := hr.upd (o' := .loop { lp with state := .exhausted }) (ob' := .loop { l' with state := .exhausted })
              (w' := { w with heap := w.heap.setIfInBounds bk.blk (.loop { l' with state := .exhausted }) }) hg rfl hb (by simp) (by simp [hlt])
              (fun i hi => by simp [Array.getElem?_setIfInBounds_ne (Ne.symm hi)]) ⟨_, bd, rfl, rfl, k2, k3, k4, k5, k6, k7, k8, k9⟩
            refine FinOK.go (st_endRange (jump := lp.pending) hm' h1 ?_) hup.2 (to ?_) hc hup.1
            · have : l'.state ≠ LoopState.busy := by rw [k1]; exact fun hh => hst hh
              simp [Instr.endLoop, Instr.getLoop, getObj, Sem.run, g2, setObj, this, k2]
            · cases lp.pending with
              | none => simpa using h3
              | some j => exact .cons (.code j) (by simpa using h3)
        · trivial
  · rename_i hm
    have hm' : f.mode = .returning := MoR.ret_inv (hm ▸ hf.mode)
    have hd0 := hf.defers
    split
    · rename_i b as ds hds
      rw [hds] at hd0
      obtain ⟨d', ds', e1, e2, e3⟩ := hd0.cons_inv
      rcases e2 with ⟨fn, fn', c1, c2, q1, _⟩ | ⟨b2, bk, q1, q2, q3⟩
      · cases q1
      · cases q1
        split
        · rename_i l hg
          obtain ⟨bk', ob, g1, g2, g3⟩ := hr.live b _ hg
          rw [q2] at g1; cases g1
          obtain ⟨l', rfl, g4⟩ := g3
          have hlt := (hr.lt b bk q2).2
          have hup := hr.upd (o' := .defs none) (ob' := .deferred none)
            (w' := { w with heap := w.heap.setIfInBounds bk.blk (.deferred none) }) hg rfl q2 (by simp) (by simp [hlt])
            (fun i hi => by simp [Array.getElem?_setIfInBounds_ne (Ne.symm hi)]) rfl
          refine FinOK.go (st_collected (b := bk.blk) (as := d'.args) (ds := ds') (calls := l') hm' ?_ ?_) hup.2 ⟨hf.fn, hf.size, hf.tm, hf.un, hf.todo, ?_, hf.mode, hf.kind, hf.round⟩ hc hup.1
          · rw [e1, ← q3]
          · simp [Instr.takeDeferred, getObj, Sem.run, g2, setObj]
          · refine All2.append ?_ e3
            exact g4.all2
        · trivial
    · trivial
    · rename_i hds
      rw [hds] at hd0
      split
      · rename_i hk
        have hk' : f.kind = .normal := by rw [hf.kind]; exact isNormal_eq hk
        split
        · rename_i v hv
          obtain ⟨fn, v', q1, q2, q3⟩ := resultA_sound ok hr hf.tm hv
          have hl : f.leaving T.P w (.returned v') := ⟨hm', hd0.nil_inv, hk', fn, by rw [hf.fn]; exact q1, q2⟩
          split
          · have := hc.nil_inv
            subst this
            exact ⟨r, w, f, v', .refl _ _, hf.fn, hl, q3, hr, .refl _ _ _⟩
          · refine doRetA_sound hc q3 hr (.refl _ _ _) ?_
            intro c2 rest hcs
            subst hcs
            exact step_leave_returned hl
        · trivial
      · trivial
  · trivial
end
end Go.Proofs.YtknchhnibjfocaaDoor.Abs
