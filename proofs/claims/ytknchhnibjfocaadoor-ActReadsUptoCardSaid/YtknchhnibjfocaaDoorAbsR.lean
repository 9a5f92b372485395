/- An abstract machine: soundness of a step. -/
import Derived.Test.YtknchhnibjfocaaDoorAbsQ
namespace Go.Proofs.YtknchhnibjfocaaDoor.Abs
open Go
noncomputable section

inductive Leaves (fr : Frame) : Option Code → Prop
  | fin : fr.todo = [] → Leaves fr none
  | ret (k) : fr.todo = .code .ret :: k → Leaves fr (some .ret)
  | exit (i k) : fr.todo = .code (.exit i) :: k → exitTo i k = none → Leaves fr (some (.exit i))
  | goto (i k) : fr.todo = .code (.goto i) :: k → gotoIn i k = none → Leaves fr (some (.goto i))


section steps
variable {P : Program} {fr : Frame} {cs : List Frame} {w : World} {k : List Item}

theorem st_leave {l : Nat} {jump : Option Code} {v : Value} {w' : World} {c : Frame} {rest : List Frame} (hm : fr.mode = .run) (hro : fr.roundOf = some l) (hk : fr.kind = .normal) (hl : Leaves fr jump)
    (hr : (Instr.endRound l jump).run P w = .ok v w') : Go.step P (lone fr (c :: rest) w) = .next (lone (c.finish v) rest w') := by
  cases hl with
  | fin ht => exact step_lone_go (by simp [stepG, stepG.exec, hm, ht, hro, hr, doReturn, hk])
  | ret k ht => exact step_lone_go (by simp [stepG, stepG.exec, hm, ht, hro, hr, doReturn, hk])
  | exit i k ht he => exact step_lone_go (by simp [stepG, stepG.exec, hm, ht, hro, hr, doReturn, hk, he])
  | goto i k ht he => exact step_lone_go (by simp [stepG, stepG.exec, hm, ht, hro, hr, doReturn, hk, he])

theorem st_collected {b : Nat} {as : Array Value} {ds calls : List Deferred} {w' : World} (hm : fr.mode = .returning) (hd : fr.defers = { target := .collected b, args := as } :: ds) (hr : (Instr.takeDeferred b).run P w = .ok calls w') :
    Go.step P (lone fr cs w) = .next (lone { fr with defers := calls ++ ds } cs w') :=
  step_lone_go (by simp [stepG, unwind, hm, hd, hr])

theorem st_beginRound {l : Nat} {w' : World} (hm : fr.mode = .run) (ht : fr.todo = .beginRound :: k) (hro : fr.roundOf = some l) (hr : (Instr.beginRound l).run P w = .ok () w') :
    Go.step P (lone fr cs w) = .next (lone { fr with todo := k } cs w') :=
  step_lone_go (by simp [stepG, stepG.exec, hm, ht, hro, stepG.apply, hr, Frame.finish])

theorem st_endRange {l : Nat} {jump : Option Code} {w' : World} (hm : fr.mode = .run) (ht : fr.todo = .endRangeFunc l :: k) (hr : (Instr.endLoop l).run P w = .ok jump w') :
    Go.step P (lone fr cs w) = .next (lone { fr with todo := (jump.map Item.code).toList ++ k } cs w') :=
  step_lone_go (by simp [stepG, stepG.exec, hm, ht, hr])

theorem st_rangeFunc {f : Operand} {params : Array Tmp} {assign body : Code} {l g : Nat} {mark : List Deferred} {args : Array Value} {w1 w2 : World} (hm : fr.mode = .run) (ht : fr.todo = .code (.rangeFunc f params assign body) :: k)
    (h1 : (Instr.enterLoop fr.fn fr.tmps params assign body fr.roundOf).run P w = .ok (l, mark) w1)
    (h2 : (do let d ← Deferred.ofValue (fr.eval f) #[.func (.yield l) #[] #[]]; invoke d.target d.args : Sem Next).run P w1 = .ok (.enter g args) w2) :
    Go.step P (lone fr cs w) = .next (lone (Frame.enter P g args .normal) ({ fr with todo := .inRangeFunc l :: k, defers := mark ++ fr.defers } :: cs) w2) := by
  have he : ∀ (x : Operand), ({ fr with todo := .inRangeFunc l :: k, defers := mark ++ fr.defers } : Frame).eval x = fr.eval x := fun x => by cases x <;> rfl
  have h3 : (do let d ← resolve ({ fr with todo := .inRangeFunc l :: k, defers := mark ++ fr.defers } : Frame).eval { callee := .value f, args := #[.const (.func (.yield l) #[] #[])], argTypes := #[] } 0; invoke d.target d.args : Sem Next).run P w1 = .ok (.enter g args) w2 := by
    rw [← h2]
    simp only [resolve, he, List.map_toArray, List.map_cons, List.map_nil]
    rfl
  refine step_lone_go ?_
  simp only [Sem.run_bind, hm] at h3
  simp [stepG, stepG.exec, hm, ht, h1, stepG.apply, h3]
end steps

theorem exitToA_sound {r : Ren} {i : Nat} : ∀ {k : List AItem} {k2 : List AItem} {l : List Item}, All2 (IR r) k l → exitToA i k = some k2 → ∃ l2, exitTo i l = some l2 ∧ All2 (IR r) k2 l2 := by
  intro k
  induction k with
  | nil => intro k2 l _ e; cases e
  | cons a k ih =>
    intro k2 l h e
    obtain ⟨b, l', rfl, h1, h2⟩ := h.cons_inv
    cases h1 with
    | inBlock j =>
      simp only [exitToA] at e
      rw [exitTo]
      cases hb : Nat.beq j i with
      | true =>
        rw [hb] at e
        cases e
        have := Nat.eq_of_beq_eq_true hb
        subst this
        exact ⟨_, by simp, h2⟩
      | false =>
        rw [hb] at e
        have : ¬ j = i := fun hh => by subst hh; simp at hb
        obtain ⟨l2, q1, q2⟩ := ih h2 e
        exact ⟨l2, by simpa [this] using q1, q2⟩
    | _ => have := ih h2 e; exact this
theorem exitToA_none {r : Ren} {i : Nat} : ∀ {k : List AItem} {l : List Item}, All2 (IR r) k l → exitToA i k = none → exitTo i l = none := by
  intro k
  induction k with
  | nil => intro l h _; rw [h.nil_inv]; rfl
  | cons a k ih =>
    intro l h e
    obtain ⟨b, l', rfl, h1, h2⟩ := h.cons_inv
    cases h1 with
    | inBlock j =>
      simp only [exitToA] at e
      rw [exitTo]
      cases hb : Nat.beq j i with
      | true => rw [hb] at e; cases e
      | false =>
        rw [hb] at e
        have : ¬ j = i := fun hh => by subst hh; simp at hb
        simpa [this] using ih h2 e
    | _ => have := ih h2 e; exact this
theorem gotoInA_sound {r : Ren} {i : Nat} : ∀ {k : List AItem} {k2 : List AItem} {l : List Item}, All2 (IR r) k l → gotoInA i k = some k2 → ∃ l2, gotoIn i l = some l2 ∧ All2 (IR r) k2 l2 := by
  intro k
  induction k with
  | nil => intro k2 l _ e; cases e
  | cons a k ih =>
    intro k2 l h e
    obtain ⟨b, l', rfl, h1, h2⟩ := h.cons_inv
    cases h1 with
    | inScope c =>
      simp only [gotoInA] at e
      rw [gotoIn]
      split at e
      · rename_i rest hr; cases e; rw [hr]; exact ⟨_, rfl, .cons (.code _) (.cons (.inScope _) h2)⟩
      · rename_i hr; rw [hr]; exact ih h2 e
    | _ => have := ih h2 e; exact this
theorem gotoInA_none {r : Ren} {i : Nat} : ∀ {k : List AItem} {l : List Item}, All2 (IR r) k l → gotoInA i k = none → gotoIn i l = none := by
  intro k
  induction k with
  | nil => intro l h _; rw [h.nil_inv]; rfl
  | cons a k ih =>
    intro l h e
    obtain ⟨b, l', rfl, h1, h2⟩ := h.cons_inv
    cases h1 with
    | inScope c =>
      simp only [gotoInA] at e
      rw [gotoIn]
      split at e
      · cases e
      · rename_i hr; rw [hr]; exact ih h2 e
    | _ => have := ih h2 e; exact this

theorem doRetA_sound {P : Program} {base : List Frame} {r r1 : Ren} {h h1 : AH} {w w1 : World} {fr : Frame} {cs : List Frame} {c : List AFrame} (hc : CR r base c cs) {v v' : Value} (hv : VR r1 v v') (hh : HR P r1 h1 w1) (hx : Ext r h w r1 h1 w1)
    (hs : ∀ f rest, cs = f :: rest → Go.step P (lone fr cs w) = .next (lone (f.finish v') rest w1)) : FinOK P base r h w fr cs (doRetA c v h1) := by
  unfold doRetA
  split
  · rename_i f rest
    obtain ⟨f', rest', rfl, g1, g2⟩ := hc.cons_inv
    split
    · rename_i f2 hf2
      exact FinOK.go (hs _ _ rfl) hx ((g1.mono hx.sub).finish hv hf2) (g2.mono hx.sub) hh
    · trivial
  · trivial

theorem isNormal_eq {k : CallKind} (h : isNormal k = true) : k = .normal := by cases k <;> first | rfl | cases h

theorem roNone {r : Ren} {o : Option Nat} (h : RoR r Option.none o) : o = Option.none := by cases h; rfl

theorem leaveA_sound {T : Tab} {base : List Frame} {r : Ren} {h : AH} {w : World} {fr : AFrame} {f : Frame} {c : List AFrame} {cs : List Frame} (hr : HR T.P r h w) (hf : FR r fr f) (hc : CR r base c cs) (hm : fr.mode = .run) {jump : Option Code}
    (hl : Leaves f jump) : FinOK T.P base r h w f cs (leaveA fr c h jump) := by
  have hm' : f.mode = .run := MoR.run_inv (hm ▸ hf.mode)
  unfold leaveA
  split
  · rename_i hro
    have hro' : f.roundOf = none := roNone (hro ▸ hf.round)
    split
    · cases hl with
      | fin ht => exact FinOK.go (st_end hm' ht hro') (.refl _ _ _) ⟨hf.fn, hf.size, hf.tm, hf.un, hf.todo, hf.defers, .returning, hf.kind, hf.round⟩ hc hr
    · cases hl with
      | ret k ht => exact FinOK.go (st_ret hm' ht hro') (.refl _ _ _) ⟨hf.fn, hf.size, hf.tm, hf.un, hf.todo, hf.defers, .returning, hf.kind, hf.round⟩ hc hr
    · trivial
  · rename_i l hro
    have hro' := hf.round
    rw [hro] at hro'
    generalize hfr : f.roundOf = ro at hro'
    cases hro' with
    | some _ bk hb =>
      split
      · rename_i lp hg
        split
        · rename_i hk
          have hk' : f.kind = .normal := by rw [hf.kind]; exact isNormal_eq hk
          obtain ⟨bk', ob, g1, g2, g3⟩ := hr.live l _ hg
          rw [hb] at g1; cases g1
          obtain ⟨l', bd, rfl, k1, k2, k3, k4, k5, k6, k7, k8, k9⟩ := g3
          have hlt := (hr.lt l bk hb).2
          have hst : stAfter jump = (if jump.isNone then .ready else .done) := by cases jump <;> rfl
          have hup := hr.upd (o' := .loop { lp with state := stAfter jump, pending := jump }) (ob' := .loop { l' with state := if jump.isNone then .ready else .done, pending := jump })
            (w' := { w with heap := w.heap.setIfInBounds bk.blk (.loop { l' with state := if jump.isNone then .ready else .done, pending := jump }) }) hg rfl hb (by simp) (by simp [hlt])
            (fun i hi => by simp [Array.getElem?_setIfInBounds_ne (Ne.symm hi)]) ⟨_, bd, rfl, hst.symm, rfl, k3, k4, k5, k6, k7, k8, k9⟩
          refine doRetA_sound hc (v' := .bool jump.isNone) (.bool _) hup.1 hup.2 ?_
          intro c2 rest hcs
          subst hcs
          exact st_leave hm' hfr hk' hl (by simp [Instr.endRound, Instr.getLoop, getObj, Sem.run, g2, setObj])
        · trivial
      · trivial
end
end Go.Proofs.YtknchhnibjfocaaDoor.Abs
