/- An abstract machine: its code in great steps, and its calls: soundness. -/
import Derived.Test.YtknchhnibjfocaaDoorAbsZC
namespace Go.Proofs.YtknchhnibjfocaaDoor.Abs
open Go
noncomputable section

section
variable {T : Tab} (ok : TabOK T) (oz : TabZ T) {X : Exts} (hX : ExtOK T X) {call : Callee} (hc : RecOK T call) {self : Self} (hs : SelfOK T self)
include ok oz hX hc hs

theorem stepB_sound : SelfOK T (stepB T X call self) := by
  intro E j tm h df
  have one : ∀ {tm : PM Value} {todo : List AItem} {df : List Nat} {cs : List AFrame} {h : AH} {c' : Conf}, stepA T X noDraw (mkF E tm todo df) cs h = .next c' → RunM T ⟨mkF E tm todo df, cs, h⟩ c' := RunM.one ok oz hX
  unfold stepB
  cases j with
  | loop body =>
      simp only
      have h1 := hs E (.code body) tm h df
      generalize self E (.code body) tm h df = out at h1
      cases out with
      | fall tm1 h2 df1 =>
        have h3 := hs E (.loop body) tm1 h2 df1
        have hrun : ∀ cs k, RunM T ⟨mkF E tm ((Job.loop body).items k) df, cs, h⟩ ⟨mkF E tm1 ((Job.loop body).items k) df1, cs, h2⟩ := fun cs k => RunM.trans (one rfl) (h1 cs (.inLoop body :: k))
        simp only
        generalize self E (.loop body) tm1 h2 df1 = out at h3
        cases out with
        | fall tm4 h4 df4 => intro cs k; exact RunM.trans (hrun cs k) (h3 cs k)
        | jump j4 tm4 h4 df4 => intro cs k; obtain ⟨k4, p1, p2⟩ := h3 cs k; exact ⟨k4, RunM.trans (hrun cs k) p1, p2⟩
        | bad => trivial
      | jump j1 tm1 h2 df1 =>
        intro cs k
        obtain ⟨k2, p1, p2⟩ := h1 cs (.inLoop body :: k)
        refine ⟨k2, RunM.trans (one rfl) p1, ?_⟩
        cases j1 <;> exact p2
      | bad => trivial
  | scope body start =>
    simp only
    have h1 := hs E (.code start) tm h df
    split
    · rename_i j tm1 h2 df1 he
      rw [he] at h1
      have gen : ∀ (_ : ∀ l, j ≠ .goto l), Does T E (.scope body start) tm h df (.jump j tm1 h2 df1) := by
        intro hj cs k
        obtain ⟨k2, p1, p2⟩ := h1 cs (.inScope body :: k)
        refine ⟨k2, p1, ?_⟩
        cases j with
        | goto l => exact absurd rfl (hj l)
        | _ => exact p2
      split
      · rename_i l
        split
        · rename_i rest hl
          have h3 := hs E (.scope body rest) tm1 h2 df1
          have hrun : ∀ cs k, RunM T ⟨mkF E tm ((Job.scope body start).items k) df, cs, h⟩ ⟨mkF E tm1 ((Job.scope body rest).items k) df1, cs, h2⟩ := by
            intro cs k
            obtain ⟨k2, p1, p2⟩ := h1 cs (.inScope body :: k)
            refine RunM.trans p1 (one ?_)
            have p3 : gotoInA l k2 = some (.code rest :: .inScope body :: k) := by
              have : gotoInA l k2 = gotoInA l (.inScope body :: k) := p2
              rw [this, gotoInA, hl]
            show (match gotoInA l k2 with | some k => goOn (mkF E tm1 k df1) cs h2 | none => _) = _
            rw [p3]; rfl
          generalize self E (.scope body rest) tm1 h2 df1 = out at h3
          cases out with
          | fall tm4 h4 df4 => intro cs k; exact RunM.trans (hrun cs k) (h3 cs k)
          | jump j4 tm4 h4 df4 => intro cs k; obtain ⟨k4, p1, p2⟩ := h3 cs k; exact ⟨k4, RunM.trans (hrun cs k) p1, p2⟩
          | bad => trivial
        · rename_i hl
          intro cs k
          obtain ⟨k2, p1, p2⟩ := h1 cs (.inScope body :: k)
          refine ⟨k2, p1, ?_⟩
          have : gotoInA l k2 = gotoInA l (.inScope body :: k) := p2
          show gotoInA l k2 = gotoInA l k
          rw [this, gotoInA, hl]
      · rename_i hj; exact gen hj
    · rename_i hnj
      generalize self E (.code start) tm h df = out at h1 hnj
      cases out with
      | fall tm1 h2 df1 => intro cs k; exact RunM.trans (h1 cs (.inScope body :: k)) (one rfl)
      | jump j1 tm1 h2 df1 => exact absurd rfl (hnj _ _ _ _)
      | bad => trivial
  | code c =>
    simp only
    cases c with
    | ret => intro cs k; exact ⟨k, RunM.refl _, trivial⟩
    | exit i => intro cs k; exact ⟨k, RunM.refl _, rfl⟩
    | goto i => intro cs k; exact ⟨k, RunM.refl _, rfl⟩
    | skip => intro cs k; exact one rfl
    | label l => intro cs k; exact one rfl
    | seq a b =>
      simp only
      have h1 := hs E (.code a) tm h df
      generalize self E (.code a) tm h df = out at h1
      cases out with
      | fall tm1 h2 df1 =>
        have h3 := hs E (.code b) tm1 h2 df1
        have hrun : ∀ cs k, RunM T ⟨mkF E tm ((Job.code (.seq a b)).items k) df, cs, h⟩ ⟨mkF E tm1 ((Job.code b).items k) df1, cs, h2⟩ := fun cs k => RunM.trans (one rfl) (h1 cs (.code b :: k))
        simp only
        generalize self E (.code b) tm1 h2 df1 = out at h3
        cases out with
        | fall tm4 h4 df4 => intro cs k; exact RunM.trans (hrun cs k) (h3 cs k)
        | jump j4 tm4 h4 df4 => intro cs k; obtain ⟨k4, p1, p2⟩ := h3 cs k; exact ⟨k4, RunM.trans (hrun cs k) p1, p2⟩
        | bad => trivial
      | jump j1 tm1 h2 df1 =>
        intro cs k
        obtain ⟨k2, p1, p2⟩ := h1 cs (.code b :: k)
        refine ⟨k2, RunM.trans (one rfl) p1, ?_⟩
        cases j1 <;> exact p2
      | bad => trivial
    | cond c x y =>
      simp only
      split
      · rename_i b hb
        have h3 := hs E (.code (ifB b x y)) tm h df
        have hrun : ∀ cs k, RunM T ⟨mkF E tm ((Job.code (.cond c x y)).items k) df, cs, h⟩ ⟨mkF E tm ((Job.code (ifB b x y)).items k) df, cs, h⟩ := fun cs k => one (by
          show (match ev T tm c with | some (.bool b) => goOn (mkF E tm (.code (ifB b x y) :: k) df) cs h | _ => Fin.stuck) = _
          rw [hb]; rfl)
        generalize self E (.code (ifB b x y)) tm h df = out at h3
        cases out with
        | fall tm4 h4 df4 => intro cs k; exact RunM.trans (hrun cs k) (h3 cs k)
        | jump j4 tm4 h4 df4 => intro cs k; obtain ⟨k4, p1, p2⟩ := h3 cs k; exact ⟨k4, RunM.trans (hrun cs k) p1, p2⟩
        | bad => trivial
      · trivial
    | block i body =>
      simp only
      have h1 := hs E (.code body) tm h df
      generalize self E (.code body) tm h df = out at h1
      cases out with
      | fall tm1 h2 df1 => intro cs k; exact RunM.trans (one rfl) (RunM.trans (h1 cs (.inBlock i :: k)) (one rfl))
      | jump j1 tm1 h2 df1 =>
        have gen : (∀ i', j1 ≠ .exit i') → Does T E (.code (.block i body)) tm h df (.jump j1 tm1 h2 df1) := by
          intro hj cs k
          obtain ⟨k2, p1, p2⟩ := h1 cs (.inBlock i :: k)
          refine ⟨k2, RunM.trans (one rfl) p1, ?_⟩
          cases j1 with
          | exit i' => exact absurd rfl (hj i')
          | _ => exact p2
        simp only
        split
        · rename_i i'
          cases hb : Nat.beq i i' with
          | true =>
            intro cs k
            obtain ⟨k2, p1, p2⟩ := h1 cs (.inBlock i :: k)
            refine RunM.trans (one rfl) (RunM.trans p1 (one ?_))
            have p3 : exitToA i' k2 = some k := by
              have : exitToA i' k2 = exitToA i' (.inBlock i :: k) := p2
              rw [this, exitToA, hb]; rfl
            show (match exitToA i' k2 with | some k => goOn (mkF E tm1 k df1) cs h2 | none => _) = _
            rw [p3]; rfl
          | false =>
            intro cs k
            obtain ⟨k2, p1, p2⟩ := h1 cs (.inBlock i :: k)
            refine ⟨k2, RunM.trans (one rfl) p1, ?_⟩
            have : exitToA i' k2 = exitToA i' (.inBlock i :: k) := p2
            show exitToA i' k2 = exitToA i' k
            rw [this, exitToA, hb]; rfl
        · rename_i hj; exact gen hj
      | bad => trivial
    | loop body =>
      simp only
      have h1 := hs E (.code body) tm h df
      generalize self E (.code body) tm h df = out at h1
      cases out with
      | fall tm1 h2 df1 =>
        have h3 := hs E (.loop body) tm1 h2 df1
        have hrun : ∀ cs k, RunM T ⟨mkF E tm ((Job.code (.loop body)).items k) df, cs, h⟩ ⟨mkF E tm1 ((Job.loop body).items k) df1, cs, h2⟩ := fun cs k => RunM.trans (one rfl) (h1 cs (.inLoop body :: k))
        simp only
        generalize self E (.loop body) tm1 h2 df1 = out at h3
        cases out with
        | fall tm4 h4 df4 => intro cs k; exact RunM.trans (hrun cs k) (h3 cs k)
        | jump j4 tm4 h4 df4 => intro cs k; obtain ⟨k4, p1, p2⟩ := h3 cs k; exact ⟨k4, RunM.trans (hrun cs k) p1, p2⟩
        | bad => trivial
      | jump j1 tm1 h2 df1 =>
        intro cs k
        obtain ⟨k2, p1, p2⟩ := h1 cs (.inLoop body :: k)
        refine ⟨k2, RunM.trans (one rfl) p1, ?_⟩
        cases j1 <;> exact p2
      | bad => trivial
    | scope body =>
      simp only
      have h3 := hs E (.scope body body) tm h df
      generalize self E (.scope body body) tm h df = out at h3
      cases out with
      | fall tm4 h4 df4 => intro cs k; exact RunM.trans (one rfl) (h3 cs k)
      | jump j4 tm4 h4 df4 => intro cs k; obtain ⟨k4, p1, p2⟩ := h3 cs k; exact ⟨k4, RunM.trans (one rfl) p1, p2⟩
      | bad => trivial
    | region id ops draw =>
      cases draw with
      | false =>
        simp only
        cases ho : opsB T X call self E ops df ops.toList tm h with
        | fall tm4 h4 df4 => intro cs k; exact RunM.trans region_ops (opsB_sound ok oz hX hc hs _ _ _ ho)
        | jump j4 tm4 h4 df4 => exact absurd ho (opsB_nojump _ _ _)
        | bad => trivial
      | true =>
        simp only
        cases ho : drawB T X call E ops tm h df with
        | fall tm4 h4 df4 => intro cs k; exact drawB_sound ok oz hX hc ho
        | jump j4 tm4 h4 df4 => exact absurd ho drawB_nojump
        | bad => trivial
    | rangeFunc f params assign body =>
      simp only
      split
      · rename_i hro
        refine rangeB_sound ok oz hX ?_
        intro cs k fv gf args h2 h3 v hfv hcall hcc base r w fr cs' hr hf hcr
        obtain ⟨b', k', h1, h4, h5⟩ := hf.todo.cons_inv
        cases h4
        have hro' : fr.roundOf = none := roNone (by have := hf.round; rw [show (mkF E tm (AItem.code (Code.rangeFunc f params assign body) :: k) df).round = E.rnd from rfl, hro] at this; exact this)
        obtain ⟨p1, p2⟩ := hr.new (w' := { w with heap := w.heap.push (.deferred (some [])) }) (.defs (some [])) (.deferred (some [])) ⟨w.heap.size, 0, 0, 0⟩ rfl rfl ⟨[], rfl, rfl, fun i d d' e => by simp at e⟩
        refine range_call ok hX hc hf hcr rfl h1 h5 p1 p2 hr (Ren.add_same _ _ _) (mark := [{ target := .collected h.next, args := #[] }]) (mark' := [{ target := .collected w.heap.size, args := #[] }])
          (.cons (.inr ⟨_, _, rfl, Ren.add_same _ _ _, rfl⟩) .nil) ?_ hfv hcall hcc
        simp [Instr.enterLoop, hro', newObj, Sem.run]
        rfl
      · rename_i l hro
        split
        · rename_i lp hg
          refine rangeB_sound ok oz hX ?_
          intro cs k fv gf args h2 h3 v hfv hcall hcc base r w fr cs' hr hf hcr
          obtain ⟨b', k', h1, h4, h5⟩ := hf.todo.cons_inv
          cases h4
          have hro' := hf.round
          rw [show (mkF E tm (AItem.code (Code.rangeFunc f params assign body) :: k) df).round = E.rnd from rfl, hro] at hro'
          generalize hfr : fr.roundOf = ro at hro'
          cases hro' with
          | some _ bk hb =>
            obtain ⟨bk', ob, g1, g2, g3⟩ := hr.live l _ hg
            rw [hb] at g1; cases g1
            obtain ⟨l', bd, rfl, k1, k2, k3, k4, k5, k6, k7, k8, k9⟩ := g3
            refine range_call ok hX hc hf hcr rfl h1 h5 hr (.refl _ _ _) hr k8 (mark := []) (mark' := []) .nil ?_ hfv hcall hcc
            simp [Instr.enterLoop, hfr, Instr.getLoop, getObj, newObj, Sem.run, g2, k9]
        · trivial
    | refuse m => trivial
omit hs in
theorem codeB_sound (n : Nat) : SelfOK T (codeB T X call n) := by
  induction n with
  | zero => intro E j tm h df; trivial
  | succ n ih => exact stepB_sound ok oz hX hc ih
end

section
variable {T : Tab} (ok : TabOK T) (oz : TabZ T) {X : Exts} (hX : ExtOK T X)
include ok oz hX

theorem undef1_sound {E : Env} {tm : PM Value} {todo : List AItem} : ∀ {df : List Nat} {h h1 : AH}, undef1 df h = some h1 →
    RunM T ⟨{ mkF E tm todo df with mode := .returning }, [], h⟩ ⟨{ mkF E tm todo [] with mode := .returning }, [], h1⟩ := by
  intro df
  induction df with
  | nil => intro h h1 e; cases e; exact RunM.refl _
  | cons b df ih =>
    intro h h1 e
    rw [undef1] at e
    split at e
    · rename_i hb
      refine RunM.trans (RunM.step ok oz hX (noDraw_ok T) (c' := ⟨{ mkF E tm todo df with mode := .returning }, [], h.set b (.defs none)⟩) ?_) (ih e)
      show (match h.get b with | some (.defs (some l)) => goOn { mkF E tm todo (b :: df) with mode := .returning, defers := l ++ marks df } [] (h.set b (.defs none)) | _ => Fin.stuck) = _
      rw [hb]; rfl
    · cases e

/-- A frame that goes back gives its value. -/
theorem retB_sound {f size : Nat} {tm : PM Value} {todo : List AItem} {df : List Nat} {h h1 : AH} {v : Value} (e : retB T f tm h df = some (v, h1)) {base : List Frame} {r : Ren} {w : World} {fr : Frame}
    (hr : HR T.P r h w) (hf : FR r { mkF ⟨f, size, none⟩ tm todo df with mode := .returning } fr) : FinOK T.P base r h w fr base (.ret f v h1) := by
  unfold retB at e
  split at e
  · rename_i h2 hu
    split at e
    · rename_i v2 hv
      cases e
      have hx := undef1_sound ok oz hX (E := ⟨f, size, none⟩) (tm := tm) (todo := todo) hu base r w fr base hr hf ⟨[], rfl, .nil⟩
      obtain ⟨r2, w2, fr2, cs2, p1, p2, p3, p4, p5⟩ := hx
      obtain rfl : cs2 = base := p3.nil_inv
      refine FinOK.of_steps hr p1 p5 ?_
      have := stepA_sound ok oz hX (noDraw_ok T) p4 p2 p3
      have e2 : stepA T X noDraw { mkF ⟨f, size, none⟩ tm todo [] with mode := .returning } [] h1 = .ret f v h1 := by
        show (match resultA T f tm h1 with | some v => Fin.ret f v h1 | none => Fin.stuck) = _
        rw [hv]
      rw [e2] at this
      exact this
    · cases e
  · cases e

variable {call : Callee} (hc : RecOK T call)
include hc
theorem frameB_sound (n : Nat) : RecOK T (frameB T X call n) := by
  intro f args h v h' e base r w args' hr ha
  unfold frameB at e
  split at e
  · rename_i fd hfd
    split at e
    · rename_i c hb
      obtain ⟨e1, e⟩ := ifB_some e
      have hE : enterA T f args .normal = some (mkF ⟨f, fd.ntmps, none⟩ (PM.ofList args) [.code c] []) := by
        unfold enterA
        simp only [hfd, hb, e1, ifB_true]
        rfl
      obtain ⟨g1, _⟩ := enterA_sound ok ha hE
      have hd := codeB_sound ok oz hX hc n ⟨f, fd.ntmps, none⟩ (.code c) (PM.ofList args) h []
      split at e
      · rename_i tm h2 df he
        rw [he] at hd
        obtain ⟨r2, w2, fr2, cs2, p1, p2, p3, p4, p5⟩ := RunM.trans (hd [] []) (RunM.one ok oz hX (c' := ⟨{ mkF ⟨f, fd.ntmps, none⟩ tm [] df with mode := .returning }, [], h2⟩) rfl) base r w _ base hr g1 ⟨[], rfl, .nil⟩
        obtain rfl : cs2 = base := p3.nil_inv
        obtain ⟨r3, w3, fr3, v3, q1, q2, q3, q4, q5, q6⟩ := FinOK.of_steps hr p1 p5 (retB_sound ok oz hX e p4 p2)
        exact ⟨r3, w3, fr3, v3, q1, q2, q3, q4, q5, q6⟩
      · rename_i j tm h2 df he
        rw [he] at hd
        split at e
        · obtain ⟨k2, p0, _⟩ := hd [] []
          obtain ⟨r2, w2, fr2, cs2, p1, p2, p3, p4, p5⟩ := RunM.trans p0 (RunM.one ok oz hX (c' := ⟨{ mkF ⟨f, fd.ntmps, none⟩ tm (.code .ret :: k2) df with mode := .returning }, [], h2⟩) rfl) base r w _ base hr g1 ⟨[], rfl, .nil⟩
          obtain rfl : cs2 = base := p3.nil_inv
          obtain ⟨r3, w3, fr3, v3, q1, q2, q3, q4, q5, q6⟩ := FinOK.of_steps hr p1 p5 (retB_sound ok oz hX e p4 p2)
          exact ⟨r3, w3, fr3, v3, q1, q2, q3, q4, q5, q6⟩
        · cases e
      · cases e
    · cases e
  · cases e
end

theorem callB_sound {T : Tab} (ok : TabOK T) (oz : TabZ T) {X : Exts} (hX : ExtOK T X) {S : Sums} (hS : SumOK T S) (n : Nat) : ∀ d, RecOK T (callB T X S n d) := by
  intro d
  induction d with
  | zero => intro g args h v h' e; cases e
  | succ d ih =>
    intro f args h v h' e
    change (match S f with
      | some g => match g args h with
        | some r => some r
        | none => frameB T X (callB T X S n d) n f args h
      | none => frameB T X (callB T X S n d) n f args h) = _ at e
    split at e
    · rename_i g hg
      split at e
      · rename_i p hp
        cases e
        exact hS f g hg args h v h' hp
      · exact frameB_sound ok oz hX ih n f args h v h' e
    · exact frameB_sound ok oz hX ih n f args h v h' e
end
end Go.Proofs.YtknchhnibjfocaaDoor.Abs
