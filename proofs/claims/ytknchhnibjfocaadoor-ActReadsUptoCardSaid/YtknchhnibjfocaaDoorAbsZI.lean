/- An abstract machine: a call of closed arguments, run once, answers alike in every memory. -/
import Derived.Test.YtknchhnibjfocaaDoorAbsZG
namespace Go.Proofs.YtknchhnibjfocaaDoor.Abs
open Go
noncomputable section

theorem memo_ok {P : Program} {f : Nat} {args : List Value} {h1 : AH} {j : Nat} {v : Nat → Value} {c c' : PM Value} {n : Nat} {el : TypeId} {lo hi : Nat} {kd : BKind} (ha : flatAll args = true) (hj : P.globals.size ≤ j)
    (E : CallOK (mkTab P) f args (startH P) (v j) h1) (hobj : h1.get j = some (.cells c n el lo hi kd)) (hc : ∀ i, i < n → ∃ x, c.get i = some x ∧ c'.get i = some x ∧ flat x = true)
    (hv : ∀ (r r' : Ren) (b : Nat) (bk : Bk) (v2 : Value), r j = some bk → r' b = some bk → VR r (v j) v2 → VR r' (v b) v2) :
    ∀ h, CallOK (mkTab P) f args h (v h.next) (h.new (.cells c' n el lo hi kd)) := by
  intro h base r w args' hr hargs
  have hargs' : args' = args.toArray := by apply Array.ext'; simpa using hargs.flat_eq ha
  subst hargs'
  have hr' : HR P r h w := hr
  have hw : P.globals.size ≤ w.heap.size := by
    rcases Nat.eq_zero_or_pos P.globals.size with h0 | h0
    · omega
    · have := (hr'.lt (P.globals.size - 1) _ (hr'.glob _ (by omega))).2
      simp only at this; omega
  obtain ⟨r2, w2, fr2, v2, p1, p2, p3, p4, p5, p6⟩ := E base (ren0 P) w args.toArray (HR.start (P := P) hw) (by simpa using LR.of_flat (ren0 P) args ha)
  have p5' : HR P r2 h1 w2 := p5
  have hno : ∀ i (o : AObj), (startH P).get i ≠ some o := fun i o => by show PM.get (PM.empty _) i ≠ some o; rw [PM.get_empty]; simp
  have keep : ∀ b, b < w.heap.size → w2.heap[b]? = w.heap[b]? := fun b hb => p6.keep b hb fun i o bk hi => absurd hi (hno i o)
  obtain ⟨bk, ob, g1, g2, g3⟩ := p5'.live j _ hobj
  have hnew : w.heap.size ≤ bk.blk := by
    have h0 : ren0 P j = none := by unfold ren0; rw [if_neg (by omega)]
    rcases p6.new j bk h0 g1 with h | ⟨i, o, _, hi, _⟩
    · exact h
    · exact absurd hi (hno i o)
  have hadd : (r.add h.next bk) h.next = some bk := Ren.add_same _ _ _
  have hother : ∀ b, b ≠ h.next → (r.add h.next bk) b = r b := fun b hb => by unfold Ren.add; rw [if_neg hb]
  have hsub := hr'.sub_add bk
  refine ⟨r.add h.next bk, w2, fr2, v2, p1, p2, p3, hv r2 _ h.next bk v2 g1 hadd p4, ?_, ?_⟩
  · refine ⟨?_, ?_, ?_, ?_⟩
    · intro b o e
      rw [AH.get_new] at e
      by_cases hb : b = h.next
      · subst hb
        rw [if_pos rfl] at e; cases e
        refine ⟨bk, ob, hadd, g2, ?_⟩
        obtain ⟨cs, fl, fh, q1, q2, q3, q4, q5, q6, q7⟩ := g3
        refine ⟨cs, fl, fh, q1, q2, q3, q4, fun i hi => ?_, q6, q7⟩
        obtain ⟨x, x', a1, a2, a3⟩ := q5 i hi
        obtain ⟨y, b1, b3, b2⟩ := hc i hi
        rw [a1] at b1; cases b1
        have := a3.flat_eq b2; subst this
        exact ⟨x', x', b3, a2, VR.of_flat _ _ b2⟩
      · rw [if_neg hb] at e
        obtain ⟨bk', ob', q1, q2, q3⟩ := hr'.live b o e
        refine ⟨bk', ob', by rw [hother b hb]; exact q1, ?_, q3.mono hsub⟩
        rw [keep _ (hr'.lt b bk' q1).2]; exact q2
    · intro b b' o o' bk1 bk2 e e' q e1 e2 e3
      by_cases hb : b = h.next <;> by_cases hb' : b' = h.next
      · omega
      · subst hb
        rw [hadd] at e1; cases e1
        rw [hother _ hb'] at e2
        have := (hr'.lt _ _ e2).2; omega
      · subst hb'
        rw [hadd] at e2; cases e2
        rw [hother _ hb] at e1
        have := (hr'.lt _ _ e1).2; omega
      · rw [AH.get_new, if_neg hb] at e
        rw [AH.get_new, if_neg hb'] at e'
        rw [hother _ hb] at e1
        rw [hother _ hb'] at e2
        exact hr'.inj b b' o o' bk1 bk2 e e' q e1 e2 e3
    · intro b bk1 e
      show b < h.next + 1 ∧ _
      by_cases hb : b = h.next
      · subst hb
        rw [hadd] at e; cases e
        exact ⟨by omega, (p5'.lt j _ g1).2⟩
      · rw [hother _ hb] at e
        have := hr'.lt b bk1 e
        exact ⟨by omega, by have := p6.size; omega⟩
    · intro g hg
      have h0 := hr'.glob g hg
      have := (hr'.lt g _ h0).1
      rw [hother _ (by omega)]; exact h0
  · refine ⟨hsub, p6.size, fun b hb _ => keep b hb, ?_, ?_, by show h.next ≤ h.next + 1; omega, p6.os⟩
    · intro i bk' e1 e2
      by_cases hb : i = h.next
      · subst hb; rw [hadd] at e2; cases e2; exact .inl hnew
      · rw [hother _ hb, e1] at e2; cases e2
    · intro i o' e1 e2
      rw [AH.get_new] at e1
      by_cases hb : i = h.next
      · subst hb; exact .inr (hr'.fresh (Nat.le_refl _))
      · rw [if_neg hb] at e1; exact .inl ⟨o', e1, e2⟩

/-- The run's result: a new row of flat values behind a value of that shape. -/
def memoB (u : Nat → Value) (j n el lo hi : Nat) (l : List Value) : Option (Value × AH) → Bool
  | some (v, h) => eqV v (u j) && (match h.get j with
    | some (.cells c n' el' lo' hi' kd) => (match kd with
      | .loose => Nat.beq n' n && (Nat.beq el' el && (Nat.beq lo' lo && (Nat.beq hi' hi && (match loadN c 0 n with
        | some l' => eqVs l' l && flatAll l
        | none => false))))
      | _ => false)
    | _ => false)
  | none => false
theorem memo_run {call : Abs.Callee} {P : Program} {f : Nat} {args : List Value} (hcall : RecOK (mkTab P) call) {u : Nat → Value} {j n el lo hi : Nat} {l : List Value} (ha : flatAll args = true) (hj : P.globals.size ≤ j)
    (e : memoB u j n el lo hi l (call f args (startH P)) = true)
    (hv : ∀ (r r' : Ren) (b : Nat) (bk : Bk) (v2 : Value), r j = some bk → r' b = some bk → VR r (u j) v2 → VR r' (u b) v2) :
    ∀ h, CallOK (mkTab P) f args h (u h.next) (h.new (.cells (PM.ofList l) n el lo hi .loose)) := by
  cases hr : call f args (startH P) with
  | none => rw [hr] at e; cases e
  | some p =>
    obtain ⟨v, h1⟩ := p
    rw [hr] at e
    simp only [memoB, Bool.and_eq_true] at e
    obtain ⟨e1, e2⟩ := e
    have := eqV_eq _ _ e1; subst this
    split at e2
    · rename_i c n' el' lo' hi' kd hg
      split at e2
      · simp only [Bool.and_eq_true] at e2
        obtain ⟨a1, a2, a3, a4, a5⟩ := e2
        have := Nat.eq_of_beq_eq_true a1; subst this
        have := Nat.eq_of_beq_eq_true a2; subst this
        have := Nat.eq_of_beq_eq_true a3; subst this
        have := Nat.eq_of_beq_eq_true a4; subst this
        split at a5
        · rename_i l' hl'
          rw [Bool.and_eq_true] at a5
          have := eqVs_eq _ _ a5.1; subst this
          obtain ⟨g1, g2⟩ := loadN_spec hl'
          refine memo_ok ha hj (hcall f args _ _ _ hr) hg ?_ hv
          intro i hi
          have hil : i < l'.length := by omega
          refine ⟨l'[i], ?_, ?_, (flatAll_iff _).1 a5.2 _ (List.getElem_mem _)⟩
          · rw [← List.getElem?_eq_getElem hil, ← g2 i hi, Nat.zero_add]
          · rw [PM.get_ofList, List.getElem?_eq_getElem hil]
        · cases a5
      · cases e2
    · cases e2

theorem flat_ok {P : Program} {f : Nat} {args : List Value} {h1 : AH} {v : Value} (ha : flatAll args = true) (hf : flat v = true) (E : CallOK (mkTab P) f args (startH P) v h1) : ∀ h, CallOK (mkTab P) f args h v h := by
  intro h base r w args' hr hargs
  have hargs' : args' = args.toArray := by apply Array.ext'; simpa using hargs.flat_eq ha
  subst hargs'
  have hr' : HR P r h w := hr
  have hw : P.globals.size ≤ w.heap.size := by
    rcases Nat.eq_zero_or_pos P.globals.size with h0 | h0
    · omega
    · have := (hr'.lt (P.globals.size - 1) _ (hr'.glob _ (by omega))).2
      simp only at this; omega
  obtain ⟨r2, w2, fr2, v2, p1, p2, p3, p4, p5, p6⟩ := E base (ren0 P) w args.toArray (HR.start (P := P) hw) (by simpa using LR.of_flat (ren0 P) args ha)
  have := p4.flat_eq hf; subst this
  have hno : ∀ i (o : AObj), (startH P).get i ≠ some o := fun i o => by show PM.get (PM.empty _) i ≠ some o; rw [PM.get_empty]; simp
  have keep : ∀ b, b < w.heap.size → w2.heap[b]? = w.heap[b]? := fun b hb => p6.keep b hb fun i o bk hi => absurd hi (hno i o)
  refine ⟨r, w2, fr2, v2, p1, p2, p3, VR.of_flat r _ hf, ?_, ?_⟩
  · refine ⟨?_, hr'.inj, ?_, hr'.glob⟩
    · intro b o e
      obtain ⟨bk', ob', q1, q2, q3⟩ := hr'.live b o e
      exact ⟨bk', ob', q1, by rw [keep _ (hr'.lt b bk' q1).2]; exact q2, q3⟩
    · intro b bk e
      have := hr'.lt b bk e
      exact ⟨this.1, by have := p6.size; omega⟩
  · exact ⟨.refl _, p6.size, fun b hb _ => keep b hb, (fun i bk' e1 e2 => by rw [e1] at e2; cases e2), (fun i o' e1 e2 => .inl ⟨o', e1, e2⟩), Nat.le_refl _, p6.os⟩
/-- A function of no arguments that answers true. -/
def trueT : List Value → AH → Option (Value × AH)
  | [], h => some (.bool true, h)
  | _, _ => none
theorem trueT_ok {P : Program} {f : Nat} {call : Abs.Callee} (hcall : RecOK (mkTab P) call) (e : endsT (call f [] (startH P)) = true) : ∀ args h v h', trueT args h = some (v, h') → CallOK (mkTab P) f args h v h' := by
  intro args h v h' e2
  unfold trueT at e2
  split at e2
  · cases e2
    cases hr : call f [] (startH P) with
    | none => rw [hr] at e; cases e
    | some p =>
      obtain ⟨u, h1⟩ := p
      rw [hr] at e
      simp only [endsT] at e
      split at e
      · subst e
        exact flat_ok (args := []) rfl rfl (hcall f [] _ _ _ hr) _
      · cases e
  · cases e2
end
end Go.Proofs.YtknchhnibjfocaaDoor.Abs
