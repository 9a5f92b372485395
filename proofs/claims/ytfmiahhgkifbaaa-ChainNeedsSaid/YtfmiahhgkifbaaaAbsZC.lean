/- An abstract machine: calls of flat arguments. -/
import Derived.Test.YtfmiahhgkifbaaaAbsZB
import GoSem.ClaimChange
namespace Go.Proofs.Ytfmiahhgkifbaaa.Abs
open Go
noncomputable section

/-- It ends with that value. -/
def endsWith (f : Nat) (v : Value) : Fin → Bool
  | .ret g u _ => Nat.beq g f && (flat v && eqV u v)
  | _ => false

theorem Kept.refl (w : World) : Kept w w := ⟨⟨rfl, rfl⟩, Nat.le_refl _, fun _ _ => rfl⟩
theorem Kept.trans {a b c : World} (h : Kept a b) (h' : Kept b c) : Kept a c :=
  ⟨⟨h'.os.1.trans h.os.1, h'.os.2.trans h.os.2⟩, Nat.le_trans h.size h'.size, fun i hi => (h'.heap i (Nat.lt_of_lt_of_le hi h.size)).trans (h.heap i hi)⟩

theorem Kept.but {w w' : World} (h : Kept w w') (may : MemPlace → Prop) : w.keptBut w' may := by
  refine ⟨h.os.1, h.os.2, fun i hi => ?_⟩
  rw [h.heap i hi]
  cases w.heap[i]? with
  | none => rfl
  | some o => cases o <;> simp

theorem calls_flat {P : Program} (ok : TabOK (mkTab P)) (oz : TabZ (mkTab P)) {X : Exts} (hX : ExtOK (mkTab P) X) {n f : Nat} {args : List Value} {v : Value} (ha : flatAll args = true)
    (e : endsWith f v (runCall (mkTab P) X n f args) = true) {w : World} (hw : P.globals.size ≤ w.heap.size) :
    Calls P f args.toArray w fun e w' => e = .returned v ∧ Kept w w' := by
  unfold runCall at e
  cases hc : enterA (mkTab P) f args .normal with
  | none => rw [hc] at e; cases e
  | some c =>
    rw [hc] at e
    simp only at e
    intro cs
    obtain ⟨hE, hfn, _⟩ := enterA_sound ok (r := ren0 P) (args' := args.toArray) (by simpa using LR.of_flat (ren0 P) args ha) hc
    have hr := HR.start (P := P) hw
    have hs := runA_sound ok oz hX n cs (ren0 P) ⟨.leaf, P.globals.size⟩ w c _ [] cs hr hE ⟨[], rfl, .nil⟩
    cases hrun : runA (mkTab P) X n c [] ⟨.leaf, (mkTab P).gs⟩ with
    | next c => rw [hrun] at e; cases e
    | stuck => rw [hrun] at e; cases e
    | ret g v2 h2 =>
      rw [hrun] at e
      have hrun' : runA (mkTab P) X n c [] ⟨.leaf, P.globals.size⟩ = .ret g v2 h2 := hrun
      rw [hrun'] at hs
      simp only [endsWith, Bool.and_eq_true] at e
      have := eqV_eq _ _ e.2.2; subst this
      have := Nat.eq_of_beq_eq_true e.1; subst this
      obtain ⟨r2, w2, fr2, v3, p1, p2, p3, p4, p5, p6⟩ := hs
      have := p4.flat_eq e.2.1; subst this
      refine ⟨.returned v3, w2, fr2, ⟨rfl, p6.os, p6.size, ?_⟩, p1, p2, p3⟩
      intro b hb
      refine p6.keep b hb ?_
      intro i o bk hi
      exact absurd hi (by show ¬ PM.get .leaf i = some o; rw [PM.get_leaf]; simp)
end
end Go.Proofs.Ytfmiahhgkifbaaa.Abs
