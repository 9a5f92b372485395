/- An abstract machine: calls whose arguments lie in the memory. -/
import Derived.Test.YtknchhnibjfocaaDoorAbsZI
import Derived.Carry
import Derived.ChangeFn
import Derived.Deep.Slices
import Derived.WideShapes
namespace Go.Proofs.YtknchhnibjfocaaDoor.Abs
open Go
noncomputable section

def startK (P : Program) (k : Nat) : AH := ⟨PM.empty 12, P.globals.size + k⟩
/-- The package variables, and some blocks of the memory. -/
def renK (P : Program) (bs : List Bk) : Ren := fun g => if g < P.globals.size then some ⟨g, 0, 0, 0⟩ else match bs[g - P.globals.size]? with
  | some bk => some bk
  | none => none
theorem HR.startK {P : Program} {w : World} {bs : List Bk} (hw : P.globals.size ≤ w.heap.size) (hb : ∀ bk ∈ bs, bk.blk < w.heap.size) : HR P (renK P bs) (startK P bs.length) w := by
  refine ⟨?_, ?_, ?_, ?_⟩
  · intro b o e; exact absurd e (by show ¬ PM.get (PM.empty 12) b = some o; rw [PM.get_empty]; simp)
  · intro b b' o o' bk bk' e; exact absurd e (by show ¬ PM.get (PM.empty 12) b = some o; rw [PM.get_empty]; simp)
  · intro b bk e
    show b < P.globals.size + bs.length ∧ _
    unfold renK at e
    split at e
    · rename_i h; cases e; exact ⟨by omega, by show b < w.heap.size; omega⟩
    · split at e
      · rename_i h x hx
        cases e
        have := (List.getElem?_eq_some_iff.1 hx).1
        exact ⟨by omega, hb _ (List.mem_of_getElem? hx)⟩
      · cases e
  · intro g hg; simp [renK, hg]
theorem calls_startK {P : Program} {f : Nat} {args : List Value} {args' : Array Value} {v : Value} {h1 : AH} {bs : List Bk} (hf : flat v = true) (E : CallOK (mkTab P) f args (startK P bs.length) v h1)
    {w : World} (hw : P.globals.size ≤ w.heap.size) (hb : ∀ bk ∈ bs, bk.blk < w.heap.size) (ha : LR (renK P bs) args args'.toList) : Calls P f args' w fun e w' => e = .returned v ∧ Kept w w' := by
  intro cs
  obtain ⟨r2, w2, fr2, v2, p1, p2, p3, p4, p5, p6⟩ := E cs (renK P bs) w args' (HR.startK (P := P) hw hb) ha
  have := p4.flat_eq hf; subst this
  refine ⟨.returned v2, w2, fr2, ⟨rfl, p6.os, p6.size, ?_⟩, p1, p2, p3⟩
  intro b hb
  refine p6.keep b hb ?_
  intro i o bk hi
  exact absurd hi (by show ¬ PM.get (PM.empty 12) i = some o; rw [PM.get_empty]; simp)

theorem trod_kept {H : Type} {enc : TypeId × Value → H} {P : Program} {t : TypeId} (hl : laidOutB P = true) (hr : P.readableRec t = true) (hrow : t < P.types.size) {W W' : World} {v : Value} {d : DataW H} {ps : List MemPlace}
    (h : DataW.Trod enc P W 0 (fun _ => true) true t v d ps) (hk : Kept W W') (hlt : ∀ x ∈ ps, x.block < W.heap.size) :
    DataW.Trod enc P W' 0 (fun b => decide (b < W.heap.size)) true t v d ps := by
  have hb : RowKit.Below W.heap.size W { W' with tape := W.tape } := ⟨hk.os.1, rfl, hk.os.2, hk.size, hk.heap⟩
  have := RowKit.Below.trod hl hr hrow h hb hlt
  exact DataW.Trod.of_heap (w := { W' with tape := W.tape }) (w' := W') rfl this

/-- A slice that came in: nil, or its memory is there. -/
theorem arg_slice {H : Type} {enc : TypeId × Value → H} {P : Program} {W : World} {base : Nat} {t e : TypeId} {v : Value} {d : DataW H} {p : List MemPlace} (ht : P.underlying t = some (.slice e))
    (hv : Value.okWide P W .any base t v) (h : DataW.Trod enc P W 0 (fun _ => true) true t v d p) :
    v = .slice none 0 0 ∨ ∃ b o len cap, v = .slice (some ⟨b, o, none⟩) len cap ∧ b < W.heap.size ∧ len ≤ cap := by
  obtain ⟨a, len, cap, rfl⟩ := WideShapes.okWide_slice ht hv
  obtain ⟨fuel, hf⟩ := h
  rcases Deep.open_slice ht hf with ⟨hcs, _⟩ | ⟨a2, len2, cap2, m, n, D, Pl, hcs, _, hle, hm, _, _, _⟩
  · simp [Value.cells] at hcs
    obtain ⟨rfl, rfl, rfl⟩ := hcs
    exact .inl rfl
  · simp [Value.cells] at hcs
    obtain ⟨rfl, rfl, rfl⟩ := hcs
    right
    simp only [Value.okWide, ht, Cell.okWide, Cell.ok] at hv
    obtain ⟨b, o, s⟩ := a2
    obtain ⟨_, _, _, hs, row, cells, hsh, _⟩ := hv
    simp only at hs; subst hs
    refine ⟨b, o, len, cap, rfl, ?_, hle⟩
    unfold World.shape? at hsh
    cases hb : W.heap[b]? with
    | none => simp only [hb] at hsh; cases hsh
    | some ob => exact (Array.getElem?_eq_some_iff.1 hb).1

/-- A slice of which nothing is known but that it is there. -/
theorem VR.someSlice {r : Ren} {b o len cap i : Nat} (hr : r i = some ⟨b, 0, o, 0⟩) (hl : len ≤ cap) : VR r (.slice (some ⟨i, o, none⟩) len (XB + len)) (.slice (some ⟨b, o, none⟩) len cap) :=
  .slIn i o len len o cap ⟨b, 0, o, 0⟩ hr (Nat.le_refl _) hl (fun _ => rfl) (by simp)
end
end Go.Proofs.YtknchhnibjfocaaDoor.Abs
