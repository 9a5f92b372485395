
/- An abstract machine: calls whose arguments lie in the memory. -/
import Derived.Test.YtjdhdhmoedlfdaaGreatAbsZI
import Derived.Carry
import Derived.ChangeFn
import Derived.Deep.Slices
import Derived.WideShapes
namespace Go.Proofs.YtjdhdhmoedlfdaaGreat.Abs
open Go
noncomputable section
def renK (P : Program) (bs : List Bk) : Ren := fun g => if g < P.globals.size then some ⟨g, 0, 0, 0⟩ else match bs[g - P.globals.size]? with
  | some bk => some bk
  | none => none
theorem trod_kept {H : Type} {enc : TypeId × Value → H} {P : Program} {t : TypeId} (hl : laidOutB P = true) (hr : P.readableRec t = true) (hrow : t < P.types.size) {W W' : World} {v : Value} {d : DataW H} {ps : List MemPlace}
    (h : DataW.Trod enc P W 0 (fun _ => true) true t v d ps) (hk : Kept W W') (hlt : ∀ x ∈ ps, x.block < W.heap.size) :
    DataW.Trod enc P W' 0 (fun b => decide (b < W.heap.size)) true t v d ps := by
  have hb : RowKit.Below W.heap.size W { W' with tape := W.tape } := ⟨hk.os.1, rfl, hk.os.2, hk.size, hk.heap⟩
  have := RowKit.Below.trod hl hr hrow h hb hlt
  exact DataW.Trod.of_heap (w := { W' with tape := W.tape }) (w' := W') rfl this
end
end Go.Proofs.YtjdhdhmoedlfdaaGreat.Abs
