/-
  No cell of these rows narrows 'for every input' (looked for: loops, veiled, ifaces, maps, wideKeys, modest, calm, conditions, laid).
  DERIVED. THE GIVEN ROWS OF THIS SEAT. 3 by the template 'for every input the law returns true; each argument reads behind the call as it read before'; 0 by the template 'total and deterministic' (their statements: YtjdhdhmoedlfdaaGreatTotals.lean).
  GIVEN WITH THE SEED: the statements are not yours to turn. If you find one false, say at which input.
  Laid BY PROGRAM, IN A SANDBOX (cutbox-rows.mjs): the forced cells as the released guide's own fill.sh prints them over the translation c31240f950c7bf4a… (all of the seat's roots in one cut). By AI agents, Wed Nov 11 2026. No macro, syntax, notation, axiom, sorry.
-/
import Derived.Test.YtjdhdhmoedlfdaaGreatChecked
import GoSem.Claim
import GoSem.ClaimJoined
import GoSem.ClaimMapViews
import Derived.JoinedTies
import Derived.KernelRfl
namespace Go.Proofs.YtjdhdhmoedlfdaaGreat
/- THE CELL 'sum', in the pinned program and in every row, IS THE sha256 OF THE DUMP (.gsa) THAT YtjdhdhmoedlfdaaGreatProg.lean LOADS. Nothing in Lean hashes anything: it is a label: what it is worth is what the hold of that sum in a sandbox is worth. -/
noncomputable def Tryz.pinned : Pinned := { name := "ytjdhdhmoedlfdaagreat", sum := "c31240f950c7bf4a91a957d1117ec39b449c81742f033aef339515b592a2087c", checked := Tryz.checked }
namespace Rows
def none {H : Type} : Left H := { results := [], args := [] }

/-- 'drydocklaw17.ImageTakes': WHATEVER THE INPUT: true; the input reads as it did. -/
def imageTakesSpec : ChangeSpec := { name := "imageTakes", fn := fun _ => fun
  | [d1, d2] => { results := [.lit (.bool true)], args := [d1, d2] }
  | _ => none }
def imageTakesRow : OpenClaim := { program := "ytjdhdhmoedlfdaagreat", sum := "c31240f950c7bf4a91a957d1117ec39b449c81742f033aef339515b592a2087c", func := "drydock/drydocklaw17.ImageTakes", spec := "imageTakes", inPlace := ["math.Float64bits", "math.Float64frombits", "math.archTrunc"], unfollowed := true, recurses := true, apart := false }
def ImageTakesSaid : Prop := imageTakesRow.holds Tryz.pinned (OpenSpec.ofChange imageTakesSpec)

/-- ITS FALSE NEIGHBOUR: 'it returns false'. Refute it at one input. -/
def imageTakesWrong : ChangeSpec := { name := "imageTakes", fn := fun _ => fun
  | [d1, d2] => { results := [.lit (.bool false)], args := [d1, d2] }
  | _ => none }
def ImageTakesWrongFalsely : Prop := imageTakesRow.holds Tryz.pinned (OpenSpec.ofChange imageTakesWrong)

/-- 'drydocklaw17.ImageOpens': WHATEVER THE INPUT: true; the input reads as it did. -/
def imageOpensSpec : ChangeSpec := { name := "imageOpens", fn := fun _ => fun
  | [d] => { results := [.lit (.bool true)], args := [d] }
  | _ => none }
def imageOpensRow : OpenClaim := { program := "ytjdhdhmoedlfdaagreat", sum := "c31240f950c7bf4a91a957d1117ec39b449c81742f033aef339515b592a2087c", func := "drydock/drydocklaw17.ImageOpens", spec := "imageOpens", inPlace := ["math.Float64bits", "math.Float64frombits", "math.archTrunc"], unfollowed := true, recurses := true, apart := false }
def ImageOpensSaid : Prop := imageOpensRow.holds Tryz.pinned (OpenSpec.ofChange imageOpensSpec)

/-- ITS FALSE NEIGHBOUR: 'it returns false'. Refute it at one input. -/
def imageOpensWrong : ChangeSpec := { name := "imageOpens", fn := fun _ => fun
  | [d] => { results := [.lit (.bool false)], args := [d] }
  | _ => none }
def ImageOpensWrongFalsely : Prop := imageOpensRow.holds Tryz.pinned (OpenSpec.ofChange imageOpensWrong)

/-- 'drydocklaw17.ImageSupers': WHATEVER THE INPUT: true; the input reads as it did. -/
def imageSupersSpec : ChangeSpec := { name := "imageSupers", fn := fun _ => fun
  | [d1, d2, d3, d4] => { results := [.lit (.bool true)], args := [d1, d2, d3, d4] }
  | _ => none }
def imageSupersRow : OpenClaim := { program := "ytjdhdhmoedlfdaagreat", sum := "c31240f950c7bf4a91a957d1117ec39b449c81742f033aef339515b592a2087c", func := "drydock/drydocklaw17.ImageSupers", spec := "imageSupers", inPlace := ["math.Float64bits", "math.Float64frombits", "math.archTrunc"], unfollowed := true, recurses := true, apart := false }
def ImageSupersSaid : Prop := imageSupersRow.holds Tryz.pinned (OpenSpec.ofChange imageSupersSpec)

/-- ITS FALSE NEIGHBOUR: 'it returns false'. Refute it at one input. -/
def imageSupersWrong : ChangeSpec := { name := "imageSupers", fn := fun _ => fun
  | [d1, d2, d3, d4] => { results := [.lit (.bool false)], args := [d1, d2, d3, d4] }
  | _ => none }
def ImageSupersWrongFalsely : Prop := imageSupersRow.holds Tryz.pinned (OpenSpec.ofChange imageSupersWrong)

/- THE SECOND FORM. 'bulk': how many values and letters a reading holds, each counted each time it is reached (what is shared counts as often as it is met; a slice's spare places count too). A statement '..UptoSaid' is the law's where the arguments, and the package variables that the reading takes, are together of bulk at most 1048576: NARROWER than '..Said'. Prove '..Said' where nothing that the law and all that it calls make is longer than what came in: it says more and counts as full. Else prove '..UptoSaid'. A law counts once. -/
mutual
def uptoBulk {H : Type} : DataW H → Nat
  | .lit (.string bytes) => bytes.length + 1
  | .lit _ => 1
  | .nil => 1
  | .ptr d => uptoBulk d + 1
  | .slice elems spare => uptoBulkAll elems + uptoBulkAll spare + 1
  | .agg parts => uptoBulkAll parts + 1
  | .iface _ d => uptoBulk d + 1
  | .map entries => uptoBulkEntries entries + 1
  | .held _ => 1
def uptoBulkAll {H : Type} : List (DataW H) → Nat
  | [] => 0
  | d :: r => uptoBulk d + uptoBulkAll r
def uptoBulkEntries {H : Type} : List (Lit × DataW H) → Nat
  | [] => 0
  | x :: r => uptoBulkEntry x + uptoBulkEntries r
def uptoBulkEntry {H : Type} : Lit × DataW H → Nat
  | (.string bytes, d) => bytes.length + uptoBulk d + 1
  | (_, d) => uptoBulk d + 1
 end
def uptoSmall : (H : Type) → List (DataW H) → Bool := fun _ ds => decide (uptoBulkAll ds ≤ 1048576)
def OpenSpec.upto (s : _root_.Go.ChangeSpec) : _root_.Go.OpenSpec := { _root_.Go.OpenSpec.ofChange s with cond := some uptoSmall }

/-- 'drydocklaw17.ImageTakes', WHERE WHAT IT READS IS OF BULK AT MOST 1048576: true; the input reads as it did. -/
def imageTakesUptoRow : OpenClaim := { program := "ytjdhdhmoedlfdaagreat", sum := "c31240f950c7bf4a91a957d1117ec39b449c81742f033aef339515b592a2087c", func := "drydock/drydocklaw17.ImageTakes", spec := "imageTakes", inPlace := ["math.Float64bits", "math.Float64frombits", "math.archTrunc"], unfollowed := true, recurses := true, apart := false, narrowed := true }
def ImageTakesUptoSaid : Prop := imageTakesUptoRow.holds Tryz.pinned (OpenSpec.upto imageTakesSpec)

/-- 'drydocklaw17.ImageOpens', WHERE WHAT IT READS IS OF BULK AT MOST 1048576: true; the input reads as it did. -/
def imageOpensUptoRow : OpenClaim := { program := "ytjdhdhmoedlfdaagreat", sum := "c31240f950c7bf4a91a957d1117ec39b449c81742f033aef339515b592a2087c", func := "drydock/drydocklaw17.ImageOpens", spec := "imageOpens", inPlace := ["math.Float64bits", "math.Float64frombits", "math.archTrunc"], unfollowed := true, recurses := true, apart := false, narrowed := true }
def ImageOpensUptoSaid : Prop := imageOpensUptoRow.holds Tryz.pinned (OpenSpec.upto imageOpensSpec)

/-- 'drydocklaw17.ImageSupers', WHERE WHAT IT READS IS OF BULK AT MOST 1048576: true; the input reads as it did. -/
def imageSupersUptoRow : OpenClaim := { program := "ytjdhdhmoedlfdaagreat", sum := "c31240f950c7bf4a91a957d1117ec39b449c81742f033aef339515b592a2087c", func := "drydock/drydocklaw17.ImageSupers", spec := "imageSupers", inPlace := ["math.Float64bits", "math.Float64frombits", "math.archTrunc"], unfollowed := true, recurses := true, apart := false, narrowed := true }
def ImageSupersUptoSaid : Prop := imageSupersUptoRow.holds Tryz.pinned (OpenSpec.upto imageSupersSpec)

end Rows
end Go.Proofs.YtjdhdhmoedlfdaaGreat
