/-
  No cell of these rows narrows 'for every input' (looked for: loops, veiled, ifaces, maps, wideKeys, modest, calm, conditions, laid).
  DERIVED. THE GIVEN ROWS OF THIS SEAT. 6 by the template 'for every input the law returns true; each argument reads behind the call as it read before'; 0 by the template 'total and deterministic' (their statements: YtcpihpjphdlmfaaTotals.lean).
  GIVEN WITH THE SEED: the statements are not yours to turn. If you find one false, say at which input.
  Laid BY PROGRAM, IN A SANDBOX (cutbox-rows.mjs): the forced cells as the released guide's own fill.sh prints them over the translation 4ce22393c1282c8b… (all of the seat's roots in one cut). By AI agents, Wed Nov 11 2026. No macro, syntax, notation, axiom, sorry.
-/
import Derived.Test.YtcpihpjphdlmfaaChecked
import GoSem.Claim
import GoSem.ClaimJoined
import GoSem.ClaimMapViews
import Derived.JoinedTies
import Derived.KernelRfl
namespace Go.Proofs.Ytcpihpjphdlmfaa
/- THE CELL 'sum', in the pinned program and in every row, IS THE sha256 OF THE DUMP (.gsa) THAT YtcpihpjphdlmfaaProg.lean LOADS. Nothing in Lean hashes anything: it is a label: what it is worth is what the hold of that sum in a sandbox is worth. -/
noncomputable def Try.pinned : Pinned := { name := "ytcpihpjphdlmfaa", sum := "4ce22393c1282c8b0da1aea44c800ffd52ef46e579cfc1dea68ebdfbb47e7f68", checked := Try.checked }
namespace Rows
def none {H : Type} : Left H := { results := [], args := [] }

/-- 'drydocklaw06.ChooseFirst': WHATEVER THE INPUT: true; the input reads as it did. -/
def chooseFirstSpec : ChangeSpec := { name := "chooseFirst", fn := fun _ => fun
  | [d1, d2, d3, d4] => { results := [.lit (.bool true)], args := [d1, d2, d3, d4] }
  | _ => none }
def chooseFirstRow : OpenClaim := { program := "ytcpihpjphdlmfaa", sum := "4ce22393c1282c8b0da1aea44c800ffd52ef46e579cfc1dea68ebdfbb47e7f68", func := "drydock/drydocklaw06.ChooseFirst", spec := "chooseFirst", inPlace := ["math.Float64bits", "math.Float64frombits", "math.archTrunc"], unfollowed := true, recurses := true, apart := false }
def ChooseFirstSaid : Prop := chooseFirstRow.holds Try.pinned (OpenSpec.ofChange chooseFirstSpec)

/-- ITS FALSE NEIGHBOUR: 'it returns false'. Refute it at one input. -/
def chooseFirstWrong : ChangeSpec := { name := "chooseFirst", fn := fun _ => fun
  | [d1, d2, d3, d4] => { results := [.lit (.bool false)], args := [d1, d2, d3, d4] }
  | _ => none }
def ChooseFirstWrongFalsely : Prop := chooseFirstRow.holds Try.pinned (OpenSpec.ofChange chooseFirstWrong)

/-- 'drydocklaw06.ChooseTight': WHATEVER THE INPUT: true; the input reads as it did. -/
def chooseTightSpec : ChangeSpec := { name := "chooseTight", fn := fun _ => fun
  | [d1, d2, d3, d4] => { results := [.lit (.bool true)], args := [d1, d2, d3, d4] }
  | _ => none }
def chooseTightRow : OpenClaim := { program := "ytcpihpjphdlmfaa", sum := "4ce22393c1282c8b0da1aea44c800ffd52ef46e579cfc1dea68ebdfbb47e7f68", func := "drydock/drydocklaw06.ChooseTight", spec := "chooseTight", inPlace := ["math.Float64bits", "math.Float64frombits", "math.archTrunc"], unfollowed := true, recurses := true, apart := false }
def ChooseTightSaid : Prop := chooseTightRow.holds Try.pinned (OpenSpec.ofChange chooseTightSpec)

/-- ITS FALSE NEIGHBOUR: 'it returns false'. Refute it at one input. -/
def chooseTightWrong : ChangeSpec := { name := "chooseTight", fn := fun _ => fun
  | [d1, d2, d3, d4] => { results := [.lit (.bool false)], args := [d1, d2, d3, d4] }
  | _ => none }
def ChooseTightWrongFalsely : Prop := chooseTightRow.holds Try.pinned (OpenSpec.ofChange chooseTightWrong)

/-- 'drydocklaw06.ChooseSome': WHATEVER THE INPUT: true; the input reads as it did. -/
def chooseSomeSpec : ChangeSpec := { name := "chooseSome", fn := fun _ => fun
  | [d1, d2, d3, d4] => { results := [.lit (.bool true)], args := [d1, d2, d3, d4] }
  | _ => none }
def chooseSomeRow : OpenClaim := { program := "ytcpihpjphdlmfaa", sum := "4ce22393c1282c8b0da1aea44c800ffd52ef46e579cfc1dea68ebdfbb47e7f68", func := "drydock/drydocklaw06.ChooseSome", spec := "chooseSome", inPlace := ["math.Float64bits", "math.Float64frombits", "math.archTrunc"], unfollowed := true, recurses := true, apart := false }
def ChooseSomeSaid : Prop := chooseSomeRow.holds Try.pinned (OpenSpec.ofChange chooseSomeSpec)

/-- ITS FALSE NEIGHBOUR: 'it returns false'. Refute it at one input. -/
def chooseSomeWrong : ChangeSpec := { name := "chooseSome", fn := fun _ => fun
  | [d1, d2, d3, d4] => { results := [.lit (.bool false)], args := [d1, d2, d3, d4] }
  | _ => none }
def ChooseSomeWrongFalsely : Prop := chooseSomeRow.holds Try.pinned (OpenSpec.ofChange chooseSomeWrong)

/-- 'drydocklaw06.ChooseFree': WHATEVER THE INPUT: true; the input reads as it did. -/
def chooseFreeSpec : ChangeSpec := { name := "chooseFree", fn := fun _ => fun
  | [d1, d2, d3, d4] => { results := [.lit (.bool true)], args := [d1, d2, d3, d4] }
  | _ => none }
def chooseFreeRow : OpenClaim := { program := "ytcpihpjphdlmfaa", sum := "4ce22393c1282c8b0da1aea44c800ffd52ef46e579cfc1dea68ebdfbb47e7f68", func := "drydock/drydocklaw06.ChooseFree", spec := "chooseFree", inPlace := ["math.Float64bits", "math.Float64frombits", "math.archTrunc"], unfollowed := true, recurses := true, apart := false }
def ChooseFreeSaid : Prop := chooseFreeRow.holds Try.pinned (OpenSpec.ofChange chooseFreeSpec)

/-- ITS FALSE NEIGHBOUR: 'it returns false'. Refute it at one input. -/
def chooseFreeWrong : ChangeSpec := { name := "chooseFree", fn := fun _ => fun
  | [d1, d2, d3, d4] => { results := [.lit (.bool false)], args := [d1, d2, d3, d4] }
  | _ => none }
def ChooseFreeWrongFalsely : Prop := chooseFreeRow.holds Try.pinned (OpenSpec.ofChange chooseFreeWrong)

/-- 'drydocklaw06.ChooseLess': WHATEVER THE INPUT: true; the input reads as it did. -/
def chooseLessSpec : ChangeSpec := { name := "chooseLess", fn := fun _ => fun
  | [d1, d2, d3, d4, d5] => { results := [.lit (.bool true)], args := [d1, d2, d3, d4, d5] }
  | _ => none }
def chooseLessRow : OpenClaim := { program := "ytcpihpjphdlmfaa", sum := "4ce22393c1282c8b0da1aea44c800ffd52ef46e579cfc1dea68ebdfbb47e7f68", func := "drydock/drydocklaw06.ChooseLess", spec := "chooseLess", inPlace := ["math.Float64bits", "math.Float64frombits", "math.archTrunc"], unfollowed := true, recurses := true, apart := false }
def ChooseLessSaid : Prop := chooseLessRow.holds Try.pinned (OpenSpec.ofChange chooseLessSpec)

/-- ITS FALSE NEIGHBOUR: 'it returns false'. Refute it at one input. -/
def chooseLessWrong : ChangeSpec := { name := "chooseLess", fn := fun _ => fun
  | [d1, d2, d3, d4, d5] => { results := [.lit (.bool false)], args := [d1, d2, d3, d4, d5] }
  | _ => none }
def ChooseLessWrongFalsely : Prop := chooseLessRow.holds Try.pinned (OpenSpec.ofChange chooseLessWrong)

/-- 'drydocklaw06.ChooseAll': WHATEVER THE INPUT: true; the input reads as it did. -/
def chooseAllSpec : ChangeSpec := { name := "chooseAll", fn := fun _ => fun
  | [d1, d2, d3] => { results := [.lit (.bool true)], args := [d1, d2, d3] }
  | _ => none }
def chooseAllRow : OpenClaim := { program := "ytcpihpjphdlmfaa", sum := "4ce22393c1282c8b0da1aea44c800ffd52ef46e579cfc1dea68ebdfbb47e7f68", func := "drydock/drydocklaw06.ChooseAll", spec := "chooseAll", inPlace := ["math.Float64bits", "math.Float64frombits", "math.archTrunc"], unfollowed := true, recurses := true, apart := false }
def ChooseAllSaid : Prop := chooseAllRow.holds Try.pinned (OpenSpec.ofChange chooseAllSpec)

/-- ITS FALSE NEIGHBOUR: 'it returns false'. Refute it at one input. -/
def chooseAllWrong : ChangeSpec := { name := "chooseAll", fn := fun _ => fun
  | [d1, d2, d3] => { results := [.lit (.bool false)], args := [d1, d2, d3] }
  | _ => none }
def ChooseAllWrongFalsely : Prop := chooseAllRow.holds Try.pinned (OpenSpec.ofChange chooseAllWrong)

/- THE SECOND FORM. 'bulk': how many values and letters a reading holds, each counted each time it is reached (what is shared counts as often as it is met; a slice's spare places count too). A statement '..UptoSaid' is the law's where the arguments, and the package variables that the reading takes, are together of bulk at most 1048576: NARROWER than '..Said'. Prove '..Said' where nothing that the law and all that it calls make is longer than what came in: it says more and counts as full. Else prove '..UptoSaid'. A law counts once. -/
mutual
def uptoBulk {H : Type} : DataW H → Nat
  | .lit (.string bytes) => bytes.length + 1
  | .lit _ => 1
  | .nil => 1
  | .ptr d => uptoBulk d + 1
  | .slice elems spare => uptoBulkAll elems + uptoBulkAll spare + 1
  | .agg parts => uptoBulkAll parts + 1
  | .iface _ d => uptoBulk d + 1
  | .map entries => uptoBulkEntries entries + 1
  | .held _ => 1
def uptoBulkAll {H : Type} : List (DataW H) → Nat
  | [] => 0
  | d :: r => uptoBulk d + uptoBulkAll r
def uptoBulkEntries {H : Type} : List (Lit × DataW H) → Nat
  | [] => 0
  | x :: r => uptoBulkEntry x + uptoBulkEntries r
def uptoBulkEntry {H : Type} : Lit × DataW H → Nat
  | (.string bytes, d) => bytes.length + uptoBulk d + 1
  | (_, d) => uptoBulk d + 1
 end
def uptoSmall : (H : Type) → List (DataW H) → Bool := fun _ ds => decide (uptoBulkAll ds ≤ 1048576)
def OpenSpec.upto (s : _root_.Go.ChangeSpec) : _root_.Go.OpenSpec := { _root_.Go.OpenSpec.ofChange s with cond := some uptoSmall }

/-- 'drydocklaw06.ChooseFirst', WHERE WHAT IT READS IS OF BULK AT MOST 1048576: true; the input reads as it did. -/
def chooseFirstUptoRow : OpenClaim := { program := "ytcpihpjphdlmfaa", sum := "4ce22393c1282c8b0da1aea44c800ffd52ef46e579cfc1dea68ebdfbb47e7f68", func := "drydock/drydocklaw06.ChooseFirst", spec := "chooseFirst", inPlace := ["math.Float64bits", "math.Float64frombits", "math.archTrunc"], unfollowed := true, recurses := true, apart := false, narrowed := true }
def ChooseFirstUptoSaid : Prop := chooseFirstUptoRow.holds Try.pinned (OpenSpec.upto chooseFirstSpec)

/-- 'drydocklaw06.ChooseTight', WHERE WHAT IT READS IS OF BULK AT MOST 1048576: true; the input reads as it did. -/
def chooseTightUptoRow : OpenClaim := { program := "ytcpihpjphdlmfaa", sum := "4ce22393c1282c8b0da1aea44c800ffd52ef46e579cfc1dea68ebdfbb47e7f68", func := "drydock/drydocklaw06.ChooseTight", spec := "chooseTight", inPlace := ["math.Float64bits", "math.Float64frombits", "math.archTrunc"], unfollowed := true, recurses := true, apart := false, narrowed := true }
def ChooseTightUptoSaid : Prop := chooseTightUptoRow.holds Try.pinned (OpenSpec.upto chooseTightSpec)

/-- 'drydocklaw06.ChooseSome', WHERE WHAT IT READS IS OF BULK AT MOST 1048576: true; the input reads as it did. -/
def chooseSomeUptoRow : OpenClaim := { program := "ytcpihpjphdlmfaa", sum := "4ce22393c1282c8b0da1aea44c800ffd52ef46e579cfc1dea68ebdfbb47e7f68", func := "drydock/drydocklaw06.ChooseSome", spec := "chooseSome", inPlace := ["math.Float64bits", "math.Float64frombits", "math.archTrunc"], unfollowed := true, recurses := true, apart := false, narrowed := true }
def ChooseSomeUptoSaid : Prop := chooseSomeUptoRow.holds Try.pinned (OpenSpec.upto chooseSomeSpec)

/-- 'drydocklaw06.ChooseFree', WHERE WHAT IT READS IS OF BULK AT MOST 1048576: true; the input reads as it did. -/
def chooseFreeUptoRow : OpenClaim := { program := "ytcpihpjphdlmfaa", sum := "4ce22393c1282c8b0da1aea44c800ffd52ef46e579cfc1dea68ebdfbb47e7f68", func := "drydock/drydocklaw06.ChooseFree", spec := "chooseFree", inPlace := ["math.Float64bits", "math.Float64frombits", "math.archTrunc"], unfollowed := true, recurses := true, apart := false, narrowed := true }
def ChooseFreeUptoSaid : Prop := chooseFreeUptoRow.holds Try.pinned (OpenSpec.upto chooseFreeSpec)

/-- 'drydocklaw06.ChooseLess', WHERE WHAT IT READS IS OF BULK AT MOST 1048576: true; the input reads as it did. -/
def chooseLessUptoRow : OpenClaim := { program := "ytcpihpjphdlmfaa", sum := "4ce22393c1282c8b0da1aea44c800ffd52ef46e579cfc1dea68ebdfbb47e7f68", func := "drydock/drydocklaw06.ChooseLess", spec := "chooseLess", inPlace := ["math.Float64bits", "math.Float64frombits", "math.archTrunc"], unfollowed := true, recurses := true, apart := false, narrowed := true }
def ChooseLessUptoSaid : Prop := chooseLessUptoRow.holds Try.pinned (OpenSpec.upto chooseLessSpec)

/-- 'drydocklaw06.ChooseAll', WHERE WHAT IT READS IS OF BULK AT MOST 1048576: true; the input reads as it did. -/
def chooseAllUptoRow : OpenClaim := { program := "ytcpihpjphdlmfaa", sum := "4ce22393c1282c8b0da1aea44c800ffd52ef46e579cfc1dea68ebdfbb47e7f68", func := "drydock/drydocklaw06.ChooseAll", spec := "chooseAll", inPlace := ["math.Float64bits", "math.Float64frombits", "math.archTrunc"], unfollowed := true, recurses := true, apart := false, narrowed := true }
def ChooseAllUptoSaid : Prop := chooseAllUptoRow.holds Try.pinned (OpenSpec.upto chooseAllSpec)

end Rows
end Go.Proofs.Ytcpihpjphdlmfaa
