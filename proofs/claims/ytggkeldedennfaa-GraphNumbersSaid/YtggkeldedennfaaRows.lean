/-
  No cell of these rows narrows 'for every input' (looked for: loops, veiled, ifaces, maps, wideKeys, modest, calm, conditions, laid).
  DERIVED. THE GIVEN ROWS OF THIS SEAT. 6 by the template 'for every input the law returns true; each argument reads behind the call as it read before'; 0 by the template 'total and deterministic' (their statements: YtggkeldedennfaaTotals.lean).
  GIVEN WITH THE SEED: the statements are not yours to turn. If you find one false, say at which input.
  Laid BY PROGRAM, IN A SANDBOX (cutbox-rows.mjs): the forced cells as the released guide's own fill.sh prints them over the translation 73d21b36c3aeb843… (all of the seat's roots in one cut). By AI agents, Wed Nov 11 2026. No macro, syntax, notation, axiom, sorry.
-/
import Derived.Test.YtggkeldedennfaaChecked
import GoSem.Claim
import GoSem.ClaimJoined
import GoSem.ClaimMapViews
import Derived.JoinedTies
import Derived.KernelRfl
namespace Go.Proofs.Ytggkeldedennfaa
/- THE CELL 'sum', in the pinned program and in every row, IS THE sha256 OF THE DUMP (.gsa) THAT YtggkeldedennfaaProg.lean LOADS. Nothing in Lean hashes anything: it is a label: what it is worth is what the hold of that sum in a sandbox is worth. -/
noncomputable def Try.pinned : Pinned := { name := "ytggkeldedennfaa", sum := "73d21b36c3aeb843e5bb60ec51a7eca927f98e00777fb3080b7aebcf7330c068", checked := Try.checked }
namespace Rows
def none {H : Type} : Left H := { results := [], args := [] }

/-- 'horariumlaw7.GraphNumbers': WHATEVER THE INPUT: true; the input reads as it did. -/
def graphNumbersSpec : ChangeSpec := { name := "graphNumbers", fn := fun _ => fun
  | [] => { results := [.lit (.bool true)], args := [] }
  | _ => none }
def graphNumbersRow : OpenClaim := { program := "ytggkeldedennfaa", sum := "73d21b36c3aeb843e5bb60ec51a7eca927f98e00777fb3080b7aebcf7330c068", func := "horarium/horariumlaw7.GraphNumbers", spec := "graphNumbers", recurses := true, apart := false }
def GraphNumbersSaid : Prop := graphNumbersRow.holds Try.pinned (OpenSpec.ofChange graphNumbersSpec)

/-- ITS FALSE NEIGHBOUR: 'it returns false'. Refute it at one input. -/
def graphNumbersWrong : ChangeSpec := { name := "graphNumbers", fn := fun _ => fun
  | [] => { results := [.lit (.bool false)], args := [] }
  | _ => none }
def GraphNumbersWrongFalsely : Prop := graphNumbersRow.holds Try.pinned (OpenSpec.ofChange graphNumbersWrong)

/-- 'horariumlaw7.GraphTells': WHATEVER THE INPUT: true; the input reads as it did. -/
def graphTellsSpec : ChangeSpec := { name := "graphTells", fn := fun _ => fun
  | [d1, d2, d3, d4, d5] => { results := [.lit (.bool true)], args := [d1, d2, d3, d4, d5] }
  | _ => none }
def graphTellsRow : OpenClaim := { program := "ytggkeldedennfaa", sum := "73d21b36c3aeb843e5bb60ec51a7eca927f98e00777fb3080b7aebcf7330c068", func := "horarium/horariumlaw7.GraphTells", spec := "graphTells", recurses := true, apart := false }
def GraphTellsSaid : Prop := graphTellsRow.holds Try.pinned (OpenSpec.ofChange graphTellsSpec)

/-- ITS FALSE NEIGHBOUR: 'it returns false'. Refute it at one input. -/
def graphTellsWrong : ChangeSpec := { name := "graphTells", fn := fun _ => fun
  | [d1, d2, d3, d4, d5] => { results := [.lit (.bool false)], args := [d1, d2, d3, d4, d5] }
  | _ => none }
def GraphTellsWrongFalsely : Prop := graphTellsRow.holds Try.pinned (OpenSpec.ofChange graphTellsWrong)

/-- 'horariumlaw7.GraphOrder': WHATEVER THE INPUT: true; the input reads as it did. -/
def graphOrderSpec : ChangeSpec := { name := "graphOrder", fn := fun _ => fun
  | [d] => { results := [.lit (.bool true)], args := [d] }
  | _ => none }
def graphOrderRow : OpenClaim := { program := "ytggkeldedennfaa", sum := "73d21b36c3aeb843e5bb60ec51a7eca927f98e00777fb3080b7aebcf7330c068", func := "horarium/horariumlaw7.GraphOrder", spec := "graphOrder", recurses := true, apart := false }
def GraphOrderSaid : Prop := graphOrderRow.holds Try.pinned (OpenSpec.ofChange graphOrderSpec)

/-- ITS FALSE NEIGHBOUR: 'it returns false'. Refute it at one input. -/
def graphOrderWrong : ChangeSpec := { name := "graphOrder", fn := fun _ => fun
  | [d] => { results := [.lit (.bool false)], args := [d] }
  | _ => none }
def GraphOrderWrongFalsely : Prop := graphOrderRow.holds Try.pinned (OpenSpec.ofChange graphOrderWrong)

/-- 'horariumlaw7.GraphMore': WHATEVER THE INPUT: true; the input reads as it did. -/
def graphMoreSpec : ChangeSpec := { name := "graphMore", fn := fun _ => fun
  | [d1, d2, d3, d4] => { results := [.lit (.bool true)], args := [d1, d2, d3, d4] }
  | _ => none }
def graphMoreRow : OpenClaim := { program := "ytggkeldedennfaa", sum := "73d21b36c3aeb843e5bb60ec51a7eca927f98e00777fb3080b7aebcf7330c068", func := "horarium/horariumlaw7.GraphMore", spec := "graphMore", recurses := true, apart := false }
def GraphMoreSaid : Prop := graphMoreRow.holds Try.pinned (OpenSpec.ofChange graphMoreSpec)

/-- ITS FALSE NEIGHBOUR: 'it returns false'. Refute it at one input. -/
def graphMoreWrong : ChangeSpec := { name := "graphMore", fn := fun _ => fun
  | [d1, d2, d3, d4] => { results := [.lit (.bool false)], args := [d1, d2, d3, d4] }
  | _ => none }
def GraphMoreWrongFalsely : Prop := graphMoreRow.holds Try.pinned (OpenSpec.ofChange graphMoreWrong)

/-- 'horariumlaw3.NodeNumbers': WHATEVER THE INPUT: true; the input reads as it did. -/
def nodeNumbersSpec : ChangeSpec := { name := "nodeNumbers", fn := fun _ => fun
  | [] => { results := [.lit (.bool true)], args := [] }
  | _ => none }
def nodeNumbersRow : OpenClaim := { program := "ytggkeldedennfaa", sum := "73d21b36c3aeb843e5bb60ec51a7eca927f98e00777fb3080b7aebcf7330c068", func := "horarium/horariumlaw3.NodeNumbers", spec := "nodeNumbers", recurses := true, apart := false }
def NodeNumbersSaid : Prop := nodeNumbersRow.holds Try.pinned (OpenSpec.ofChange nodeNumbersSpec)

/-- ITS FALSE NEIGHBOUR: 'it returns false'. Refute it at one input. -/
def nodeNumbersWrong : ChangeSpec := { name := "nodeNumbers", fn := fun _ => fun
  | [] => { results := [.lit (.bool false)], args := [] }
  | _ => none }
def NodeNumbersWrongFalsely : Prop := nodeNumbersRow.holds Try.pinned (OpenSpec.ofChange nodeNumbersWrong)

/-- 'horariumlaw3.NodeParts': WHATEVER THE INPUT: true; the input reads as it did. -/
def nodePartsSpec : ChangeSpec := { name := "nodeParts", fn := fun _ => fun
  | [d1, d2] => { results := [.lit (.bool true)], args := [d1, d2] }
  | _ => none }
def nodePartsRow : OpenClaim := { program := "ytggkeldedennfaa", sum := "73d21b36c3aeb843e5bb60ec51a7eca927f98e00777fb3080b7aebcf7330c068", func := "horarium/horariumlaw3.NodeParts", spec := "nodeParts", recurses := true, apart := false }
def NodePartsSaid : Prop := nodePartsRow.holds Try.pinned (OpenSpec.ofChange nodePartsSpec)

/-- ITS FALSE NEIGHBOUR: 'it returns false'. Refute it at one input. -/
def nodePartsWrong : ChangeSpec := { name := "nodeParts", fn := fun _ => fun
  | [d1, d2] => { results := [.lit (.bool false)], args := [d1, d2] }
  | _ => none }
def NodePartsWrongFalsely : Prop := nodePartsRow.holds Try.pinned (OpenSpec.ofChange nodePartsWrong)

/- THE SECOND FORM. 'bulk': how many values and letters a reading holds, each counted each time it is reached (what is shared counts as often as it is met; a slice's spare places count too). A statement '..UptoSaid' is the law's where the arguments, and the package variables that the reading takes, are together of bulk at most 1048576: NARROWER than '..Said'. Prove '..Said' where nothing that the law and all that it calls make is longer than what came in: it says more and counts as full. Else prove '..UptoSaid'. A law counts once. -/
mutual
def uptoBulk {H : Type} : DataW H → Nat
  | .lit (.string bytes) => bytes.length + 1
  | .lit _ => 1
  | .nil => 1
  | .ptr d => uptoBulk d + 1
  | .slice elems spare => uptoBulkAll elems + uptoBulkAll spare + 1
  | .agg parts => uptoBulkAll parts + 1
  | .iface _ d => uptoBulk d + 1
  | .map entries => uptoBulkEntries entries + 1
  | .held _ => 1
def uptoBulkAll {H : Type} : List (DataW H) → Nat
  | [] => 0
  | d :: r => uptoBulk d + uptoBulkAll r
def uptoBulkEntries {H : Type} : List (Lit × DataW H) → Nat
  | [] => 0
  | x :: r => uptoBulkEntry x + uptoBulkEntries r
def uptoBulkEntry {H : Type} : Lit × DataW H → Nat
  | (.string bytes, d) => bytes.length + uptoBulk d + 1
  | (_, d) => uptoBulk d + 1
 end
def uptoSmall : (H : Type) → List (DataW H) → Bool := fun _ ds => decide (uptoBulkAll ds ≤ 1048576)
def OpenSpec.upto (s : _root_.Go.ChangeSpec) : _root_.Go.OpenSpec := { _root_.Go.OpenSpec.ofChange s with cond := some uptoSmall }

/-- 'horariumlaw7.GraphNumbers', WHERE WHAT IT READS IS OF BULK AT MOST 1048576: true; the input reads as it did. -/
def graphNumbersUptoRow : OpenClaim := { program := "ytggkeldedennfaa", sum := "73d21b36c3aeb843e5bb60ec51a7eca927f98e00777fb3080b7aebcf7330c068", func := "horarium/horariumlaw7.GraphNumbers", spec := "graphNumbers", recurses := true, apart := false, narrowed := true }
def GraphNumbersUptoSaid : Prop := graphNumbersUptoRow.holds Try.pinned (OpenSpec.upto graphNumbersSpec)

/-- 'horariumlaw7.GraphTells', WHERE WHAT IT READS IS OF BULK AT MOST 1048576: true; the input reads as it did. -/
def graphTellsUptoRow : OpenClaim := { program := "ytggkeldedennfaa", sum := "73d21b36c3aeb843e5bb60ec51a7eca927f98e00777fb3080b7aebcf7330c068", func := "horarium/horariumlaw7.GraphTells", spec := "graphTells", recurses := true, apart := false, narrowed := true }
def GraphTellsUptoSaid : Prop := graphTellsUptoRow.holds Try.pinned (OpenSpec.upto graphTellsSpec)

/-- 'horariumlaw7.GraphOrder', WHERE WHAT IT READS IS OF BULK AT MOST 1048576: true; the input reads as it did. -/
def graphOrderUptoRow : OpenClaim := { program := "ytggkeldedennfaa", sum := "73d21b36c3aeb843e5bb60ec51a7eca927f98e00777fb3080b7aebcf7330c068", func := "horarium/horariumlaw7.GraphOrder", spec := "graphOrder", recurses := true, apart := false, narrowed := true }
def GraphOrderUptoSaid : Prop := graphOrderUptoRow.holds Try.pinned (OpenSpec.upto graphOrderSpec)

/-- 'horariumlaw7.GraphMore', WHERE WHAT IT READS IS OF BULK AT MOST 1048576: true; the input reads as it did. -/
def graphMoreUptoRow : OpenClaim := { program := "ytggkeldedennfaa", sum := "73d21b36c3aeb843e5bb60ec51a7eca927f98e00777fb3080b7aebcf7330c068", func := "horarium/horariumlaw7.GraphMore", spec := "graphMore", recurses := true, apart := false, narrowed := true }
def GraphMoreUptoSaid : Prop := graphMoreUptoRow.holds Try.pinned (OpenSpec.upto graphMoreSpec)

/-- 'horariumlaw3.NodeNumbers', WHERE WHAT IT READS IS OF BULK AT MOST 1048576: true; the input reads as it did. -/
def nodeNumbersUptoRow : OpenClaim := { program := "ytggkeldedennfaa", sum := "73d21b36c3aeb843e5bb60ec51a7eca927f98e00777fb3080b7aebcf7330c068", func := "horarium/horariumlaw3.NodeNumbers", spec := "nodeNumbers", recurses := true, apart := false, narrowed := true }
def NodeNumbersUptoSaid : Prop := nodeNumbersUptoRow.holds Try.pinned (OpenSpec.upto nodeNumbersSpec)

/-- 'horariumlaw3.NodeParts', WHERE WHAT IT READS IS OF BULK AT MOST 1048576: true; the input reads as it did. -/
def nodePartsUptoRow : OpenClaim := { program := "ytggkeldedennfaa", sum := "73d21b36c3aeb843e5bb60ec51a7eca927f98e00777fb3080b7aebcf7330c068", func := "horarium/horariumlaw3.NodeParts", spec := "nodeParts", recurses := true, apart := false, narrowed := true }
def NodePartsUptoSaid : Prop := nodePartsUptoRow.holds Try.pinned (OpenSpec.upto nodePartsSpec)

end Rows
end Go.Proofs.Ytggkeldedennfaa
