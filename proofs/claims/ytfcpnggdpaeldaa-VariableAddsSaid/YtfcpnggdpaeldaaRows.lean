/-
  No cell of these rows narrows 'for every input' (looked for: loops, veiled, ifaces, maps, wideKeys, modest, calm, conditions, laid).
  DERIVED. THE GIVEN ROWS OF THIS SEAT. 6 by the template 'for every input the law returns true; each argument reads behind the call as it read before'; 0 by the template 'total and deterministic' (their statements: YtfcpnggdpaeldaaTotals.lean).
  GIVEN WITH THE SEED: the statements are not yours to turn. If you find one false, say at which input.
  Laid BY PROGRAM, IN A SANDBOX (cutbox-rows.mjs): the forced cells as the released guide's own fill.sh prints them over the translation d71c3449aef4a32f… (all of the seat's roots in one cut). By AI agents, Wed Nov 11 2026. No macro, syntax, notation, axiom, sorry.
-/
import Derived.Test.YtfcpnggdpaeldaaChecked
import GoSem.Claim
import GoSem.ClaimJoined
import GoSem.ClaimMapViews
import Derived.JoinedTies
import Derived.KernelRfl
namespace Go.Proofs.Ytfcpnggdpaeldaa
/- THE CELL 'sum', in the pinned program and in every row, IS THE sha256 OF THE DUMP (.gsa) THAT YtfcpnggdpaeldaaProg.lean LOADS. Nothing in Lean hashes anything: it is a label: what it is worth is what the hold of that sum in a sandbox is worth. -/
noncomputable def Try.pinned : Pinned := { name := "ytfcpnggdpaeldaa", sum := "d71c3449aef4a32f22b598e377ba8763265ec2cb25fa5824782236767fd73311", checked := Try.checked }
namespace Rows
def none {H : Type} : Left H := { results := [], args := [] }

/-- 'antecedelaw25.VariableRanges': WHATEVER THE INPUT: true; the input reads as it did. -/
def variableRangesSpec : ChangeSpec := { name := "variableRanges", fn := fun _ => fun
  | [d1, d2, d3] => { results := [.lit (.bool true)], args := [d1, d2, d3] }
  | _ => none }
def variableRangesRow : OpenClaim := { program := "ytfcpnggdpaeldaa", sum := "d71c3449aef4a32f22b598e377ba8763265ec2cb25fa5824782236767fd73311", func := "antecede/antecedelaw25.VariableRanges", spec := "variableRanges", unfollowed := true, recurses := true, plainKeys := false, apart := false }
def VariableRangesSaid : Prop := variableRangesRow.holds Try.pinned (OpenSpec.ofChange variableRangesSpec)

/-- ITS FALSE NEIGHBOUR: 'it returns false'. Refute it at one input. -/
def variableRangesWrong : ChangeSpec := { name := "variableRanges", fn := fun _ => fun
  | [d1, d2, d3] => { results := [.lit (.bool false)], args := [d1, d2, d3] }
  | _ => none }
def VariableRangesWrongFalsely : Prop := variableRangesRow.holds Try.pinned (OpenSpec.ofChange variableRangesWrong)

/-- 'antecedelaw25.VariableSteps': WHATEVER THE INPUT: true; the input reads as it did. -/
def variableStepsSpec : ChangeSpec := { name := "variableSteps", fn := fun _ => fun
  | [d1, d2] => { results := [.lit (.bool true)], args := [d1, d2] }
  | _ => none }
def variableStepsRow : OpenClaim := { program := "ytfcpnggdpaeldaa", sum := "d71c3449aef4a32f22b598e377ba8763265ec2cb25fa5824782236767fd73311", func := "antecede/antecedelaw25.VariableSteps", spec := "variableSteps", unfollowed := true, recurses := true, plainKeys := false, apart := false }
def VariableStepsSaid : Prop := variableStepsRow.holds Try.pinned (OpenSpec.ofChange variableStepsSpec)

/-- ITS FALSE NEIGHBOUR: 'it returns false'. Refute it at one input. -/
def variableStepsWrong : ChangeSpec := { name := "variableSteps", fn := fun _ => fun
  | [d1, d2] => { results := [.lit (.bool false)], args := [d1, d2] }
  | _ => none }
def VariableStepsWrongFalsely : Prop := variableStepsRow.holds Try.pinned (OpenSpec.ofChange variableStepsWrong)

/-- 'antecedelaw25.VariableAdds': WHATEVER THE INPUT: true; the input reads as it did. -/
def variableAddsSpec : ChangeSpec := { name := "variableAdds", fn := fun _ => fun
  | [d1, d2, d3] => { results := [.lit (.bool true)], args := [d1, d2, d3] }
  | _ => none }
def variableAddsRow : OpenClaim := { program := "ytfcpnggdpaeldaa", sum := "d71c3449aef4a32f22b598e377ba8763265ec2cb25fa5824782236767fd73311", func := "antecede/antecedelaw25.VariableAdds", spec := "variableAdds", unfollowed := true, recurses := true, plainKeys := false, apart := false }
def VariableAddsSaid : Prop := variableAddsRow.holds Try.pinned (OpenSpec.ofChange variableAddsSpec)

/-- ITS FALSE NEIGHBOUR: 'it returns false'. Refute it at one input. -/
def variableAddsWrong : ChangeSpec := { name := "variableAdds", fn := fun _ => fun
  | [d1, d2, d3] => { results := [.lit (.bool false)], args := [d1, d2, d3] }
  | _ => none }
def VariableAddsWrongFalsely : Prop := variableAddsRow.holds Try.pinned (OpenSpec.ofChange variableAddsWrong)

/-- 'antecedelaw25.VariableGiven': WHATEVER THE INPUT: true; the input reads as it did. -/
def variableGivenSpec : ChangeSpec := { name := "variableGiven", fn := fun _ => fun
  | [d1, d2, d3] => { results := [.lit (.bool true)], args := [d1, d2, d3] }
  | _ => none }
def variableGivenRow : OpenClaim := { program := "ytfcpnggdpaeldaa", sum := "d71c3449aef4a32f22b598e377ba8763265ec2cb25fa5824782236767fd73311", func := "antecede/antecedelaw25.VariableGiven", spec := "variableGiven", unfollowed := true, recurses := true, plainKeys := false, apart := false }
def VariableGivenSaid : Prop := variableGivenRow.holds Try.pinned (OpenSpec.ofChange variableGivenSpec)

/-- ITS FALSE NEIGHBOUR: 'it returns false'. Refute it at one input. -/
def variableGivenWrong : ChangeSpec := { name := "variableGiven", fn := fun _ => fun
  | [d1, d2, d3] => { results := [.lit (.bool false)], args := [d1, d2, d3] }
  | _ => none }
def VariableGivenWrongFalsely : Prop := variableGivenRow.holds Try.pinned (OpenSpec.ofChange variableGivenWrong)

/-- 'antecedelaw25.VariableValues': WHATEVER THE INPUT: true; the input reads as it did. -/
def variableValuesSpec : ChangeSpec := { name := "variableValues", fn := fun _ => fun
  | [d1, d2, d3, d4, d5] => { results := [.lit (.bool true)], args := [d1, d2, d3, d4, d5] }
  | _ => none }
def variableValuesRow : OpenClaim := { program := "ytfcpnggdpaeldaa", sum := "d71c3449aef4a32f22b598e377ba8763265ec2cb25fa5824782236767fd73311", func := "antecede/antecedelaw25.VariableValues", spec := "variableValues", unfollowed := true, recurses := true, plainKeys := false, apart := false }
def VariableValuesSaid : Prop := variableValuesRow.holds Try.pinned (OpenSpec.ofChange variableValuesSpec)

/-- ITS FALSE NEIGHBOUR: 'it returns false'. Refute it at one input. -/
def variableValuesWrong : ChangeSpec := { name := "variableValues", fn := fun _ => fun
  | [d1, d2, d3, d4, d5] => { results := [.lit (.bool false)], args := [d1, d2, d3, d4, d5] }
  | _ => none }
def VariableValuesWrongFalsely : Prop := variableValuesRow.holds Try.pinned (OpenSpec.ofChange variableValuesWrong)

/-- 'antecedelaw25.VariableCuts': WHATEVER THE INPUT: true; the input reads as it did. -/
def variableCutsSpec : ChangeSpec := { name := "variableCuts", fn := fun _ => fun
  | [d1, d2] => { results := [.lit (.bool true)], args := [d1, d2] }
  | _ => none }
def variableCutsRow : OpenClaim := { program := "ytfcpnggdpaeldaa", sum := "d71c3449aef4a32f22b598e377ba8763265ec2cb25fa5824782236767fd73311", func := "antecede/antecedelaw25.VariableCuts", spec := "variableCuts", unfollowed := true, recurses := true, plainKeys := false, apart := false }
def VariableCutsSaid : Prop := variableCutsRow.holds Try.pinned (OpenSpec.ofChange variableCutsSpec)

/-- ITS FALSE NEIGHBOUR: 'it returns false'. Refute it at one input. -/
def variableCutsWrong : ChangeSpec := { name := "variableCuts", fn := fun _ => fun
  | [d1, d2] => { results := [.lit (.bool false)], args := [d1, d2] }
  | _ => none }
def VariableCutsWrongFalsely : Prop := variableCutsRow.holds Try.pinned (OpenSpec.ofChange variableCutsWrong)

/- THE SECOND FORM. 'bulk': how many values and letters a reading holds, each counted each time it is reached (what is shared counts as often as it is met; a slice's spare places count too). A statement '..UptoSaid' is the law's where the arguments, and the package variables that the reading takes, are together of bulk at most 1048576: NARROWER than '..Said'. Prove '..Said' where nothing that the law and all that it calls make is longer than what came in: it says more and counts as full. Else prove '..UptoSaid'. A law counts once. -/
mutual
def uptoBulk {H : Type} : DataW H → Nat
  | .lit (.string bytes) => bytes.length + 1
  | .lit _ => 1
  | .nil => 1
  | .ptr d => uptoBulk d + 1
  | .slice elems spare => uptoBulkAll elems + uptoBulkAll spare + 1
  | .agg parts => uptoBulkAll parts + 1
  | .iface _ d => uptoBulk d + 1
  | .map entries => uptoBulkEntries entries + 1
  | .held _ => 1
def uptoBulkAll {H : Type} : List (DataW H) → Nat
  | [] => 0
  | d :: r => uptoBulk d + uptoBulkAll r
def uptoBulkEntries {H : Type} : List (Lit × DataW H) → Nat
  | [] => 0
  | x :: r => uptoBulkEntry x + uptoBulkEntries r
def uptoBulkEntry {H : Type} : Lit × DataW H → Nat
  | (.string bytes, d) => bytes.length + uptoBulk d + 1
  | (_, d) => uptoBulk d + 1
 end
def uptoSmall : (H : Type) → List (DataW H) → Bool := fun _ ds => decide (uptoBulkAll ds ≤ 1048576)
def OpenSpec.upto (s : _root_.Go.ChangeSpec) : _root_.Go.OpenSpec := { _root_.Go.OpenSpec.ofChange s with cond := some uptoSmall }

/-- 'antecedelaw25.VariableRanges', WHERE WHAT IT READS IS OF BULK AT MOST 1048576: true; the input reads as it did. -/
def variableRangesUptoRow : OpenClaim := { program := "ytfcpnggdpaeldaa", sum := "d71c3449aef4a32f22b598e377ba8763265ec2cb25fa5824782236767fd73311", func := "antecede/antecedelaw25.VariableRanges", spec := "variableRanges", unfollowed := true, recurses := true, plainKeys := false, apart := false, narrowed := true }
def VariableRangesUptoSaid : Prop := variableRangesUptoRow.holds Try.pinned (OpenSpec.upto variableRangesSpec)

/-- 'antecedelaw25.VariableSteps', WHERE WHAT IT READS IS OF BULK AT MOST 1048576: true; the input reads as it did. -/
def variableStepsUptoRow : OpenClaim := { program := "ytfcpnggdpaeldaa", sum := "d71c3449aef4a32f22b598e377ba8763265ec2cb25fa5824782236767fd73311", func := "antecede/antecedelaw25.VariableSteps", spec := "variableSteps", unfollowed := true, recurses := true, plainKeys := false, apart := false, narrowed := true }
def VariableStepsUptoSaid : Prop := variableStepsUptoRow.holds Try.pinned (OpenSpec.upto variableStepsSpec)

/-- 'antecedelaw25.VariableAdds', WHERE WHAT IT READS IS OF BULK AT MOST 1048576: true; the input reads as it did. -/
def variableAddsUptoRow : OpenClaim := { program := "ytfcpnggdpaeldaa", sum := "d71c3449aef4a32f22b598e377ba8763265ec2cb25fa5824782236767fd73311", func := "antecede/antecedelaw25.VariableAdds", spec := "variableAdds", unfollowed := true, recurses := true, plainKeys := false, apart := false, narrowed := true }
def VariableAddsUptoSaid : Prop := variableAddsUptoRow.holds Try.pinned (OpenSpec.upto variableAddsSpec)

/-- 'antecedelaw25.VariableGiven', WHERE WHAT IT READS IS OF BULK AT MOST 1048576: true; the input reads as it did. -/
def variableGivenUptoRow : OpenClaim := { program := "ytfcpnggdpaeldaa", sum := "d71c3449aef4a32f22b598e377ba8763265ec2cb25fa5824782236767fd73311", func := "antecede/antecedelaw25.VariableGiven", spec := "variableGiven", unfollowed := true, recurses := true, plainKeys := false, apart := false, narrowed := true }
def VariableGivenUptoSaid : Prop := variableGivenUptoRow.holds Try.pinned (OpenSpec.upto variableGivenSpec)

/-- 'antecedelaw25.VariableValues', WHERE WHAT IT READS IS OF BULK AT MOST 1048576: true; the input reads as it did. -/
def variableValuesUptoRow : OpenClaim := { program := "ytfcpnggdpaeldaa", sum := "d71c3449aef4a32f22b598e377ba8763265ec2cb25fa5824782236767fd73311", func := "antecede/antecedelaw25.VariableValues", spec := "variableValues", unfollowed := true, recurses := true, plainKeys := false, apart := false, narrowed := true }
def VariableValuesUptoSaid : Prop := variableValuesUptoRow.holds Try.pinned (OpenSpec.upto variableValuesSpec)

/-- 'antecedelaw25.VariableCuts', WHERE WHAT IT READS IS OF BULK AT MOST 1048576: true; the input reads as it did. -/
def variableCutsUptoRow : OpenClaim := { program := "ytfcpnggdpaeldaa", sum := "d71c3449aef4a32f22b598e377ba8763265ec2cb25fa5824782236767fd73311", func := "antecede/antecedelaw25.VariableCuts", spec := "variableCuts", unfollowed := true, recurses := true, plainKeys := false, apart := false, narrowed := true }
def VariableCutsUptoSaid : Prop := variableCutsUptoRow.holds Try.pinned (OpenSpec.upto variableCutsSpec)

end Rows
end Go.Proofs.Ytfcpnggdpaeldaa
