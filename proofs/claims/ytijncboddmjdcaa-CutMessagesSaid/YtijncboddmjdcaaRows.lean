/-
  No cell of these rows narrows 'for every input' (looked for: loops, veiled, ifaces, maps, wideKeys, modest, calm, conditions, laid).
  DERIVED. THE GIVEN ROWS OF THIS SEAT. 9 by the template 'for every input the law returns true; each argument reads behind the call as it read before'; 0 by the template 'total and deterministic' (their statements: YtijncboddmjdcaaTotals.lean).
  GIVEN WITH THE SEED: the statements are not yours to turn. If you find one false, say at which input.
  Laid BY PROGRAM, IN A SANDBOX (cutbox-rows.mjs): the forced cells as the released guide's own fill.sh prints them over the translation 4b7c2d1038080ff5… (all of the seat's roots in one cut). By AI agents, Wed Nov 11 2026. No macro, syntax, notation, axiom, sorry.
-/
import Derived.Test.YtijncboddmjdcaaChecked
import GoSem.Claim
import GoSem.ClaimJoined
import GoSem.ClaimMapViews
import Derived.JoinedTies
import Derived.KernelRfl
namespace Go.Proofs.Ytijncboddmjdcaa
/- THE CELL 'sum', in the pinned program and in every row, IS THE sha256 OF THE DUMP (.gsa) THAT YtijncboddmjdcaaProg.lean LOADS. Nothing in Lean hashes anything: it is a label: what it is worth is what the hold of that sum in a sandbox is worth. -/
noncomputable def Try.pinned : Pinned := { name := "ytijncboddmjdcaa", sum := "4b7c2d1038080ff53cc8e4a1a700bd141770542fce44ad9bd133af6823852bcb", checked := Try.checked }
namespace Rows
def none {H : Type} : Left H := { results := [], args := [] }

/-- 'antecedelaw22.CutTests': WHATEVER THE INPUT: true; the input reads as it did. -/
def cutTestsSpec : ChangeSpec := { name := "cutTests", fn := fun _ => fun
  | [d1, d2, d3] => { results := [.lit (.bool true)], args := [d1, d2, d3] }
  | _ => none }
def cutTestsRow : OpenClaim := { program := "ytijncboddmjdcaa", sum := "4b7c2d1038080ff53cc8e4a1a700bd141770542fce44ad9bd133af6823852bcb", func := "antecede/antecedelaw22.CutTests", spec := "cutTests", unfollowed := true, recurses := true, plainKeys := false, apart := false }
def CutTestsSaid : Prop := cutTestsRow.holds Try.pinned (OpenSpec.ofChange cutTestsSpec)

/-- ITS FALSE NEIGHBOUR: 'it returns false'. Refute it at one input. -/
def cutTestsWrong : ChangeSpec := { name := "cutTests", fn := fun _ => fun
  | [d1, d2, d3] => { results := [.lit (.bool false)], args := [d1, d2, d3] }
  | _ => none }
def CutTestsWrongFalsely : Prop := cutTestsRow.holds Try.pinned (OpenSpec.ofChange cutTestsWrong)

/-- 'antecedelaw22.CutJoins': WHATEVER THE INPUT: true; the input reads as it did. -/
def cutJoinsSpec : ChangeSpec := { name := "cutJoins", fn := fun _ => fun
  | [d1, d2, d3] => { results := [.lit (.bool true)], args := [d1, d2, d3] }
  | _ => none }
def cutJoinsRow : OpenClaim := { program := "ytijncboddmjdcaa", sum := "4b7c2d1038080ff53cc8e4a1a700bd141770542fce44ad9bd133af6823852bcb", func := "antecede/antecedelaw22.CutJoins", spec := "cutJoins", unfollowed := true, recurses := true, plainKeys := false, apart := false }
def CutJoinsSaid : Prop := cutJoinsRow.holds Try.pinned (OpenSpec.ofChange cutJoinsSpec)

/-- ITS FALSE NEIGHBOUR: 'it returns false'. Refute it at one input. -/
def cutJoinsWrong : ChangeSpec := { name := "cutJoins", fn := fun _ => fun
  | [d1, d2, d3] => { results := [.lit (.bool false)], args := [d1, d2, d3] }
  | _ => none }
def CutJoinsWrongFalsely : Prop := cutJoinsRow.holds Try.pinned (OpenSpec.ofChange cutJoinsWrong)

/-- 'antecedelaw22.CutSteps': WHATEVER THE INPUT: true; the input reads as it did. -/
def cutStepsSpec : ChangeSpec := { name := "cutSteps", fn := fun _ => fun
  | [d1, d2, d3] => { results := [.lit (.bool true)], args := [d1, d2, d3] }
  | _ => none }
def cutStepsRow : OpenClaim := { program := "ytijncboddmjdcaa", sum := "4b7c2d1038080ff53cc8e4a1a700bd141770542fce44ad9bd133af6823852bcb", func := "antecede/antecedelaw22.CutSteps", spec := "cutSteps", unfollowed := true, recurses := true, plainKeys := false, apart := false }
def CutStepsSaid : Prop := cutStepsRow.holds Try.pinned (OpenSpec.ofChange cutStepsSpec)

/-- ITS FALSE NEIGHBOUR: 'it returns false'. Refute it at one input. -/
def cutStepsWrong : ChangeSpec := { name := "cutSteps", fn := fun _ => fun
  | [d1, d2, d3] => { results := [.lit (.bool false)], args := [d1, d2, d3] }
  | _ => none }
def CutStepsWrongFalsely : Prop := cutStepsRow.holds Try.pinned (OpenSpec.ofChange cutStepsWrong)

/-- 'antecedelaw22.CutChannels': WHATEVER THE INPUT: true; the input reads as it did. -/
def cutChannelsSpec : ChangeSpec := { name := "cutChannels", fn := fun _ => fun
  | [d1, d2, d3, d4] => { results := [.lit (.bool true)], args := [d1, d2, d3, d4] }
  | _ => none }
def cutChannelsRow : OpenClaim := { program := "ytijncboddmjdcaa", sum := "4b7c2d1038080ff53cc8e4a1a700bd141770542fce44ad9bd133af6823852bcb", func := "antecede/antecedelaw22.CutChannels", spec := "cutChannels", unfollowed := true, recurses := true, plainKeys := false, apart := false }
def CutChannelsSaid : Prop := cutChannelsRow.holds Try.pinned (OpenSpec.ofChange cutChannelsSpec)

/-- ITS FALSE NEIGHBOUR: 'it returns false'. Refute it at one input. -/
def cutChannelsWrong : ChangeSpec := { name := "cutChannels", fn := fun _ => fun
  | [d1, d2, d3, d4] => { results := [.lit (.bool false)], args := [d1, d2, d3, d4] }
  | _ => none }
def CutChannelsWrongFalsely : Prop := cutChannelsRow.holds Try.pinned (OpenSpec.ofChange cutChannelsWrong)

/-- 'antecedelaw22.CutCloses': WHATEVER THE INPUT: true; the input reads as it did. -/
def cutClosesSpec : ChangeSpec := { name := "cutCloses", fn := fun _ => fun
  | [d1, d2] => { results := [.lit (.bool true)], args := [d1, d2] }
  | _ => none }
def cutClosesRow : OpenClaim := { program := "ytijncboddmjdcaa", sum := "4b7c2d1038080ff53cc8e4a1a700bd141770542fce44ad9bd133af6823852bcb", func := "antecede/antecedelaw22.CutCloses", spec := "cutCloses", unfollowed := true, recurses := true, plainKeys := false, apart := false }
def CutClosesSaid : Prop := cutClosesRow.holds Try.pinned (OpenSpec.ofChange cutClosesSpec)

/-- ITS FALSE NEIGHBOUR: 'it returns false'. Refute it at one input. -/
def cutClosesWrong : ChangeSpec := { name := "cutCloses", fn := fun _ => fun
  | [d1, d2] => { results := [.lit (.bool false)], args := [d1, d2] }
  | _ => none }
def CutClosesWrongFalsely : Prop := cutClosesRow.holds Try.pinned (OpenSpec.ofChange cutClosesWrong)

/-- 'antecedelaw22.CutMessages': WHATEVER THE INPUT: true; the input reads as it did. -/
def cutMessagesSpec : ChangeSpec := { name := "cutMessages", fn := fun _ => fun
  | [d1, d2] => { results := [.lit (.bool true)], args := [d1, d2] }
  | _ => none }
def cutMessagesRow : OpenClaim := { program := "ytijncboddmjdcaa", sum := "4b7c2d1038080ff53cc8e4a1a700bd141770542fce44ad9bd133af6823852bcb", func := "antecede/antecedelaw22.CutMessages", spec := "cutMessages", unfollowed := true, recurses := true, plainKeys := false, apart := false }
def CutMessagesSaid : Prop := cutMessagesRow.holds Try.pinned (OpenSpec.ofChange cutMessagesSpec)

/-- ITS FALSE NEIGHBOUR: 'it returns false'. Refute it at one input. -/
def cutMessagesWrong : ChangeSpec := { name := "cutMessages", fn := fun _ => fun
  | [d1, d2] => { results := [.lit (.bool false)], args := [d1, d2] }
  | _ => none }
def CutMessagesWrongFalsely : Prop := cutMessagesRow.holds Try.pinned (OpenSpec.ofChange cutMessagesWrong)

/-- 'antecedelaw22.CutClosed': WHATEVER THE INPUT: true; the input reads as it did. -/
def cutClosedSpec : ChangeSpec := { name := "cutClosed", fn := fun _ => fun
  | [d1, d2, d3] => { results := [.lit (.bool true)], args := [d1, d2, d3] }
  | _ => none }
def cutClosedRow : OpenClaim := { program := "ytijncboddmjdcaa", sum := "4b7c2d1038080ff53cc8e4a1a700bd141770542fce44ad9bd133af6823852bcb", func := "antecede/antecedelaw22.CutClosed", spec := "cutClosed", unfollowed := true, recurses := true, plainKeys := false, apart := false }
def CutClosedSaid : Prop := cutClosedRow.holds Try.pinned (OpenSpec.ofChange cutClosedSpec)

/-- ITS FALSE NEIGHBOUR: 'it returns false'. Refute it at one input. -/
def cutClosedWrong : ChangeSpec := { name := "cutClosed", fn := fun _ => fun
  | [d1, d2, d3] => { results := [.lit (.bool false)], args := [d1, d2, d3] }
  | _ => none }
def CutClosedWrongFalsely : Prop := cutClosedRow.holds Try.pinned (OpenSpec.ofChange cutClosedWrong)

/-- 'antecedelaw22.CutLattice': WHATEVER THE INPUT: true; the input reads as it did. -/
def cutLatticeSpec : ChangeSpec := { name := "cutLattice", fn := fun _ => fun
  | [d1, d2, d3, d4] => { results := [.lit (.bool true)], args := [d1, d2, d3, d4] }
  | _ => none }
def cutLatticeRow : OpenClaim := { program := "ytijncboddmjdcaa", sum := "4b7c2d1038080ff53cc8e4a1a700bd141770542fce44ad9bd133af6823852bcb", func := "antecede/antecedelaw22.CutLattice", spec := "cutLattice", unfollowed := true, recurses := true, plainKeys := false, apart := false }
def CutLatticeSaid : Prop := cutLatticeRow.holds Try.pinned (OpenSpec.ofChange cutLatticeSpec)

/-- ITS FALSE NEIGHBOUR: 'it returns false'. Refute it at one input. -/
def cutLatticeWrong : ChangeSpec := { name := "cutLattice", fn := fun _ => fun
  | [d1, d2, d3, d4] => { results := [.lit (.bool false)], args := [d1, d2, d3, d4] }
  | _ => none }
def CutLatticeWrongFalsely : Prop := cutLatticeRow.holds Try.pinned (OpenSpec.ofChange cutLatticeWrong)

/-- 'antecedelaw22.CutGrows': WHATEVER THE INPUT: true; the input reads as it did. -/
def cutGrowsSpec : ChangeSpec := { name := "cutGrows", fn := fun _ => fun
  | [d1, d2] => { results := [.lit (.bool true)], args := [d1, d2] }
  | _ => none }
def cutGrowsRow : OpenClaim := { program := "ytijncboddmjdcaa", sum := "4b7c2d1038080ff53cc8e4a1a700bd141770542fce44ad9bd133af6823852bcb", func := "antecede/antecedelaw22.CutGrows", spec := "cutGrows", unfollowed := true, recurses := true, plainKeys := false, apart := false }
def CutGrowsSaid : Prop := cutGrowsRow.holds Try.pinned (OpenSpec.ofChange cutGrowsSpec)

/-- ITS FALSE NEIGHBOUR: 'it returns false'. Refute it at one input. -/
def cutGrowsWrong : ChangeSpec := { name := "cutGrows", fn := fun _ => fun
  | [d1, d2] => { results := [.lit (.bool false)], args := [d1, d2] }
  | _ => none }
def CutGrowsWrongFalsely : Prop := cutGrowsRow.holds Try.pinned (OpenSpec.ofChange cutGrowsWrong)

/- THE SECOND FORM. 'bulk': how many values and letters a reading holds, each counted each time it is reached (what is shared counts as often as it is met; a slice's spare places count too). A statement '..UptoSaid' is the law's where the arguments, and the package variables that the reading takes, are together of bulk at most 1048576: NARROWER than '..Said'. Prove '..Said' where nothing that the law and all that it calls make is longer than what came in: it says more and counts as full. Else prove '..UptoSaid'. A law counts once. -/
mutual
def uptoBulk {H : Type} : DataW H → Nat
  | .lit (.string bytes) => bytes.length + 1
  | .lit _ => 1
  | .nil => 1
  | .ptr d => uptoBulk d + 1
  | .slice elems spare => uptoBulkAll elems + uptoBulkAll spare + 1
  | .agg parts => uptoBulkAll parts + 1
  | .iface _ d => uptoBulk d + 1
  | .map entries => uptoBulkEntries entries + 1
  | .held _ => 1
def uptoBulkAll {H : Type} : List (DataW H) → Nat
  | [] => 0
  | d :: r => uptoBulk d + uptoBulkAll r
def uptoBulkEntries {H : Type} : List (Lit × DataW H) → Nat
  | [] => 0
  | x :: r => uptoBulkEntry x + uptoBulkEntries r
def uptoBulkEntry {H : Type} : Lit × DataW H → Nat
  | (.string bytes, d) => bytes.length + uptoBulk d + 1
  | (_, d) => uptoBulk d + 1
 end
def uptoSmall : (H : Type) → List (DataW H) → Bool := fun _ ds => decide (uptoBulkAll ds ≤ 1048576)
def OpenSpec.upto (s : _root_.Go.ChangeSpec) : _root_.Go.OpenSpec := { _root_.Go.OpenSpec.ofChange s with cond := some uptoSmall }

/-- 'antecedelaw22.CutTests', WHERE WHAT IT READS IS OF BULK AT MOST 1048576: true; the input reads as it did. -/
def cutTestsUptoRow : OpenClaim := { program := "ytijncboddmjdcaa", sum := "4b7c2d1038080ff53cc8e4a1a700bd141770542fce44ad9bd133af6823852bcb", func := "antecede/antecedelaw22.CutTests", spec := "cutTests", unfollowed := true, recurses := true, plainKeys := false, apart := false, narrowed := true }
def CutTestsUptoSaid : Prop := cutTestsUptoRow.holds Try.pinned (OpenSpec.upto cutTestsSpec)

/-- 'antecedelaw22.CutJoins', WHERE WHAT IT READS IS OF BULK AT MOST 1048576: true; the input reads as it did. -/
def cutJoinsUptoRow : OpenClaim := { program := "ytijncboddmjdcaa", sum := "4b7c2d1038080ff53cc8e4a1a700bd141770542fce44ad9bd133af6823852bcb", func := "antecede/antecedelaw22.CutJoins", spec := "cutJoins", unfollowed := true, recurses := true, plainKeys := false, apart := false, narrowed := true }
def CutJoinsUptoSaid : Prop := cutJoinsUptoRow.holds Try.pinned (OpenSpec.upto cutJoinsSpec)

/-- 'antecedelaw22.CutSteps', WHERE WHAT IT READS IS OF BULK AT MOST 1048576: true; the input reads as it did. -/
def cutStepsUptoRow : OpenClaim := { program := "ytijncboddmjdcaa", sum := "4b7c2d1038080ff53cc8e4a1a700bd141770542fce44ad9bd133af6823852bcb", func := "antecede/antecedelaw22.CutSteps", spec := "cutSteps", unfollowed := true, recurses := true, plainKeys := false, apart := false, narrowed := true }
def CutStepsUptoSaid : Prop := cutStepsUptoRow.holds Try.pinned (OpenSpec.upto cutStepsSpec)

/-- 'antecedelaw22.CutChannels', WHERE WHAT IT READS IS OF BULK AT MOST 1048576: true; the input reads as it did. -/
def cutChannelsUptoRow : OpenClaim := { program := "ytijncboddmjdcaa", sum := "4b7c2d1038080ff53cc8e4a1a700bd141770542fce44ad9bd133af6823852bcb", func := "antecede/antecedelaw22.CutChannels", spec := "cutChannels", unfollowed := true, recurses := true, plainKeys := false, apart := false, narrowed := true }
def CutChannelsUptoSaid : Prop := cutChannelsUptoRow.holds Try.pinned (OpenSpec.upto cutChannelsSpec)

/-- 'antecedelaw22.CutCloses', WHERE WHAT IT READS IS OF BULK AT MOST 1048576: true; the input reads as it did. -/
def cutClosesUptoRow : OpenClaim := { program := "ytijncboddmjdcaa", sum := "4b7c2d1038080ff53cc8e4a1a700bd141770542fce44ad9bd133af6823852bcb", func := "antecede/antecedelaw22.CutCloses", spec := "cutCloses", unfollowed := true, recurses := true, plainKeys := false, apart := false, narrowed := true }
def CutClosesUptoSaid : Prop := cutClosesUptoRow.holds Try.pinned (OpenSpec.upto cutClosesSpec)

/-- 'antecedelaw22.CutMessages', WHERE WHAT IT READS IS OF BULK AT MOST 1048576: true; the input reads as it did. -/
def cutMessagesUptoRow : OpenClaim := { program := "ytijncboddmjdcaa", sum := "4b7c2d1038080ff53cc8e4a1a700bd141770542fce44ad9bd133af6823852bcb", func := "antecede/antecedelaw22.CutMessages", spec := "cutMessages", unfollowed := true, recurses := true, plainKeys := false, apart := false, narrowed := true }
def CutMessagesUptoSaid : Prop := cutMessagesUptoRow.holds Try.pinned (OpenSpec.upto cutMessagesSpec)

/-- 'antecedelaw22.CutClosed', WHERE WHAT IT READS IS OF BULK AT MOST 1048576: true; the input reads as it did. -/
def cutClosedUptoRow : OpenClaim := { program := "ytijncboddmjdcaa", sum := "4b7c2d1038080ff53cc8e4a1a700bd141770542fce44ad9bd133af6823852bcb", func := "antecede/antecedelaw22.CutClosed", spec := "cutClosed", unfollowed := true, recurses := true, plainKeys := false, apart := false, narrowed := true }
def CutClosedUptoSaid : Prop := cutClosedUptoRow.holds Try.pinned (OpenSpec.upto cutClosedSpec)

/-- 'antecedelaw22.CutLattice', WHERE WHAT IT READS IS OF BULK AT MOST 1048576: true; the input reads as it did. -/
def cutLatticeUptoRow : OpenClaim := { program := "ytijncboddmjdcaa", sum := "4b7c2d1038080ff53cc8e4a1a700bd141770542fce44ad9bd133af6823852bcb", func := "antecede/antecedelaw22.CutLattice", spec := "cutLattice", unfollowed := true, recurses := true, plainKeys := false, apart := false, narrowed := true }
def CutLatticeUptoSaid : Prop := cutLatticeUptoRow.holds Try.pinned (OpenSpec.upto cutLatticeSpec)

/-- 'antecedelaw22.CutGrows', WHERE WHAT IT READS IS OF BULK AT MOST 1048576: true; the input reads as it did. -/
def cutGrowsUptoRow : OpenClaim := { program := "ytijncboddmjdcaa", sum := "4b7c2d1038080ff53cc8e4a1a700bd141770542fce44ad9bd133af6823852bcb", func := "antecede/antecedelaw22.CutGrows", spec := "cutGrows", unfollowed := true, recurses := true, plainKeys := false, apart := false, narrowed := true }
def CutGrowsUptoSaid : Prop := cutGrowsUptoRow.holds Try.pinned (OpenSpec.upto cutGrowsSpec)

end Rows
end Go.Proofs.Ytijncboddmjdcaa
