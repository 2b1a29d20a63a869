/-
  No cell of these rows narrows 'for every input' (looked for: loops, veiled, ifaces, maps, wideKeys, modest, calm, conditions, laid).
  DERIVED. THE GIVEN ROWS OF THIS SEAT. 6 by the template 'for every input the law returns true; each argument reads behind the call as it read before'; 0 by the template 'total and deterministic' (their statements: YtfagfooggcinoaaGreatTotals.lean).
  GIVEN WITH THE SEED: the statements are not yours to turn. If you find one false, say at which input.
  Laid BY PROGRAM, IN A SANDBOX (cutbox-rows.mjs): the forced cells as the released guide's own fill.sh prints them over the translation d138340f4cc02177… (all of the seat's roots in one cut). By AI agents, Wed Nov 11 2026. No macro, syntax, notation, axiom, sorry.
-/
import Derived.Test.YtfagfooggcinoaaGreatChecked
import GoSem.Claim
import GoSem.ClaimJoined
import GoSem.ClaimMapViews
import Derived.JoinedTies
import Derived.KernelRfl
namespace Go.Proofs.YtfagfooggcinoaaGreat
/- THE CELL 'sum', in the pinned program and in every row, IS THE sha256 OF THE DUMP (.gsa) THAT YtfagfooggcinoaaGreatProg.lean LOADS. Nothing in Lean hashes anything: it is a label: what it is worth is what the hold of that sum in a sandbox is worth. -/
noncomputable def Tryz.pinned : Pinned := { name := "ytfagfooggcinoaagreat", sum := "d138340f4cc021771360db04371a55079d1b7bbc59b0f5511408cae7f9d771be", checked := Tryz.checked }
namespace Rows
def none {H : Type} : Left H := { results := [], args := [] }

/-- 'antecedelaw50.SnapshotMarkers': WHATEVER THE INPUT: true; the input reads as it did. -/
def snapshotMarkersSpec : ChangeSpec := { name := "snapshotMarkers", fn := fun _ => fun
  | [d1, d2, d3, d4, d5] => { results := [.lit (.bool true)], args := [d1, d2, d3, d4, d5] }
  | _ => none }
def snapshotMarkersRow : OpenClaim := { program := "ytfagfooggcinoaagreat", sum := "d138340f4cc021771360db04371a55079d1b7bbc59b0f5511408cae7f9d771be", func := "antecede/antecedelaw50.SnapshotMarkers", spec := "snapshotMarkers", unfollowed := true, recurses := true, plainKeys := false, apart := false }
def SnapshotMarkersSaid : Prop := snapshotMarkersRow.holds Tryz.pinned (OpenSpec.ofChange snapshotMarkersSpec)

/-- ITS FALSE NEIGHBOUR: 'it returns false'. Refute it at one input. -/
def snapshotMarkersWrong : ChangeSpec := { name := "snapshotMarkers", fn := fun _ => fun
  | [d1, d2, d3, d4, d5] => { results := [.lit (.bool false)], args := [d1, d2, d3, d4, d5] }
  | _ => none }
def SnapshotMarkersWrongFalsely : Prop := snapshotMarkersRow.holds Tryz.pinned (OpenSpec.ofChange snapshotMarkersWrong)

/-- 'antecedelaw50.SnapshotDelays': WHATEVER THE INPUT: true; the input reads as it did. -/
def snapshotDelaysSpec : ChangeSpec := { name := "snapshotDelays", fn := fun _ => fun
  | [d1, d2, d3, d4, d5] => { results := [.lit (.bool true)], args := [d1, d2, d3, d4, d5] }
  | _ => none }
def snapshotDelaysRow : OpenClaim := { program := "ytfagfooggcinoaagreat", sum := "d138340f4cc021771360db04371a55079d1b7bbc59b0f5511408cae7f9d771be", func := "antecede/antecedelaw50.SnapshotDelays", spec := "snapshotDelays", unfollowed := true, recurses := true, plainKeys := false, apart := false }
def SnapshotDelaysSaid : Prop := snapshotDelaysRow.holds Tryz.pinned (OpenSpec.ofChange snapshotDelaysSpec)

/-- ITS FALSE NEIGHBOUR: 'it returns false'. Refute it at one input. -/
def snapshotDelaysWrong : ChangeSpec := { name := "snapshotDelays", fn := fun _ => fun
  | [d1, d2, d3, d4, d5] => { results := [.lit (.bool false)], args := [d1, d2, d3, d4, d5] }
  | _ => none }
def SnapshotDelaysWrongFalsely : Prop := snapshotDelaysRow.holds Tryz.pinned (OpenSpec.ofChange snapshotDelaysWrong)

/-- 'antecedelaw50.SnapshotSpoilt': WHATEVER THE INPUT: true; the input reads as it did. -/
def snapshotSpoiltSpec : ChangeSpec := { name := "snapshotSpoilt", fn := fun _ => fun
  | [d1, d2, d3, d4, d5] => { results := [.lit (.bool true)], args := [d1, d2, d3, d4, d5] }
  | _ => none }
def snapshotSpoiltRow : OpenClaim := { program := "ytfagfooggcinoaagreat", sum := "d138340f4cc021771360db04371a55079d1b7bbc59b0f5511408cae7f9d771be", func := "antecede/antecedelaw50.SnapshotSpoilt", spec := "snapshotSpoilt", unfollowed := true, recurses := true, plainKeys := false, apart := false }
def SnapshotSpoiltSaid : Prop := snapshotSpoiltRow.holds Tryz.pinned (OpenSpec.ofChange snapshotSpoiltSpec)

/-- ITS FALSE NEIGHBOUR: 'it returns false'. Refute it at one input. -/
def snapshotSpoiltWrong : ChangeSpec := { name := "snapshotSpoilt", fn := fun _ => fun
  | [d1, d2, d3, d4, d5] => { results := [.lit (.bool false)], args := [d1, d2, d3, d4, d5] }
  | _ => none }
def SnapshotSpoiltWrongFalsely : Prop := snapshotSpoiltRow.holds Tryz.pinned (OpenSpec.ofChange snapshotSpoiltWrong)

/-- 'antecedelaw50.SnapshotRed': WHATEVER THE INPUT: true; the input reads as it did. -/
def snapshotRedSpec : ChangeSpec := { name := "snapshotRed", fn := fun _ => fun
  | [d1, d2] => { results := [.lit (.bool true)], args := [d1, d2] }
  | _ => none }
def snapshotRedRow : OpenClaim := { program := "ytfagfooggcinoaagreat", sum := "d138340f4cc021771360db04371a55079d1b7bbc59b0f5511408cae7f9d771be", func := "antecede/antecedelaw50.SnapshotRed", spec := "snapshotRed", unfollowed := true, recurses := true, plainKeys := false, apart := false }
def SnapshotRedSaid : Prop := snapshotRedRow.holds Tryz.pinned (OpenSpec.ofChange snapshotRedSpec)

/-- ITS FALSE NEIGHBOUR: 'it returns false'. Refute it at one input. -/
def snapshotRedWrong : ChangeSpec := { name := "snapshotRed", fn := fun _ => fun
  | [d1, d2] => { results := [.lit (.bool false)], args := [d1, d2] }
  | _ => none }
def SnapshotRedWrongFalsely : Prop := snapshotRedRow.holds Tryz.pinned (OpenSpec.ofChange snapshotRedWrong)

/-- 'antecedelaw50.SnapshotChecks': WHATEVER THE INPUT: true; the input reads as it did. -/
def snapshotChecksSpec : ChangeSpec := { name := "snapshotChecks", fn := fun _ => fun
  | [d1, d2, d3, d4] => { results := [.lit (.bool true)], args := [d1, d2, d3, d4] }
  | _ => none }
def snapshotChecksRow : OpenClaim := { program := "ytfagfooggcinoaagreat", sum := "d138340f4cc021771360db04371a55079d1b7bbc59b0f5511408cae7f9d771be", func := "antecede/antecedelaw50.SnapshotChecks", spec := "snapshotChecks", unfollowed := true, recurses := true, plainKeys := false, apart := false }
def SnapshotChecksSaid : Prop := snapshotChecksRow.holds Tryz.pinned (OpenSpec.ofChange snapshotChecksSpec)

/-- ITS FALSE NEIGHBOUR: 'it returns false'. Refute it at one input. -/
def snapshotChecksWrong : ChangeSpec := { name := "snapshotChecks", fn := fun _ => fun
  | [d1, d2, d3, d4] => { results := [.lit (.bool false)], args := [d1, d2, d3, d4] }
  | _ => none }
def SnapshotChecksWrongFalsely : Prop := snapshotChecksRow.holds Tryz.pinned (OpenSpec.ofChange snapshotChecksWrong)

/-- 'antecedelaw50.SnapshotRecords': WHATEVER THE INPUT: true; the input reads as it did. -/
def snapshotRecordsSpec : ChangeSpec := { name := "snapshotRecords", fn := fun _ => fun
  | [d1, d2, d3, d4, d5] => { results := [.lit (.bool true)], args := [d1, d2, d3, d4, d5] }
  | _ => none }
def snapshotRecordsRow : OpenClaim := { program := "ytfagfooggcinoaagreat", sum := "d138340f4cc021771360db04371a55079d1b7bbc59b0f5511408cae7f9d771be", func := "antecede/antecedelaw50.SnapshotRecords", spec := "snapshotRecords", unfollowed := true, recurses := true, plainKeys := false, apart := false }
def SnapshotRecordsSaid : Prop := snapshotRecordsRow.holds Tryz.pinned (OpenSpec.ofChange snapshotRecordsSpec)

/-- ITS FALSE NEIGHBOUR: 'it returns false'. Refute it at one input. -/
def snapshotRecordsWrong : ChangeSpec := { name := "snapshotRecords", fn := fun _ => fun
  | [d1, d2, d3, d4, d5] => { results := [.lit (.bool false)], args := [d1, d2, d3, d4, d5] }
  | _ => none }
def SnapshotRecordsWrongFalsely : Prop := snapshotRecordsRow.holds Tryz.pinned (OpenSpec.ofChange snapshotRecordsWrong)

/- THE SECOND FORM. 'bulk': how many values and letters a reading holds, each counted each time it is reached (what is shared counts as often as it is met; a slice's spare places count too). A statement '..UptoSaid' is the law's where the arguments, and the package variables that the reading takes, are together of bulk at most 1048576: NARROWER than '..Said'. Prove '..Said' where nothing that the law and all that it calls make is longer than what came in: it says more and counts as full. Else prove '..UptoSaid'. A law counts once. -/
mutual
def uptoBulk {H : Type} : DataW H → Nat
  | .lit (.string bytes) => bytes.length + 1
  | .lit _ => 1
  | .nil => 1
  | .ptr d => uptoBulk d + 1
  | .slice elems spare => uptoBulkAll elems + uptoBulkAll spare + 1
  | .agg parts => uptoBulkAll parts + 1
  | .iface _ d => uptoBulk d + 1
  | .map entries => uptoBulkEntries entries + 1
  | .held _ => 1
def uptoBulkAll {H : Type} : List (DataW H) → Nat
  | [] => 0
  | d :: r => uptoBulk d + uptoBulkAll r
def uptoBulkEntries {H : Type} : List (Lit × DataW H) → Nat
  | [] => 0
  | x :: r => uptoBulkEntry x + uptoBulkEntries r
def uptoBulkEntry {H : Type} : Lit × DataW H → Nat
  | (.string bytes, d) => bytes.length + uptoBulk d + 1
  | (_, d) => uptoBulk d + 1
 end
def uptoSmall : (H : Type) → List (DataW H) → Bool := fun _ ds => decide (uptoBulkAll ds ≤ 1048576)
def OpenSpec.upto (s : _root_.Go.ChangeSpec) : _root_.Go.OpenSpec := { _root_.Go.OpenSpec.ofChange s with cond := some uptoSmall }

/-- 'antecedelaw50.SnapshotMarkers', WHERE WHAT IT READS IS OF BULK AT MOST 1048576: true; the input reads as it did. -/
def snapshotMarkersUptoRow : OpenClaim := { program := "ytfagfooggcinoaagreat", sum := "d138340f4cc021771360db04371a55079d1b7bbc59b0f5511408cae7f9d771be", func := "antecede/antecedelaw50.SnapshotMarkers", spec := "snapshotMarkers", unfollowed := true, recurses := true, plainKeys := false, apart := false, narrowed := true }
def SnapshotMarkersUptoSaid : Prop := snapshotMarkersUptoRow.holds Tryz.pinned (OpenSpec.upto snapshotMarkersSpec)

/-- 'antecedelaw50.SnapshotDelays', WHERE WHAT IT READS IS OF BULK AT MOST 1048576: true; the input reads as it did. -/
def snapshotDelaysUptoRow : OpenClaim := { program := "ytfagfooggcinoaagreat", sum := "d138340f4cc021771360db04371a55079d1b7bbc59b0f5511408cae7f9d771be", func := "antecede/antecedelaw50.SnapshotDelays", spec := "snapshotDelays", unfollowed := true, recurses := true, plainKeys := false, apart := false, narrowed := true }
def SnapshotDelaysUptoSaid : Prop := snapshotDelaysUptoRow.holds Tryz.pinned (OpenSpec.upto snapshotDelaysSpec)

/-- 'antecedelaw50.SnapshotSpoilt', WHERE WHAT IT READS IS OF BULK AT MOST 1048576: true; the input reads as it did. -/
def snapshotSpoiltUptoRow : OpenClaim := { program := "ytfagfooggcinoaagreat", sum := "d138340f4cc021771360db04371a55079d1b7bbc59b0f5511408cae7f9d771be", func := "antecede/antecedelaw50.SnapshotSpoilt", spec := "snapshotSpoilt", unfollowed := true, recurses := true, plainKeys := false, apart := false, narrowed := true }
def SnapshotSpoiltUptoSaid : Prop := snapshotSpoiltUptoRow.holds Tryz.pinned (OpenSpec.upto snapshotSpoiltSpec)

/-- 'antecedelaw50.SnapshotRed', WHERE WHAT IT READS IS OF BULK AT MOST 1048576: true; the input reads as it did. -/
def snapshotRedUptoRow : OpenClaim := { program := "ytfagfooggcinoaagreat", sum := "d138340f4cc021771360db04371a55079d1b7bbc59b0f5511408cae7f9d771be", func := "antecede/antecedelaw50.SnapshotRed", spec := "snapshotRed", unfollowed := true, recurses := true, plainKeys := false, apart := false, narrowed := true }
def SnapshotRedUptoSaid : Prop := snapshotRedUptoRow.holds Tryz.pinned (OpenSpec.upto snapshotRedSpec)

/-- 'antecedelaw50.SnapshotChecks', WHERE WHAT IT READS IS OF BULK AT MOST 1048576: true; the input reads as it did. -/
def snapshotChecksUptoRow : OpenClaim := { program := "ytfagfooggcinoaagreat", sum := "d138340f4cc021771360db04371a55079d1b7bbc59b0f5511408cae7f9d771be", func := "antecede/antecedelaw50.SnapshotChecks", spec := "snapshotChecks", unfollowed := true, recurses := true, plainKeys := false, apart := false, narrowed := true }
def SnapshotChecksUptoSaid : Prop := snapshotChecksUptoRow.holds Tryz.pinned (OpenSpec.upto snapshotChecksSpec)

/-- 'antecedelaw50.SnapshotRecords', WHERE WHAT IT READS IS OF BULK AT MOST 1048576: true; the input reads as it did. -/
def snapshotRecordsUptoRow : OpenClaim := { program := "ytfagfooggcinoaagreat", sum := "d138340f4cc021771360db04371a55079d1b7bbc59b0f5511408cae7f9d771be", func := "antecede/antecedelaw50.SnapshotRecords", spec := "snapshotRecords", unfollowed := true, recurses := true, plainKeys := false, apart := false, narrowed := true }
def SnapshotRecordsUptoSaid : Prop := snapshotRecordsUptoRow.holds Tryz.pinned (OpenSpec.upto snapshotRecordsSpec)

end Rows
end Go.Proofs.YtfagfooggcinoaaGreat
