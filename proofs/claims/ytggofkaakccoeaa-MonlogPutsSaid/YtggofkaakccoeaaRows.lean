/-
  No cell of these rows narrows 'for every input' (looked for: loops, veiled, ifaces, maps, wideKeys, modest, calm, conditions, laid).
  DERIVED. THE GIVEN ROWS OF THIS SEAT. 5 by the template 'for every input the law returns true; each argument reads behind the call as it read before'; 0 by the template 'total and deterministic' (their statements: YtggofkaakccoeaaTotals.lean).
  GIVEN WITH THE SEED: the statements are not yours to turn. If you find one false, say at which input.
  Laid BY PROGRAM, IN A SANDBOX (cutbox-rows.mjs): the forced cells as the released guide's own fill.sh prints them over the translation 3d659f179f57e516… (all of the seat's roots in one cut). By AI agents, Wed Nov 11 2026. No macro, syntax, notation, axiom, sorry.
-/
import Derived.Test.YtggofkaakccoeaaChecked
import GoSem.Claim
import GoSem.ClaimJoined
import GoSem.ClaimMapViews
import Derived.JoinedTies
import Derived.KernelRfl
namespace Go.Proofs.Ytggofkaakccoeaa
/- THE CELL 'sum', in the pinned program and in every row, IS THE sha256 OF THE DUMP (.gsa) THAT YtggofkaakccoeaaProg.lean LOADS. Nothing in Lean hashes anything: it is a label: what it is worth is what the hold of that sum in a sandbox is worth. -/
noncomputable def Try.pinned : Pinned := { name := "ytggofkaakccoeaa", sum := "3d659f179f57e516a2135d0a24dc24d798c66a27f0d9f8c8c573b9801d8bba0e", checked := Try.checked }
namespace Rows
def none {H : Type} : Left H := { results := [], args := [] }

/-- 'antecedelaw52.MonlogOpens': WHATEVER THE INPUT: true; the input reads as it did. -/
def monlogOpensSpec : ChangeSpec := { name := "monlogOpens", fn := fun _ => fun
  | [d1, d2, d3] => { results := [.lit (.bool true)], args := [d1, d2, d3] }
  | _ => none }
def monlogOpensRow : OpenClaim := { program := "ytggofkaakccoeaa", sum := "3d659f179f57e516a2135d0a24dc24d798c66a27f0d9f8c8c573b9801d8bba0e", func := "antecede/antecedelaw52.MonlogOpens", spec := "monlogOpens", apart := false }
def MonlogOpensSaid : Prop := monlogOpensRow.holds Try.pinned (OpenSpec.ofChange monlogOpensSpec)

/-- ITS FALSE NEIGHBOUR: 'it returns false'. Refute it at one input. -/
def monlogOpensWrong : ChangeSpec := { name := "monlogOpens", fn := fun _ => fun
  | [d1, d2, d3] => { results := [.lit (.bool false)], args := [d1, d2, d3] }
  | _ => none }
def MonlogOpensWrongFalsely : Prop := monlogOpensRow.holds Try.pinned (OpenSpec.ofChange monlogOpensWrong)

/-- 'antecedelaw52.MonlogTorn': WHATEVER THE INPUT: true; the input reads as it did. -/
def monlogTornSpec : ChangeSpec := { name := "monlogTorn", fn := fun _ => fun
  | [d1, d2, d3] => { results := [.lit (.bool true)], args := [d1, d2, d3] }
  | _ => none }
def monlogTornRow : OpenClaim := { program := "ytggofkaakccoeaa", sum := "3d659f179f57e516a2135d0a24dc24d798c66a27f0d9f8c8c573b9801d8bba0e", func := "antecede/antecedelaw52.MonlogTorn", spec := "monlogTorn", unfollowed := true, recurses := true, apart := false }
def MonlogTornSaid : Prop := monlogTornRow.holds Try.pinned (OpenSpec.ofChange monlogTornSpec)

/-- ITS FALSE NEIGHBOUR: 'it returns false'. Refute it at one input. -/
def monlogTornWrong : ChangeSpec := { name := "monlogTorn", fn := fun _ => fun
  | [d1, d2, d3] => { results := [.lit (.bool false)], args := [d1, d2, d3] }
  | _ => none }
def MonlogTornWrongFalsely : Prop := monlogTornRow.holds Try.pinned (OpenSpec.ofChange monlogTornWrong)

/-- 'antecedelaw52.MonlogAppends': WHATEVER THE INPUT: true; the input reads as it did. -/
def monlogAppendsSpec : ChangeSpec := { name := "monlogAppends", fn := fun _ => fun
  | [d1, d2] => { results := [.lit (.bool true)], args := [d1, d2] }
  | _ => none }
def monlogAppendsRow : OpenClaim := { program := "ytggofkaakccoeaa", sum := "3d659f179f57e516a2135d0a24dc24d798c66a27f0d9f8c8c573b9801d8bba0e", func := "antecede/antecedelaw52.MonlogAppends", spec := "monlogAppends", apart := false }
def MonlogAppendsSaid : Prop := monlogAppendsRow.holds Try.pinned (OpenSpec.ofChange monlogAppendsSpec)

/-- ITS FALSE NEIGHBOUR: 'it returns false'. Refute it at one input. -/
def monlogAppendsWrong : ChangeSpec := { name := "monlogAppends", fn := fun _ => fun
  | [d1, d2] => { results := [.lit (.bool false)], args := [d1, d2] }
  | _ => none }
def MonlogAppendsWrongFalsely : Prop := monlogAppendsRow.holds Try.pinned (OpenSpec.ofChange monlogAppendsWrong)

/-- 'antecedelaw52.MonlogKept': WHATEVER THE INPUT: true; the input reads as it did. -/
def monlogKeptSpec : ChangeSpec := { name := "monlogKept", fn := fun _ => fun
  | [d1, d2, d3] => { results := [.lit (.bool true)], args := [d1, d2, d3] }
  | _ => none }
def monlogKeptRow : OpenClaim := { program := "ytggofkaakccoeaa", sum := "3d659f179f57e516a2135d0a24dc24d798c66a27f0d9f8c8c573b9801d8bba0e", func := "antecede/antecedelaw52.MonlogKept", spec := "monlogKept", unfollowed := true, recurses := true, apart := false }
def MonlogKeptSaid : Prop := monlogKeptRow.holds Try.pinned (OpenSpec.ofChange monlogKeptSpec)

/-- ITS FALSE NEIGHBOUR: 'it returns false'. Refute it at one input. -/
def monlogKeptWrong : ChangeSpec := { name := "monlogKept", fn := fun _ => fun
  | [d1, d2, d3] => { results := [.lit (.bool false)], args := [d1, d2, d3] }
  | _ => none }
def MonlogKeptWrongFalsely : Prop := monlogKeptRow.holds Try.pinned (OpenSpec.ofChange monlogKeptWrong)

/-- 'antecedelaw52.MonlogPuts': WHATEVER THE INPUT: true; the input reads as it did. -/
def monlogPutsSpec : ChangeSpec := { name := "monlogPuts", fn := fun _ => fun
  | [d1, d2, d3, d4] => { results := [.lit (.bool true)], args := [d1, d2, d3, d4] }
  | _ => none }
def monlogPutsRow : OpenClaim := { program := "ytggofkaakccoeaa", sum := "3d659f179f57e516a2135d0a24dc24d798c66a27f0d9f8c8c573b9801d8bba0e", func := "antecede/antecedelaw52.MonlogPuts", spec := "monlogPuts", unfollowed := true, recurses := true, apart := false }
def MonlogPutsSaid : Prop := monlogPutsRow.holds Try.pinned (OpenSpec.ofChange monlogPutsSpec)

/-- ITS FALSE NEIGHBOUR: 'it returns false'. Refute it at one input. -/
def monlogPutsWrong : ChangeSpec := { name := "monlogPuts", fn := fun _ => fun
  | [d1, d2, d3, d4] => { results := [.lit (.bool false)], args := [d1, d2, d3, d4] }
  | _ => none }
def MonlogPutsWrongFalsely : Prop := monlogPutsRow.holds Try.pinned (OpenSpec.ofChange monlogPutsWrong)

/- THE SECOND FORM. 'bulk': how many values and letters a reading holds, each counted each time it is reached (what is shared counts as often as it is met; a slice's spare places count too). A statement '..UptoSaid' is the law's where the arguments, and the package variables that the reading takes, are together of bulk at most 1048576: NARROWER than '..Said'. Prove '..Said' where nothing that the law and all that it calls make is longer than what came in: it says more and counts as full. Else prove '..UptoSaid'. A law counts once. -/
mutual
def uptoBulk {H : Type} : DataW H → Nat
  | .lit (.string bytes) => bytes.length + 1
  | .lit _ => 1
  | .nil => 1
  | .ptr d => uptoBulk d + 1
  | .slice elems spare => uptoBulkAll elems + uptoBulkAll spare + 1
  | .agg parts => uptoBulkAll parts + 1
  | .iface _ d => uptoBulk d + 1
  | .map entries => uptoBulkEntries entries + 1
  | .held _ => 1
def uptoBulkAll {H : Type} : List (DataW H) → Nat
  | [] => 0
  | d :: r => uptoBulk d + uptoBulkAll r
def uptoBulkEntries {H : Type} : List (Lit × DataW H) → Nat
  | [] => 0
  | x :: r => uptoBulkEntry x + uptoBulkEntries r
def uptoBulkEntry {H : Type} : Lit × DataW H → Nat
  | (.string bytes, d) => bytes.length + uptoBulk d + 1
  | (_, d) => uptoBulk d + 1
 end
def uptoSmall : (H : Type) → List (DataW H) → Bool := fun _ ds => decide (uptoBulkAll ds ≤ 1048576)
def OpenSpec.upto (s : _root_.Go.ChangeSpec) : _root_.Go.OpenSpec := { _root_.Go.OpenSpec.ofChange s with cond := some uptoSmall }

/-- 'antecedelaw52.MonlogOpens', WHERE WHAT IT READS IS OF BULK AT MOST 1048576: true; the input reads as it did. -/
def monlogOpensUptoRow : OpenClaim := { program := "ytggofkaakccoeaa", sum := "3d659f179f57e516a2135d0a24dc24d798c66a27f0d9f8c8c573b9801d8bba0e", func := "antecede/antecedelaw52.MonlogOpens", spec := "monlogOpens", apart := false, narrowed := true }
def MonlogOpensUptoSaid : Prop := monlogOpensUptoRow.holds Try.pinned (OpenSpec.upto monlogOpensSpec)

/-- 'antecedelaw52.MonlogTorn', WHERE WHAT IT READS IS OF BULK AT MOST 1048576: true; the input reads as it did. -/
def monlogTornUptoRow : OpenClaim := { program := "ytggofkaakccoeaa", sum := "3d659f179f57e516a2135d0a24dc24d798c66a27f0d9f8c8c573b9801d8bba0e", func := "antecede/antecedelaw52.MonlogTorn", spec := "monlogTorn", unfollowed := true, recurses := true, apart := false, narrowed := true }
def MonlogTornUptoSaid : Prop := monlogTornUptoRow.holds Try.pinned (OpenSpec.upto monlogTornSpec)

/-- 'antecedelaw52.MonlogAppends', WHERE WHAT IT READS IS OF BULK AT MOST 1048576: true; the input reads as it did. -/
def monlogAppendsUptoRow : OpenClaim := { program := "ytggofkaakccoeaa", sum := "3d659f179f57e516a2135d0a24dc24d798c66a27f0d9f8c8c573b9801d8bba0e", func := "antecede/antecedelaw52.MonlogAppends", spec := "monlogAppends", apart := false, narrowed := true }
def MonlogAppendsUptoSaid : Prop := monlogAppendsUptoRow.holds Try.pinned (OpenSpec.upto monlogAppendsSpec)

/-- 'antecedelaw52.MonlogKept', WHERE WHAT IT READS IS OF BULK AT MOST 1048576: true; the input reads as it did. -/
def monlogKeptUptoRow : OpenClaim := { program := "ytggofkaakccoeaa", sum := "3d659f179f57e516a2135d0a24dc24d798c66a27f0d9f8c8c573b9801d8bba0e", func := "antecede/antecedelaw52.MonlogKept", spec := "monlogKept", unfollowed := true, recurses := true, apart := false, narrowed := true }
def MonlogKeptUptoSaid : Prop := monlogKeptUptoRow.holds Try.pinned (OpenSpec.upto monlogKeptSpec)

/-- 'antecedelaw52.MonlogPuts', WHERE WHAT IT READS IS OF BULK AT MOST 1048576: true; the input reads as it did. -/
def monlogPutsUptoRow : OpenClaim := { program := "ytggofkaakccoeaa", sum := "3d659f179f57e516a2135d0a24dc24d798c66a27f0d9f8c8c573b9801d8bba0e", func := "antecede/antecedelaw52.MonlogPuts", spec := "monlogPuts", unfollowed := true, recurses := true, apart := false, narrowed := true }
def MonlogPutsUptoSaid : Prop := monlogPutsUptoRow.holds Try.pinned (OpenSpec.upto monlogPutsSpec)

end Rows
end Go.Proofs.Ytggofkaakccoeaa
