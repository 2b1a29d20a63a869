/-
  From a reading of lists of lists of numbers to what the walks ask of it.
-/
import Derived.Test.YtfcpnggdpaeldaaRows
import Derived.Test.YtfcpnggdpaeldaaGa
import Derived.Test.YtfcpnggdpaeldaaProg
import Derived.BigQuiet
import Derived.Deep.QuietTactic
import Derived.Deep.LoopGhost
import Derived.Shelf.Abstract
import Derived.Test.YtfcpnggdpaeldaaGm
namespace Go.Proofs.Ytfcpnggdpaeldaa
open Go.RowKit
set_option linter.unusedVariables false
open Go.ChangeShapes Go.WideShapes

section
variable {H : Type} {enc : TypeId × Value → H} {w : World} {base : Nat} {spare : Nat → Bool} {held : Bool}
theorem gives_oneI : Gives enc Try.prog w base spare held 30 (fun w cs (l : List Int) => RInts w cs l) := by
  intro fuel cs x h
  obtain ⟨l, v, e, hv, _⟩ := gives_ints Try.underlying30 Try.underlying3 (by kernel_rfl) _ _ _ h
  exact ⟨l, v, e, hv⟩
theorem gives_rowsI : Gives enc Try.prog w base spare held 49 (fun w cs (l : List (List Int)) => ∃ v, cs = [v] ∧ Sl RInts 1 w v l ∧ l.length ≤ 9223372036854775807) :=
  gives_slice Try.underlying49 (show Try.prog.cellsOf 30 = 1 from by kernel_rfl) (by omega) gives_oneI
end

end Go.Proofs.Ytfcpnggdpaeldaa
