import Derived.Test.YtfagfooggcinoaaGreatJa
import Derived.Test.YtfagfooggcinoaaGreatProg
import Derived.Test.YtfagfooggcinoaaGreatGk
import Derived.Test.YtfagfooggcinoaaGreatGe
import Derived.Test.YtfagfooggcinoaaGreatGd
import Derived.Test.YtfagfooggcinoaaGreatGb
import Derived.Test.YtfagfooggcinoaaGreatGl
import Derived.Test.YtfagfooggcinoaaGreatGa
import Derived.Test.YtfagfooggcinoaaGreatGh
import Derived.Test.YtfagfooggcinoaaGreatGg
import Derived.Test.YtfagfooggcinoaaGreatGi
import Derived.BigQuiet
import Derived.Deep.QuietTactic
import Derived.Deep.LoopGhost
import Derived.Shelf.Abstract
import Derived.RegionTactic
import Derived.Deep.RegionWith
import Derived.BigRegion
import Derived.Deep.DeepCutAuto
namespace Go.Proofs.YtfagfooggcinoaaGreat
open Go.RowKit
set_option linter.unusedVariables false
def bigR (x : List Int) : Bool := decide (220 < x.length)
def bigM (m : Mk) : Bool := decide (12 < m.closed.length) || (decide (12 < m.chan.length) || m.chan.any bigR)
def lightB (l : List Mk) : Bool := decide (l.length ≤ 12) && !(l.any bigM)
end Go.Proofs.YtfagfooggcinoaaGreat
namespace Go.Proofs.YtfagfooggcinoaaGreat
open Go.RowKit
set_option linter.unusedVariables false
attribute [local go_sem ↓] Go.wp_at_zero Go.wp_at_succ
end Go.Proofs.YtfagfooggcinoaaGreat
namespace Go.Proofs.YtfagfooggcinoaaGreat
open Go.RowKit
set_option linter.unusedVariables false
attribute [local go_sem ↓] Go.wp_at_zero Go.wp_at_succ
end Go.Proofs.YtfagfooggcinoaaGreat
namespace Go.Proofs.YtfagfooggcinoaaGreat
open Go.RowKit
set_option linter.unusedVariables false
attribute [local go_sem ↓] Go.wp_at_zero Go.wp_at_succ
end Go.Proofs.YtfagfooggcinoaaGreat
namespace Go.Proofs.YtfagfooggcinoaaGreat
open Go.RowKit
set_option linter.unusedVariables false
def ofMk (n : Nat) (c : Int) (F : Nat → List Int) (k f : Nat) : Mk := ⟨c, (List.range n).map (fun j => decide (j < f)), (List.range n).map fun j => if j < f ∧ j ≠ k then F j else []⟩
section
variable {n : Nat} {c : Int} {F : Nat → List Int} {k f : Nat}
end
def OfOut (t : Tr) (C : List Int) (w w' : World) (e : Ending) : Prop := ∃ u, e = .returned u ∧ Ext w w' ∧ Sl RMk 3 w' u (cutM t C)
end Go.Proofs.YtfagfooggcinoaaGreat
