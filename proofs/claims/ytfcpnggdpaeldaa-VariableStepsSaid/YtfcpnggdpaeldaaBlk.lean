/-
  A block of a function's code, taken out by its number. No program is named here.
-/
import Derived.Test.YtfcpnggdpaeldaaGa
namespace Go.Proofs.Ytfcpnggdpaeldaa
open Go.RowKit
set_option linter.unusedVariables false

/-- The body of the block with a number. -/
def blkOf (n : Nat) : Code → Option Code
  | .block id b => if id = n then some b else blkOf n b
  | .seq a b => (blkOf n a).or (blkOf n b)
  | .cond _ a b => (blkOf n a).or (blkOf n b)
  | .loop b => blkOf n b
  | .scope b => blkOf n b
  | _ => none

/-- The region with a number. -/
def regOf (n : Nat) : Code → Option Code
  | .region id ops d => if id = n then some (.region id ops d) else none
  | .block _ b => regOf n b
  | .seq a b => (regOf n a).or (regOf n b)
  | .cond _ a b => (regOf n a).or (regOf n b)
  | .loop b => regOf n b
  | .scope b => regOf n b
  | _ => none
/-- What ends in its text's last row alone. -/
def OnlyN (K : Act → World → Prop) : Exit → Act → World → Prop
  | .normal, a, w => K a w
  | _, _, _ => False

theorem wp_onlyN {P : Program} {c : Code} {K : Act → World → Prop} {Q : Exit → Act → World → Prop} {a : Act} {w : World} (h : c.wp P (OnlyN K) a w) (hq : ∀ a w, K a w → Q .normal a w) : c.wp P Q a w :=
  wp_mono h fun e a w he => by
    cases e with
    | normal => exact hq a w he
    | _ => exact he.elim

end Go.Proofs.Ytfcpnggdpaeldaa
