/-
  The checker without queues; a valid checker is small.
-/
import Derived.Test.YtggofkaakccoeaaBase
import Derived.Test.YtggofkaakccoeaaProg
import Derived.BigQuiet
import Derived.Deep.QuietTactic
import Derived.Deep.LoopGhost
import Derived.Shelf.Abstract
import Derived.Test.YtggofkaakccoeaaCkE
namespace Go.Proofs.Ytggofkaakccoeaa
open Go.RowKit
set_option linter.unusedVariables false

theorem valid_small {s : Ck} (h : validC s = true) : SmallC s := by
  obtain ⟨h1, _, _, h4⟩ := valid_parts.1 h
  obtain ⟨g1, g2, g3, g4⟩ := form_parts.1 h1
  have hc := cutB_len s.qs
  rw [h4] at hc
  refine ⟨by omega, by omega, by omega, fun p hp => ?_⟩
  obtain ⟨k1, k2⟩ := queue_parts.1 (g4 p hp)
  exact ⟨by omega, fun i hi => by have := stamp_len (k2 i hi).1; omega⟩

def zeroC : Ck := ⟨[], [], false, []⟩
theorem zero_at (w : World) : CkAt w (.slice none 0 0) (.slice none 0 0) (.slice none 0 0) zeroC :=
  ⟨⟨none, 0, rfl, Nat.le_refl _, fun h => absurd rfl h⟩, ⟨none, 0, rfl, Nat.le_refl _, fun h => absurd rfl h⟩, ⟨none, 0, rfl, Nat.le_refl _, fun h => absurd rfl h⟩⟩
theorem zero_small : SmallC zeroC := ⟨by decide, by decide, by decide, fun p hp => absurd hp (Nat.not_lt_zero _)⟩

end Go.Proofs.Ytggofkaakccoeaa
