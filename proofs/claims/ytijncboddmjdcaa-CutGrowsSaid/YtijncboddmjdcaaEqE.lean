/-
  The library's Equal on equal lists of names of events.
-/
import Derived.Test.YtijncboddmjdcaaGa
import Derived.Test.YtijncboddmjdcaaProg
import Derived.BigQuiet
import Derived.Deep.QuietTactic
import Derived.Deep.LoopGhost
import Derived.Shelf.Abstract
import Derived.Test.YtijncboddmjdcaaGk
namespace Go.Proofs.Ytijncboddmjdcaa
open Go.RowKit
set_option linter.unusedVariables false

theorem prs_at : ∀ (L : List (Int × Int)) (j : Nat), j < L.length → (L.flatMap prC)[j * 2]? = some (.int .i64 L[j]!.1) ∧ (L.flatMap prC)[j * 2 + 1]? = some (.int .i64 L[j]!.2)
  | [], j, h => absurd h (Nat.not_lt_zero _)
  | x :: L, 0, _ => by simp [prC]
  | x :: L, j + 1, h => by
    have ih := prs_at L j (by simpa using h)
    rw [List.flatMap_cons, show (j + 1) * 2 = j * 2 + 1 + 1 from by omega]
    simp only [prC, List.cons_append, List.nil_append, List.getElem?_cons_succ, List.getElem!_cons_succ]
    exact ih

set_option maxHeartbeats 4000000 in
set_option maxRecDepth 100000 in
theorem equalE_calls (u v : Value) (l : List (Int × Int)) (w : World) (hu : CellsAt w u 2 l.length (l.flatMap prC)) (hv : CellsAt w v 2 l.length (l.flatMap prC)) (hn : l.length ≤ 1000000) :
    Calls Try.prog 28 #[u, v] w fun e w' => e = .returned (.bool true) ∧ Ext w w' := by
  obtain ⟨_, a1, c1, rfl, hlc1, hu⟩ := hu
  obtain ⟨_, a2, c2, rfl, hlc2, hv⟩ := hv
  have HU := Lib.hid hu
  have HV := Lib.hid hv
  generalize hln : l.length = n at *
  have HL := Lib.hid hln
  clear hu hv hln
  go_enter Try.func28, Try.ntmps28
  go_wp2
  go_loopg [13] n (fun g s wr => ∃ i : Nat, i ≤ n ∧ n - i ≤ g ∧ s = .int .i64 i ∧ Aside (Ext w wr))
  case atStart => exact ⟨0, Nat.zero_le _, by omega, rfl, Ext.rf _⟩
  case round =>
    obtain ⟨i, hi, hg, rfl, HEK⟩ := hrel
    by_cases hlt : i < n
    · have hltz : (i : Int) < (n : Int) := by omega
      have hiz : (0 : Int) ≤ (i : Int) := by omega
      obtain ⟨b1, o1, rfl, hb1, hc1⟩ := HU.out (by omega)
      obtain ⟨b2, o2, rfl, hb2, hc2⟩ := HV.out (by omega)
      have hp := prs_at l i (by rw [HL.out]; exact hlt)
      have d0 := HEK.out.cl ((hc1 (i * 2) (by omega)).trans hp.1)
      have d1 := HEK.out.cl ((hc1 (i * 2 + 1) (by omega)).trans hp.2)
      have e0 := HEK.out.cl ((hc2 (i * 2) (by omega)).trans hp.1)
      have e1 := HEK.out.cl ((hc2 (i * 2 + 1) (by omega)).trans hp.2)
      rw [← Nat.add_assoc] at d1 e1
      generalize l[i]! = y at *
      clear hc1 hc2 hp
      go_wp2
      go_quiet (fail)
      go_wp2
      go_roundg (n - (i + 1))
      case measure => omega
      case rel => exact ⟨i + 1, by omega, by omega, by go_num, (show Ext _ _ from HEK.out.drN _)⟩
    · have hltz : ¬ (i : Int) < (n : Int) := by omega
      obtain rfl : n = i := by omega
      go_wp2
      go_ret
      exact ⟨rfl, HEK.out⟩

end Go.Proofs.Ytijncboddmjdcaa
