/-
  The library's Contains on names of events, where the name is there.
-/
import Derived.Test.YtijncboddmjdcaaGa
import Derived.Test.YtijncboddmjdcaaProg
import Derived.BigQuiet
import Derived.Deep.QuietTactic
import Derived.Deep.LoopGhost
import Derived.Shelf.Abstract
import Derived.Test.YtijncboddmjdcaaEqE
namespace Go.Proofs.Ytijncboddmjdcaa
open Go.RowKit
set_option linter.unusedVariables false

set_option maxHeartbeats 4000000 in
set_option maxRecDepth 100000 in
theorem indexE_calls (u : Value) (l : List (Int × Int)) (x1 x2 : Int) (w : World) (hu : CellsAt w u 2 l.length (l.flatMap prC)) (hn : l.length ≤ 1000000) (hx : (x1, x2) ∈ l) :
    Calls Try.prog 67 #[u, .agg #[.int .i64 x1, .int .i64 x2]] w fun e w' => ∃ k : Nat, e = .returned (.int .i64 (k : Int)) ∧ Ext w w' := by
  obtain ⟨_, a1, c1, rfl, hlc1, hu⟩ := hu
  have HU := Lib.hid hu
  have HXM := Lib.hid hx
  generalize hln : l.length = n at *
  have HL := Lib.hid hln
  have HX0 := Lib.hid (heap_alloc_new w (.cells #[.int .i64 x1, .int .i64 x2] 44))
  have HE1 := Lib.hid ((Ext.rf w).al (.cells #[.int .i64 x1, .int .i64 x2] 44))
  clear hu hln hx
  go_enter Try.func67, Try.ntmps67
  go_wp2
  generalize hw2 : w.alloc (.cells #[.int .i64 x1, .int .i64 x2] 44) = w2 at *
  clear hw2
  go_loopg [8] n (fun g s wr => ∃ i : Nat, i ≤ n ∧ n - i ≤ g ∧ s = .int .i64 i ∧ Aside (∀ j, j < i → l[j]! ≠ (x1, x2)) ∧ Aside (Ext w2 wr))
  case atStart => exact ⟨0, Nat.zero_le _, by omega, rfl, (fun j hj => absurd hj (Nat.not_lt_zero _)), Ext.rf _⟩
  case round =>
    obtain ⟨i, hi, hg, rfl, A, HEK⟩ := hrel
    have HEW := Lib.hid (HE1.out.trans' HEK.out)
    have HY0 := Lib.hid (HEK.out.hp HX0.out)
    have b0 := cellOf HY0.out 0
    have b1 := cellOf HY0.out 1
    simp only [List.getElem?_toArray, List.getElem?_cons_zero, List.getElem?_cons_succ] at b0 b1
    by_cases hlt : i < n
    · have hltz : (i : Int) < (n : Int) := by omega
      have hiz : (0 : Int) ≤ (i : Int) := by omega
      obtain ⟨bb, oo, rfl, hb1, hc1⟩ := HU.out (by omega)
      have hp := prs_at l i (by rw [HL.out]; exact hlt)
      have d0 := HEW.out.cl ((hc1 (i * 2) (by omega)).trans hp.1)
      have d1 := HEW.out.cl ((hc1 (i * 2 + 1) (by omega)).trans hp.2)
      rw [← Nat.add_assoc] at d1
      generalize hy : l[i]! = y at *
      have HY := Lib.hid hy
      obtain ⟨y1, y2⟩ := y
      simp only at d0 d1
      clear hc1 hp hy
      obtain ⟨e1, he1⟩ : ∃ b, (x1 == y1) = b := ⟨_, rfl⟩
      obtain ⟨e2, he2⟩ : ∃ b, (x2 == y2) = b := ⟨_, rfl⟩
      have HEE : Hid ((e1 && e2) = true → l[i]! = (x1, x2)) := Lib.hid (fun h => by
        rw [HY.out]; rw [Bool.and_eq_true, ← he1, ← he2, beq_iff_eq, beq_iff_eq] at h; rw [h.1, h.2])
      have HNE : Hid ((e1 && e2) = false → l[i]! ≠ (x1, x2)) := Lib.hid (fun h e => by
        rw [HY.out] at e; cases e; rw [← he1, ← he2] at h; simp at h)
      cases e1 <;> cases e2
      case true.true =>
        go_wp2
        go_quiet (fail)
        go_wp2
        go_ret
        exact ⟨i, rfl, HEW.out.drN _⟩
      all_goals
        have HN := Lib.hid (HNE.out rfl)
        go_wp2
        go_quiet (fail)
        go_wp2
        go_roundg (n - (i + 1))
        case measure => omega
        case rel =>
          refine ⟨i + 1, by omega, by omega, by go_num, (show Aside _ from fun j hj => ?_), (show Ext _ _ from HEK.out.drN _)⟩
          by_cases e : j = i
          · subst e; exact HN.out
          · exact A.out j (by omega)
    · exfalso
      obtain ⟨j, hj, he⟩ := List.getElem_of_mem HXM.out
      refine A.out j (by rw [HL.out] at hj; omega) ?_
      rw [getElem!_pos l j hj]; exact he

set_option maxHeartbeats 1000000 in
theorem containsE_calls (u : Value) (l : List (Int × Int)) (x1 x2 : Int) (w : World) (hu : CellsAt w u 2 l.length (l.flatMap prC)) (hn : l.length ≤ 1000000) (hx : (x1, x2) ∈ l) :
    Calls Try.prog 45 #[u, .agg #[.int .i64 x1, .int .i64 x2]] w fun e w' => e = .returned (.bool true) ∧ Ext w w' := by
  have HI := Lib.hid (fun W (hW : Ext w W) => indexE_calls u l x1 x2 W (hu.ext hW) hn hx)
  obtain ⟨_, a1, c1, rfl, hlc1, _⟩ := hu
  generalize l.length = n at *
  clear hx
  have HX0 := Lib.hid (heap_alloc_new w (.cells #[.int .i64 x1, .int .i64 x2] 44))
  have HE1 := Lib.hid ((Ext.rf w).al (.cells #[.int .i64 x1, .int .i64 x2] 44))
  go_enter Try.func45, Try.ntmps45
  go_wp2_with fail
  refine (HI.out _ HE1.out).mono ?_
  rintro e w2 ⟨k, rfl, hX⟩
  have hk : (0 : Int) ≤ (k : Int) := by omega
  go_wp2
  go_ret
  exact ⟨rfl, HE1.out.trans' hX⟩

end Go.Proofs.Ytijncboddmjdcaa
