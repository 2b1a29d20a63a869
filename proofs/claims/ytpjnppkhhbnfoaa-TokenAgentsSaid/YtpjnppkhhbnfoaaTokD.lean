/-
  Whether all of a list of truths are true: the library's Contains, and the reference's loop.
-/
import Derived.Test.YtpjnppkhhbnfoaaBase
import Derived.Test.YtpjnppkhhbnfoaaProg
import Derived.BigQuiet
import Derived.Deep.QuietTactic
import Derived.Deep.LoopGhost
import Derived.Shelf.Abstract
import Derived.Test.YtpjnppkhhbnfoaaRq
import Derived.Test.YtpjnppkhhbnfoaaDrawn
namespace Go.Proofs.Ytpjnppkhhbnfoaa
open Go.RowKit
set_option linter.unusedVariables false

set_option maxHeartbeats 400000 in
theorem indexNo_calls (v : Value) (l : List Bool) (w : World) (hv : Sl RBool 1 w v l) (hn : l.length ≤ 1000000) :
    Calls Try.prog 39 #[v, .bool false] w fun e w' => e = .returned (.int .i64 (firstAt (fun y => !y) l)) ∧ w = w' := by
  have HV := Lib.hid hv
  obtain ⟨a, c, rfl, hlc⟩ := hv.shape
  clear hv
  generalize hln : l.length = n at *
  have HL := Lib.hid hln; clear hln
  go_enter Try.func39, Try.ntmps39
  go_wp2
  go_loopg [5, 8] n (fun m _ s8 wr => ∃ k : Nat, k ≤ n ∧ n - k ≤ m ∧ s8 = .int .i64 k ∧ wr = w ∧ Aside (∀ j, j < k → (fun y => !y) l[j]! = false))
  case atStart => exact ⟨0, Nat.zero_le _, by omega, rfl, rfl, (fun j hj => absurd hj (Nat.not_lt_zero _))⟩
  case round =>
    obtain ⟨k, hk, hm, rfl, rfl, A⟩ := hrel
    by_cases hlt : k < n
    · obtain ⟨b, off, c2, cv, hve, _, _, hcell, hcv⟩ := HV.out.at1 k (by rw [HL.out]; exact hlt)
      simp only [Value.slice.injEq] at hve
      obtain ⟨rfl, hnn, rfl⟩ := hve
      simp only [RBool, List.cons.injEq, and_true] at hcv
      subst hcv
      have hltz : (k : Int) < (n : Int) := by omega
      clear hnn
      generalize hy : l[k]! = y at hcell
      have B := Lib.hid hy
      clear hy
      cases y with
      | false =>
        go_wp2
        go_ret
        exact ⟨by rw [firstAt_hit (fun y => !y) l k (by rw [HL.out]; omega) (by rw [B.out]; rfl) A.out]; rfl, rfl⟩
      | true =>
        go_wp2
        go_roundg (n - (k + 1))
        case measure => omega
        case rel =>
          refine ⟨k + 1, by omega, by omega, by go_num, rfl, (show Aside _ from fun j hj => ?_)⟩
          by_cases e : j = k
          · subst e
            rw [B.out]; rfl
          · exact A.out j (by omega)
    · have hltz : ¬ (k : Int) < (n : Int) := by omega
      go_wp2
      go_ret
      exact ⟨by rw [firstAt_miss (fun y => !y) l (fun j hj => A.out j (by rw [HL.out] at hj; omega))]; rfl, rfl⟩

theorem enters_39 : ∀ args w, (callFunc 39 args).run Try.prog w = .ok (.enter 39 args) w := enters_of Try.func39 (by kernel_rfl) rfl

theorem any_not (l : List Bool) : l.any (fun y => !y) = !l.all id := by
  induction l with
  | nil => rfl
  | cons x l ih => cases x <;> simp_all

set_option maxHeartbeats 400000 in
theorem containsNo_calls (v : Value) (l : List Bool) (w : World) (hv : Sl RBool 1 w v l) (hn : l.length ≤ 1000000) :
    Calls Try.prog 32 #[v, .bool false] w fun e w' => e = .returned (.bool (!l.all id)) ∧ Drawn w w' := by
  have HI := Lib.hid (indexNo_calls v l w hv hn)
  obtain ⟨a, c, rfl, hlc⟩ := hv.shape
  clear hv
  rw [← any_not, ← firstAt_any]
  go_enter Try.func32, Try.ntmps32
  go_wp2_with (go_at_call 39; refine HI.out.mono ?_; rintro e w' ⟨rfl, rfl⟩)
  go_ret
  exact ⟨rfl, Drawn.rf _⟩

theorem all_range (l : List Bool) : l.all id = (List.range l.length).all fun i => l[i]! := by
  rw [Bool.eq_iff_iff, range_all, List.all_eq_true]
  constructor
  · intro h i hi; exact h _ (mem_at l i hi)
  · intro h x hx
    obtain ⟨i, hi, rfl⟩ := List.getElem_of_mem hx
    have := h i hi
    rwa [getElem!_pos l i hi] at this

set_option maxHeartbeats 400000 in
theorem goodR_calls (v : Value) (l : List Bool) (w : World) (hv : Sl RBool 1 w v l) (hn : l.length ≤ 1000000) :
    Calls Try.prog 33 #[v] w fun e w' => e = .returned (.bool (l.all id)) ∧ Drawn w w' := by
  have HB := Lib.hid (all_range l)
  generalize l.all id = r at *
  have HV := Lib.hid hv
  obtain ⟨a, c, rfl, hlc⟩ := hv.shape
  clear hv
  generalize hln : l.length = n at *
  have HL := Lib.hid hln; clear hln
  go_enter Try.func33, Try.ntmps33
  go_wp2
  go_loopg [3] n (fun m s3 wr => ∃ k : Nat, k ≤ n ∧ n - k ≤ m ∧ s3 = .int .i64 k ∧ wr = w ∧ Aside (∀ j, j < k → l[j]! = true))
  case atStart => exact ⟨0, Nat.zero_le _, by omega, rfl, rfl, (fun j hj => absurd hj (Nat.not_lt_zero _))⟩
  case round =>
    obtain ⟨k, hk, hm, rfl, rfl, A⟩ := hrel
    by_cases hlt : k < n
    · obtain ⟨b, off, c2, cv, hve, _, _, hcell, hcv⟩ := HV.out.at1 k (by rw [HL.out]; exact hlt)
      simp only [Value.slice.injEq] at hve
      obtain ⟨rfl, hnn, rfl⟩ := hve
      simp only [RBool, List.cons.injEq, and_true] at hcv
      subst hcv
      have hltz : (k : Int) < (n : Int) := by omega
      have hkz : (0 : Int) ≤ (k : Int) := by omega
      clear hnn
      generalize hy : l[k]! = y at hcell
      have B := Lib.hid hy
      clear hy
      cases y with
      | false =>
        go_wp2
        go_ret
        refine ⟨?_, Drawn.rf _⟩
        rw [HB.out, (List.all_eq_false.2 ⟨k, List.mem_range.2 hlt, by rw [B.out]; simp⟩ : (List.range n).all (fun i => l[i]!) = false)]
        rfl
      | true =>
        go_wp2
        go_roundg (n - (k + 1))
        case measure => omega
        case rel =>
          refine ⟨k + 1, by omega, by omega, by go_num, rfl, (show Aside _ from fun j hj => ?_)⟩
          by_cases e : j = k
          · subst e; exact B.out
          · exact A.out j (by omega)
    · have hltz : ¬ (k : Int) < (n : Int) := by omega
      go_wp2
      go_ret
      exact ⟨by rw [HB.out, (range_all _ _).2 (fun i hi => A.out i (by omega))]; rfl, Drawn.rf _⟩

end Go.Proofs.Ytpjnppkhhbnfoaa
