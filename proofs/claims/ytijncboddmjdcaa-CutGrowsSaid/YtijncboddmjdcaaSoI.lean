/-
  The library's IsSorted on numbers.
-/
import Derived.Test.YtijncboddmjdcaaGa
import Derived.Test.YtijncboddmjdcaaProg
import Derived.BigQuiet
import Derived.Deep.QuietTactic
import Derived.Deep.LoopGhost
import Derived.Shelf.Abstract
import Derived.Test.YtijncboddmjdcaaLawGarbL
namespace Go.Proofs.Ytijncboddmjdcaa
open Go.RowKit
set_option linter.unusedVariables false

set_option maxHeartbeats 400000 in
theorem isNaN_int (x : Int) (w : World) : Calls Try.prog 82 #[.int .i64 x] w fun e w' => e = .returned (.bool false) ∧ w = w' := by
  have h : (x != x) = false := by simp
  go_enter Try.func82, Try.ntmps82
  go_wp2
  go_ret
  exact ⟨rfl, rfl⟩

theorem enters_82 : ∀ args w, (callFunc 82 args).run Try.prog w = .ok (.enter 82 args) w := enters_of Try.func82 (by kernel_rfl) rfl

set_option maxHeartbeats 400000 in
theorem less_int (x y : Int) (w : World) : Calls Try.prog 65 #[.int .i64 x, .int .i64 y] w fun e w' => e = .returned (.bool (decide (x < y))) ∧ w' = w := by
  go_enter Try.func65, Try.ntmps65
  go_wp2_with (go_at_call 82; refine (isNaN_int _ _).mono ?_; rintro e w' ⟨rfl, rfl⟩)
  go_ret
  exact ⟨rfl, rfl⟩

theorem enters_65 : ∀ args w, (callFunc 65 args).run Try.prog w = .ok (.enter 65 args) w := enters_of Try.func65 (by kernel_rfl) rfl

set_option maxHeartbeats 400000 in
theorem isSorted_int (v : Value) (l : List Int) (w : World) (hv : Ints w v l) (hn : l.length ≤ 1000000) :
    Calls Try.prog 43 #[v] w fun e w' => e = .returned (.bool (upB l)) ∧ Ext w w' := by
  obtain ⟨a, c, rfl, hlc, hv⟩ := hv
  have HLC := Lib.hid hlc; clear hlc
  have HV := Lib.hid hv; clear hv
  generalize hln : l.length = n at hn
  have HL := Lib.hid hln; clear hln
  go_enter Try.func43, Try.ntmps43
  go_wp2
  go_loopg [3] n (fun g s3 wr => ∃ i : Int, -1 ≤ i ∧ i < (n : Int) ∧ i ≤ (g : Int) ∧ s3 = .int .i64 i ∧ Ext w wr ∧ Aside (∀ k : Nat, i ≤ (k : Int) → k + 1 < n → l[k]! ≤ l[k + 1]!))
  case atStart => exact ⟨(n : Int) - 1, by omega, by omega, by omega, rfl, Ext.rf _, (fun k h1 h2 => by omega)⟩
  case round =>
    obtain ⟨i, hi, hin, hg, rfl, he, A⟩ := hrel
    have HE := Lib.hid he; clear he
    by_cases hlt : 0 < i
    · obtain ⟨k, rfl⟩ : ∃ k : Nat, i = (k : Int) + 1 := ⟨(i - 1).toNat, by omega⟩
      obtain ⟨b, off, rfl, hb, hc⟩ := HV.out (by intro e; have := HL.out; simp [e] at this; omega)
      have hcell : wr.cell? ⟨b, off + k, none⟩ = some (.int .i64 l[k]!) := HE.out.cl (hc k (by rw [HL.out]; omega))
      have hcell2 : wr.cell? ⟨b, off + (k + 1), none⟩ = some (.int .i64 l[k + 1]!) := HE.out.cl (hc (k + 1) (by rw [HL.out]; omega))
      clear hc HV
      generalize hy : l[k]! = y at hcell
      generalize hz : l[k + 1]! = z at hcell2
      have B := Lib.hid hy
      have C := Lib.hid hz
      clear hy hz
      have e1 : ((k : Int) + 1).toNat = k + 1 := by omega
      have e2 : ((k : Int) + 1 - 1).toNat = k := by omega
      have e3 : (k : Int) + 1 - 1 = (k : Int) := by omega
      have hk1 : (0 : Int) ≤ (k : Int) + 1 := by omega
      have hk2 : (k : Int) + 1 < (n : Int) := by omega
      by_cases hq : z < y
      · have HQ := Lib.hid hq
        go_wp2
        go_quiet ((go_at_call 65; exact Calls.quiet_of_same (less_int _ _ _)))
        go_wp2
        go_ret
        exact ⟨by rw [upB_no l k (by rw [HL.out]; omega) (by rw [B.out, C.out]; exact HQ.out)]; rfl, HE.out.drN _⟩
      · have HQ := Lib.hid hq
        go_wp2
        go_quiet ((go_at_call 65; exact Calls.quiet_of_same (less_int _ _ _)))
        go_wp2
        go_roundg k
        case measure => omega
        case rel =>
          refine ⟨k, by omega, by omega, by omega, by go_num, HE.out.drN _, (show Aside _ from fun j h1 h2 => ?_)⟩
          by_cases e : j = k
          · subst e
            rw [B.out, C.out]; have := HQ.out; omega
          · exact A.out j (by omega) h2
    · go_wp2
      go_ret
      exact ⟨by rw [upB_yes l (fun k hk => A.out k (by omega) (by rw [HL.out] at hk; exact hk))]; rfl, HE.out⟩

end Go.Proofs.Ytijncboddmjdcaa
