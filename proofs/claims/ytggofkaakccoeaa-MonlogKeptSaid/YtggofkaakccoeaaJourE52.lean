/-
  The walk of monlog.check.
-/
import Derived.Test.YtggofkaakccoeaaBase
import Derived.Test.YtggofkaakccoeaaProg
import Derived.BigQuiet
import Derived.Deep.QuietTactic
import Derived.Deep.LoopGhost
import Derived.Shelf.Abstract
import Derived.Test.YtggofkaakccoeaaJourC52
namespace Go.Proofs.Ytggofkaakccoeaa
open Go.RowKit
set_option linter.unusedVariables false

/-- Room for a record of n bytes behind the records of l. -/
def fullB (l : List Int) (n : Nat) : Bool := decide (16384 < n) || decide (163840 < wholeR (recordsL l) + n + 8)
def checkN (l : List Int) (d f : Int) (n : Nat) : Int := if validJ l.length d f then (if fullB l n then 5 else 0) else 1

set_option maxHeartbeats 4000000 in
set_option maxRecDepth 100000 in
theorem check_calls (a : Option Addr) (c : Nat) (l : List Int) (d f : Int) (b : Option Addr) (n m : Nat) (w : World) (hv : Bys w (.slice a l.length c) l) (hn : l.length ≤ 1000000) (hnn : n ≤ 1000000) :
    Calls Try.prog 38 #[.agg #[.slice a l.length c, .int .i64 d, .int .i64 f], .slice b n m] w fun e w' => e = .returned (.int .i64 (checkN l d f n)) ∧ Ext w w' := by
  have hW := whole_le' l hv.1
  have HV := Lib.hid hv
  have HN := Lib.hid hn
  generalize hT : wholeR (recordsL l) = T at hW
  have HT := Lib.hid hT
  generalize hln : l.length = q at *
  have HL := Lib.hid hln
  clear hv hT hln
  cases hval : validJ q d f with
  | false =>
    have HVAL := Lib.hid hval; clear hval
    go_enter Try.func38, Try.ntmps38
    go_wp2_with fail
    refine (valid_calls _ q _ _ _ _ (by omega)).mono ?_
    rw [HVAL.out]
    rintro e w1 ⟨rfl, hE1⟩
    have HE := Lib.hid (((Ext.rf w).al _).trans' hE1); clear hE1
    go_wp2
    go_ret
    exact ⟨by simp [checkN, HL.out, HVAL.out], HE.out⟩
  | true =>
    have HVAL := Lib.hid hval; clear hval
    by_cases h1 : 16384 < n
    · have d1 : decide (16384 < (n : Int)) = true := by simp; omega
      go_enter Try.func38, Try.ntmps38
      go_wp2_with fail
      refine (valid_calls _ q _ _ _ _ (by omega)).mono ?_
      rw [HVAL.out]
      rintro e w1 ⟨rfl, hE1⟩
      have HE := Lib.hid (((Ext.rf w).al _).trans' hE1); clear hE1
      go_wp2
      go_ret
      exact ⟨by simp [checkN, HL.out, HVAL.out, fullB, h1], HE.out⟩
    · have d1 : decide (16384 < (n : Int)) = false := by simp; omega
      by_cases h2 : 163840 < T + n + 8
      · have d2 : decide (163840 < (T : Int) + n + 8) = true := by simp; omega
        go_enter Try.func38, Try.ntmps38
        go_wp2_with fail
        refine (valid_calls _ q _ _ _ _ (by omega)).mono ?_
        rw [HVAL.out]
        rintro e w1 ⟨rfl, hE1⟩
        have HE := Lib.hid (((Ext.rf w).al _).trans' hE1)
        have hc0 := hE1.cl (cell_new w #[.slice a q c, .int .i64 d, .int .i64 f] 24 0 _ rfl)
        have hc1 := hE1.cl (cell_new w #[.slice a q c, .int .i64 d, .int .i64 f] 24 1 _ rfl)
        have hc2 := hE1.cl (cell_new w #[.slice a q c, .int .i64 d, .int .i64 f] 24 2 _ rfl)
        clear hE1
        have HC := Lib.hid (trimmed_calls a c l d f w1 (by rw [HL.out]; exact HV.out.ext HE.out) (by rw [HL.out]; omega))
        rw [HT.out, HL.out] at HC
        generalize min d (T : Int) = dm at HC
        have hfd : ∀ W : World, (Instr.field 24 (.agg #[.slice a T c, .int .i64 dm, .int .i64 f]) 0).run Try.prog W = .ok (.slice a T c) W := fun _ => by kernel_rfl
        go_wp2_with fail
        refine HC.out.mono ?_
        rintro e w2 ⟨rfl, hE2⟩
        have HE2 := Lib.hid (HE.out.trans' hE2); clear hE2
        go_wp2
        go_ret
        exact ⟨by simp [checkN, HL.out, HVAL.out, fullB, HT.out]; omega, HE2.out⟩
      · have d2 : decide (163840 < (T : Int) + n + 8) = false := by simp; omega
        go_enter Try.func38, Try.ntmps38
        go_wp2_with fail
        refine (valid_calls _ q _ _ _ _ (by omega)).mono ?_
        rw [HVAL.out]
        rintro e w1 ⟨rfl, hE1⟩
        have HE := Lib.hid (((Ext.rf w).al _).trans' hE1)
        have hc0 := hE1.cl (cell_new w #[.slice a q c, .int .i64 d, .int .i64 f] 24 0 _ rfl)
        have hc1 := hE1.cl (cell_new w #[.slice a q c, .int .i64 d, .int .i64 f] 24 1 _ rfl)
        have hc2 := hE1.cl (cell_new w #[.slice a q c, .int .i64 d, .int .i64 f] 24 2 _ rfl)
        clear hE1
        have HC := Lib.hid (trimmed_calls a c l d f w1 (by rw [HL.out]; exact HV.out.ext HE.out) (by rw [HL.out]; omega))
        rw [HT.out, HL.out] at HC
        generalize min d (T : Int) = dm at HC
        have hfd : ∀ W : World, (Instr.field 24 (.agg #[.slice a T c, .int .i64 dm, .int .i64 f]) 0).run Try.prog W = .ok (.slice a T c) W := fun _ => by kernel_rfl
        go_wp2_with fail
        refine HC.out.mono ?_
        rintro e w2 ⟨rfl, hE2⟩
        have HE2 := Lib.hid (HE.out.trans' hE2); clear hE2
        go_wp2
        go_ret
        exact ⟨by simp [checkN, HL.out, HVAL.out, fullB, HT.out]; omega, HE2.out⟩

end Go.Proofs.Ytggofkaakccoeaa
