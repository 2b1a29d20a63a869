/-
  What is put: items in range.
-/
import Derived.Test.YtggofkaakccoeaaBase
import Derived.Test.YtggofkaakccoeaaProg
import Derived.BigQuiet
import Derived.Deep.QuietTactic
import Derived.Deep.LoopGhost
import Derived.Shelf.Abstract
import Derived.Test.YtggofkaakccoeaaPut52
namespace Go.Proofs.Ytggofkaakccoeaa
open Go.RowKit
set_option linter.unusedVariables false

theorem enters_52 : ∀ args w, (callFunc 52 args).run Try.prog w = .ok (.enter 52 args) w := enters_of Try.func52 (by kernel_rfl) rfl

set_option maxHeartbeats 400000 in
theorem right1_calls (x : Int) (w : World) : Calls Try.prog 52 #[.int .i64 x] w fun e w' => e = .returned (.bool (outS x)) ∧ Ext w w' := by
  by_cases h1 : x < 0
  · have b1 : decide (x < 0) = true := by simpa using h1
    go_enter Try.func52, Try.ntmps52
    go_wp2
    go_ret
    exact ⟨by simp [outS, h1], Ext.rf _⟩
  · have b1 : decide (x < 0) = false := by simpa using h1
    go_enter Try.func52, Try.ntmps52
    go_wp2
    go_ret
    exact ⟨by simp [outS, b1], Ext.rf _⟩

def rightB (p : Int) (vs : List Int) : Bool := decide (0 ≤ p) && (decide (p < 8) && (decide (vs.length ≤ 8) && !vs.any outS))

set_option maxHeartbeats 4000000 in
set_option maxRecDepth 100000 in
theorem right_calls (p : Int) (u : Value) (vs : List Int) (w : World) (hvs : Ints w u vs) (hn : vs.length ≤ 9223372036854775807) :
    Calls Try.prog 28 #[.agg #[.int .i64 p, u]] w fun e w' => e = .returned (.bool (rightB p vs)) ∧ Ext w w' := by
  have HVS := Lib.hid hvs
  obtain ⟨va, vc, rfl, _, hvx⟩ := hvs
  clear hvx
  by_cases h1 : 0 ≤ p
  · have b1 : decide (0 ≤ p) = true := by simpa using h1
    by_cases h2 : p < 8
    · have b2 : decide (p < 8) = true := by simpa using h2
      by_cases h3 : vs.length ≤ 8
      · have b3 : decide ((vs.length : Int) ≤ 8) = true := by simp; omega
        have hr : rightB p vs = !vs.any outS := by simp [rightB, h1, h2, h3]
        rw [hr]
        generalize hany : vs.any outS = r
        have HANY := Lib.hid hany
        clear hany hr
        go_enter Try.func28, Try.ntmps28
        go_wp2_with fail
        refine (containsFunc_int 52 #[] enters_52 outS _ vs _ (HVS.out.ext (by repeat (first | refine Ext.st ?_ (by first | exact Nat.le_refl _ | exact Nat.le_succ _ | assumption | omega) _ | refine Ext.al ?_ _ | refine Ext.dr ?_ | refine Ext.drN ?_ _ | exact Ext.rf _))) (by omega) (fun x hx W hW => by simpa using right1_calls x W)).mono ?_
        rw [HANY.out]
        rintro e w2 ⟨rfl, hE2⟩
        have HE2 := Lib.hid (((Ext.rf w).al _).trans' hE2)
        clear hE2
        go_wp2
        go_ret
        exact ⟨rfl, HE2.out⟩
      · have b3 : decide ((vs.length : Int) ≤ 8) = false := by simp; omega
        go_enter Try.func28, Try.ntmps28
        go_wp2
        go_ret
        exact ⟨by simp [rightB, h1, h2, h3], (by repeat (first | refine Ext.st ?_ (by first | exact Nat.le_refl _ | exact Nat.le_succ _ | assumption | omega) _ | refine Ext.al ?_ _ | refine Ext.dr ?_ | refine Ext.drN ?_ _ | exact Ext.rf _))⟩
    · have b2 : decide (p < 8) = false := by simpa using h2
      go_enter Try.func28, Try.ntmps28
      go_wp2
      go_ret
      exact ⟨by unfold rightB; rw [b1, b2]; rfl, (by repeat (first | refine Ext.st ?_ (by first | exact Nat.le_refl _ | exact Nat.le_succ _ | assumption | omega) _ | refine Ext.al ?_ _ | refine Ext.dr ?_ | refine Ext.drN ?_ _ | exact Ext.rf _))⟩
  · have b1 : decide (0 ≤ p) = false := by simpa using h1
    go_enter Try.func28, Try.ntmps28
    go_wp2
    go_ret
    exact ⟨by unfold rightB; rw [b1]; rfl, (by repeat (first | refine Ext.st ?_ (by first | exact Nat.le_refl _ | exact Nat.le_succ _ | assumption | omega) _ | refine Ext.al ?_ _ | refine Ext.dr ?_ | refine Ext.drN ?_ _ | exact Ext.rf _))⟩

end Go.Proofs.Ytggofkaakccoeaa
