/-
  The walks of the law's big, and of terminate.Check.
-/
import Derived.Test.YtodkcfebcjgahaaBase
import Derived.Test.YtodkcfebcjgahaaProg
import Derived.BigQuiet
import Derived.Deep.QuietTactic
import Derived.Deep.LoopGhost
import Derived.Shelf.Abstract
import Derived.Test.YtodkcfebcjgahaaValid
import Derived.Test.YtodkcfebcjgahaaSoC
import Derived.Test.YtodkcfebcjgahaaStuckL
namespace Go.Proofs.Ytodkcfebcjgahaa
open Go.RowKit
set_option linter.unusedVariables false

theorem enters_22 : ∀ args w, (callFunc 22 args).run Try.prog w = .ok (.enter 22 args) w := enters_of Try.func22 (by kernel_rfl) rfl
theorem enters_35 : ∀ args w, (callFunc 35 args).run Try.prog w = .ok (.enter 35 args) w := enters_of Try.func35 (by kernel_rfl) rfl

set_option maxHeartbeats 400000 in
theorem big1_calls (p q : Int) (fa : Option Addr) (F fc : Nat) (w : World) (hF : F ≤ 9223372036854775807) :
    Calls Try.prog 22 #[.agg #[.int .i64 p, .int .i64 q, .slice fa F fc]] w fun e w' => e = .returned (.bool (decide (40 < F))) ∧ Ext w w' := by
  have e : decide ((40 : Int) < (F : Int)) = decide (40 < F) := by rw [decide_eq_decide]; omega
  have HE := Lib.hid e; clear e
  rw [← HE.out]
  go_enter Try.func22, Try.ntmps22
  go_wp2
  go_ret
  exact ⟨rfl, (Ext.rf _).al _⟩

/-- What big says. -/
def bigB (l : List Wt) (n : Int) : Bool := decide (40 < l.length) || (decide (40 < n) && decide (n ≤ 512)) || l.any (fun x => decide (40 < x.fors.length))

def RWaitL (w : World) (vs : List Value) (x : Wt) : Prop := RWait w vs x ∧ x.fors.length ≤ 9223372036854775807
theorem rwaitL_lasts : Lasts RWaitL := fun _ _ _ _ ⟨h, hl⟩ e => ⟨rwait_lasts _ _ _ _ h e, hl⟩
theorem sl_waitL {w : World} {v : Value} {l : List Wt} (h : Sl RWaitL 3 w v l) : Sl RWait 3 w v l ∧ ∀ x, x ∈ l → x.fors.length ≤ 9223372036854775807 := by
  obtain ⟨a, c, rfl, hlc, h⟩ := h
  refine ⟨⟨a, c, rfl, hlc, fun hl => ?_⟩, fun x hx => ?_⟩
  · obtain ⟨b, off, rfl, hb, hc⟩ := h hl
    refine ⟨b, off, rfl, hb, fun i hi => ?_⟩
    obtain ⟨vs, h1, h2, h3⟩ := hc i hi
    exact ⟨vs, h1, h2.1, h3⟩
  · obtain ⟨i, hi, rfl⟩ := List.getElem_of_mem hx
    obtain ⟨b, off, rfl, hb, hc⟩ := h (by rintro rfl; simp at hi)
    obtain ⟨vs, h1, h2, h3⟩ := hc i hi
    rw [getElem!_pos l i hi] at h2
    exact h2.2

set_option maxHeartbeats 1000000 in
theorem big_calls (u : Value) (l : List Wt) (n : Int) (w : World) (hu : Sl RWaitL 3 w u l) (hn : l.length ≤ 9223372036854775807) :
    Calls Try.prog 6 #[u, .int .i64 n] w fun e w' => e = .returned (.bool (bigB l n)) ∧ Ext w w' := by
  have SL := Lib.hid hu
  obtain ⟨a, c, rfl, hlc, _⟩ := hu
  generalize hln : l.length = L at hn
  have HL := Lib.hid hln
  by_cases h1 : 40 < L
  · have hz : (40 : Int) < (L : Int) := by omega
    have HB := Lib.hid (show bigB l n = true from by unfold bigB; rw [HL.out]; simp [h1])
    clear hln SL
    rw [HB.out]
    go_enter Try.func6, Try.ntmps6
    go_wp2
    go_ret
    exact ⟨rfl, Ext.rf _⟩
  have hz : ¬ (40 : Int) < (L : Int) := by omega
  by_cases h2 : 40 < n ∧ n ≤ 512
  · obtain ⟨h2, h3⟩ := h2
    have HB := Lib.hid (show bigB l n = true from by unfold bigB; simp [h2, h3])
    clear hln SL
    rw [HB.out]
    go_enter Try.func6, Try.ntmps6
    go_wp2
    go_ret
    exact ⟨rfl, Ext.rf _⟩
  have HB := Lib.hid (show bigB l n = l.any (fun x => decide (40 < x.fors.length)) from by
    unfold bigB
    rw [HL.out, decide_eq_false h1]
    have : (decide (40 < n) && decide (n ≤ 512)) = false := by rw [Bool.and_eq_false_iff]; simp; omega
    rw [this]; simp)
  have CT := Lib.hid (containsFunc_wait RWaitL rwaitL_lasts 22 #[] enters_22 (fun x => decide (40 < x.fors.length)) _ l w SL.out (by rw [HL.out]; omega) (by
    rintro x _ W vs hW ⟨⟨fv, rfl, hfi⟩, hxl⟩
    obtain ⟨fa, fc, rfl, _, _⟩ := hfi
    exact big1_calls x.proc x.need fa x.fors.length fc W hxl))
  rw [HB.out]
  generalize l.any (fun x => decide (40 < x.fors.length)) = r at *
  rw [hln] at CT
  clear hln SL
  by_cases h3 : 40 < n
  · have h4 : ¬ n ≤ 512 := fun h => h2 ⟨h3, h⟩
    clear h2
    go_enter Try.func6, Try.ntmps6
    go_wp2_with fail
    refine (CT.out).mono ?_
    rintro e w1 ⟨rfl, he1⟩
    have HE := Lib.hid he1; clear he1
    go_wp2
    go_ret
    exact ⟨rfl, HE.out⟩
  · clear h2
    go_enter Try.func6, Try.ntmps6
    go_wp2_with fail
    refine (CT.out).mono ?_
    rintro e w1 ⟨rfl, he1⟩
    have HE := Lib.hid he1; clear he1
    go_wp2
    go_ret
    exact ⟨rfl, HE.out⟩

end Go.Proofs.Ytodkcfebcjgahaa
