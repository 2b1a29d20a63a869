import Derived.Test.YtfagfooggcinoaaGreatJa
import Derived.Test.YtfagfooggcinoaaGreatProg
import Derived.Test.YtfagfooggcinoaaGreatGk
import Derived.Test.YtfagfooggcinoaaGreatGd
import Derived.Test.YtfagfooggcinoaaGreatGb
import Derived.Test.YtfagfooggcinoaaGreatGl
import Derived.Test.YtfagfooggcinoaaGreatGj
import Derived.Test.YtfagfooggcinoaaGreatGe
import Derived.BigQuiet
import Derived.Deep.QuietTactic
import Derived.Deep.LoopGhost
import Derived.Shelf.Abstract
namespace Go.Proofs.YtfagfooggcinoaaGreat
open Go.RowKit
set_option linter.unusedVariables false
attribute [local go_sem ↓] Go.wp_at_zero Go.wp_at_succ
end Go.Proofs.YtfagfooggcinoaaGreat
namespace Go.Proofs.YtfagfooggcinoaaGreat
open Go.RowKit
set_option linter.unusedVariables false
noncomputable def lineE (t : Tr) (r : List (List Int)) (a : Int) (l : List Mk) : Int :=
 if (validT t && (validK l && decide (l.length = t.length))) = false then 1 else if runB t r = false then 3 else if (decide (0 ≤ a) && decide (a < (r.length : Int))) = false then 2 else if recordedB l = false then 6 else 0
noncomputable def lineB (t : Tr) (r : List (List Int)) (a : Int) (l : List Mk) : Bool :=
 if lineE t r a l = 0 then consB t (cntsL l) && leCB r[a.toNat]! (cntsL l) else false
end Go.Proofs.YtfagfooggcinoaaGreat
namespace Go.Proofs.YtfagfooggcinoaaGreat
open Go.RowKit
set_option linter.unusedVariables false
end Go.Proofs.YtfagfooggcinoaaGreat
namespace Go.Proofs.YtfagfooggcinoaaGreat
open Go.RowKit
set_option linter.unusedVariables false
def wide12 (x : List Int) : Bool := decide (12 < x.length)
def shortB (r : List (List Int)) : Bool := decide (r.length ≤ 80) && !(r.any wide12)
theorem shortB_ok {r : List (List Int)} (h : shortB r = true) : r.length ≤ 80 ∧ ∀ i, i < r.length → r[i]!.length ≤ 12 := by
 unfold shortB at h
 rw [Bool.and_eq_true, decide_eq_true_eq, Bool.not_eq_true'] at h
 refine ⟨h.1, fun i hi => ?_⟩
 have h3 := List.any_eq_false.1 h.2 r[i]! (by rw [getElem!_pos r i hi]; exact List.getElem_mem hi)
 unfold wide12 at h3
 rw [decide_eq_true_eq] at h3
 omega
theorem enters_42 : ∀ args w, (callFunc 42 args).run Tryz.prog w = .ok (.enter 42 args) w := enters_of Tryz.func42 (by kernel_rfl) rfl
set_option maxHeartbeats 1000000 in
theorem short1_calls (vs : List Value) (x : List Int) (w : World) (hv : RInts w vs x) : Calls Tryz.prog 42 #[encOne vs] w fun e w' => e = .returned (.bool (wide12 x)) ∧ Ext w w' := by
 obtain ⟨u, rfl, a, c, rfl, hz⟩ := hv
 clear hz
 obtain ⟨r, hr⟩ : ∃ r, decide (12 < (x.length : Int)) = r := ⟨_, rfl⟩
 have HR : Hid (wide12 x = r) := Lib.hid (by unfold wide12; rw [← hr]; simp; omega)
 rw [HR.out]
 show Calls Tryz.prog 42 #[.slice a x.length c] w _
 generalize x.length = n at *
 go_enter Tryz.func42, Tryz.ntmps42
 go_wp2
 go_ret
 exact ⟨rfl, Ext.rf _⟩
set_option maxHeartbeats 2000000 in
theorem short_calls (v : Value) (r : List (List Int)) (w : World) (h : Sl RInts 1 w v r) :
  Calls Tryz.prog 11 #[v] w fun e w' => e = .returned (.bool (shortB r)) ∧ Ext w w' := by
 have HC := Lib.hid (fun (hn : r.length ≤ 80) => containsFunc_rows RInts rints_lasts 42 #[] enters_42 wide12 v r w h (by omega) (fun x _ W vs _ hR => short1_calls vs x W hR))
 obtain ⟨va, vcap, rfl, hvc⟩ := h.shape
 have HBM : Hid (shortB r = (decide (r.length ≤ 80) && !(r.any wide12))) := Lib.hid rfl
 generalize shortB r = ans at *
 generalize r.any wide12 = ab at *
 generalize r.length = n at *
 clear h
 by_cases h1 : n ≤ 80
 ·have d1 : decide ((n : Int) ≤ 80) = true := decide_eq_true (by omega)
  have d1n : decide (n ≤ 80) = true := decide_eq_true h1
  have HA : Hid (ans = !ab) := Lib.hid (by rw [HBM.out, d1n]; rfl)
  have HC2 := Lib.hid (HC.out h1)
  clear h1 HC
  go_enter Tryz.func11, Tryz.ntmps11
  go_wp2_with fail
  refine HC2.out.mono ?_
  rintro e w2 ⟨rfl, hX⟩
  go_wp2
  go_ret
  exact ⟨by rw [HA.out]; rfl, hX⟩
 ·have d1 : decide ((n : Int) ≤ 80) = false := decide_eq_false (by omega)
  have d1n : decide (n ≤ 80) = false := decide_eq_false h1
  have HA : Hid (ans = false) := Lib.hid (by rw [HBM.out, d1n]; rfl)
  clear h1 HC
  go_enter Tryz.func11, Tryz.ntmps11
  go_wp2
  go_ret
  exact ⟨by rw [HA.out]; rfl, Ext.rf _⟩
end Go.Proofs.YtfagfooggcinoaaGreat
