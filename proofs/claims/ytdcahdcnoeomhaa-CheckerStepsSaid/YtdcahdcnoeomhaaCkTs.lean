/-
  Result.
-/
import Derived.Test.YtdcahdcnoeomhaaBase
import Derived.Test.YtdcahdcnoeomhaaProg
import Derived.BigQuiet
import Derived.Deep.QuietTactic
import Derived.Deep.LoopGhost
import Derived.Shelf.Abstract
import Derived.Test.YtdcahdcnoeomhaaCkT
import Derived.Deep.RegionHeld3
namespace Go.Proofs.Ytdcahdcnoeomhaa
open Go.RowKit
set_option linter.unusedVariables false
attribute [local go_sem ↓] Go.wp_at_zero Go.wp_at_succ

/-- What Result hands back. -/
def ResOut (w w' : World) (e : Ending) (d : Bool) (l : List Int) : Prop := ∃ v, e = .returned (.tuple #[.bool d, v, .int .i64 0]) ∧ Ints w' v l ∧ Ext w w'

set_option maxHeartbeats 2000000 in
theorem resultP_bad (uq ue uc : Value) (s : Ck) (w : World) (h : CkAt w uq ue uc s) (hs : SmallC s) (hval : validC s = false) :
    Calls Try.prog 20 #[.agg #[uq, ue, .bool s.done, uc]] w fun e w' => e = .returned (.tuple #[.bool false, .slice none 0 0, .int .i64 1]) ∧ Ext w w' := by
  have hv := fun W (hW : Ext w W) => validP_calls uq ue uc s W (h.ext hW) hs
  rw [hval] at hv
  have HV := Lib.hid hv
  clear hv h hs hval
  go_enter Try.func20, Try.ntmps20
  go_wp2_with fail
  refine (HV.out _ (by repeat (first | refine Ext.st ?_ (by first | exact Nat.le_refl _ | exact Nat.le_succ _ | assumption | omega) _ | refine Ext.al ?_ _ | refine Ext.dr ?_ | refine Ext.drN ?_ _ | exact Ext.rf _))).mono ?_
  rintro e w1 ⟨rfl, hE1⟩
  have HE1 := Lib.hid (show Ext w w1 from Ext.trans' (by repeat (first | refine Ext.st ?_ (by first | exact Nat.le_refl _ | exact Nat.le_succ _ | assumption | omega) _ | refine Ext.al ?_ _ | refine Ext.dr ?_ | refine Ext.drN ?_ _ | exact Ext.rf _)) hE1)
  clear hE1
  go_wp2
  go_ret3
  exact ⟨rfl, HE1.out⟩

set_option maxHeartbeats 2000000 in
theorem resultP_ok (uq ue uc : Value) (s : Ck) (w : World) (h : CkAt w uq ue uc s) (hs : SmallC s) (hval : validC s = true) :
    Calls Try.prog 20 #[.agg #[uq, ue, .bool s.done, uc]] w fun e w' => ResOut w w' e s.done s.cut := by
  have hv := fun W (hW : Ext w W) => validP_calls uq ue uc s W (h.ext hW) hs
  rw [hval] at hv
  have HV := Lib.hid hv
  have hcl := fun W (hW : Ext w W) => clone_ints uc s.cut.length _ W ((h.2.2.ext hW).cells) (int_one _) hs.2.2.1
  have HCL := Lib.hid hcl
  obtain ⟨a, c, rfl, hlc⟩ := h.1.shape
  obtain ⟨ea, ec, rfl, hec⟩ := h.2.1.shape
  obtain ⟨ca, cc, hce, hcc, _⟩ := h.2.2
  subst hce
  have HX0 := Lib.hid (heap_alloc_new w (ckT (.slice a s.qs.length c) (.slice ea s.ended.length ec) (.bool s.done) (.slice ca s.cut.length cc)))
  clear hv h hs hval hcl
  generalize s.done = d at *
  generalize hn : s.qs.length = n at *
  generalize hl : s.ended.length = l at *
  generalize hcl : s.cut.length = cl at *
  have HCLN := Lib.hid hcl
  clear hn hl hcl
  go_enter Try.func20, Try.ntmps20
  go_wp2_with fail
  refine (HV.out _ (by repeat (first | refine Ext.st ?_ (by first | exact Nat.le_refl _ | exact Nat.le_succ _ | assumption | omega) _ | refine Ext.al ?_ _ | refine Ext.dr ?_ | refine Ext.drN ?_ _ | exact Ext.rf _))).mono ?_
  rintro e w1 ⟨rfl, hE1⟩
  have HE1 := Lib.hid (show Ext w w1 from Ext.trans' (by repeat (first | refine Ext.st ?_ (by first | exact Nat.le_refl _ | exact Nat.le_succ _ | assumption | omega) _ | refine Ext.al ?_ _ | refine Ext.dr ?_ | refine Ext.drN ?_ _ | exact Ext.rf _)) hE1)
  have HX1 := Lib.hid (hE1.hp HX0.out)
  clear hE1
  have x0 := cellOf HX1.out 0
  have x1 := cellOf HX1.out 1
  have x2 := cellOf HX1.out 2
  have x3 := cellOf HX1.out 3
  simp only [List.getElem?_toArray, List.getElem?_cons_zero, List.getElem?_cons_succ] at x0 x1 x2 x3
  go_wp2
  go_region_held3 (fun w' => w'.cell? ⟨w.heap.size, 2, none⟩ = some (.bool d) ∧ w'.cell? ⟨w.heap.size, 3, none⟩ = some (.slice ca cl cc)) (go_keep)
    (first
      | (go_at_call 35
         refine (HCL.out _ (by repeat (first | refine Ext.st ?_ (by first | exact Nat.le_refl _ | exact Nat.le_succ _ | assumption | omega) _ | refine Ext.al ?_ _ | refine Ext.dr ?_ | refine Ext.drN ?_ _ | exact HE1.out))).mono ?_
         rintro e w2 ⟨v2, rfl, hR2, hE2⟩
         have hX2 : Ext w1 w2 := Ext.trans' (by repeat (first | refine Ext.st ?_ (by first | exact Nat.le_refl _ | exact Nat.le_succ _ | assumption | omega) _ | refine Ext.al ?_ _ | refine Ext.dr ?_ | refine Ext.drN ?_ _ | exact Ext.rf _)) hE2
         have kx2 := hX2.cl x2
         have kx3 := hX2.cl x3
         have HE2 := Lib.hid (HE1.out.trans' hX2)
         have HI2 := Lib.hid hR2.ints
         clear hE2 hX2 hR2))
  go_wp2
  go_ret3
  exact ⟨v2, rfl, HI2.out, HE2.out⟩

end Go.Proofs.Ytdcahdcnoeomhaa
