/-
  The law CheckerForgets, where it ends early.
-/
import Derived.Test.YtdcahdcnoeomhaaBase
import Derived.Test.YtdcahdcnoeomhaaProg
import Derived.BigQuiet
import Derived.Deep.QuietTactic
import Derived.Deep.LoopGhost
import Derived.Shelf.Abstract
import Derived.Test.YtdcahdcnoeomhaaCkN
import Derived.Test.YtdcahdcnoeomhaaCkQ
namespace Go.Proofs.Ytdcahdcnoeomhaa
open Go.RowKit
set_option linter.unusedVariables false

set_option maxHeartbeats 4000000 in
set_option maxRecDepth 100000 in
theorem lawForg_out (uq ue uc v : Value) (s : Ck) (p : Int) (lv : List Int) (w : World) (h : CkAt w uq ue uc s) (hv : Ints w v lv) (ho : greatB s = true ∨ 20 < lv.length ∨ validC s = false) :
    Calls Try.prog 3 #[.agg #[uq, ue, .bool s.done, uc], .int .i64 p, v] w fun e w' => e = .returned (.bool true) ∧ Ext w w' := by
  have HS := Lib.hid h
  have HVI := Lib.hid hv
  obtain ⟨a, c, rfl, hlc⟩ := h.1.shape
  obtain ⟨ea, ec, rfl, hec⟩ := h.2.1.shape
  obtain ⟨ca, cc, hce, hcc, _⟩ := h.2.2
  subst hce
  obtain ⟨va, vc, rfl, hvc, _⟩ := hv
  clear h
  have hgr := fun W (hW : Ext w W) => great_calls (.slice a s.qs.length c) (.slice ea s.ended.length ec) (.slice ca s.cut.length cc) s W (HS.out.ext hW)
  cases hg : greatB s with
  | true =>
    rw [hg] at hgr
    clear ho hg
    generalize hd : s.done = d at *
    have HD := Lib.hid hd
    clear hd
    generalize hn : s.qs.length = n at *
    generalize hl : s.ended.length = l at *
    generalize hcl : s.cut.length = cl at *
    generalize hvl : lv.length = vl at *
    have HN := Lib.hid hn
    have HL := Lib.hid hl
    have HCL := Lib.hid hcl
    have HVL := Lib.hid hvl
    clear hn hl hcl hvl
    have HGR := Lib.hid hgr
    clear hgr
    go_enter Try.func3, Try.ntmps3
    go_wp2_with fail
    refine (awake_calls _).mono ?_
    rintro e w1 ⟨rfl, hE1⟩
    have HX1 := Lib.hid (hE1.hp (heap_alloc_new w (ckT (.slice a n c) (.slice ea l ec) (.bool d) (.slice ca cl cc))))
    have HE1 := Lib.hid (show Ext w w1 from Ext.trans' (by repeat (first | refine Ext.st ?_ (by first | exact Nat.le_refl _ | exact Nat.le_succ _ | assumption | omega) _ | refine Ext.al ?_ _ | refine Ext.dr ?_ | refine Ext.drN ?_ _ | exact Ext.rf _)) hE1)
    clear hE1
    have x0 := cellOf HX1.out 0
    have x1 := cellOf HX1.out 1
    have x2 := cellOf HX1.out 2
    have x3 := cellOf HX1.out 3
    simp only [List.getElem?_toArray, List.getElem?_cons_zero, List.getElem?_cons_succ] at x0 x1 x2 x3
    go_wp2_with fail
    refine (HGR.out _ HE1.out).mono ?_
    rintro e w2 ⟨rfl, hE2⟩
    have HX2 := Lib.hid (hE2.hp HX1.out)
    have HE2 := Lib.hid (HE1.out.trans' hE2)
    clear hE2 x0 x1 x2 x3
    have x0 := cellOf HX2.out 0
    have x1 := cellOf HX2.out 1
    have x2 := cellOf HX2.out 2
    have x3 := cellOf HX2.out 3
    simp only [List.getElem?_toArray, List.getElem?_cons_zero, List.getElem?_cons_succ] at x0 x1 x2 x3
    go_wp2
    go_ret
    exact ⟨rfl, HE2.out⟩
  | false =>
    rw [hg] at hgr
    by_cases h20 : 20 < lv.length
    · have b1 : decide (20 < (lv.length : Int)) = true := by simp; omega
      have b1n : decide (20 < lv.length) = true := by simp; omega
      clear ho hg
      generalize hd : s.done = d at *
      have HD := Lib.hid hd
      clear hd
      generalize hn : s.qs.length = n at *
      generalize hl : s.ended.length = l at *
      generalize hcl : s.cut.length = cl at *
      generalize hvl : lv.length = vl at *
      have HN := Lib.hid hn
      have HL := Lib.hid hl
      have HCL := Lib.hid hcl
      have HVL := Lib.hid hvl
      clear hn hl hcl hvl
      have HGR := Lib.hid hgr
      clear hgr
      go_enter Try.func3, Try.ntmps3
      go_wp2_with fail
      refine (awake_calls _).mono ?_
      rintro e w1 ⟨rfl, hE1⟩
      have HX1 := Lib.hid (hE1.hp (heap_alloc_new w (ckT (.slice a n c) (.slice ea l ec) (.bool d) (.slice ca cl cc))))
      have HE1 := Lib.hid (show Ext w w1 from Ext.trans' (by repeat (first | refine Ext.st ?_ (by first | exact Nat.le_refl _ | exact Nat.le_succ _ | assumption | omega) _ | refine Ext.al ?_ _ | refine Ext.dr ?_ | refine Ext.drN ?_ _ | exact Ext.rf _)) hE1)
      clear hE1
      have x0 := cellOf HX1.out 0
      have x1 := cellOf HX1.out 1
      have x2 := cellOf HX1.out 2
      have x3 := cellOf HX1.out 3
      simp only [List.getElem?_toArray, List.getElem?_cons_zero, List.getElem?_cons_succ] at x0 x1 x2 x3
      go_wp2_with fail
      refine (HGR.out _ HE1.out).mono ?_
      rintro e w2 ⟨rfl, hE2⟩
      have HX2 := Lib.hid (hE2.hp HX1.out)
      have HE2 := Lib.hid (HE1.out.trans' hE2)
      clear hE2 x0 x1 x2 x3
      have x0 := cellOf HX2.out 0
      have x1 := cellOf HX2.out 1
      have x2 := cellOf HX2.out 2
      have x3 := cellOf HX2.out 3
      simp only [List.getElem?_toArray, List.getElem?_cons_zero, List.getElem?_cons_succ] at x0 x1 x2 x3
      go_wp2
      go_ret
      exact ⟨rfl, HE2.out⟩
    · have b1 : decide (20 < (lv.length : Int)) = false := by simp; omega
      have b1n : decide (20 < lv.length) = false := by simp; omega
      have hval : validC s = false := by
        rcases ho with ho | ho | ho
        · rw [hg] at ho; exact absurd ho (by simp)
        · exact absurd ho h20
        · exact ho
      have hvr := fun W (hW : Ext w W) => validR_calls (.slice a s.qs.length c) (.slice ea s.ended.length ec) (.slice ca s.cut.length cc) s W (HS.out.ext hW) (great_small hg).1
      rw [hval] at hvr
      clear ho hg hval
      generalize hd : s.done = d at *
      have HD := Lib.hid hd
      clear hd
      generalize hn : s.qs.length = n at *
      generalize hl : s.ended.length = l at *
      generalize hcl : s.cut.length = cl at *
      generalize hvl : lv.length = vl at *
      have HN := Lib.hid hn
      have HL := Lib.hid hl
      have HCL := Lib.hid hcl
      have HVL := Lib.hid hvl
      clear hn hl hcl hvl
      have HGR := Lib.hid hgr
      clear hgr
      have HVR := Lib.hid hvr
      clear hvr
      go_enter Try.func3, Try.ntmps3
      go_wp2_with fail
      refine (awake_calls _).mono ?_
      rintro e w1 ⟨rfl, hE1⟩
      have HX1 := Lib.hid (hE1.hp (heap_alloc_new w (ckT (.slice a n c) (.slice ea l ec) (.bool d) (.slice ca cl cc))))
      have HE1 := Lib.hid (show Ext w w1 from Ext.trans' (by repeat (first | refine Ext.st ?_ (by first | exact Nat.le_refl _ | exact Nat.le_succ _ | assumption | omega) _ | refine Ext.al ?_ _ | refine Ext.dr ?_ | refine Ext.drN ?_ _ | exact Ext.rf _)) hE1)
      clear hE1
      have x0 := cellOf HX1.out 0
      have x1 := cellOf HX1.out 1
      have x2 := cellOf HX1.out 2
      have x3 := cellOf HX1.out 3
      simp only [List.getElem?_toArray, List.getElem?_cons_zero, List.getElem?_cons_succ] at x0 x1 x2 x3
      go_wp2_with fail
      refine (HGR.out _ HE1.out).mono ?_
      rintro e w2 ⟨rfl, hE2⟩
      have HX2 := Lib.hid (hE2.hp HX1.out)
      have HE2 := Lib.hid (HE1.out.trans' hE2)
      clear hE2 x0 x1 x2 x3
      have x0 := cellOf HX2.out 0
      have x1 := cellOf HX2.out 1
      have x2 := cellOf HX2.out 2
      have x3 := cellOf HX2.out 3
      simp only [List.getElem?_toArray, List.getElem?_cons_zero, List.getElem?_cons_succ] at x0 x1 x2 x3
      go_wp2_with fail
      refine (HVR.out _ HE2.out).mono ?_
      rintro e w3 ⟨rfl, hE3⟩
      have HE3 := Lib.hid (HE2.out.trans' hE3)
      clear hE3
      go_wp2
      go_ret
      exact ⟨rfl, HE3.out⟩

set_option maxHeartbeats 4000000 in
set_option maxRecDepth 100000 in
theorem lawForg_err (uq ue uc v : Value) (s : Ck) (p : Int) (lv : List Int) (w : World) (h : CkAt w uq ue uc s) (hv : Ints w v lv) (hg : greatB s = false) (h20 : ¬ 20 < lv.length) (hval : validC s = true) (E : Int) (hE : putErr s p lv = E) (hE0 : E ≠ 0) :
    Calls Try.prog 3 #[.agg #[uq, ue, .bool s.done, uc], .int .i64 p, v] w fun e w' => e = .returned (.bool true) ∧ Ext w w' := by
  have HS := Lib.hid h
  have HVI := Lib.hid hv
  obtain ⟨a, c, rfl, hlc⟩ := h.1.shape
  obtain ⟨ea, ec, rfl, hec⟩ := h.2.1.shape
  obtain ⟨ca, cc, hce, hcc, _⟩ := h.2.2
  subst hce
  obtain ⟨va, vc, rfl, hvc, _⟩ := hv
  clear h
  have hgr := fun W (hW : Ext w W) => great_calls (.slice a s.qs.length c) (.slice ea s.ended.length ec) (.slice ca s.cut.length cc) s W (HS.out.ext hW)
  rw [hg] at hgr
  have b1 : decide (20 < (lv.length : Int)) = false := by simp; omega
  have b1n : decide (20 < lv.length) = false := by simp; omega
  have b2 : (E != 0) = true := by simpa using hE0
  have hvr := fun W (hW : Ext w W) => validR_calls (.slice a s.qs.length c) (.slice ea s.ended.length ec) (.slice ca s.cut.length cc) s W (HS.out.ext hW) (great_small hg).1
  rw [hval] at hvr
  have hpb := fun W (hW : Ext w W) => putP_bad (.slice a s.qs.length c) (.slice ea s.ended.length ec) (.slice ca s.cut.length cc) (.slice va lv.length vc) s p lv W E (HS.out.ext hW) (great_small hg).1 (HVI.out.ext hW) (by omega) hE hE0
  clear hg hval hE hE0
  generalize hd : s.done = d at *
  have HD := Lib.hid hd
  clear hd
  generalize hn : s.qs.length = n at *
  generalize hl : s.ended.length = l at *
  generalize hcl : s.cut.length = cl at *
  generalize hvl : lv.length = vl at *
  have HN := Lib.hid hn
  have HL := Lib.hid hl
  have HCL := Lib.hid hcl
  have HVL := Lib.hid hvl
  clear hn hl hcl hvl
  have HGR := Lib.hid hgr
  clear hgr
  have HVR := Lib.hid hvr
  have HPB := Lib.hid hpb
  clear hvr hpb
  go_enter Try.func3, Try.ntmps3
  go_wp2_with fail
  refine (awake_calls _).mono ?_
  rintro e w1 ⟨rfl, hE1⟩
  have HX1 := Lib.hid (hE1.hp (heap_alloc_new w (ckT (.slice a n c) (.slice ea l ec) (.bool d) (.slice ca cl cc))))
  have HE1 := Lib.hid (show Ext w w1 from Ext.trans' (by repeat (first | refine Ext.st ?_ (by first | exact Nat.le_refl _ | exact Nat.le_succ _ | assumption | omega) _ | refine Ext.al ?_ _ | refine Ext.dr ?_ | refine Ext.drN ?_ _ | exact Ext.rf _)) hE1)
  clear hE1
  have x0 := cellOf HX1.out 0
  have x1 := cellOf HX1.out 1
  have x2 := cellOf HX1.out 2
  have x3 := cellOf HX1.out 3
  simp only [List.getElem?_toArray, List.getElem?_cons_zero, List.getElem?_cons_succ] at x0 x1 x2 x3
  go_wp2_with fail
  refine (HGR.out _ HE1.out).mono ?_
  rintro e w2 ⟨rfl, hE2⟩
  have HX2 := Lib.hid (hE2.hp HX1.out)
  have HE2 := Lib.hid (HE1.out.trans' hE2)
  clear hE2 x0 x1 x2 x3
  have x0 := cellOf HX2.out 0
  have x1 := cellOf HX2.out 1
  have x2 := cellOf HX2.out 2
  have x3 := cellOf HX2.out 3
  simp only [List.getElem?_toArray, List.getElem?_cons_zero, List.getElem?_cons_succ] at x0 x1 x2 x3
  go_wp2_with fail
  refine (HVR.out _ HE2.out).mono ?_
  rintro e w3 ⟨rfl, hE3⟩
  have HX3 := Lib.hid (hE3.hp HX2.out)
  have HE3 := Lib.hid (HE2.out.trans' hE3)
  clear hE3 x0 x1 x2 x3
  have x0 := cellOf HX3.out 0
  have x1 := cellOf HX3.out 1
  have x2 := cellOf HX3.out 2
  have x3 := cellOf HX3.out 3
  simp only [List.getElem?_toArray, List.getElem?_cons_zero, List.getElem?_cons_succ] at x0 x1 x2 x3
  go_wp2_with fail
  refine (HPB.out _ HE3.out).mono ?_
  rintro e w4 ⟨rfl, hE4⟩
  have HE4 := Lib.hid (HE3.out.trans' hE4)
  clear hE4 x0 x1 x2 x3
  go_wp2_with fail
  refine (same47_eq (.slice none 0 0) (.slice none 0 0) (.slice none 0 0) (.slice none 0 0) (.slice none 0 0) (.slice none 0 0) zeroC _ (zero_at _) (zero_at _) zero_small).mono ?_
  rintro e w5 ⟨rfl, hE5⟩
  have HE5 := Lib.hid (show Ext w w5 from Ext.trans' (by repeat (first | refine Ext.st ?_ (by first | exact Nat.le_refl _ | exact Nat.le_succ _ | assumption | omega) _ | refine Ext.al ?_ _ | refine Ext.dr ?_ | refine Ext.drN ?_ _ | exact HE4.out)) hE5)
  clear hE5
  go_wp2
  go_ret
  exact ⟨rfl, HE5.out⟩

end Go.Proofs.Ytdcahdcnoeomhaa
