/-
  Which tokens and agents are valid: the reference.
-/
import Derived.Test.YtpjnppkhhbnfoaaBase
import Derived.Test.YtpjnppkhhbnfoaaProg
import Derived.BigQuiet
import Derived.Deep.QuietTactic
import Derived.Deep.LoopGhost
import Derived.Shelf.Abstract
import Derived.Test.YtpjnppkhhbnfoaaTokE
namespace Go.Proofs.Ytpjnppkhhbnfoaa
open Go.RowKit
set_option linter.unusedVariables false

set_option maxHeartbeats 16000000 in
set_option maxRecDepth 100000 in
theorem validTR_calls (uc ug v : Value) (b : Ba) (l : List Ag) (w : World) (hc : Ints w uc b.cut) (hg : Sl RBool 1 w ug b.good) (hcl : b.cut.length ≤ 1000000) (hgl : b.good.length ≤ 1000000) (h : Sl RAgent 3 w v l) (hs : SmallT l) :
    Calls Try.prog 15 #[.agg #[.int .i64 b.at_, uc, ug, .int .i64 b.state], v] w fun e w' => e = .returned (.bool (validT b l)) ∧ Ext w w' := by
  have HAG := Lib.hid (fun W (hW : Ext w W) => agentsR_calls v l W (h.ext ragent_lasts hW) hs)
  have HST := Lib.hid (fun W (hW : Ext w W) => stampTR_calls uc b.cut l.length W (hc.ext hW) hcl)
  have HGD := Lib.hid (fun W (hW : Ext w W) => goodR_calls ug b.good W (hg.ext rbool_lasts hW) hgl)
  have HG := Lib.hid hg
  obtain ⟨a, c, rfl, hlc⟩ := h.shape
  obtain ⟨ga, gc, rfl, hgc⟩ := hg.shape
  obtain ⟨ca, cc, hce, hcc, _⟩ := hc
  subst hce
  have hn := hs.1
  clear h hs hg
  generalize hvb : validT b l = vb
  have HVB := Lib.hid hvb.symm
  have HY := Lib.hid (@validT_yes b l)
  have HE0 := Lib.hid (((Ext.rf w).al (.cells #[.int .i64 b.at_, .slice ca b.cut.length cc, .slice ga b.good.length gc, .int .i64 b.state] 25)))
  have HB0 := Lib.hid (heap_alloc_new w (.cells #[.int .i64 b.at_, .slice ca b.cut.length cc, .slice ga b.good.length gc, .int .i64 b.state] 25))
  clear hvb
  cases hab : agentsB l with
  | false =>
    have HAB := Lib.hid hab
    have HV := Lib.hid (validT_no1 (b := b) hab)
    clear hab
    go_enter Try.func15, Try.ntmps15
    go_wp2_with fail
    refine (HAG.out _ HE0.out).mono ?_
    rw [HAB.out]
    rintro e w1 ⟨rfl, hE1⟩
    have HEW := Lib.hid (HE0.out.trans' hE1)
    have HBX := Lib.hid (hE1.hp HB0.out)
    clear hE1
    have x0 := cellOf HBX.out 0
    have x1 := cellOf HBX.out 1
    have x2 := cellOf HBX.out 2
    have x3 := cellOf HBX.out 3
    simp only [List.getElem?_toArray, List.getElem?_cons_zero, List.getElem?_cons_succ] at x0 x1 x2 x3
    go_wp2
    go_ret
    exact ⟨by rw [HVB.out, HV.out]; rfl, (by repeat (first | refine Ext.st ?_ (by first | exact Nat.le_refl _ | exact Nat.le_succ _ | assumption | omega) _ | refine Ext.al ?_ _ | refine Ext.dr ?_ | refine Ext.drN ?_ _ | exact HEW.out))⟩
  | true =>
  have HAB := Lib.hid hab
  clear hab
  by_cases h2 : b.at_ < 0
  · have b2 : decide (b.at_ < 0) = true := by simpa using h2
    have HV := Lib.hid (validT_no2 (l := l) h2)
    clear h2
    go_enter Try.func15, Try.ntmps15
    go_wp2_with fail
    refine (HAG.out _ HE0.out).mono ?_
    rw [HAB.out]
    rintro e w1 ⟨rfl, hE1⟩
    have HEW := Lib.hid (HE0.out.trans' hE1)
    have HBX := Lib.hid (hE1.hp HB0.out)
    clear hE1
    have x0 := cellOf HBX.out 0
    have x1 := cellOf HBX.out 1
    have x2 := cellOf HBX.out 2
    have x3 := cellOf HBX.out 3
    simp only [List.getElem?_toArray, List.getElem?_cons_zero, List.getElem?_cons_succ] at x0 x1 x2 x3
    go_wp2
    go_ret
    exact ⟨by rw [HVB.out, HV.out]; rfl, (by repeat (first | refine Ext.st ?_ (by first | exact Nat.le_refl _ | exact Nat.le_succ _ | assumption | omega) _ | refine Ext.al ?_ _ | refine Ext.dr ?_ | refine Ext.drN ?_ _ | exact HEW.out))⟩
  have b2 : decide (b.at_ < 0) = false := by simpa using h2
  by_cases h3 : (l.length : Int) ≤ b.at_
  · have b3 : decide ((l.length : Int) ≤ b.at_) = true := by simpa using h3
    have HV := Lib.hid (validT_no3 (l := l) h3)
    clear h3
    go_enter Try.func15, Try.ntmps15
    go_wp2_with fail
    refine (HAG.out _ HE0.out).mono ?_
    rw [HAB.out]
    rintro e w1 ⟨rfl, hE1⟩
    have HEW := Lib.hid (HE0.out.trans' hE1)
    have HBX := Lib.hid (hE1.hp HB0.out)
    clear hE1
    have x0 := cellOf HBX.out 0
    have x1 := cellOf HBX.out 1
    have x2 := cellOf HBX.out 2
    have x3 := cellOf HBX.out 3
    simp only [List.getElem?_toArray, List.getElem?_cons_zero, List.getElem?_cons_succ] at x0 x1 x2 x3
    go_wp2
    go_ret
    exact ⟨by rw [HVB.out, HV.out]; rfl, (by repeat (first | refine Ext.st ?_ (by first | exact Nat.le_refl _ | exact Nat.le_succ _ | assumption | omega) _ | refine Ext.al ?_ _ | refine Ext.dr ?_ | refine Ext.drN ?_ _ | exact HEW.out))⟩
  have b3 : decide ((l.length : Int) ≤ b.at_) = false := by simpa using h3
  cases hsb : stampB b.cut l.length with
  | false =>
    have HSB := Lib.hid hsb
    have HV := Lib.hid (validT_no4 (l := l) hsb)
    clear hsb
    go_enter Try.func15, Try.ntmps15
    go_wp2_with fail
    refine (HAG.out _ HE0.out).mono ?_
    rw [HAB.out]
    rintro e w1 ⟨rfl, hE1⟩
    have HEW := Lib.hid (HE0.out.trans' hE1)
    have HBX := Lib.hid (hE1.hp HB0.out)
    clear hE1
    have x0 := cellOf HBX.out 0
    have x1 := cellOf HBX.out 1
    have x2 := cellOf HBX.out 2
    have x3 := cellOf HBX.out 3
    simp only [List.getElem?_toArray, List.getElem?_cons_zero, List.getElem?_cons_succ] at x0 x1 x2 x3
    go_wp2_with fail
    refine (HST.out _ HEW.out).mono ?_
    rw [HSB.out]
    rintro e w2 ⟨rfl, hD2⟩
    have HEW := Lib.hid (HEW.out.trans' hD2.ext)
    have HBX := Lib.hid (hD2.ext.hp HBX.out)
    clear hD2 x0 x1 x2 x3
    have x0 := cellOf HBX.out 0
    have x1 := cellOf HBX.out 1
    have x2 := cellOf HBX.out 2
    have x3 := cellOf HBX.out 3
    simp only [List.getElem?_toArray, List.getElem?_cons_zero, List.getElem?_cons_succ] at x0 x1 x2 x3
    go_wp2
    go_ret
    exact ⟨by rw [HVB.out, HV.out]; rfl, (by repeat (first | refine Ext.st ?_ (by first | exact Nat.le_refl _ | exact Nat.le_succ _ | assumption | omega) _ | refine Ext.al ?_ _ | refine Ext.dr ?_ | refine Ext.drN ?_ _ | exact HEW.out))⟩
  | true =>
  have HSB := Lib.hid hsb
  clear hsb
  by_cases h5 : b.good.length ≠ l.length
  · have b5 : ((b.good.length : Int) != (l.length : Int)) = true := by simp; omega
    have HV := Lib.hid (validT_no5 (l := l) h5)
    clear h5
    go_enter Try.func15, Try.ntmps15
    go_wp2_with fail
    refine (HAG.out _ HE0.out).mono ?_
    rw [HAB.out]
    rintro e w1 ⟨rfl, hE1⟩
    have HEW := Lib.hid (HE0.out.trans' hE1)
    have HBX := Lib.hid (hE1.hp HB0.out)
    clear hE1
    have x0 := cellOf HBX.out 0
    have x1 := cellOf HBX.out 1
    have x2 := cellOf HBX.out 2
    have x3 := cellOf HBX.out 3
    simp only [List.getElem?_toArray, List.getElem?_cons_zero, List.getElem?_cons_succ] at x0 x1 x2 x3
    go_wp2_with fail
    refine (HST.out _ HEW.out).mono ?_
    rw [HSB.out]
    rintro e w2 ⟨rfl, hD2⟩
    have HEW := Lib.hid (HEW.out.trans' hD2.ext)
    have HBX := Lib.hid (hD2.ext.hp HBX.out)
    clear hD2 x0 x1 x2 x3
    have x0 := cellOf HBX.out 0
    have x1 := cellOf HBX.out 1
    have x2 := cellOf HBX.out 2
    have x3 := cellOf HBX.out 3
    simp only [List.getElem?_toArray, List.getElem?_cons_zero, List.getElem?_cons_succ] at x0 x1 x2 x3
    go_wp2
    go_ret
    exact ⟨by rw [HVB.out, HV.out]; rfl, (by repeat (first | refine Ext.st ?_ (by first | exact Nat.le_refl _ | exact Nat.le_succ _ | assumption | omega) _ | refine Ext.al ?_ _ | refine Ext.dr ?_ | refine Ext.drN ?_ _ | exact HEW.out))⟩
  have hgl2 : b.good.length = l.length := by omega
  have b5 : ((b.good.length : Int) != (l.length : Int)) = false := by simp; omega
  by_cases h6 : b.state < 0
  · have b6 : decide (b.state < 0) = true := by simpa using h6
    have HV := Lib.hid (validT_no6 (l := l) h6)
    clear h6 h5 hgl2
    go_enter Try.func15, Try.ntmps15
    go_wp2_with fail
    refine (HAG.out _ HE0.out).mono ?_
    rw [HAB.out]
    rintro e w1 ⟨rfl, hE1⟩
    have HEW := Lib.hid (HE0.out.trans' hE1)
    have HBX := Lib.hid (hE1.hp HB0.out)
    clear hE1
    have x0 := cellOf HBX.out 0
    have x1 := cellOf HBX.out 1
    have x2 := cellOf HBX.out 2
    have x3 := cellOf HBX.out 3
    simp only [List.getElem?_toArray, List.getElem?_cons_zero, List.getElem?_cons_succ] at x0 x1 x2 x3
    go_wp2_with fail
    refine (HST.out _ HEW.out).mono ?_
    rw [HSB.out]
    rintro e w2 ⟨rfl, hD2⟩
    have HEW := Lib.hid (HEW.out.trans' hD2.ext)
    have HBX := Lib.hid (hD2.ext.hp HBX.out)
    clear hD2 x0 x1 x2 x3
    have x0 := cellOf HBX.out 0
    have x1 := cellOf HBX.out 1
    have x2 := cellOf HBX.out 2
    have x3 := cellOf HBX.out 3
    simp only [List.getElem?_toArray, List.getElem?_cons_zero, List.getElem?_cons_succ] at x0 x1 x2 x3
    go_wp2
    go_ret
    exact ⟨by rw [HVB.out, HV.out]; rfl, (by repeat (first | refine Ext.st ?_ (by first | exact Nat.le_refl _ | exact Nat.le_succ _ | assumption | omega) _ | refine Ext.al ?_ _ | refine Ext.dr ?_ | refine Ext.drN ?_ _ | exact HEW.out))⟩
  have b6 : decide (b.state < 0) = false := by simpa using h6
  by_cases h7 : 2 < b.state
  · have b7 : decide (2 < b.state) = true := by simpa using h7
    have HV := Lib.hid (validT_no7 (l := l) h7)
    clear h7 h5 hgl2
    go_enter Try.func15, Try.ntmps15
    go_wp2_with fail
    refine (HAG.out _ HE0.out).mono ?_
    rw [HAB.out]
    rintro e w1 ⟨rfl, hE1⟩
    have HEW := Lib.hid (HE0.out.trans' hE1)
    have HBX := Lib.hid (hE1.hp HB0.out)
    clear hE1
    have x0 := cellOf HBX.out 0
    have x1 := cellOf HBX.out 1
    have x2 := cellOf HBX.out 2
    have x3 := cellOf HBX.out 3
    simp only [List.getElem?_toArray, List.getElem?_cons_zero, List.getElem?_cons_succ] at x0 x1 x2 x3
    go_wp2_with fail
    refine (HST.out _ HEW.out).mono ?_
    rw [HSB.out]
    rintro e w2 ⟨rfl, hD2⟩
    have HEW := Lib.hid (HEW.out.trans' hD2.ext)
    have HBX := Lib.hid (hD2.ext.hp HBX.out)
    clear hD2 x0 x1 x2 x3
    have x0 := cellOf HBX.out 0
    have x1 := cellOf HBX.out 1
    have x2 := cellOf HBX.out 2
    have x3 := cellOf HBX.out 3
    simp only [List.getElem?_toArray, List.getElem?_cons_zero, List.getElem?_cons_succ] at x0 x1 x2 x3
    go_wp2
    go_ret
    exact ⟨by rw [HVB.out, HV.out]; rfl, (by repeat (first | refine Ext.st ?_ (by first | exact Nat.le_refl _ | exact Nat.le_succ _ | assumption | omega) _ | refine Ext.al ?_ _ | refine Ext.dr ?_ | refine Ext.drN ?_ _ | exact HEW.out))⟩
  have b7 : decide (2 < b.state) = false := by simpa using h7
  have hy := HY.out HAB.out (by omega) (by omega) HSB.out hgl2 (by omega) (by omega)
  obtain ⟨P, hP⟩ : ∃ P : Nat, b.at_ = P := ⟨b.at_.toNat, by omega⟩
  rw [hP, Int.toNat_natCast] at hy
  obtain ⟨B, off, c2, cv, hve, _, _, hcell, hcv⟩ := HG.out.at1 P (by omega)
  simp only [Value.slice.injEq] at hve
  obtain ⟨rfl, hnn, rfl⟩ := hve
  simp only [RBool, List.cons.injEq, and_true] at hcv
  subst hcv
  have hPn : (P : Int) < (b.good.length : Int) := by omega
  have hP0 : (0 : Int) ≤ (P : Int) := by omega
  have hs3 : b.state = 0 ∨ b.state = 1 ∨ b.state = 2 := by omega
  clear hnn HY HG h5 hgl2 hgc
  generalize b.good[P]! = y at *
  generalize b.good.all id = r at *
  generalize b.at_ = A at *
  subst hP
  generalize b.state = S at *
  generalize b.good.length = gl at *
  generalize b.cut.length = cl at *
  have HYES := Lib.hid hy
  have HCELL := Lib.hid hcell
  clear hy hcell
  rcases hs3 with rfl | rfl | rfl
  · cases r <;> cases y
    · skip
      go_enter Try.func15, Try.ntmps15
      go_wp2_with fail
      refine (HAG.out _ HE0.out).mono ?_
      rw [HAB.out]
      rintro e w1 ⟨rfl, hE1⟩
      have HEW := Lib.hid (HE0.out.trans' hE1)
      have HBX := Lib.hid (hE1.hp HB0.out)
      clear hE1
      have x0 := cellOf HBX.out 0
      have x1 := cellOf HBX.out 1
      have x2 := cellOf HBX.out 2
      have x3 := cellOf HBX.out 3
      simp only [List.getElem?_toArray, List.getElem?_cons_zero, List.getElem?_cons_succ] at x0 x1 x2 x3
      go_wp2_with fail
      refine (HST.out _ HEW.out).mono ?_
      rw [HSB.out]
      rintro e w2 ⟨rfl, hD2⟩
      have HEW := Lib.hid (HEW.out.trans' hD2.ext)
      have HBX := Lib.hid (hD2.ext.hp HBX.out)
      clear hD2 x0 x1 x2 x3
      have x0 := cellOf HBX.out 0
      have x1 := cellOf HBX.out 1
      have x2 := cellOf HBX.out 2
      have x3 := cellOf HBX.out 3
      simp only [List.getElem?_toArray, List.getElem?_cons_zero, List.getElem?_cons_succ] at x0 x1 x2 x3
      have hcw := HEW.out.cl HCELL.out
      go_wp2
      go_quiet ((go_at_call 33; exact drawn_quiet (HGD.out _ (HEW.out.drN _))))
      go_wp2
      go_ret
      refine ⟨?_, (by repeat (first | refine Ext.st ?_ (by first | exact Nat.le_refl _ | exact Nat.le_succ _ | assumption | omega) _ | refine Ext.al ?_ _ | refine Ext.dr ?_ | refine Ext.drN ?_ _ | exact HEW.out))⟩
      rw [HVB.out, HYES.out]
      rfl
    · skip
      go_enter Try.func15, Try.ntmps15
      go_wp2_with fail
      refine (HAG.out _ HE0.out).mono ?_
      rw [HAB.out]
      rintro e w1 ⟨rfl, hE1⟩
      have HEW := Lib.hid (HE0.out.trans' hE1)
      have HBX := Lib.hid (hE1.hp HB0.out)
      clear hE1
      have x0 := cellOf HBX.out 0
      have x1 := cellOf HBX.out 1
      have x2 := cellOf HBX.out 2
      have x3 := cellOf HBX.out 3
      simp only [List.getElem?_toArray, List.getElem?_cons_zero, List.getElem?_cons_succ] at x0 x1 x2 x3
      go_wp2_with fail
      refine (HST.out _ HEW.out).mono ?_
      rw [HSB.out]
      rintro e w2 ⟨rfl, hD2⟩
      have HEW := Lib.hid (HEW.out.trans' hD2.ext)
      have HBX := Lib.hid (hD2.ext.hp HBX.out)
      clear hD2 x0 x1 x2 x3
      have x0 := cellOf HBX.out 0
      have x1 := cellOf HBX.out 1
      have x2 := cellOf HBX.out 2
      have x3 := cellOf HBX.out 3
      simp only [List.getElem?_toArray, List.getElem?_cons_zero, List.getElem?_cons_succ] at x0 x1 x2 x3
      have hcw := HEW.out.cl HCELL.out
      go_wp2
      go_quiet ((go_at_call 33; exact drawn_quiet (HGD.out _ (HEW.out.drN _))))
      go_wp2
      go_ret
      refine ⟨?_, (by repeat (first | refine Ext.st ?_ (by first | exact Nat.le_refl _ | exact Nat.le_succ _ | assumption | omega) _ | refine Ext.al ?_ _ | refine Ext.dr ?_ | refine Ext.drN ?_ _ | exact HEW.out))⟩
      rw [HVB.out, HYES.out]
      rfl
    · skip
      go_enter Try.func15, Try.ntmps15
      go_wp2_with fail
      refine (HAG.out _ HE0.out).mono ?_
      rw [HAB.out]
      rintro e w1 ⟨rfl, hE1⟩
      have HEW := Lib.hid (HE0.out.trans' hE1)
      have HBX := Lib.hid (hE1.hp HB0.out)
      clear hE1
      have x0 := cellOf HBX.out 0
      have x1 := cellOf HBX.out 1
      have x2 := cellOf HBX.out 2
      have x3 := cellOf HBX.out 3
      simp only [List.getElem?_toArray, List.getElem?_cons_zero, List.getElem?_cons_succ] at x0 x1 x2 x3
      go_wp2_with fail
      refine (HST.out _ HEW.out).mono ?_
      rw [HSB.out]
      rintro e w2 ⟨rfl, hD2⟩
      have HEW := Lib.hid (HEW.out.trans' hD2.ext)
      have HBX := Lib.hid (hD2.ext.hp HBX.out)
      clear hD2 x0 x1 x2 x3
      have x0 := cellOf HBX.out 0
      have x1 := cellOf HBX.out 1
      have x2 := cellOf HBX.out 2
      have x3 := cellOf HBX.out 3
      simp only [List.getElem?_toArray, List.getElem?_cons_zero, List.getElem?_cons_succ] at x0 x1 x2 x3
      have hcw := HEW.out.cl HCELL.out
      go_wp2
      go_quiet ((go_at_call 33; exact drawn_quiet (HGD.out _ (HEW.out.drN _))))
      go_wp2
      go_ret
      refine ⟨?_, (by repeat (first | refine Ext.st ?_ (by first | exact Nat.le_refl _ | exact Nat.le_succ _ | assumption | omega) _ | refine Ext.al ?_ _ | refine Ext.dr ?_ | refine Ext.drN ?_ _ | exact HEW.out))⟩
      rw [HVB.out, HYES.out]
      rfl
    · skip
      go_enter Try.func15, Try.ntmps15
      go_wp2_with fail
      refine (HAG.out _ HE0.out).mono ?_
      rw [HAB.out]
      rintro e w1 ⟨rfl, hE1⟩
      have HEW := Lib.hid (HE0.out.trans' hE1)
      have HBX := Lib.hid (hE1.hp HB0.out)
      clear hE1
      have x0 := cellOf HBX.out 0
      have x1 := cellOf HBX.out 1
      have x2 := cellOf HBX.out 2
      have x3 := cellOf HBX.out 3
      simp only [List.getElem?_toArray, List.getElem?_cons_zero, List.getElem?_cons_succ] at x0 x1 x2 x3
      go_wp2_with fail
      refine (HST.out _ HEW.out).mono ?_
      rw [HSB.out]
      rintro e w2 ⟨rfl, hD2⟩
      have HEW := Lib.hid (HEW.out.trans' hD2.ext)
      have HBX := Lib.hid (hD2.ext.hp HBX.out)
      clear hD2 x0 x1 x2 x3
      have x0 := cellOf HBX.out 0
      have x1 := cellOf HBX.out 1
      have x2 := cellOf HBX.out 2
      have x3 := cellOf HBX.out 3
      simp only [List.getElem?_toArray, List.getElem?_cons_zero, List.getElem?_cons_succ] at x0 x1 x2 x3
      have hcw := HEW.out.cl HCELL.out
      go_wp2
      go_quiet ((go_at_call 33; exact drawn_quiet (HGD.out _ (HEW.out.drN _))))
      go_wp2
      go_ret
      refine ⟨?_, (by repeat (first | refine Ext.st ?_ (by first | exact Nat.le_refl _ | exact Nat.le_succ _ | assumption | omega) _ | refine Ext.al ?_ _ | refine Ext.dr ?_ | refine Ext.drN ?_ _ | exact HEW.out))⟩
      rw [HVB.out, HYES.out]
      rfl
  · cases r
    · skip
      go_enter Try.func15, Try.ntmps15
      go_wp2_with fail
      refine (HAG.out _ HE0.out).mono ?_
      rw [HAB.out]
      rintro e w1 ⟨rfl, hE1⟩
      have HEW := Lib.hid (HE0.out.trans' hE1)
      have HBX := Lib.hid (hE1.hp HB0.out)
      clear hE1
      have x0 := cellOf HBX.out 0
      have x1 := cellOf HBX.out 1
      have x2 := cellOf HBX.out 2
      have x3 := cellOf HBX.out 3
      simp only [List.getElem?_toArray, List.getElem?_cons_zero, List.getElem?_cons_succ] at x0 x1 x2 x3
      go_wp2_with fail
      refine (HST.out _ HEW.out).mono ?_
      rw [HSB.out]
      rintro e w2 ⟨rfl, hD2⟩
      have HEW := Lib.hid (HEW.out.trans' hD2.ext)
      have HBX := Lib.hid (hD2.ext.hp HBX.out)
      clear hD2 x0 x1 x2 x3
      have x0 := cellOf HBX.out 0
      have x1 := cellOf HBX.out 1
      have x2 := cellOf HBX.out 2
      have x3 := cellOf HBX.out 3
      simp only [List.getElem?_toArray, List.getElem?_cons_zero, List.getElem?_cons_succ] at x0 x1 x2 x3
      have hcw := HEW.out.cl HCELL.out
      go_wp2
      go_quiet ((go_at_call 33; exact drawn_quiet (HGD.out _ (HEW.out.drN _))))
      go_wp2
      go_ret
      refine ⟨?_, (by repeat (first | refine Ext.st ?_ (by first | exact Nat.le_refl _ | exact Nat.le_succ _ | assumption | omega) _ | refine Ext.al ?_ _ | refine Ext.dr ?_ | refine Ext.drN ?_ _ | exact HEW.out))⟩
      rw [HVB.out, HYES.out]
      rfl
    · skip
      go_enter Try.func15, Try.ntmps15
      go_wp2_with fail
      refine (HAG.out _ HE0.out).mono ?_
      rw [HAB.out]
      rintro e w1 ⟨rfl, hE1⟩
      have HEW := Lib.hid (HE0.out.trans' hE1)
      have HBX := Lib.hid (hE1.hp HB0.out)
      clear hE1
      have x0 := cellOf HBX.out 0
      have x1 := cellOf HBX.out 1
      have x2 := cellOf HBX.out 2
      have x3 := cellOf HBX.out 3
      simp only [List.getElem?_toArray, List.getElem?_cons_zero, List.getElem?_cons_succ] at x0 x1 x2 x3
      go_wp2_with fail
      refine (HST.out _ HEW.out).mono ?_
      rw [HSB.out]
      rintro e w2 ⟨rfl, hD2⟩
      have HEW := Lib.hid (HEW.out.trans' hD2.ext)
      have HBX := Lib.hid (hD2.ext.hp HBX.out)
      clear hD2 x0 x1 x2 x3
      have x0 := cellOf HBX.out 0
      have x1 := cellOf HBX.out 1
      have x2 := cellOf HBX.out 2
      have x3 := cellOf HBX.out 3
      simp only [List.getElem?_toArray, List.getElem?_cons_zero, List.getElem?_cons_succ] at x0 x1 x2 x3
      have hcw := HEW.out.cl HCELL.out
      go_wp2
      go_quiet ((go_at_call 33; exact drawn_quiet (HGD.out _ (HEW.out.drN _))))
      go_wp2
      go_ret
      refine ⟨?_, (by repeat (first | refine Ext.st ?_ (by first | exact Nat.le_refl _ | exact Nat.le_succ _ | assumption | omega) _ | refine Ext.al ?_ _ | refine Ext.dr ?_ | refine Ext.drN ?_ _ | exact HEW.out))⟩
      rw [HVB.out, HYES.out]
      rfl
  · cases r
    · skip
      go_enter Try.func15, Try.ntmps15
      go_wp2_with fail
      refine (HAG.out _ HE0.out).mono ?_
      rw [HAB.out]
      rintro e w1 ⟨rfl, hE1⟩
      have HEW := Lib.hid (HE0.out.trans' hE1)
      have HBX := Lib.hid (hE1.hp HB0.out)
      clear hE1
      have x0 := cellOf HBX.out 0
      have x1 := cellOf HBX.out 1
      have x2 := cellOf HBX.out 2
      have x3 := cellOf HBX.out 3
      simp only [List.getElem?_toArray, List.getElem?_cons_zero, List.getElem?_cons_succ] at x0 x1 x2 x3
      go_wp2_with fail
      refine (HST.out _ HEW.out).mono ?_
      rw [HSB.out]
      rintro e w2 ⟨rfl, hD2⟩
      have HEW := Lib.hid (HEW.out.trans' hD2.ext)
      have HBX := Lib.hid (hD2.ext.hp HBX.out)
      clear hD2 x0 x1 x2 x3
      have x0 := cellOf HBX.out 0
      have x1 := cellOf HBX.out 1
      have x2 := cellOf HBX.out 2
      have x3 := cellOf HBX.out 3
      simp only [List.getElem?_toArray, List.getElem?_cons_zero, List.getElem?_cons_succ] at x0 x1 x2 x3
      have hcw := HEW.out.cl HCELL.out
      go_wp2
      go_quiet ((go_at_call 33; exact drawn_quiet (HGD.out _ (HEW.out.drN _))))
      go_wp2
      go_ret
      refine ⟨?_, (by repeat (first | refine Ext.st ?_ (by first | exact Nat.le_refl _ | exact Nat.le_succ _ | assumption | omega) _ | refine Ext.al ?_ _ | refine Ext.dr ?_ | refine Ext.drN ?_ _ | exact HEW.out))⟩
      rw [HVB.out, HYES.out]
      rfl
    · skip
      go_enter Try.func15, Try.ntmps15
      go_wp2_with fail
      refine (HAG.out _ HE0.out).mono ?_
      rw [HAB.out]
      rintro e w1 ⟨rfl, hE1⟩
      have HEW := Lib.hid (HE0.out.trans' hE1)
      have HBX := Lib.hid (hE1.hp HB0.out)
      clear hE1
      have x0 := cellOf HBX.out 0
      have x1 := cellOf HBX.out 1
      have x2 := cellOf HBX.out 2
      have x3 := cellOf HBX.out 3
      simp only [List.getElem?_toArray, List.getElem?_cons_zero, List.getElem?_cons_succ] at x0 x1 x2 x3
      go_wp2_with fail
      refine (HST.out _ HEW.out).mono ?_
      rw [HSB.out]
      rintro e w2 ⟨rfl, hD2⟩
      have HEW := Lib.hid (HEW.out.trans' hD2.ext)
      have HBX := Lib.hid (hD2.ext.hp HBX.out)
      clear hD2 x0 x1 x2 x3
      have x0 := cellOf HBX.out 0
      have x1 := cellOf HBX.out 1
      have x2 := cellOf HBX.out 2
      have x3 := cellOf HBX.out 3
      simp only [List.getElem?_toArray, List.getElem?_cons_zero, List.getElem?_cons_succ] at x0 x1 x2 x3
      have hcw := HEW.out.cl HCELL.out
      go_wp2
      go_quiet ((go_at_call 33; exact drawn_quiet (HGD.out _ (HEW.out.drN _))))
      go_wp2
      go_ret
      refine ⟨?_, (by repeat (first | refine Ext.st ?_ (by first | exact Nat.le_refl _ | exact Nat.le_succ _ | assumption | omega) _ | refine Ext.al ?_ _ | refine Ext.dr ?_ | refine Ext.drN ?_ _ | exact HEW.out))⟩
      rw [HVB.out, HYES.out]
      rfl

end Go.Proofs.Ytpjnppkhhbnfoaa
