/-
  The law MonlogAppends: its walk.
-/
import Derived.Test.YtggofkaakccoeaaBase
import Derived.Test.YtggofkaakccoeaaProg
import Derived.BigQuiet
import Derived.Deep.QuietTactic
import Derived.Deep.LoopGhost
import Derived.Shelf.Abstract
import Derived.Test.YtggofkaakccoeaaAppsL52
namespace Go.Proofs.Ytggofkaakccoeaa
open Go.RowKit
set_option linter.unusedVariables false


set_option maxHeartbeats 4000000 in
set_option maxRecDepth 100000 in
theorem appends_out (a : Option Addr) (q c : Nat) (d f : Int) (ba : Option Addr) (n m : Nat) (w : World) (hq : q ≤ 9223372036854775807) (hn : n ≤ 9223372036854775807) (h : fitsB q = false ∨ (fitsB q = true ∧ ((300 < n ∧ n ≤ 16384) ∨ 16484 < n))) :
    Calls Try.prog 5 #[.agg #[.slice a q c, .int .i64 d, .int .i64 f], .slice ba n m] w fun e w' => e = .returned (.bool true) ∧ Ext w w' := by
  rcases h with hfit | ⟨hfit, ⟨h1, h2⟩ | h3⟩
  · have HFIT := Lib.hid hfit; clear hfit
    go_enter Try.func5, Try.ntmps5
    go_wp2_with fail
    refine (awake_calls _).mono ?_
    rintro e w1 ⟨rfl, hE1⟩
    obtain ⟨hb1, he1, hz1⟩ := box_cells hE1
    have HX1 := Lib.hid hE1
    have HB1 := Lib.hid hb1
    have HE1 := Lib.hid he1
    clear hE1 hb1 he1
    have c0 := cell_of HB1.out 0
    have c1 := cell_of HB1.out 1
    have c2 := cell_of HB1.out 2
    simp only [List.getElem?_toArray, List.getElem?_cons_zero, List.getElem?_cons_succ] at c0 c1 c2
    go_wp2_with fail
    refine (fits_calls a q c _ _ _ (by omega)).mono ?_
    rw [HFIT.out]
    rintro e w2 ⟨rfl, hE2⟩
    have HE2 := Lib.hid (HE1.out.trans' hE2)
    clear hE2
    go_wp2
    go_ret
    exact ⟨by simp, HE2.out⟩
  · have HFIT := Lib.hid hfit; clear hfit
    have b1 : decide (300 < (n : Int)) = true := by simp; omega
    have b2 : decide ((n : Int) ≤ 16384) = true := by simp; omega
    go_enter Try.func5, Try.ntmps5
    go_wp2_with fail
    refine (awake_calls _).mono ?_
    rintro e w1 ⟨rfl, hE1⟩
    obtain ⟨hb1, he1, hz1⟩ := box_cells hE1
    have HX1 := Lib.hid hE1
    have HB1 := Lib.hid hb1
    have HE1 := Lib.hid he1
    clear hE1 hb1 he1
    have c0 := cell_of HB1.out 0
    have c1 := cell_of HB1.out 1
    have c2 := cell_of HB1.out 2
    simp only [List.getElem?_toArray, List.getElem?_cons_zero, List.getElem?_cons_succ] at c0 c1 c2
    go_wp2_with fail
    refine (fits_calls a q c _ _ _ (by omega)).mono ?_
    rw [HFIT.out]
    rintro e w2 ⟨rfl, hE2⟩
    have HE2 := Lib.hid (HE1.out.trans' hE2)
    clear hE2
    go_wp2
    go_ret
    exact ⟨by simp, HE2.out⟩
  · have HFIT := Lib.hid hfit; clear hfit
    have b1 : decide (300 < (n : Int)) = true := by simp; omega
    have b2 : decide ((n : Int) ≤ 16384) = false := by simp; omega
    have b3 : decide (16484 < (n : Int)) = true := by simp; omega
    go_enter Try.func5, Try.ntmps5
    go_wp2_with fail
    refine (awake_calls _).mono ?_
    rintro e w1 ⟨rfl, hE1⟩
    obtain ⟨hb1, he1, hz1⟩ := box_cells hE1
    have HX1 := Lib.hid hE1
    have HB1 := Lib.hid hb1
    have HE1 := Lib.hid he1
    clear hE1 hb1 he1
    have c0 := cell_of HB1.out 0
    have c1 := cell_of HB1.out 1
    have c2 := cell_of HB1.out 2
    simp only [List.getElem?_toArray, List.getElem?_cons_zero, List.getElem?_cons_succ] at c0 c1 c2
    go_wp2_with fail
    refine (fits_calls a q c _ _ _ (by omega)).mono ?_
    rw [HFIT.out]
    rintro e w2 ⟨rfl, hE2⟩
    have HE2 := Lib.hid (HE1.out.trans' hE2)
    clear hE2
    go_wp2
    go_ret
    exact ⟨by simp, HE2.out⟩

set_option maxHeartbeats 8000000 in
set_option maxRecDepth 100000 in
theorem appends_in (v : Value) (l : List Int) (d f : Int) (u : Value) (b : List Int) (w : World) (hv : Bys w v l) (hu : Bys w u b) (hq : l.length ≤ 9223372036854775807) (hfit : fitsB l.length = true) (hb : b.length ≤ 300 ∨ (16384 < b.length ∧ b.length ≤ 16484)) :
    Calls Try.prog 5 #[.agg #[v, .int .i64 d, .int .i64 f], u] w fun e w' => e = .returned (.bool true) ∧ Ext w w' := by
  have hq2 : l.length ≤ 163940 := by simp only [fitsB, decide_eq_true_eq] at hfit; omega
  have hn2 : b.length ≤ 16484 := by omega
  obtain ⟨L, D, A, E, hLb, hLl, hP, hR⟩ := append_both v l d f u b w hv (by omega) hu (by omega)
  obtain ⟨L2, D2, A2, E2, hLb2, hLl2, hP2, hR2⟩ := sync_both v l d f w hv (by omega)
  have HRB := Lib.hid (records_byte l.length l (Nat.le_refl _) hv.1)
  have hwl := wholeR_len (recordsL l)
  have hwl2 := whole_le' l hv.1
  have HRL := Lib.hid (show (recordsL l).length ≤ 1000000 from by omega)
  have HLB := Lib.hid hLb
  have HLL := Lib.hid hLl
  have HP := Lib.hid hP
  have HR := Lib.hid hR
  have HLB2 := Lib.hid hLb2
  have HLL2 := Lib.hid hLl2
  have HP2 := Lib.hid hP2
  have HR2 := Lib.hid hR2
  clear hLb hLl hP hR hLb2 hLl2 hP2 hR2 hwl hwl2
  have HV := Lib.hid hv
  obtain ⟨_, a, c, rfl, hlc, hvc⟩ := hv
  obtain ⟨_, ba, m, rfl, hlc2, hvc2⟩ := hu
  clear hvc hvc2
  have HFIT := Lib.hid hfit
  generalize hln : l.length = q at *
  have HQ := Lib.hid hln
  generalize hbn : b.length = n at *
  clear hfit hln hbn
  have hEE : (E != E) = false := by simp
  have hEE2 : (E2 != E2) = false := by simp
  have b3 : decide (16484 < (n : Int)) = false := by simp; omega
  have hg : (n ≤ 300 ∧ decide (300 < (n : Int)) = false) ∨ (decide (300 < (n : Int)) = true ∧ decide ((n : Int) ≤ 16384) = false) := by simp; omega
  rcases hg with ⟨h300, b1⟩ | ⟨b1, b2⟩
  · skip
    cases hval : validJ q d f with
    | false =>
      have HVAL := Lib.hid hval; clear hval
      go_enter Try.func5, Try.ntmps5
      go_wp2_with fail
      refine (awake_calls _).mono ?_
      rintro e w1 ⟨rfl, hE1⟩
      obtain ⟨hb1, he1, hz1⟩ := box_cells hE1
      have HX1 := Lib.hid hE1
      have HB1 := Lib.hid hb1
      have HE1 := Lib.hid he1
      clear hE1 hb1 he1
      have c0 := cell_of HB1.out 0
      have c1 := cell_of HB1.out 1
      have c2 := cell_of HB1.out 2
      simp only [List.getElem?_toArray, List.getElem?_cons_zero, List.getElem?_cons_succ] at c0 c1 c2
      go_wp2_with fail
      refine (fits_calls a q c _ _ _ (by omega)).mono ?_
      rw [HFIT.out]
      rintro e w2 ⟨rfl, hE2⟩
      obtain ⟨hb2, he2, hz2⟩ := box_cells (HX1.out.trans' hE2)
      have HX2 := Lib.hid (HX1.out.trans' hE2)
      have HB2 := Lib.hid hb2
      have HE2 := Lib.hid he2
      clear hb2 he2 c0 c1 c2
      have c0 := cell_of HB2.out 0
      have c1 := cell_of HB2.out 1
      have c2 := cell_of HB2.out 2
      simp only [List.getElem?_toArray, List.getElem?_cons_zero, List.getElem?_cons_succ] at c0 c1 c2
      clear hE2
      go_wp2_with fail
      refine (HP.out _ HE2.out).mono ?_
      rintro e w3 ⟨x3, rfl, hR3, hE3⟩
      obtain ⟨xa, xp, rfl, hxl, hsh⟩ := hR3.any
      have HX3b := Lib.hid (hR3.bys HLB.out)
      clear hsh hR3
      obtain ⟨hb3, he3, hz3⟩ := box_cells (HX2.out.trans' hE3)
      have HX3 := Lib.hid (HX2.out.trans' hE3)
      have HB3 := Lib.hid hb3
      have HE3 := Lib.hid he3
      clear hb3 he3 c0 c1 c2
      have c0 := cell_of HB3.out 0
      have c1 := cell_of HB3.out 1
      have c2 := cell_of HB3.out 2
      simp only [List.getElem?_toArray, List.getElem?_cons_zero, List.getElem?_cons_succ] at c0 c1 c2
      clear hE3
      go_wp2_with fail
      refine (HP2.out _ (HE3.out.al _)).mono ?_
      rintro e w4 ⟨y4, rfl, hR4, hE4⟩
      obtain ⟨ya, yp, rfl, hyl, hsh⟩ := hR4.any
      have HY4 := Lib.hid (hR4.bys HLB2.out)
      have HXB4 := Lib.hid (hE4.hp (heap_alloc_new w3 (.cells #[.slice xa L.length xp, .int .i64 D, .int .i64 A] 24)))
      have G34 := Lib.hid (show Ext w3 w4 from ((Ext.rf w3).al _).trans' hE4)
      clear hsh hR4
      obtain ⟨hb4, he4, hz4⟩ := box_cells (HX3.out.trans' ((((Ext.rf w3).al _)).trans' hE4))
      have HX4 := Lib.hid (HX3.out.trans' ((((Ext.rf w3).al _)).trans' hE4))
      have HB4 := Lib.hid hb4
      have HE4 := Lib.hid he4
      clear hb4 he4 c0 c1 c2
      have c0 := cell_of HB4.out 0
      have c1 := cell_of HB4.out 1
      have c2 := cell_of HB4.out 2
      simp only [List.getElem?_toArray, List.getElem?_cons_zero, List.getElem?_cons_succ] at c0 c1 c2
      clear hE4
      go_wp2_with fail
      refine (jread_bad a q c d f _ (by omega) HVAL.out).mono ?_
      rintro e w5 ⟨rfl, hE5⟩
      have HYB5 := Lib.hid (hE5.hp (heap_alloc_new w4 (.cells #[.slice ya L2.length yp, .int .i64 D2, .int .i64 A2] 24)))
      have G45 := Lib.hid (show Ext w4 w5 from ((Ext.rf w4).al _).trans' hE5)
      obtain ⟨hb5, he5, hz5⟩ := box_cells (HX4.out.trans' ((((Ext.rf w4).al _)).trans' hE5))
      have HX5 := Lib.hid (HX4.out.trans' ((((Ext.rf w4).al _)).trans' hE5))
      have HB5 := Lib.hid hb5
      have HE5 := Lib.hid he5
      clear hb5 he5 c0 c1 c2
      have c0 := cell_of HB5.out 0
      have c1 := cell_of HB5.out 1
      have c2 := cell_of HB5.out 2
      simp only [List.getElem?_toArray, List.getElem?_cons_zero, List.getElem?_cons_succ] at c0 c1 c2
      clear hE5
      go_wp2_with fail
      refine (HR.out _ HE5.out).mono ?_
      rintro e w6 ⟨p6, rfl, hR6, hE6⟩
      obtain ⟨pa, pp, rfl, hpl, hsh⟩ := hR6.any
      have HP6 := Lib.hid (hR6.bys HLB.out)
      have G56 := Lib.hid hE6
      clear hsh hR6
      obtain ⟨hb6, he6, hz6⟩ := box_cells (HX5.out.trans' hE6)
      have HX6 := Lib.hid (HX5.out.trans' hE6)
      have HB6 := Lib.hid hb6
      have HE6 := Lib.hid he6
      clear hb6 he6 c0 c1 c2
      have c0 := cell_of HB6.out 0
      have c1 := cell_of HB6.out 1
      have c2 := cell_of HB6.out 2
      simp only [List.getElem?_toArray, List.getElem?_cons_zero, List.getElem?_cons_succ] at c0 c1 c2
      clear hE6
      go_wp2_with fail
      refine (HR2.out _ (HE6.out.al _)).mono ?_
      rintro e w7 ⟨q7, rfl, hR7, hE7⟩
      obtain ⟨qa, qp, rfl, hql, hsh⟩ := hR7.any
      have HQ7 := Lib.hid (hR7.bys HLB2.out)
      have HPB7 := Lib.hid (hE7.hp (heap_alloc_new w6 (.cells #[.slice pa L.length pp, .int .i64 D, .int .i64 A] 24)))
      have G67 := Lib.hid (show Ext w6 w7 from ((Ext.rf w6).al _).trans' hE7)
      clear hsh hR7
      obtain ⟨hb7, he7, hz7⟩ := box_cells (HX6.out.trans' ((((Ext.rf w6).al _)).trans' hE7))
      have HX7 := Lib.hid (HX6.out.trans' ((((Ext.rf w6).al _)).trans' hE7))
      have HB7 := Lib.hid hb7
      have HE7 := Lib.hid he7
      clear hb7 he7 c0 c1 c2
      have c0 := cell_of HB7.out 0
      have c1 := cell_of HB7.out 1
      have c2 := cell_of HB7.out 2
      simp only [List.getElem?_toArray, List.getElem?_cons_zero, List.getElem?_cons_succ] at c0 c1 c2
      have HXB7 := Lib.hid (G67.out.hp (G56.out.hp (G45.out.hp HXB4.out)))
      have hn7a : w3.heap.size < w7.heap.size := (Array.getElem?_eq_some_iff.1 HXB7.out).1
      have hn7b : w6.heap.size < w7.heap.size := (Array.getElem?_eq_some_iff.1 HPB7.out).1
      have hn7c : w3.heap.size ≠ w7.heap.size := by omega
      have hn7d : w6.heap.size ≠ w7.heap.size := by omega
      have hn7e : w.heap.size ≠ w7.heap.size := by omega
      clear hE7
      have x0 := cell_of HXB7.out 0
      have x1 := cell_of HXB7.out 1
      have x2 := cell_of HXB7.out 2
      simp only [List.getElem?_toArray, List.getElem?_cons_zero, List.getElem?_cons_succ] at x0 x1 x2
      have p0 := cell_of HPB7.out 0
      have p1 := cell_of HPB7.out 1
      have p2 := cell_of HPB7.out 2
      simp only [List.getElem?_toArray, List.getElem?_cons_zero, List.getElem?_cons_succ] at p0 p1 p2
      go_wp2_with fail
      refine (same_calls _ _ L D A _ ((HX3b.out.ext (G34.out.trans' (G45.out.trans' (G56.out.trans' G67.out)))).ext (by repeat (first | refine Ext.st ?_ (by first | exact Nat.le_refl _ | exact Nat.le_succ _ | assumption | omega) _ | refine Ext.al ?_ _ | refine Ext.dr ?_ | refine Ext.drN ?_ _ | exact Ext.rf _))) ((HP6.out.ext G67.out).ext (by repeat (first | refine Ext.st ?_ (by first | exact Nat.le_refl _ | exact Nat.le_succ _ | assumption | omega) _ | refine Ext.al ?_ _ | refine Ext.dr ?_ | refine Ext.drN ?_ _ | exact Ext.rf _))) HLL.out).mono ?_
      rintro e w8 ⟨rfl, hE8⟩
      have HQB8 := Lib.hid (hE8.hp (heap_alloc_new w7 (.cells #[.slice qa L2.length qp, .int .i64 D2, .int .i64 A2] 24)))
      have G78 := Lib.hid (show Ext w7 w8 from ((Ext.rf w7).al _).trans' hE8)
      have HYB8 := Lib.hid (G78.out.hp (G67.out.hp (G56.out.hp HYB5.out)))
      clear x0 x1 x2 p0 p1 p2
      obtain ⟨hb8, he8, hz8⟩ := box_cells (HX7.out.trans' ((((Ext.rf w7).al _)).trans' hE8))
      have HX8 := Lib.hid (HX7.out.trans' ((((Ext.rf w7).al _)).trans' hE8))
      have HB8 := Lib.hid hb8
      have HE8 := Lib.hid he8
      clear hb8 he8 c0 c1 c2
      have c0 := cell_of HB8.out 0
      have c1 := cell_of HB8.out 1
      have c2 := cell_of HB8.out 2
      simp only [List.getElem?_toArray, List.getElem?_cons_zero, List.getElem?_cons_succ] at c0 c1 c2
      clear hE8
      have y0 := cell_of HYB8.out 0
      have y1 := cell_of HYB8.out 1
      have y2 := cell_of HYB8.out 2
      simp only [List.getElem?_toArray, List.getElem?_cons_zero, List.getElem?_cons_succ] at y0 y1 y2
      have z0 := cell_of HQB8.out 0
      have z1 := cell_of HQB8.out 1
      have z2 := cell_of HQB8.out 2
      simp only [List.getElem?_toArray, List.getElem?_cons_zero, List.getElem?_cons_succ] at z0 z1 z2
      go_wp2_with fail
      refine (same_calls _ _ L2 D2 A2 _ (HY4.out.ext (G45.out.trans' (G56.out.trans' (G67.out.trans' G78.out)))) (HQ7.out.ext G78.out) HLL2.out).mono ?_
      rintro e w9 ⟨rfl, hE9⟩
      clear y0 y1 y2 z0 z1 z2
      have G89 := Lib.hid hE9
      obtain ⟨hb9, he9, hz9⟩ := box_cells (HX8.out.trans' hE9)
      have HX9 := Lib.hid (HX8.out.trans' hE9)
      have HB9 := Lib.hid hb9
      have HE9 := Lib.hid he9
      clear hb9 he9 c0 c1 c2
      have c0 := cell_of HB9.out 0
      have c1 := cell_of HB9.out 1
      have c2 := cell_of HB9.out 2
      simp only [List.getElem?_toArray, List.getElem?_cons_zero, List.getElem?_cons_succ] at c0 c1 c2
      clear hE9
      go_wp2_with fail
      refine (refValid_calls a q c d f _ (by omega)).mono ?_
      rw [HVAL.out]
      rintro e w10 ⟨rfl, hE10⟩
      have G9t := Lib.hid hE10
      obtain ⟨hb10, he10, hz10⟩ := box_cells (HX9.out.trans' hE10)
      have HX10 := Lib.hid (HX9.out.trans' hE10)
      have HB10 := Lib.hid hb10
      have HE10 := Lib.hid he10
      clear hb10 he10 c0 c1 c2
      have c0 := cell_of HB10.out 0
      have c1 := cell_of HB10.out 1
      have c2 := cell_of HB10.out 2
      simp only [List.getElem?_toArray, List.getElem?_cons_zero, List.getElem?_cons_succ] at c0 c1 c2
      clear hE10
      go_wp2
      go_ret
      exact ⟨by simp, HE10.out⟩
    | true =>
      have HVAL := Lib.hid hval; clear hval
      go_enter Try.func5, Try.ntmps5
      go_wp2_with fail
      refine (awake_calls _).mono ?_
      rintro e w1 ⟨rfl, hE1⟩
      obtain ⟨hb1, he1, hz1⟩ := box_cells hE1
      have HX1 := Lib.hid hE1
      have HB1 := Lib.hid hb1
      have HE1 := Lib.hid he1
      clear hE1 hb1 he1
      have c0 := cell_of HB1.out 0
      have c1 := cell_of HB1.out 1
      have c2 := cell_of HB1.out 2
      simp only [List.getElem?_toArray, List.getElem?_cons_zero, List.getElem?_cons_succ] at c0 c1 c2
      go_wp2_with fail
      refine (fits_calls a q c _ _ _ (by omega)).mono ?_
      rw [HFIT.out]
      rintro e w2 ⟨rfl, hE2⟩
      obtain ⟨hb2, he2, hz2⟩ := box_cells (HX1.out.trans' hE2)
      have HX2 := Lib.hid (HX1.out.trans' hE2)
      have HB2 := Lib.hid hb2
      have HE2 := Lib.hid he2
      clear hb2 he2 c0 c1 c2
      have c0 := cell_of HB2.out 0
      have c1 := cell_of HB2.out 1
      have c2 := cell_of HB2.out 2
      simp only [List.getElem?_toArray, List.getElem?_cons_zero, List.getElem?_cons_succ] at c0 c1 c2
      clear hE2
      go_wp2_with fail
      refine (HP.out _ HE2.out).mono ?_
      rintro e w3 ⟨x3, rfl, hR3, hE3⟩
      obtain ⟨xa, xp, rfl, hxl, hsh⟩ := hR3.any
      have HX3b := Lib.hid (hR3.bys HLB.out)
      clear hsh hR3
      obtain ⟨hb3, he3, hz3⟩ := box_cells (HX2.out.trans' hE3)
      have HX3 := Lib.hid (HX2.out.trans' hE3)
      have HB3 := Lib.hid hb3
      have HE3 := Lib.hid he3
      clear hb3 he3 c0 c1 c2
      have c0 := cell_of HB3.out 0
      have c1 := cell_of HB3.out 1
      have c2 := cell_of HB3.out 2
      simp only [List.getElem?_toArray, List.getElem?_cons_zero, List.getElem?_cons_succ] at c0 c1 c2
      clear hE3
      go_wp2_with fail
      refine (HP2.out _ (HE3.out.al _)).mono ?_
      rintro e w4 ⟨y4, rfl, hR4, hE4⟩
      obtain ⟨ya, yp, rfl, hyl, hsh⟩ := hR4.any
      have HY4 := Lib.hid (hR4.bys HLB2.out)
      have HXB4 := Lib.hid (hE4.hp (heap_alloc_new w3 (.cells #[.slice xa L.length xp, .int .i64 D, .int .i64 A] 24)))
      have G34 := Lib.hid (show Ext w3 w4 from ((Ext.rf w3).al _).trans' hE4)
      clear hsh hR4
      obtain ⟨hb4, he4, hz4⟩ := box_cells (HX3.out.trans' ((((Ext.rf w3).al _)).trans' hE4))
      have HX4 := Lib.hid (HX3.out.trans' ((((Ext.rf w3).al _)).trans' hE4))
      have HB4 := Lib.hid hb4
      have HE4 := Lib.hid he4
      clear hb4 he4 c0 c1 c2
      have c0 := cell_of HB4.out 0
      have c1 := cell_of HB4.out 1
      have c2 := cell_of HB4.out 2
      simp only [List.getElem?_toArray, List.getElem?_cons_zero, List.getElem?_cons_succ] at c0 c1 c2
      clear hE4
      go_wp2_with fail
      refine (jread_ok _ l d f _ (HV.out.ext (HE4.out.al _)) (by rw [HQ.out]; omega) (by rw [HQ.out]; exact HVAL.out)).mono ?_
      rintro e w5 ⟨v5, rfl, hR5, hE5⟩
      have HS5 := Lib.hid (hR5.sl (fun r hr => (HRB.out r hr).1))
      clear hR5
      have HYB5 := Lib.hid (hE5.hp (heap_alloc_new w4 (.cells #[.slice ya L2.length yp, .int .i64 D2, .int .i64 A2] 24)))
      have G45 := Lib.hid (show Ext w4 w5 from ((Ext.rf w4).al _).trans' hE5)
      obtain ⟨hb5, he5, hz5⟩ := box_cells (HX4.out.trans' ((((Ext.rf w4).al _)).trans' hE5))
      have HX5 := Lib.hid (HX4.out.trans' ((((Ext.rf w4).al _)).trans' hE5))
      have HB5 := Lib.hid hb5
      have HE5 := Lib.hid he5
      clear hb5 he5 c0 c1 c2
      have c0 := cell_of HB5.out 0
      have c1 := cell_of HB5.out 1
      have c2 := cell_of HB5.out 2
      simp only [List.getElem?_toArray, List.getElem?_cons_zero, List.getElem?_cons_succ] at c0 c1 c2
      clear hE5
      go_wp2_with fail
      refine (HR.out _ HE5.out).mono ?_
      rintro e w6 ⟨p6, rfl, hR6, hE6⟩
      obtain ⟨pa, pp, rfl, hpl, hsh⟩ := hR6.any
      have HP6 := Lib.hid (hR6.bys HLB.out)
      have G56 := Lib.hid hE6
      clear hsh hR6
      obtain ⟨hb6, he6, hz6⟩ := box_cells (HX5.out.trans' hE6)
      have HX6 := Lib.hid (HX5.out.trans' hE6)
      have HB6 := Lib.hid hb6
      have HE6 := Lib.hid he6
      clear hb6 he6 c0 c1 c2
      have c0 := cell_of HB6.out 0
      have c1 := cell_of HB6.out 1
      have c2 := cell_of HB6.out 2
      simp only [List.getElem?_toArray, List.getElem?_cons_zero, List.getElem?_cons_succ] at c0 c1 c2
      clear hE6
      go_wp2_with fail
      refine (HR2.out _ (HE6.out.al _)).mono ?_
      rintro e w7 ⟨q7, rfl, hR7, hE7⟩
      obtain ⟨qa, qp, rfl, hql, hsh⟩ := hR7.any
      have HQ7 := Lib.hid (hR7.bys HLB2.out)
      have HPB7 := Lib.hid (hE7.hp (heap_alloc_new w6 (.cells #[.slice pa L.length pp, .int .i64 D, .int .i64 A] 24)))
      have G67 := Lib.hid (show Ext w6 w7 from ((Ext.rf w6).al _).trans' hE7)
      clear hsh hR7
      obtain ⟨hb7, he7, hz7⟩ := box_cells (HX6.out.trans' ((((Ext.rf w6).al _)).trans' hE7))
      have HX7 := Lib.hid (HX6.out.trans' ((((Ext.rf w6).al _)).trans' hE7))
      have HB7 := Lib.hid hb7
      have HE7 := Lib.hid he7
      clear hb7 he7 c0 c1 c2
      have c0 := cell_of HB7.out 0
      have c1 := cell_of HB7.out 1
      have c2 := cell_of HB7.out 2
      simp only [List.getElem?_toArray, List.getElem?_cons_zero, List.getElem?_cons_succ] at c0 c1 c2
      have HXB7 := Lib.hid (G67.out.hp (G56.out.hp (G45.out.hp HXB4.out)))
      have hn7a : w3.heap.size < w7.heap.size := (Array.getElem?_eq_some_iff.1 HXB7.out).1
      have hn7b : w6.heap.size < w7.heap.size := (Array.getElem?_eq_some_iff.1 HPB7.out).1
      have hn7c : w3.heap.size ≠ w7.heap.size := by omega
      have hn7d : w6.heap.size ≠ w7.heap.size := by omega
      have hn7e : w.heap.size ≠ w7.heap.size := by omega
      clear hE7
      have x0 := cell_of HXB7.out 0
      have x1 := cell_of HXB7.out 1
      have x2 := cell_of HXB7.out 2
      simp only [List.getElem?_toArray, List.getElem?_cons_zero, List.getElem?_cons_succ] at x0 x1 x2
      have p0 := cell_of HPB7.out 0
      have p1 := cell_of HPB7.out 1
      have p2 := cell_of HPB7.out 2
      simp only [List.getElem?_toArray, List.getElem?_cons_zero, List.getElem?_cons_succ] at p0 p1 p2
      go_wp2_with fail
      refine (same_calls _ _ L D A _ ((HX3b.out.ext (G34.out.trans' (G45.out.trans' (G56.out.trans' G67.out)))).ext (by repeat (first | refine Ext.st ?_ (by first | exact Nat.le_refl _ | exact Nat.le_succ _ | assumption | omega) _ | refine Ext.al ?_ _ | refine Ext.dr ?_ | refine Ext.drN ?_ _ | exact Ext.rf _))) ((HP6.out.ext G67.out).ext (by repeat (first | refine Ext.st ?_ (by first | exact Nat.le_refl _ | exact Nat.le_succ _ | assumption | omega) _ | refine Ext.al ?_ _ | refine Ext.dr ?_ | refine Ext.drN ?_ _ | exact Ext.rf _))) HLL.out).mono ?_
      rintro e w8 ⟨rfl, hE8⟩
      have HQB8 := Lib.hid (hE8.hp (heap_alloc_new w7 (.cells #[.slice qa L2.length qp, .int .i64 D2, .int .i64 A2] 24)))
      have G78 := Lib.hid (show Ext w7 w8 from ((Ext.rf w7).al _).trans' hE8)
      have HYB8 := Lib.hid (G78.out.hp (G67.out.hp (G56.out.hp HYB5.out)))
      clear x0 x1 x2 p0 p1 p2
      obtain ⟨hb8, he8, hz8⟩ := box_cells (HX7.out.trans' ((((Ext.rf w7).al _)).trans' hE8))
      have HX8 := Lib.hid (HX7.out.trans' ((((Ext.rf w7).al _)).trans' hE8))
      have HB8 := Lib.hid hb8
      have HE8 := Lib.hid he8
      clear hb8 he8 c0 c1 c2
      have c0 := cell_of HB8.out 0
      have c1 := cell_of HB8.out 1
      have c2 := cell_of HB8.out 2
      simp only [List.getElem?_toArray, List.getElem?_cons_zero, List.getElem?_cons_succ] at c0 c1 c2
      clear hE8
      have y0 := cell_of HYB8.out 0
      have y1 := cell_of HYB8.out 1
      have y2 := cell_of HYB8.out 2
      simp only [List.getElem?_toArray, List.getElem?_cons_zero, List.getElem?_cons_succ] at y0 y1 y2
      have z0 := cell_of HQB8.out 0
      have z1 := cell_of HQB8.out 1
      have z2 := cell_of HQB8.out 2
      simp only [List.getElem?_toArray, List.getElem?_cons_zero, List.getElem?_cons_succ] at z0 z1 z2
      go_wp2_with fail
      refine (same_calls _ _ L2 D2 A2 _ (HY4.out.ext (G45.out.trans' (G56.out.trans' (G67.out.trans' G78.out)))) (HQ7.out.ext G78.out) HLL2.out).mono ?_
      rintro e w9 ⟨rfl, hE9⟩
      clear y0 y1 y2 z0 z1 z2
      have G89 := Lib.hid hE9
      obtain ⟨hb9, he9, hz9⟩ := box_cells (HX8.out.trans' hE9)
      have HX9 := Lib.hid (HX8.out.trans' hE9)
      have HB9 := Lib.hid hb9
      have HE9 := Lib.hid he9
      clear hb9 he9 c0 c1 c2
      have c0 := cell_of HB9.out 0
      have c1 := cell_of HB9.out 1
      have c2 := cell_of HB9.out 2
      simp only [List.getElem?_toArray, List.getElem?_cons_zero, List.getElem?_cons_succ] at c0 c1 c2
      clear hE9
      go_wp2_with fail
      refine (refValid_calls a q c d f _ (by omega)).mono ?_
      rw [HVAL.out]
      rintro e w10 ⟨rfl, hE10⟩
      have G9t := Lib.hid hE10
      obtain ⟨hb10, he10, hz10⟩ := box_cells (HX9.out.trans' hE10)
      have HX10 := Lib.hid (HX9.out.trans' hE10)
      have HB10 := Lib.hid hb10
      have HE10 := Lib.hid he10
      clear hb10 he10 c0 c1 c2
      have c0 := cell_of HB10.out 0
      have c1 := cell_of HB10.out 1
      have c2 := cell_of HB10.out 2
      simp only [List.getElem?_toArray, List.getElem?_cons_zero, List.getElem?_cons_succ] at c0 c1 c2
      clear hE10
      go_wp2_with fail
      refine (read_calls _ l d f _ (HV.out.ext HE10.out) (by rw [HQ.out]; omega)).mono ?_
      rintro e w11 ⟨v11, rfl, hR11, hE11⟩
      have HS11 := Lib.hid (hR11.sl (fun r hr => (HRB.out r hr).1))
      have HE11 := Lib.hid hE11
      clear hR11 hE11
      go_wp2_with fail
      refine (sameRecords_calls v5 v11 (recordsL l) _ (HS5.out.ext rbys_lasts (G56.out.trans' (G67.out.trans' (G78.out.trans' (G89.out.trans' (G9t.out.trans' HE11.out)))))) HS11.out HRL.out (fun r hr => by have := (HRB.out r hr).2; omega)).mono ?_
      rintro e w12 ⟨rfl, hE12⟩
      have HE12 := Lib.hid (HE10.out.trans' (HE11.out.trans' hE12))
      clear hE12
      go_wp2
      go_ret
      exact ⟨by simp, HE12.out⟩
  · skip
    cases hval : validJ q d f with
    | false =>
      have HVAL := Lib.hid hval; clear hval
      go_enter Try.func5, Try.ntmps5
      go_wp2_with fail
      refine (awake_calls _).mono ?_
      rintro e w1 ⟨rfl, hE1⟩
      obtain ⟨hb1, he1, hz1⟩ := box_cells hE1
      have HX1 := Lib.hid hE1
      have HB1 := Lib.hid hb1
      have HE1 := Lib.hid he1
      clear hE1 hb1 he1
      have c0 := cell_of HB1.out 0
      have c1 := cell_of HB1.out 1
      have c2 := cell_of HB1.out 2
      simp only [List.getElem?_toArray, List.getElem?_cons_zero, List.getElem?_cons_succ] at c0 c1 c2
      go_wp2_with fail
      refine (fits_calls a q c _ _ _ (by omega)).mono ?_
      rw [HFIT.out]
      rintro e w2 ⟨rfl, hE2⟩
      obtain ⟨hb2, he2, hz2⟩ := box_cells (HX1.out.trans' hE2)
      have HX2 := Lib.hid (HX1.out.trans' hE2)
      have HB2 := Lib.hid hb2
      have HE2 := Lib.hid he2
      clear hb2 he2 c0 c1 c2
      have c0 := cell_of HB2.out 0
      have c1 := cell_of HB2.out 1
      have c2 := cell_of HB2.out 2
      simp only [List.getElem?_toArray, List.getElem?_cons_zero, List.getElem?_cons_succ] at c0 c1 c2
      clear hE2
      go_wp2_with fail
      refine (HP.out _ HE2.out).mono ?_
      rintro e w3 ⟨x3, rfl, hR3, hE3⟩
      obtain ⟨xa, xp, rfl, hxl, hsh⟩ := hR3.any
      have HX3b := Lib.hid (hR3.bys HLB.out)
      clear hsh hR3
      obtain ⟨hb3, he3, hz3⟩ := box_cells (HX2.out.trans' hE3)
      have HX3 := Lib.hid (HX2.out.trans' hE3)
      have HB3 := Lib.hid hb3
      have HE3 := Lib.hid he3
      clear hb3 he3 c0 c1 c2
      have c0 := cell_of HB3.out 0
      have c1 := cell_of HB3.out 1
      have c2 := cell_of HB3.out 2
      simp only [List.getElem?_toArray, List.getElem?_cons_zero, List.getElem?_cons_succ] at c0 c1 c2
      clear hE3
      go_wp2_with fail
      refine (HP2.out _ (HE3.out.al _)).mono ?_
      rintro e w4 ⟨y4, rfl, hR4, hE4⟩
      obtain ⟨ya, yp, rfl, hyl, hsh⟩ := hR4.any
      have HY4 := Lib.hid (hR4.bys HLB2.out)
      have HXB4 := Lib.hid (hE4.hp (heap_alloc_new w3 (.cells #[.slice xa L.length xp, .int .i64 D, .int .i64 A] 24)))
      have G34 := Lib.hid (show Ext w3 w4 from ((Ext.rf w3).al _).trans' hE4)
      clear hsh hR4
      obtain ⟨hb4, he4, hz4⟩ := box_cells (HX3.out.trans' ((((Ext.rf w3).al _)).trans' hE4))
      have HX4 := Lib.hid (HX3.out.trans' ((((Ext.rf w3).al _)).trans' hE4))
      have HB4 := Lib.hid hb4
      have HE4 := Lib.hid he4
      clear hb4 he4 c0 c1 c2
      have c0 := cell_of HB4.out 0
      have c1 := cell_of HB4.out 1
      have c2 := cell_of HB4.out 2
      simp only [List.getElem?_toArray, List.getElem?_cons_zero, List.getElem?_cons_succ] at c0 c1 c2
      clear hE4
      go_wp2_with fail
      refine (jread_bad a q c d f _ (by omega) HVAL.out).mono ?_
      rintro e w5 ⟨rfl, hE5⟩
      have HYB5 := Lib.hid (hE5.hp (heap_alloc_new w4 (.cells #[.slice ya L2.length yp, .int .i64 D2, .int .i64 A2] 24)))
      have G45 := Lib.hid (show Ext w4 w5 from ((Ext.rf w4).al _).trans' hE5)
      obtain ⟨hb5, he5, hz5⟩ := box_cells (HX4.out.trans' ((((Ext.rf w4).al _)).trans' hE5))
      have HX5 := Lib.hid (HX4.out.trans' ((((Ext.rf w4).al _)).trans' hE5))
      have HB5 := Lib.hid hb5
      have HE5 := Lib.hid he5
      clear hb5 he5 c0 c1 c2
      have c0 := cell_of HB5.out 0
      have c1 := cell_of HB5.out 1
      have c2 := cell_of HB5.out 2
      simp only [List.getElem?_toArray, List.getElem?_cons_zero, List.getElem?_cons_succ] at c0 c1 c2
      clear hE5
      go_wp2_with fail
      refine (HR.out _ HE5.out).mono ?_
      rintro e w6 ⟨p6, rfl, hR6, hE6⟩
      obtain ⟨pa, pp, rfl, hpl, hsh⟩ := hR6.any
      have HP6 := Lib.hid (hR6.bys HLB.out)
      have G56 := Lib.hid hE6
      clear hsh hR6
      obtain ⟨hb6, he6, hz6⟩ := box_cells (HX5.out.trans' hE6)
      have HX6 := Lib.hid (HX5.out.trans' hE6)
      have HB6 := Lib.hid hb6
      have HE6 := Lib.hid he6
      clear hb6 he6 c0 c1 c2
      have c0 := cell_of HB6.out 0
      have c1 := cell_of HB6.out 1
      have c2 := cell_of HB6.out 2
      simp only [List.getElem?_toArray, List.getElem?_cons_zero, List.getElem?_cons_succ] at c0 c1 c2
      clear hE6
      go_wp2_with fail
      refine (HR2.out _ (HE6.out.al _)).mono ?_
      rintro e w7 ⟨q7, rfl, hR7, hE7⟩
      obtain ⟨qa, qp, rfl, hql, hsh⟩ := hR7.any
      have HQ7 := Lib.hid (hR7.bys HLB2.out)
      have HPB7 := Lib.hid (hE7.hp (heap_alloc_new w6 (.cells #[.slice pa L.length pp, .int .i64 D, .int .i64 A] 24)))
      have G67 := Lib.hid (show Ext w6 w7 from ((Ext.rf w6).al _).trans' hE7)
      clear hsh hR7
      obtain ⟨hb7, he7, hz7⟩ := box_cells (HX6.out.trans' ((((Ext.rf w6).al _)).trans' hE7))
      have HX7 := Lib.hid (HX6.out.trans' ((((Ext.rf w6).al _)).trans' hE7))
      have HB7 := Lib.hid hb7
      have HE7 := Lib.hid he7
      clear hb7 he7 c0 c1 c2
      have c0 := cell_of HB7.out 0
      have c1 := cell_of HB7.out 1
      have c2 := cell_of HB7.out 2
      simp only [List.getElem?_toArray, List.getElem?_cons_zero, List.getElem?_cons_succ] at c0 c1 c2
      have HXB7 := Lib.hid (G67.out.hp (G56.out.hp (G45.out.hp HXB4.out)))
      have hn7a : w3.heap.size < w7.heap.size := (Array.getElem?_eq_some_iff.1 HXB7.out).1
      have hn7b : w6.heap.size < w7.heap.size := (Array.getElem?_eq_some_iff.1 HPB7.out).1
      have hn7c : w3.heap.size ≠ w7.heap.size := by omega
      have hn7d : w6.heap.size ≠ w7.heap.size := by omega
      have hn7e : w.heap.size ≠ w7.heap.size := by omega
      clear hE7
      have x0 := cell_of HXB7.out 0
      have x1 := cell_of HXB7.out 1
      have x2 := cell_of HXB7.out 2
      simp only [List.getElem?_toArray, List.getElem?_cons_zero, List.getElem?_cons_succ] at x0 x1 x2
      have p0 := cell_of HPB7.out 0
      have p1 := cell_of HPB7.out 1
      have p2 := cell_of HPB7.out 2
      simp only [List.getElem?_toArray, List.getElem?_cons_zero, List.getElem?_cons_succ] at p0 p1 p2
      go_wp2_with fail
      refine (same_calls _ _ L D A _ ((HX3b.out.ext (G34.out.trans' (G45.out.trans' (G56.out.trans' G67.out)))).ext (by repeat (first | refine Ext.st ?_ (by first | exact Nat.le_refl _ | exact Nat.le_succ _ | assumption | omega) _ | refine Ext.al ?_ _ | refine Ext.dr ?_ | refine Ext.drN ?_ _ | exact Ext.rf _))) ((HP6.out.ext G67.out).ext (by repeat (first | refine Ext.st ?_ (by first | exact Nat.le_refl _ | exact Nat.le_succ _ | assumption | omega) _ | refine Ext.al ?_ _ | refine Ext.dr ?_ | refine Ext.drN ?_ _ | exact Ext.rf _))) HLL.out).mono ?_
      rintro e w8 ⟨rfl, hE8⟩
      have HQB8 := Lib.hid (hE8.hp (heap_alloc_new w7 (.cells #[.slice qa L2.length qp, .int .i64 D2, .int .i64 A2] 24)))
      have G78 := Lib.hid (show Ext w7 w8 from ((Ext.rf w7).al _).trans' hE8)
      have HYB8 := Lib.hid (G78.out.hp (G67.out.hp (G56.out.hp HYB5.out)))
      clear x0 x1 x2 p0 p1 p2
      obtain ⟨hb8, he8, hz8⟩ := box_cells (HX7.out.trans' ((((Ext.rf w7).al _)).trans' hE8))
      have HX8 := Lib.hid (HX7.out.trans' ((((Ext.rf w7).al _)).trans' hE8))
      have HB8 := Lib.hid hb8
      have HE8 := Lib.hid he8
      clear hb8 he8 c0 c1 c2
      have c0 := cell_of HB8.out 0
      have c1 := cell_of HB8.out 1
      have c2 := cell_of HB8.out 2
      simp only [List.getElem?_toArray, List.getElem?_cons_zero, List.getElem?_cons_succ] at c0 c1 c2
      clear hE8
      have y0 := cell_of HYB8.out 0
      have y1 := cell_of HYB8.out 1
      have y2 := cell_of HYB8.out 2
      simp only [List.getElem?_toArray, List.getElem?_cons_zero, List.getElem?_cons_succ] at y0 y1 y2
      have z0 := cell_of HQB8.out 0
      have z1 := cell_of HQB8.out 1
      have z2 := cell_of HQB8.out 2
      simp only [List.getElem?_toArray, List.getElem?_cons_zero, List.getElem?_cons_succ] at z0 z1 z2
      go_wp2_with fail
      refine (same_calls _ _ L2 D2 A2 _ (HY4.out.ext (G45.out.trans' (G56.out.trans' (G67.out.trans' G78.out)))) (HQ7.out.ext G78.out) HLL2.out).mono ?_
      rintro e w9 ⟨rfl, hE9⟩
      clear y0 y1 y2 z0 z1 z2
      have G89 := Lib.hid hE9
      obtain ⟨hb9, he9, hz9⟩ := box_cells (HX8.out.trans' hE9)
      have HX9 := Lib.hid (HX8.out.trans' hE9)
      have HB9 := Lib.hid hb9
      have HE9 := Lib.hid he9
      clear hb9 he9 c0 c1 c2
      have c0 := cell_of HB9.out 0
      have c1 := cell_of HB9.out 1
      have c2 := cell_of HB9.out 2
      simp only [List.getElem?_toArray, List.getElem?_cons_zero, List.getElem?_cons_succ] at c0 c1 c2
      clear hE9
      go_wp2_with fail
      refine (refValid_calls a q c d f _ (by omega)).mono ?_
      rw [HVAL.out]
      rintro e w10 ⟨rfl, hE10⟩
      have G9t := Lib.hid hE10
      obtain ⟨hb10, he10, hz10⟩ := box_cells (HX9.out.trans' hE10)
      have HX10 := Lib.hid (HX9.out.trans' hE10)
      have HB10 := Lib.hid hb10
      have HE10 := Lib.hid he10
      clear hb10 he10 c0 c1 c2
      have c0 := cell_of HB10.out 0
      have c1 := cell_of HB10.out 1
      have c2 := cell_of HB10.out 2
      simp only [List.getElem?_toArray, List.getElem?_cons_zero, List.getElem?_cons_succ] at c0 c1 c2
      clear hE10
      go_wp2
      go_ret
      exact ⟨by simp, HE10.out⟩
    | true =>
      have HVAL := Lib.hid hval; clear hval
      go_enter Try.func5, Try.ntmps5
      go_wp2_with fail
      refine (awake_calls _).mono ?_
      rintro e w1 ⟨rfl, hE1⟩
      obtain ⟨hb1, he1, hz1⟩ := box_cells hE1
      have HX1 := Lib.hid hE1
      have HB1 := Lib.hid hb1
      have HE1 := Lib.hid he1
      clear hE1 hb1 he1
      have c0 := cell_of HB1.out 0
      have c1 := cell_of HB1.out 1
      have c2 := cell_of HB1.out 2
      simp only [List.getElem?_toArray, List.getElem?_cons_zero, List.getElem?_cons_succ] at c0 c1 c2
      go_wp2_with fail
      refine (fits_calls a q c _ _ _ (by omega)).mono ?_
      rw [HFIT.out]
      rintro e w2 ⟨rfl, hE2⟩
      obtain ⟨hb2, he2, hz2⟩ := box_cells (HX1.out.trans' hE2)
      have HX2 := Lib.hid (HX1.out.trans' hE2)
      have HB2 := Lib.hid hb2
      have HE2 := Lib.hid he2
      clear hb2 he2 c0 c1 c2
      have c0 := cell_of HB2.out 0
      have c1 := cell_of HB2.out 1
      have c2 := cell_of HB2.out 2
      simp only [List.getElem?_toArray, List.getElem?_cons_zero, List.getElem?_cons_succ] at c0 c1 c2
      clear hE2
      go_wp2_with fail
      refine (HP.out _ HE2.out).mono ?_
      rintro e w3 ⟨x3, rfl, hR3, hE3⟩
      obtain ⟨xa, xp, rfl, hxl, hsh⟩ := hR3.any
      have HX3b := Lib.hid (hR3.bys HLB.out)
      clear hsh hR3
      obtain ⟨hb3, he3, hz3⟩ := box_cells (HX2.out.trans' hE3)
      have HX3 := Lib.hid (HX2.out.trans' hE3)
      have HB3 := Lib.hid hb3
      have HE3 := Lib.hid he3
      clear hb3 he3 c0 c1 c2
      have c0 := cell_of HB3.out 0
      have c1 := cell_of HB3.out 1
      have c2 := cell_of HB3.out 2
      simp only [List.getElem?_toArray, List.getElem?_cons_zero, List.getElem?_cons_succ] at c0 c1 c2
      clear hE3
      go_wp2_with fail
      refine (HP2.out _ (HE3.out.al _)).mono ?_
      rintro e w4 ⟨y4, rfl, hR4, hE4⟩
      obtain ⟨ya, yp, rfl, hyl, hsh⟩ := hR4.any
      have HY4 := Lib.hid (hR4.bys HLB2.out)
      have HXB4 := Lib.hid (hE4.hp (heap_alloc_new w3 (.cells #[.slice xa L.length xp, .int .i64 D, .int .i64 A] 24)))
      have G34 := Lib.hid (show Ext w3 w4 from ((Ext.rf w3).al _).trans' hE4)
      clear hsh hR4
      obtain ⟨hb4, he4, hz4⟩ := box_cells (HX3.out.trans' ((((Ext.rf w3).al _)).trans' hE4))
      have HX4 := Lib.hid (HX3.out.trans' ((((Ext.rf w3).al _)).trans' hE4))
      have HB4 := Lib.hid hb4
      have HE4 := Lib.hid he4
      clear hb4 he4 c0 c1 c2
      have c0 := cell_of HB4.out 0
      have c1 := cell_of HB4.out 1
      have c2 := cell_of HB4.out 2
      simp only [List.getElem?_toArray, List.getElem?_cons_zero, List.getElem?_cons_succ] at c0 c1 c2
      clear hE4
      go_wp2_with fail
      refine (jread_ok _ l d f _ (HV.out.ext (HE4.out.al _)) (by rw [HQ.out]; omega) (by rw [HQ.out]; exact HVAL.out)).mono ?_
      rintro e w5 ⟨v5, rfl, hR5, hE5⟩
      have HS5 := Lib.hid (hR5.sl (fun r hr => (HRB.out r hr).1))
      clear hR5
      have HYB5 := Lib.hid (hE5.hp (heap_alloc_new w4 (.cells #[.slice ya L2.length yp, .int .i64 D2, .int .i64 A2] 24)))
      have G45 := Lib.hid (show Ext w4 w5 from ((Ext.rf w4).al _).trans' hE5)
      obtain ⟨hb5, he5, hz5⟩ := box_cells (HX4.out.trans' ((((Ext.rf w4).al _)).trans' hE5))
      have HX5 := Lib.hid (HX4.out.trans' ((((Ext.rf w4).al _)).trans' hE5))
      have HB5 := Lib.hid hb5
      have HE5 := Lib.hid he5
      clear hb5 he5 c0 c1 c2
      have c0 := cell_of HB5.out 0
      have c1 := cell_of HB5.out 1
      have c2 := cell_of HB5.out 2
      simp only [List.getElem?_toArray, List.getElem?_cons_zero, List.getElem?_cons_succ] at c0 c1 c2
      clear hE5
      go_wp2_with fail
      refine (HR.out _ HE5.out).mono ?_
      rintro e w6 ⟨p6, rfl, hR6, hE6⟩
      obtain ⟨pa, pp, rfl, hpl, hsh⟩ := hR6.any
      have HP6 := Lib.hid (hR6.bys HLB.out)
      have G56 := Lib.hid hE6
      clear hsh hR6
      obtain ⟨hb6, he6, hz6⟩ := box_cells (HX5.out.trans' hE6)
      have HX6 := Lib.hid (HX5.out.trans' hE6)
      have HB6 := Lib.hid hb6
      have HE6 := Lib.hid he6
      clear hb6 he6 c0 c1 c2
      have c0 := cell_of HB6.out 0
      have c1 := cell_of HB6.out 1
      have c2 := cell_of HB6.out 2
      simp only [List.getElem?_toArray, List.getElem?_cons_zero, List.getElem?_cons_succ] at c0 c1 c2
      clear hE6
      go_wp2_with fail
      refine (HR2.out _ (HE6.out.al _)).mono ?_
      rintro e w7 ⟨q7, rfl, hR7, hE7⟩
      obtain ⟨qa, qp, rfl, hql, hsh⟩ := hR7.any
      have HQ7 := Lib.hid (hR7.bys HLB2.out)
      have HPB7 := Lib.hid (hE7.hp (heap_alloc_new w6 (.cells #[.slice pa L.length pp, .int .i64 D, .int .i64 A] 24)))
      have G67 := Lib.hid (show Ext w6 w7 from ((Ext.rf w6).al _).trans' hE7)
      clear hsh hR7
      obtain ⟨hb7, he7, hz7⟩ := box_cells (HX6.out.trans' ((((Ext.rf w6).al _)).trans' hE7))
      have HX7 := Lib.hid (HX6.out.trans' ((((Ext.rf w6).al _)).trans' hE7))
      have HB7 := Lib.hid hb7
      have HE7 := Lib.hid he7
      clear hb7 he7 c0 c1 c2
      have c0 := cell_of HB7.out 0
      have c1 := cell_of HB7.out 1
      have c2 := cell_of HB7.out 2
      simp only [List.getElem?_toArray, List.getElem?_cons_zero, List.getElem?_cons_succ] at c0 c1 c2
      have HXB7 := Lib.hid (G67.out.hp (G56.out.hp (G45.out.hp HXB4.out)))
      have hn7a : w3.heap.size < w7.heap.size := (Array.getElem?_eq_some_iff.1 HXB7.out).1
      have hn7b : w6.heap.size < w7.heap.size := (Array.getElem?_eq_some_iff.1 HPB7.out).1
      have hn7c : w3.heap.size ≠ w7.heap.size := by omega
      have hn7d : w6.heap.size ≠ w7.heap.size := by omega
      have hn7e : w.heap.size ≠ w7.heap.size := by omega
      clear hE7
      have x0 := cell_of HXB7.out 0
      have x1 := cell_of HXB7.out 1
      have x2 := cell_of HXB7.out 2
      simp only [List.getElem?_toArray, List.getElem?_cons_zero, List.getElem?_cons_succ] at x0 x1 x2
      have p0 := cell_of HPB7.out 0
      have p1 := cell_of HPB7.out 1
      have p2 := cell_of HPB7.out 2
      simp only [List.getElem?_toArray, List.getElem?_cons_zero, List.getElem?_cons_succ] at p0 p1 p2
      go_wp2_with fail
      refine (same_calls _ _ L D A _ ((HX3b.out.ext (G34.out.trans' (G45.out.trans' (G56.out.trans' G67.out)))).ext (by repeat (first | refine Ext.st ?_ (by first | exact Nat.le_refl _ | exact Nat.le_succ _ | assumption | omega) _ | refine Ext.al ?_ _ | refine Ext.dr ?_ | refine Ext.drN ?_ _ | exact Ext.rf _))) ((HP6.out.ext G67.out).ext (by repeat (first | refine Ext.st ?_ (by first | exact Nat.le_refl _ | exact Nat.le_succ _ | assumption | omega) _ | refine Ext.al ?_ _ | refine Ext.dr ?_ | refine Ext.drN ?_ _ | exact Ext.rf _))) HLL.out).mono ?_
      rintro e w8 ⟨rfl, hE8⟩
      have HQB8 := Lib.hid (hE8.hp (heap_alloc_new w7 (.cells #[.slice qa L2.length qp, .int .i64 D2, .int .i64 A2] 24)))
      have G78 := Lib.hid (show Ext w7 w8 from ((Ext.rf w7).al _).trans' hE8)
      have HYB8 := Lib.hid (G78.out.hp (G67.out.hp (G56.out.hp HYB5.out)))
      clear x0 x1 x2 p0 p1 p2
      obtain ⟨hb8, he8, hz8⟩ := box_cells (HX7.out.trans' ((((Ext.rf w7).al _)).trans' hE8))
      have HX8 := Lib.hid (HX7.out.trans' ((((Ext.rf w7).al _)).trans' hE8))
      have HB8 := Lib.hid hb8
      have HE8 := Lib.hid he8
      clear hb8 he8 c0 c1 c2
      have c0 := cell_of HB8.out 0
      have c1 := cell_of HB8.out 1
      have c2 := cell_of HB8.out 2
      simp only [List.getElem?_toArray, List.getElem?_cons_zero, List.getElem?_cons_succ] at c0 c1 c2
      clear hE8
      have y0 := cell_of HYB8.out 0
      have y1 := cell_of HYB8.out 1
      have y2 := cell_of HYB8.out 2
      simp only [List.getElem?_toArray, List.getElem?_cons_zero, List.getElem?_cons_succ] at y0 y1 y2
      have z0 := cell_of HQB8.out 0
      have z1 := cell_of HQB8.out 1
      have z2 := cell_of HQB8.out 2
      simp only [List.getElem?_toArray, List.getElem?_cons_zero, List.getElem?_cons_succ] at z0 z1 z2
      go_wp2_with fail
      refine (same_calls _ _ L2 D2 A2 _ (HY4.out.ext (G45.out.trans' (G56.out.trans' (G67.out.trans' G78.out)))) (HQ7.out.ext G78.out) HLL2.out).mono ?_
      rintro e w9 ⟨rfl, hE9⟩
      clear y0 y1 y2 z0 z1 z2
      have G89 := Lib.hid hE9
      obtain ⟨hb9, he9, hz9⟩ := box_cells (HX8.out.trans' hE9)
      have HX9 := Lib.hid (HX8.out.trans' hE9)
      have HB9 := Lib.hid hb9
      have HE9 := Lib.hid he9
      clear hb9 he9 c0 c1 c2
      have c0 := cell_of HB9.out 0
      have c1 := cell_of HB9.out 1
      have c2 := cell_of HB9.out 2
      simp only [List.getElem?_toArray, List.getElem?_cons_zero, List.getElem?_cons_succ] at c0 c1 c2
      clear hE9
      go_wp2_with fail
      refine (refValid_calls a q c d f _ (by omega)).mono ?_
      rw [HVAL.out]
      rintro e w10 ⟨rfl, hE10⟩
      have G9t := Lib.hid hE10
      obtain ⟨hb10, he10, hz10⟩ := box_cells (HX9.out.trans' hE10)
      have HX10 := Lib.hid (HX9.out.trans' hE10)
      have HB10 := Lib.hid hb10
      have HE10 := Lib.hid he10
      clear hb10 he10 c0 c1 c2
      have c0 := cell_of HB10.out 0
      have c1 := cell_of HB10.out 1
      have c2 := cell_of HB10.out 2
      simp only [List.getElem?_toArray, List.getElem?_cons_zero, List.getElem?_cons_succ] at c0 c1 c2
      clear hE10
      go_wp2_with fail
      refine (read_calls _ l d f _ (HV.out.ext HE10.out) (by rw [HQ.out]; omega)).mono ?_
      rintro e w11 ⟨v11, rfl, hR11, hE11⟩
      have HS11 := Lib.hid (hR11.sl (fun r hr => (HRB.out r hr).1))
      have HE11 := Lib.hid hE11
      clear hR11 hE11
      go_wp2_with fail
      refine (sameRecords_calls v5 v11 (recordsL l) _ (HS5.out.ext rbys_lasts (G56.out.trans' (G67.out.trans' (G78.out.trans' (G89.out.trans' (G9t.out.trans' HE11.out)))))) HS11.out HRL.out (fun r hr => by have := (HRB.out r hr).2; omega)).mono ?_
      rintro e w12 ⟨rfl, hE12⟩
      have HE12 := Lib.hid (HE10.out.trans' (HE11.out.trans' hE12))
      clear hE12
      go_wp2
      go_ret
      exact ⟨by simp, HE12.out⟩

end Go.Proofs.Ytggofkaakccoeaa
