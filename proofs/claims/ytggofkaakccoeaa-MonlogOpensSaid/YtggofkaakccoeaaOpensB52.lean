/-
  The law MonlogOpens: its walk, another case.
-/
import Derived.Test.YtggofkaakccoeaaBase
import Derived.Test.YtggofkaakccoeaaProg
import Derived.BigQuiet
import Derived.Deep.QuietTactic
import Derived.Deep.LoopGhost
import Derived.Shelf.Abstract
import Derived.Test.YtggofkaakccoeaaOpensL52
namespace Go.Proofs.Ytggofkaakccoeaa
open Go.RowKit
set_option linter.unusedVariables false
attribute [local go_sem ↓] Go.wp_at_zero Go.wp_at_succ

set_option maxHeartbeats 8000000 in
set_option maxRecDepth 100000 in
theorem opens_hi (v : Value) (l : List Int) (after d f k : Int) (w : World) (hv : Bys w v l) (hq : l.length ≤ 9223372036854775807) (hk : k ≤ 9223372036854775807) (hfit : fitsB l.length = true) (hnew : newOut after = .tuple #[.agg #[.slice none 0 0, .int .i64 0, .int .i64 0], .int .i64 2])
    (b1 : decide (after < -1) = false) (b2 : decide (1073741824 < after) = true) :
    Calls Try.prog 3 #[.int .i64 after, .agg #[v, .int .i64 d, .int .i64 f], .int .i64 k] w fun e w' => e = .returned (.bool true) ∧ Ext w w' := by
  have hq2 : l.length ≤ 163940 := by simp only [fitsB, decide_eq_true_eq] at hfit; omega
  have HV := Lib.hid hv
  obtain ⟨_, a, c, rfl, hlc, hvc⟩ := hv
  clear hvc
  have HFIT := Lib.hid hfit
  have HNEW := Lib.hid hnew
  generalize hln : l.length = q at *
  have HQ := Lib.hid hln
  clear hfit hnew hln
  cases hval : validJ q d f with
  | false =>
    have HVAL := Lib.hid hval; clear hval
    go_enter Try.func3, Try.ntmps3
    go_wp2_with fail
    refine (awake_calls _).mono ?_
    rintro e w1 ⟨rfl, hE1⟩
    obtain ⟨hb1, he1, hz1⟩ := box_cells hE1
    have HX1 := Lib.hid hE1
    have HB1 := Lib.hid hb1
    have HE1 := Lib.hid he1
    clear hE1 hb1 he1
    have c0 := cell_of HB1.out 0
    have c1 := cell_of HB1.out 1
    have c2 := cell_of HB1.out 2
    simp only [List.getElem?_toArray, List.getElem?_cons_zero, List.getElem?_cons_succ] at c0 c1 c2
    go_wp2_with fail
    refine (fits_calls a q c _ _ _ (by omega)).mono ?_
    rw [HFIT.out]
    rintro e w2 ⟨rfl, hE2⟩
    obtain ⟨hb2, he2, hz2⟩ := box_cells (HX1.out.trans' hE2)
    have HX2 := Lib.hid (HX1.out.trans' hE2)
    have HB2 := Lib.hid hb2
    have HE2 := Lib.hid he2
    clear hb2 he2 c0 c1 c2
    have c0 := cell_of HB2.out 0
    have c1 := cell_of HB2.out 1
    have c2 := cell_of HB2.out 2
    simp only [List.getElem?_toArray, List.getElem?_cons_zero, List.getElem?_cons_succ] at c0 c1 c2
    clear hE2
    go_wp2_with fail
    refine (new_calls after _).mono ?_
    rw [HNEW.out]
    rintro e w3 ⟨rfl, hE3⟩
    obtain ⟨hb3, he3, hz3⟩ := box_cells (HX2.out.trans' hE3)
    have HX3 := Lib.hid (HX2.out.trans' hE3)
    have HB3 := Lib.hid hb3
    have HE3 := Lib.hid he3
    clear hb3 he3 c0 c1 c2
    have c0 := cell_of HB3.out 0
    have c1 := cell_of HB3.out 1
    have c2 := cell_of HB3.out 2
    simp only [List.getElem?_toArray, List.getElem?_cons_zero, List.getElem?_cons_succ] at c0 c1 c2
    clear hE3
    go_wp2_with fail
    refine (same_calls _ _ [] 0 0 _ (bys_nil _ _ _) (bys_nil _ _ _) (by simp)).mono ?_
    rintro e w4 ⟨rfl, hE4⟩
    obtain ⟨hb4, he4, hz4⟩ := box_cells (HX3.out.trans' ((((Ext.rf w3).al _)).trans' hE4))
    have HX4 := Lib.hid (HX3.out.trans' ((((Ext.rf w3).al _)).trans' hE4))
    have HB4 := Lib.hid hb4
    have HE4 := Lib.hid he4
    clear hb4 he4 c0 c1 c2
    have c0 := cell_of HB4.out 0
    have c1 := cell_of HB4.out 1
    have c2 := cell_of HB4.out 2
    simp only [List.getElem?_toArray, List.getElem?_cons_zero, List.getElem?_cons_succ] at c0 c1 c2
    clear hE4
    go_wp2_with fail
    refine (crash_bad a q c d f k _ (by omega) HVAL.out).mono ?_
    rintro e w5 ⟨rfl, hE5⟩
    obtain ⟨hb5, he5, hz5⟩ := box_cells (HX4.out.trans' hE5)
    have HX5 := Lib.hid (HX4.out.trans' hE5)
    have HB5 := Lib.hid hb5
    have HE5 := Lib.hid he5
    clear hb5 he5 c0 c1 c2
    have c0 := cell_of HB5.out 0
    have c1 := cell_of HB5.out 1
    have c2 := cell_of HB5.out 2
    simp only [List.getElem?_toArray, List.getElem?_cons_zero, List.getElem?_cons_succ] at c0 c1 c2
    clear hE5
    go_wp2_with fail
    refine (refValid_calls a q c d f _ (by omega)).mono ?_
    rw [HVAL.out]
    rintro e w6 ⟨rfl, hE6⟩
    have HY6 := Lib.hid (show w6.heap[w5.heap.size]? = some (.cells #[.slice none 0 0, .int .i64 0, .int .i64 0] 24) from hE6.hp (heap_alloc_new w5 _))
    have y0 := cell_of HY6.out 0
    have y1 := cell_of HY6.out 1
    have y2 := cell_of HY6.out 2
    simp only [List.getElem?_toArray, List.getElem?_cons_zero, List.getElem?_cons_succ] at y0 y1 y2
    obtain ⟨hb6, he6, hz6⟩ := box_cells (HX5.out.trans' ((((Ext.rf w5).al _)).trans' hE6))
    have HX6 := Lib.hid (HX5.out.trans' ((((Ext.rf w5).al _)).trans' hE6))
    have HB6 := Lib.hid hb6
    have HE6 := Lib.hid he6
    clear hb6 he6 c0 c1 c2
    have c0 := cell_of HB6.out 0
    have c1 := cell_of HB6.out 1
    have c2 := cell_of HB6.out 2
    simp only [List.getElem?_toArray, List.getElem?_cons_zero, List.getElem?_cons_succ] at c0 c1 c2
    clear hE6
    go_wp2_with fail
    refine (valid_calls a q c d f _ (by omega)).mono ?_
    rw [HVAL.out]
    rintro e w7 ⟨rfl, hE7⟩
    have HY7 := Lib.hid (hE7.hp HY6.out)
    clear y0 y1 y2
    have y0 := cell_of HY7.out 0
    have y1 := cell_of HY7.out 1
    have y2 := cell_of HY7.out 2
    simp only [List.getElem?_toArray, List.getElem?_cons_zero, List.getElem?_cons_succ] at y0 y1 y2
    obtain ⟨hb7, he7, hz7⟩ := box_cells (HX6.out.trans' hE7)
    have HX7 := Lib.hid (HX6.out.trans' hE7)
    have HB7 := Lib.hid hb7
    have HE7 := Lib.hid he7
    clear hb7 he7 c0 c1 c2
    have c0 := cell_of HB7.out 0
    have c1 := cell_of HB7.out 1
    have c2 := cell_of HB7.out 2
    simp only [List.getElem?_toArray, List.getElem?_cons_zero, List.getElem?_cons_succ] at c0 c1 c2
    clear hE7
    go_wp2_with fail
    refine (same_calls _ _ [] 0 0 _ (bys_nil _ _ _) (bys_nil _ _ _) (by simp)).mono ?_
    rintro e w8 ⟨rfl, hE8⟩
    have HE8 := Lib.hid (HE7.out.trans' hE8)
    clear hE8
    go_wp2
    go_ret
    exact ⟨by simp, HE8.out⟩
  | true =>
    have HVAL := Lib.hid hval
    have hvp := validJ_parts hval
    clear hval
    by_cases hk0 : k < 0
    · have hkb : decide (k < 0) = true := by simpa using hk0
      go_enter Try.func3, Try.ntmps3
      go_wp2_with fail
      refine (awake_calls _).mono ?_
      rintro e w1 ⟨rfl, hE1⟩
      obtain ⟨hb1, he1, hz1⟩ := box_cells hE1
      have HX1 := Lib.hid hE1
      have HB1 := Lib.hid hb1
      have HE1 := Lib.hid he1
      clear hE1 hb1 he1
      have c0 := cell_of HB1.out 0
      have c1 := cell_of HB1.out 1
      have c2 := cell_of HB1.out 2
      simp only [List.getElem?_toArray, List.getElem?_cons_zero, List.getElem?_cons_succ] at c0 c1 c2
      go_wp2_with fail
      refine (fits_calls a q c _ _ _ (by omega)).mono ?_
      rw [HFIT.out]
      rintro e w2 ⟨rfl, hE2⟩
      obtain ⟨hb2, he2, hz2⟩ := box_cells (HX1.out.trans' hE2)
      have HX2 := Lib.hid (HX1.out.trans' hE2)
      have HB2 := Lib.hid hb2
      have HE2 := Lib.hid he2
      clear hb2 he2 c0 c1 c2
      have c0 := cell_of HB2.out 0
      have c1 := cell_of HB2.out 1
      have c2 := cell_of HB2.out 2
      simp only [List.getElem?_toArray, List.getElem?_cons_zero, List.getElem?_cons_succ] at c0 c1 c2
      clear hE2
      go_wp2_with fail
      refine (new_calls after _).mono ?_
      rw [HNEW.out]
      rintro e w3 ⟨rfl, hE3⟩
      obtain ⟨hb3, he3, hz3⟩ := box_cells (HX2.out.trans' hE3)
      have HX3 := Lib.hid (HX2.out.trans' hE3)
      have HB3 := Lib.hid hb3
      have HE3 := Lib.hid he3
      clear hb3 he3 c0 c1 c2
      have c0 := cell_of HB3.out 0
      have c1 := cell_of HB3.out 1
      have c2 := cell_of HB3.out 2
      simp only [List.getElem?_toArray, List.getElem?_cons_zero, List.getElem?_cons_succ] at c0 c1 c2
      clear hE3
      go_wp2_with fail
      refine (same_calls _ _ [] 0 0 _ (bys_nil _ _ _) (bys_nil _ _ _) (by simp)).mono ?_
      rintro e w4 ⟨rfl, hE4⟩
      obtain ⟨hb4, he4, hz4⟩ := box_cells (HX3.out.trans' ((((Ext.rf w3).al _)).trans' hE4))
      have HX4 := Lib.hid (HX3.out.trans' ((((Ext.rf w3).al _)).trans' hE4))
      have HB4 := Lib.hid hb4
      have HE4 := Lib.hid he4
      clear hb4 he4 c0 c1 c2
      have c0 := cell_of HB4.out 0
      have c1 := cell_of HB4.out 1
      have c2 := cell_of HB4.out 2
      simp only [List.getElem?_toArray, List.getElem?_cons_zero, List.getElem?_cons_succ] at c0 c1 c2
      clear hE4
      go_wp2_with fail
      refine (crash_neg a q c d f k _ (by omega) HVAL.out hk0).mono ?_
      rintro e w5 ⟨rfl, hE5⟩
      obtain ⟨hb5, he5, hz5⟩ := box_cells (HX4.out.trans' hE5)
      have HX5 := Lib.hid (HX4.out.trans' hE5)
      have HB5 := Lib.hid hb5
      have HE5 := Lib.hid he5
      clear hb5 he5 c0 c1 c2
      have c0 := cell_of HB5.out 0
      have c1 := cell_of HB5.out 1
      have c2 := cell_of HB5.out 2
      simp only [List.getElem?_toArray, List.getElem?_cons_zero, List.getElem?_cons_succ] at c0 c1 c2
      clear hE5
      go_wp2_with fail
      refine (refValid_calls a q c d f _ (by omega)).mono ?_
      rw [HVAL.out]
      rintro e w6 ⟨rfl, hE6⟩
      have HY6 := Lib.hid (show w6.heap[w5.heap.size]? = some (.cells #[.slice none 0 0, .int .i64 0, .int .i64 0] 24) from hE6.hp (heap_alloc_new w5 _))
      have y0 := cell_of HY6.out 0
      have y1 := cell_of HY6.out 1
      have y2 := cell_of HY6.out 2
      simp only [List.getElem?_toArray, List.getElem?_cons_zero, List.getElem?_cons_succ] at y0 y1 y2
      obtain ⟨hb6, he6, hz6⟩ := box_cells (HX5.out.trans' ((((Ext.rf w5).al _)).trans' hE6))
      have HX6 := Lib.hid (HX5.out.trans' ((((Ext.rf w5).al _)).trans' hE6))
      have HB6 := Lib.hid hb6
      have HE6 := Lib.hid he6
      clear hb6 he6 c0 c1 c2
      have c0 := cell_of HB6.out 0
      have c1 := cell_of HB6.out 1
      have c2 := cell_of HB6.out 2
      simp only [List.getElem?_toArray, List.getElem?_cons_zero, List.getElem?_cons_succ] at c0 c1 c2
      clear hE6
      go_wp2_with fail
      refine (valid_calls a q c d f _ (by omega)).mono ?_
      rw [HVAL.out]
      rintro e w7 ⟨rfl, hE7⟩
      have HY7 := Lib.hid (hE7.hp HY6.out)
      clear y0 y1 y2
      have y0 := cell_of HY7.out 0
      have y1 := cell_of HY7.out 1
      have y2 := cell_of HY7.out 2
      simp only [List.getElem?_toArray, List.getElem?_cons_zero, List.getElem?_cons_succ] at y0 y1 y2
      obtain ⟨hb7, he7, hz7⟩ := box_cells (HX6.out.trans' hE7)
      have HX7 := Lib.hid (HX6.out.trans' hE7)
      have HB7 := Lib.hid hb7
      have HE7 := Lib.hid he7
      clear hb7 he7 c0 c1 c2
      have c0 := cell_of HB7.out 0
      have c1 := cell_of HB7.out 1
      have c2 := cell_of HB7.out 2
      simp only [List.getElem?_toArray, List.getElem?_cons_zero, List.getElem?_cons_succ] at c0 c1 c2
      clear hE7
      go_wp2_with fail
      refine (same_calls _ _ [] 0 0 _ (bys_nil _ _ _) (bys_nil _ _ _) (by simp)).mono ?_
      rintro e w8 ⟨rfl, hE8⟩
      have HE8 := Lib.hid (HE7.out.trans' hE8)
      clear hE8
      go_wp2
      go_ret
      exact ⟨by simp, HE8.out⟩
    · have hkb : decide (k < 0) = false := by simpa using hk0
      obtain ⟨D, rfl⟩ : ∃ D : Nat, d = D := ⟨d.toNat, by omega⟩
      obtain ⟨K, rfl⟩ : ∃ K : Nat, k = K := ⟨k.toNat, by omega⟩
      have hNle := crashN_le q D K (by omega)
      go_enter Try.func3, Try.ntmps3
      go_wp2_with fail
      refine (awake_calls _).mono ?_
      rintro e w1 ⟨rfl, hE1⟩
      obtain ⟨hb1, he1, hz1⟩ := box_cells hE1
      have HX1 := Lib.hid hE1
      have HB1 := Lib.hid hb1
      have HE1 := Lib.hid he1
      clear hE1 hb1 he1
      have c0 := cell_of HB1.out 0
      have c1 := cell_of HB1.out 1
      have c2 := cell_of HB1.out 2
      simp only [List.getElem?_toArray, List.getElem?_cons_zero, List.getElem?_cons_succ] at c0 c1 c2
      go_wp2_with fail
      refine (fits_calls a q c _ _ _ (by omega)).mono ?_
      rw [HFIT.out]
      rintro e w2 ⟨rfl, hE2⟩
      obtain ⟨hb2, he2, hz2⟩ := box_cells (HX1.out.trans' hE2)
      have HX2 := Lib.hid (HX1.out.trans' hE2)
      have HB2 := Lib.hid hb2
      have HE2 := Lib.hid he2
      clear hb2 he2 c0 c1 c2
      have c0 := cell_of HB2.out 0
      have c1 := cell_of HB2.out 1
      have c2 := cell_of HB2.out 2
      simp only [List.getElem?_toArray, List.getElem?_cons_zero, List.getElem?_cons_succ] at c0 c1 c2
      clear hE2
      go_wp2_with fail
      refine (new_calls after _).mono ?_
      rw [HNEW.out]
      rintro e w3 ⟨rfl, hE3⟩
      obtain ⟨hb3, he3, hz3⟩ := box_cells (HX2.out.trans' hE3)
      have HX3 := Lib.hid (HX2.out.trans' hE3)
      have HB3 := Lib.hid hb3
      have HE3 := Lib.hid he3
      clear hb3 he3 c0 c1 c2
      have c0 := cell_of HB3.out 0
      have c1 := cell_of HB3.out 1
      have c2 := cell_of HB3.out 2
      simp only [List.getElem?_toArray, List.getElem?_cons_zero, List.getElem?_cons_succ] at c0 c1 c2
      clear hE3
      go_wp2_with fail
      refine (same_calls _ _ [] 0 0 _ (bys_nil _ _ _) (bys_nil _ _ _) (by simp)).mono ?_
      rintro e w4 ⟨rfl, hE4⟩
      obtain ⟨hb4, he4, hz4⟩ := box_cells (HX3.out.trans' ((((Ext.rf w3).al _)).trans' hE4))
      have HX4 := Lib.hid (HX3.out.trans' ((((Ext.rf w3).al _)).trans' hE4))
      have HB4 := Lib.hid hb4
      have HE4 := Lib.hid he4
      clear hb4 he4 c0 c1 c2
      have c0 := cell_of HB4.out 0
      have c1 := cell_of HB4.out 1
      have c2 := cell_of HB4.out 2
      simp only [List.getElem?_toArray, List.getElem?_cons_zero, List.getElem?_cons_succ] at c0 c1 c2
      clear hE4
      go_wp2_with fail
      refine (crash_ok (.slice a q c) l D K f _ (HV.out.ext HE4.out) (by rw [HQ.out]; omega) (by rw [HQ.out]; omega) hk (by rw [HQ.out]; exact HVAL.out)).mono ?_
      rw [HQ.out]
      have HN := Lib.hid (show (l.take (crashN q D K)).length = crashN q D K from by rw [List.length_take, HQ.out]; omega)
      generalize hcn : crashN q D K = N at *
      have HCN := Lib.hid hcn; clear hcn
      rintro e w5 ⟨v5, rfl, hR5, hE5⟩
      obtain ⟨fa, fp, rfl, hle5, hsh5⟩ := hR5.any
      have HR5 := Lib.hid (hR5.bys (l := l.take N) (bytes_take HV.out.1))
      clear hsh5 hR5
      obtain ⟨hb5, he5, hz5⟩ := box_cells (HX4.out.trans' hE5)
      have HX5 := Lib.hid (HX4.out.trans' hE5)
      have HB5 := Lib.hid hb5
      have HE5 := Lib.hid he5
      clear hb5 he5 c0 c1 c2
      have c0 := cell_of HB5.out 0
      have c1 := cell_of HB5.out 1
      have c2 := cell_of HB5.out 2
      simp only [List.getElem?_toArray, List.getElem?_cons_zero, List.getElem?_cons_succ] at c0 c1 c2
      clear hE5
      go_wp2_with fail
      refine (refValid_calls a q c D f _ (by omega)).mono ?_
      rw [HVAL.out]
      rintro e w6 ⟨rfl, hE6⟩
      have HR6 := Lib.hid (HR5.out.ext (((Ext.rf w5).al _).trans' hE6))
      have HY6 := Lib.hid (show w6.heap[w5.heap.size]? = some (.cells #[.slice fa N fp, .int .i64 N, .int .i64 (-1)] 24) from hE6.hp (heap_alloc_new w5 _))
      have y0 := cell_of HY6.out 0
      have y1 := cell_of HY6.out 1
      have y2 := cell_of HY6.out 2
      simp only [List.getElem?_toArray, List.getElem?_cons_zero, List.getElem?_cons_succ] at y0 y1 y2
      obtain ⟨hb6, he6, hz6⟩ := box_cells (HX5.out.trans' ((((Ext.rf w5).al _)).trans' hE6))
      have HX6 := Lib.hid (HX5.out.trans' ((((Ext.rf w5).al _)).trans' hE6))
      have HB6 := Lib.hid hb6
      have HE6 := Lib.hid he6
      clear hb6 he6 c0 c1 c2
      have c0 := cell_of HB6.out 0
      have c1 := cell_of HB6.out 1
      have c2 := cell_of HB6.out 2
      simp only [List.getElem?_toArray, List.getElem?_cons_zero, List.getElem?_cons_succ] at c0 c1 c2
      clear hE6
      go_wp2_with fail
      go_region_held3 (fun w' => w'.cell? ⟨w.heap.size, 0, none⟩ = some (.slice a q c) ∧ w'.cell? ⟨w.heap.size, 1, none⟩ = some (.int .i64 D) ∧ w'.cell? ⟨w.heap.size, 2, none⟩ = some (.int .i64 f) ∧ w'.cell? ⟨w5.heap.size, 0, none⟩ = some (.slice fa N fp) ∧ w'.cell? ⟨w5.heap.size, 1, none⟩ = some (.int .i64 N) ∧ w'.cell? ⟨w5.heap.size, 2, none⟩ = some (.int .i64 (-1))) (go_keep)
        (first
          | (go_at_call 14
             refine (valid_calls a q c D f _ (by omega)).mono ?_
             rw [HVAL.out]
             rintro e wA ⟨rfl, hEA⟩
             have HXA := Lib.hid (show Ext w6 wA from Ext.trans' (by repeat (first | refine Ext.st ?_ (by first | exact Nat.le_refl _ | exact Nat.le_succ _ | assumption | omega) _ | refine Ext.al ?_ _ | refine Ext.dr ?_ | refine Ext.drN ?_ _ | exact Ext.rf _)) hEA)
             have kA0 := HXA.out.cl c0
             have kA1 := HXA.out.cl c1
             have kA2 := HXA.out.cl c2
             have kA3 := HXA.out.cl y0
             have kA4 := HXA.out.cl y1
             have kA5 := HXA.out.cl y2
             clear hEA)
          | (go_at_call 15
             refine (refCrash_calls (.slice a q c) l D K f _ (HV.out.ext (HE6.out.trans' (by repeat (first | refine Ext.st ?_ (by first | exact Nat.le_refl _ | exact Nat.le_succ _ | assumption | omega) _ | refine Ext.al ?_ _ | refine Ext.dr ?_ | refine Ext.drN ?_ _ | exact HXA.out)))) (by rw [HQ.out]; omega) (by rw [HQ.out]; omega) hk).mono ?_
             rw [HQ.out, HCN.out]
             rintro e wB ⟨vB, rfl, hRB, hEB⟩
             have HXB := Lib.hid (show Ext w6 wB from Ext.trans' (by repeat (first | refine Ext.st ?_ (by first | exact Nat.le_refl _ | exact Nat.le_succ _ | assumption | omega) _ | refine Ext.al ?_ _ | refine Ext.dr ?_ | refine Ext.drN ?_ _ | exact HXA.out)) hEB)
             have HRB := Lib.hid (hRB.bys (l := l.take N) (bytes_take HV.out.1))
             have kB0 := HXB.out.cl c0
             have kB1 := HXB.out.cl c1
             have kB2 := HXB.out.cl c2
             have kB3 := HXB.out.cl y0
             have kB4 := HXB.out.cl y1
             have kB5 := HXB.out.cl y2
             clear hEB hRB)
          | (go_at_call 11
             refine (same_calls (.slice fa N fp) _ (l.take N) N (-1) _ (HR6.out.ext (by repeat (first | refine Ext.st ?_ (by first | exact Nat.le_refl _ | exact Nat.le_succ _ | assumption | omega) _ | refine Ext.al ?_ _ | refine Ext.dr ?_ | refine Ext.drN ?_ _ | exact HXB.out))) (HRB.out.ext (by repeat (first | refine Ext.st ?_ (by first | exact Nat.le_refl _ | exact Nat.le_succ _ | assumption | omega) _ | refine Ext.al ?_ _ | refine Ext.dr ?_ | refine Ext.drN ?_ _ | exact Ext.rf _))) (by rw [HN.out]; omega)).mono ?_
             rintro e wC ⟨rfl, hEC⟩
             have HXC := Lib.hid (show Ext w6 wC from Ext.trans' (by repeat (first | refine Ext.st ?_ (by first | exact Nat.le_refl _ | exact Nat.le_succ _ | assumption | omega) _ | refine Ext.al ?_ _ | refine Ext.dr ?_ | refine Ext.drN ?_ _ | exact HXB.out)) hEC)
             have kC0 := HXC.out.cl c0
             have kC1 := HXC.out.cl c1
             have kC2 := HXC.out.cl c2
             have kC3 := HXC.out.cl y0
             have kC4 := HXC.out.cl y1
             have kC5 := HXC.out.cl y2
             clear hEC))
      all_goals (go_wp2; go_ret)
      all_goals (have HE9 := Lib.hid (HE6.out.trans' HXC.out); exact ⟨by simp, (by repeat (first | refine Ext.st ?_ (by first | exact Nat.le_refl _ | exact Nat.le_succ _ | assumption | omega) _ | refine Ext.al ?_ _ | refine Ext.dr ?_ | refine Ext.drN ?_ _ | exact HE9.out))⟩)

end Go.Proofs.Ytggofkaakccoeaa
