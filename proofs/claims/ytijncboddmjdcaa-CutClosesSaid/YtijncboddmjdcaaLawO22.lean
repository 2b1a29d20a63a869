/-
  The statement CutCloses, walked.
-/
import Derived.Test.YtijncboddmjdcaaGa
import Derived.Test.YtijncboddmjdcaaProg
import Derived.BigQuiet
import Derived.Deep.QuietTactic
import Derived.Deep.LoopGhost
import Derived.Shelf.Abstract
import Derived.Test.YtijncboddmjdcaaGl
import Derived.Test.YtijncboddmjdcaaGo
import Derived.Test.YtijncboddmjdcaaGp
namespace Go.Proofs.Ytijncboddmjdcaa
open Go.RowKit
set_option linter.unusedVariables false

set_option maxHeartbeats 8000000 in
set_option maxRecDepth 100000 in
theorem cutCloses_calls (v vc : Value) (t : Tr) (c : List Int) (w : World) (h : TrAt w v t) (htop : TopTr t) (hc : Ints w vc c) :
    Calls Try.prog 7 #[.agg #[v], vc] w fun e w' => e = .returned (.bool true) ∧ Ext w w' := by
  have HC := Lib.hid hc
  obtain ⟨ca, cc, rfl, hacc, _⟩ := hc
  obtain ⟨n, hnc⟩ : ∃ n, c.length = n := ⟨_, rfl⟩
  rw [hnc]
  rw [hnc] at HC
  have HNC := Lib.hid hnc
  clear hacc hnc
  have HT := Lib.hid h
  have HFC := Lib.hid (fun W (hW : Ext w W) => few22_calls v t W (h.ext hW) htop)
  obtain ⟨ta, tc, rfl, htc⟩ := h.sh
  obtain ⟨tn, htn⟩ : ∃ n, t.length = n := ⟨_, rfl⟩
  rw [htn] at HFC HT ⊢
  have HTN := Lib.hid htn
  have HX0 := Lib.hid (heap_alloc_new w (.cells #[.slice ta tn tc] 24))
  have HE1 := Lib.hid ((Ext.rf w).al (.cells #[.slice ta tn tc] 24))
  obtain ⟨fw, hfw⟩ : ∃ b, few22 t = b := ⟨_, rfl⟩
  rw [hfw] at HFC
  have HFW := Lib.hid hfw
  clear h htop hfw htc htn
  go_enter Try.func7, Try.ntmps7
  go_wp2_with fail
  refine (awake22_calls _).mono ?_
  rintro e w2 ⟨rfl, hX2⟩
  have HE2 := Lib.hid (HE1.out.trans' hX2)
  have HY2 := Lib.hid (hX2.hp HX0.out)
  have t2 := cellOf HY2.out 0
  simp only [List.getElem?_toArray, List.getElem?_cons_zero] at t2
  clear hX2
  go_wp2_with fail
  refine (HFC.out _ HE2.out).mono ?_
  rintro e w3 ⟨rfl, hX3⟩
  have HE3 := Lib.hid (HE2.out.trans' hX3)
  have HY3 := Lib.hid (hX3.hp HY2.out)
  have t3 := cellOf HY3.out 0
  simp only [List.getElem?_toArray, List.getElem?_cons_zero] at t3
  clear hX3 t2
  cases fw with
  | false =>
    go_wp2_with fail
    refine (awake22_calls _).mono ?_
    rintro e w4 ⟨rfl, hX4⟩
    go_wp2
    go_ret
    exact ⟨rfl, HE3.out.trans' hX4⟩
  | true =>
  by_cases h1 : 20 < n
  · have d1 : decide (20 < (n : Int)) = true := decide_eq_true (by omega)
    have d1n : decide (20 < n) = true := decide_eq_true h1
    clear h1
    go_wp2_with fail
    refine (awake22_calls _).mono ?_
    rintro e w4 ⟨rfl, hX4⟩
    go_wp2
    go_ret
    exact ⟨rfl, HE3.out.trans' hX4⟩
  have d1 : decide (20 < (n : Int)) = false := decide_eq_false (by omega)
  have d1n : decide (20 < n) = false := decide_eq_false h1
  have HLO := Lib.hid (few22_loose HFW.out).1
  have HC1 := Lib.hid (fun W (hW : Ext w W) => closeP_calls _ _ t c W (HT.out.ext hW) HLO.out (HC.out.ext hW) (by rw [HNC.out]; omega))
  have HC2 := Lib.hid (fun W (hW : Ext w W) => openP_calls _ _ t c W (HT.out.ext hW) HLO.out (HC.out.ext hW) (by rw [HNC.out]; omega))
  have HC3 := Lib.hid (fun W (hW : Ext w W) => validR_calls _ t W (HT.out.ext hW) HLO.out)
  have HC4 := Lib.hid (fun W (hW : Ext w W) => fitsR_calls _ _ t c W (HT.out.ext hW) (HC.out.ext hW))
  have HC5 := Lib.hid (fun (hv : validT t = true) (hf : fitsB t c = true) W (hW : Ext w W) => rangeR_calls _ _ t c W (HT.out.ext hW) (valid_small hv) (HC.out.ext hW) (of_decide_eq_true hf))
  obtain ⟨ge, hge⟩ : ∃ E, repE t c = E := ⟨_, rfl⟩
  rw [hge] at HC1 HC2
  unfold repE at hge
  obtain ⟨vb, hvb⟩ : ∃ b, validT t = b := ⟨_, rfl⟩
  obtain ⟨fb, hfb⟩ : ∃ b, fitsB t c = b := ⟨_, rfl⟩
  rw [hvb] at HC3 hge
  rw [hfb] at HC4 hge
  have HVB := Lib.hid hvb
  have HFB := Lib.hid hfb
  have hn20 : n ≤ 20 := by omega
  clear hvb hfb h1
  cases vb with
  | false =>
    obtain rfl : ge = 1 := by rw [← hge]; rfl
    rw [if_neg (by decide)] at HC1 HC2
    clear hge
    go_wp2_with fail
    refine (HC1.out _ HE3.out).mono ?_
    rintro e w4 ⟨u4, rfl, hR4, hX4⟩
    obtain ⟨ua4, uc4, hu4, _⟩ := hR4.any
    subst hu4
    have HI4 := Lib.hid hR4.ints
    clear hR4
    have HE4 := Lib.hid (HE3.out.trans' hX4)
    have HY4 := Lib.hid (hX4.hp HY3.out)
    have t4 := cellOf HY4.out 0
    simp only [List.getElem?_toArray, List.getElem?_cons_zero] at t4
    have HXX4 := Lib.hid hX4
    clear hX4 t3
    go_wp2_with fail
    refine (HC2.out _ HE4.out).mono ?_
    rintro e w5 ⟨u5, rfl, hR5, hX5⟩
    obtain ⟨ua5, uc5, hu5, _⟩ := hR5.any
    subst hu5
    have HI5 := Lib.hid hR5.ints
    clear hR5
    have HE5 := Lib.hid (HE4.out.trans' hX5)
    have HY5 := Lib.hid (hX5.hp HY4.out)
    have t5 := cellOf HY5.out 0
    simp only [List.getElem?_toArray, List.getElem?_cons_zero] at t5
    have HXX5 := Lib.hid hX5
    clear hX5 t4
    go_wp2_with fail
    refine (HC3.out _ HE5.out).mono ?_
    rintro e w6 ⟨rfl, hX6⟩
    have HE6 := Lib.hid (HE5.out.trans' hX6)
    have HY6 := Lib.hid (hX6.hp HY5.out)
    have t6 := cellOf HY6.out 0
    simp only [List.getElem?_toArray, List.getElem?_cons_zero] at t6
    have HXX6 := Lib.hid hX6
    clear hX6 t5
    go_wp2
    go_ret
    exact ⟨by simp, HE6.out⟩
  | true =>
  cases fb with
  | false =>
    obtain rfl : ge = 1 := by rw [← hge]; rfl
    rw [if_neg (by decide)] at HC1 HC2
    clear hge
    go_wp2_with fail
    refine (HC1.out _ HE3.out).mono ?_
    rintro e w4 ⟨u4, rfl, hR4, hX4⟩
    obtain ⟨ua4, uc4, hu4, _⟩ := hR4.any
    subst hu4
    have HI4 := Lib.hid hR4.ints
    clear hR4
    have HE4 := Lib.hid (HE3.out.trans' hX4)
    have HY4 := Lib.hid (hX4.hp HY3.out)
    have t4 := cellOf HY4.out 0
    simp only [List.getElem?_toArray, List.getElem?_cons_zero] at t4
    have HXX4 := Lib.hid hX4
    clear hX4 t3
    go_wp2_with fail
    refine (HC2.out _ HE4.out).mono ?_
    rintro e w5 ⟨u5, rfl, hR5, hX5⟩
    obtain ⟨ua5, uc5, hu5, _⟩ := hR5.any
    subst hu5
    have HI5 := Lib.hid hR5.ints
    clear hR5
    have HE5 := Lib.hid (HE4.out.trans' hX5)
    have HY5 := Lib.hid (hX5.hp HY4.out)
    have t5 := cellOf HY5.out 0
    simp only [List.getElem?_toArray, List.getElem?_cons_zero] at t5
    have HXX5 := Lib.hid hX5
    clear hX5 t4
    go_wp2_with fail
    refine (HC3.out _ HE5.out).mono ?_
    rintro e w6 ⟨rfl, hX6⟩
    have HE6 := Lib.hid (HE5.out.trans' hX6)
    have HY6 := Lib.hid (hX6.hp HY5.out)
    have t6 := cellOf HY6.out 0
    simp only [List.getElem?_toArray, List.getElem?_cons_zero] at t6
    have HXX6 := Lib.hid hX6
    clear hX6 t5
    go_wp2_with fail
    refine (HC4.out _ HE6.out).mono ?_
    rintro e w7 ⟨rfl, hX7⟩
    have HE7 := Lib.hid (HE6.out.trans' hX7)
    have HY7 := Lib.hid (hX7.hp HY6.out)
    have t7 := cellOf HY7.out 0
    simp only [List.getElem?_toArray, List.getElem?_cons_zero] at t7
    have HXX7 := Lib.hid hX7
    clear hX7 t6
    go_wp2
    go_ret
    exact ⟨by simp, HE7.out⟩
  | true =>
  have HC5 := Lib.hid (HC5.out HVB.out HFB.out)
  obtain ⟨rb, hrb⟩ : ∃ b, rangeB t c = b := ⟨_, rfl⟩
  rw [hrb] at HC5 hge
  have HRB := Lib.hid hrb
  clear hrb
  cases rb with
  | false =>
    obtain rfl : ge = 2 := by rw [← hge]; rfl
    rw [if_neg (by decide)] at HC1 HC2
    clear hge
    go_wp2_with fail
    refine (HC1.out _ HE3.out).mono ?_
    rintro e w4 ⟨u4, rfl, hR4, hX4⟩
    obtain ⟨ua4, uc4, hu4, _⟩ := hR4.any
    subst hu4
    have HI4 := Lib.hid hR4.ints
    clear hR4
    have HE4 := Lib.hid (HE3.out.trans' hX4)
    have HY4 := Lib.hid (hX4.hp HY3.out)
    have t4 := cellOf HY4.out 0
    simp only [List.getElem?_toArray, List.getElem?_cons_zero] at t4
    have HXX4 := Lib.hid hX4
    clear hX4 t3
    go_wp2_with fail
    refine (HC2.out _ HE4.out).mono ?_
    rintro e w5 ⟨u5, rfl, hR5, hX5⟩
    obtain ⟨ua5, uc5, hu5, _⟩ := hR5.any
    subst hu5
    have HI5 := Lib.hid hR5.ints
    clear hR5
    have HE5 := Lib.hid (HE4.out.trans' hX5)
    have HY5 := Lib.hid (hX5.hp HY4.out)
    have t5 := cellOf HY5.out 0
    simp only [List.getElem?_toArray, List.getElem?_cons_zero] at t5
    have HXX5 := Lib.hid hX5
    clear hX5 t4
    go_wp2_with fail
    refine (HC3.out _ HE5.out).mono ?_
    rintro e w6 ⟨rfl, hX6⟩
    have HE6 := Lib.hid (HE5.out.trans' hX6)
    have HY6 := Lib.hid (hX6.hp HY5.out)
    have t6 := cellOf HY6.out 0
    simp only [List.getElem?_toArray, List.getElem?_cons_zero] at t6
    have HXX6 := Lib.hid hX6
    clear hX6 t5
    go_wp2_with fail
    refine (HC4.out _ HE6.out).mono ?_
    rintro e w7 ⟨rfl, hX7⟩
    have HE7 := Lib.hid (HE6.out.trans' hX7)
    have HY7 := Lib.hid (hX7.hp HY6.out)
    have t7 := cellOf HY7.out 0
    simp only [List.getElem?_toArray, List.getElem?_cons_zero] at t7
    have HXX7 := Lib.hid hX7
    clear hX7 t6
    go_wp2_with fail
    refine (HC5.out _ HE7.out).mono ?_
    rintro e w8 ⟨rfl, hX8⟩
    have HE8 := Lib.hid (HE7.out.trans' hX8)
    have HY8 := Lib.hid (hX8.hp HY7.out)
    have t8 := cellOf HY8.out 0
    simp only [List.getElem?_toArray, List.getElem?_cons_zero] at t8
    have HXX8 := Lib.hid hX8
    clear hX8 t7
    go_wp2
    go_ret
    exact ⟨by simp, HE8.out⟩
  | true =>
    obtain rfl : ge = 0 := by rw [← hge]; rfl
    rw [if_pos rfl] at HC1 HC2
    have HRC := Lib.hid (show RangeC t c from ⟨of_decide_eq_true HFB.out, HRB.out⟩)
    obtain ⟨N1, hN1⟩ := closeC_fix HRC.out
    obtain ⟨N2, hN2⟩ := openC_fix HRC.out
    have HZ1 : Hid ((closeC t c).length ≤ 1000000) := Lib.hid (by
      have h9 := (up_least hN1 HRC.out).1.1.1
      have h8 := HRC.out.1
      rw [h9, ← h8, HNC.out]; omega)
    have HZ2 : Hid ((openC t c).length ≤ 1000000) := Lib.hid (by
      have h9 := (dn_greatest hN2 HRC.out).1.1.1
      have h8 := HRC.out.1
      rw [h9, ← h8, HNC.out]; omega)
    have HC6 := Lib.hid (fun W (hW : Ext w W) => closeR_of t HVB.out (valid_small HVB.out) N1 _ _ c _ W (HT.out.ext hW) (HC.out.ext hW) HRC.out hN1)
    have HC7 := Lib.hid (fun W (hW : Ext w W) => openR_of t HVB.out (valid_small HVB.out) N2 _ _ c _ W (HT.out.ext hW) (HC.out.ext hW) HRC.out hN2)
    clear hN1 hN2 hge
    generalize closeC t c = J at *
    generalize openC t c = K at *
    go_wp2_with fail
    refine (HC1.out _ HE3.out).mono ?_
    rintro e w4 ⟨u4, rfl, hR4, hX4⟩
    obtain ⟨ua4, uc4, hu4, _⟩ := hR4.any
    subst hu4
    have HI4 := Lib.hid hR4.ints
    clear hR4
    have HE4 := Lib.hid (HE3.out.trans' hX4)
    have HY4 := Lib.hid (hX4.hp HY3.out)
    have t4 := cellOf HY4.out 0
    simp only [List.getElem?_toArray, List.getElem?_cons_zero] at t4
    have HXX4 := Lib.hid hX4
    clear hX4 t3
    go_wp2_with fail
    refine (HC2.out _ HE4.out).mono ?_
    rintro e w5 ⟨u5, rfl, hR5, hX5⟩
    obtain ⟨ua5, uc5, hu5, _⟩ := hR5.any
    subst hu5
    have HI5 := Lib.hid hR5.ints
    clear hR5
    have HE5 := Lib.hid (HE4.out.trans' hX5)
    have HY5 := Lib.hid (hX5.hp HY4.out)
    have t5 := cellOf HY5.out 0
    simp only [List.getElem?_toArray, List.getElem?_cons_zero] at t5
    have HXX5 := Lib.hid hX5
    clear hX5 t4
    go_wp2_with fail
    refine (HC3.out _ HE5.out).mono ?_
    rintro e w6 ⟨rfl, hX6⟩
    have HE6 := Lib.hid (HE5.out.trans' hX6)
    have HY6 := Lib.hid (hX6.hp HY5.out)
    have t6 := cellOf HY6.out 0
    simp only [List.getElem?_toArray, List.getElem?_cons_zero] at t6
    have HXX6 := Lib.hid hX6
    clear hX6 t5
    go_wp2_with fail
    refine (HC4.out _ HE6.out).mono ?_
    rintro e w7 ⟨rfl, hX7⟩
    have HE7 := Lib.hid (HE6.out.trans' hX7)
    have HY7 := Lib.hid (hX7.hp HY6.out)
    have t7 := cellOf HY7.out 0
    simp only [List.getElem?_toArray, List.getElem?_cons_zero] at t7
    have HXX7 := Lib.hid hX7
    clear hX7 t6
    go_wp2_with fail
    refine (HC5.out _ HE7.out).mono ?_
    rintro e w8 ⟨rfl, hX8⟩
    have HE8 := Lib.hid (HE7.out.trans' hX8)
    have HY8 := Lib.hid (hX8.hp HY7.out)
    have t8 := cellOf HY8.out 0
    simp only [List.getElem?_toArray, List.getElem?_cons_zero] at t8
    have HXX8 := Lib.hid hX8
    clear hX8 t7
    go_wp2_with fail
    refine (HC6.out _ HE8.out).mono ?_
    rintro e w9 ⟨u9, rfl, hR9, hX9⟩
    obtain ⟨ua9, uc9, hu9, _⟩ := hR9.any
    subst hu9
    have HI9 := Lib.hid hR9.ints
    have HX58 := Lib.hid (HXX6.out.trans' (HXX7.out.trans' (HXX8.out.trans' hX9)))
    have HQ4 := Lib.hid (HI4.out.ext (HXX5.out.trans' HX58.out))
    have HQ5 := Lib.hid (HI5.out.ext HX58.out)
    have HE9 := Lib.hid (HE8.out.trans' hX9)
    have HY9 := Lib.hid (hX9.hp HY8.out)
    have t9 := cellOf HY9.out 0
    simp only [List.getElem?_toArray, List.getElem?_cons_zero] at t9
    have HXX9 := Lib.hid hX9
    clear hX9 t8
    clear hR9
    go_wp2_with fail
    refine (eqT _ _ J _ HQ4.out HI9.out HZ1.out).mono ?_
    rintro e w10 ⟨rfl, hX10⟩
    have HQ5 := Lib.hid (HQ5.out.ext hX10)
    have HE10 := Lib.hid (HE9.out.trans' hX10)
    have HY10 := Lib.hid (hX10.hp HY9.out)
    have t10 := cellOf HY10.out 0
    simp only [List.getElem?_toArray, List.getElem?_cons_zero] at t10
    have HXX10 := Lib.hid hX10
    clear hX10 t9
    go_wp2_with fail
    refine (HC7.out _ HE10.out).mono ?_
    rintro e w11 ⟨u11, rfl, hR11, hX11⟩
    obtain ⟨ua11, uc11, hu11, _⟩ := hR11.any
    subst hu11
    have HI11 := Lib.hid hR11.ints
    have HE11 := Lib.hid (HE10.out.trans' hX11)
    have HQ5 := Lib.hid (HQ5.out.ext hX11)
    clear hR11 hX11 t10
    go_wp2_with fail
    refine (eqT _ _ K _ HQ5.out HI11.out HZ2.out).mono ?_
    rintro e w12 ⟨rfl, hX12⟩
    go_wp2
    go_ret
    exact ⟨by simp, HE11.out.trans' hX12⟩

end Go.Proofs.Ytijncboddmjdcaa
