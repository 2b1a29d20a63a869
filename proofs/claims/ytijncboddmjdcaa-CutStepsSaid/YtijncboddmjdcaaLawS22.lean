/-
  The statement CutSteps, walked.
-/
import Derived.Test.YtijncboddmjdcaaGa
import Derived.Test.YtijncboddmjdcaaProg
import Derived.BigQuiet
import Derived.Deep.QuietTactic
import Derived.Deep.LoopGhost
import Derived.Shelf.Abstract
import Derived.Test.YtijncboddmjdcaaGl
import Derived.Test.YtijncboddmjdcaaGm
import Derived.Test.YtijncboddmjdcaaGn
import Derived.Test.YtijncboddmjdcaaStepL
import Derived.Test.YtijncboddmjdcaaEqE
namespace Go.Proofs.Ytijncboddmjdcaa
open Go.RowKit
set_option linter.unusedVariables false

set_option maxHeartbeats 16000000 in
set_option maxRecDepth 100000 in
theorem cutSteps_bad (v vc : Value) (t : Tr) (c : List Int) (p : Int) (w : World) (h : TrAt w v t) (htop : TopTr t) (hc : Ints w vc c) (h0 : few22 t = true → c.length ≤ 20 → givenE t [c] [] ≠ 0) :
    Calls Try.prog 5 #[.agg #[v], vc, .int .i64 p] w fun e w' => e = .returned (.bool true) ∧ Ext w w' := by
  have H00 := Lib.hid h0
  clear h0
  have HC := Lib.hid hc
  obtain ⟨ca, cc, rfl, hacc, _⟩ := hc
  obtain ⟨n, hnc⟩ : ∃ n, c.length = n := ⟨_, rfl⟩
  rw [hnc]
  rw [hnc] at HC
  have HNC := Lib.hid hnc
  clear hacc hnc
  have HT := Lib.hid h
  have HFC := Lib.hid (fun W (hW : Ext w W) => few22_calls v t W (h.ext hW) htop)
  obtain ⟨ta, tc, rfl, htc⟩ := h.sh
  obtain ⟨tn, htn⟩ : ∃ n, t.length = n := ⟨_, rfl⟩
  rw [htn] at HFC HT ⊢
  have HTN := Lib.hid htn
  have HX0 := Lib.hid (heap_alloc_new w (.cells #[.slice ta tn tc] 24))
  have HE1 := Lib.hid ((Ext.rf w).al (.cells #[.slice ta tn tc] 24))
  obtain ⟨fw, hfw⟩ : ∃ b, few22 t = b := ⟨_, rfl⟩
  rw [hfw] at HFC
  have HFW := Lib.hid hfw
  clear h htop hfw htc htn
  go_enter Try.func5, Try.ntmps5
  go_wp2_with fail
  refine (awake22_calls _).mono ?_
  rintro e w2 ⟨rfl, hX2⟩
  have HE2 := Lib.hid (HE1.out.trans' hX2)
  have HY2 := Lib.hid (hX2.hp HX0.out)
  have t2 := cellOf HY2.out 0
  simp only [List.getElem?_toArray, List.getElem?_cons_zero] at t2
  clear hX2
  go_wp2_with fail
  refine (HFC.out _ HE2.out).mono ?_
  rintro e w3 ⟨rfl, hX3⟩
  have HE3 := Lib.hid (HE2.out.trans' hX3)
  have HY3 := Lib.hid (hX3.hp HY2.out)
  have t3 := cellOf HY3.out 0
  simp only [List.getElem?_toArray, List.getElem?_cons_zero] at t3
  clear hX3 t2
  cases fw with
  | false =>
    go_wp2_with fail
    refine (awake22_calls _).mono ?_
    rintro e w4 ⟨rfl, hX4⟩
    go_wp2
    go_ret
    exact ⟨rfl, HE3.out.trans' hX4⟩
  | true =>
  by_cases h1 : 20 < n
  · have d1 : decide (20 < (n : Int)) = true := decide_eq_true (by omega)
    have d1n : decide (20 < n) = true := decide_eq_true h1
    clear h1
    go_wp2_with fail
    refine (awake22_calls _).mono ?_
    rintro e w4 ⟨rfl, hX4⟩
    go_wp2
    go_ret
    exact ⟨rfl, HE3.out.trans' hX4⟩
  have d1 : decide (20 < (n : Int)) = false := decide_eq_false (by omega)
  have d1n : decide (20 < n) = false := decide_eq_false h1
  have HLO := Lib.hid (few22_loose HFW.out).1
  have h0 := H00.out HFW.out (by rw [HNC.out]; omega)
  have HC1 := Lib.hid (fun W (hW : Ext w W) => frontierP_calls _ _ t c W (HT.out.ext hW) HLO.out (HC.out.ext hW))
  have HC2 := Lib.hid (fun W (hW : Ext w W) => enabledP_calls _ _ t c W (HT.out.ext hW) HLO.out (HC.out.ext hW))
  have HC3 := Lib.hid (fun W (hW : Ext w W) => advanceP_calls _ _ t c p W (HT.out.ext hW) HLO.out (HC.out.ext hW) (by rw [HNC.out]; omega))
  have HC4 := Lib.hid (fun W (hW : Ext w W) => faultC_calls _ _ _ t c c W (HT.out.ext hW) HLO.out (HC.out.ext hW) (HC.out.ext hW))
  have HPR : Hid (SmallTr t → ∀ W, Ext w W → Calls Try.prog 27 #[.agg #[.slice ta tn tc], .int .i64 p] W fun e w' => e = .returned (.bool (decide (0 ≤ p) && decide (p < (t.length : Int)))) ∧ Ext W w') := Lib.hid (fun hs W hW => procR_calls _ t p W (HT.out.ext hW) hs)
  rw [given_dup] at HC4
  have hae := advE_bad (p := p) h0
  rw [if_neg h0] at HC1 HC2
  generalize hpb : (decide (0 ≤ p) && decide (p < (t.length : Int))) = pb at *
  rcases given_vals t c with hE | hE | hE | hE
  · exact absurd hE h0
  · rw [hE] at HC1 HC2 HC4 hae
    rw [if_neg (by simp)] at hae
    rw [hae, if_neg (by decide)] at HC3
    clear h0 h1 hE hae hpb
    go_wp2_with fail
    refine (HC1.out _ HE3.out).mono ?_
    rintro e w4 ⟨u4, rfl, hR4, hX4⟩
    obtain ⟨ua4, uc4, hu4, _⟩ := hR4.any
    subst hu4
    have HI4 := Lib.hid hR4.cells
    clear hR4
    have HE4 := Lib.hid (HE3.out.trans' hX4)
    have HY4 := Lib.hid (hX4.hp HY3.out)
    have t4 := cellOf HY4.out 0
    simp only [List.getElem?_toArray, List.getElem?_cons_zero] at t4
    have HXX4 := Lib.hid hX4
    clear hX4 t3
    go_wp2_with fail
    refine (HC2.out _ HE4.out).mono ?_
    rintro e w5 ⟨u5, rfl, hR5, hX5⟩
    obtain ⟨ua5, uc5, hu5, _⟩ := hR5.any
    subst hu5
    have HI5 := Lib.hid hR5.ints
    clear hR5
    have HE5 := Lib.hid (HE4.out.trans' hX5)
    have HY5 := Lib.hid (hX5.hp HY4.out)
    have t5 := cellOf HY5.out 0
    simp only [List.getElem?_toArray, List.getElem?_cons_zero] at t5
    have HXX5 := Lib.hid hX5
    clear hX5 t4
    go_wp2_with fail
    refine (HC3.out _ HE5.out).mono ?_
    rintro e w6 ⟨u6, rfl, hR6, hX6⟩
    obtain ⟨ua6, uc6, hu6, _⟩ := hR6.any
    subst hu6
    have HI6 := Lib.hid hR6.ints
    clear hR6
    have HE6 := Lib.hid (HE5.out.trans' hX6)
    have HY6 := Lib.hid (hX6.hp HY5.out)
    have t6 := cellOf HY6.out 0
    simp only [List.getElem?_toArray, List.getElem?_cons_zero] at t6
    have HXX6 := Lib.hid hX6
    clear hX6 t5
    go_wp2_with fail
    refine (HC4.out _ HE6.out).mono ?_
    rintro e w7 ⟨rfl, hX7⟩
    have HE7 := Lib.hid (HE6.out.trans' hX7)
    have HY7 := Lib.hid (hX7.hp HY6.out)
    have t7 := cellOf HY7.out 0
    simp only [List.getElem?_toArray, List.getElem?_cons_zero] at t7
    have HXX7 := Lib.hid hX7
    clear hX7 t6
    go_wp2
    go_ret
    exact ⟨by simp, HE7.out⟩
  · rw [hE] at HC1 HC2 HC4 hae
    rw [if_neg (by simp)] at hae
    rw [hae, if_neg (by decide)] at HC3
    clear h0 h1 hE hae hpb
    go_wp2_with fail
    refine (HC1.out _ HE3.out).mono ?_
    rintro e w4 ⟨u4, rfl, hR4, hX4⟩
    obtain ⟨ua4, uc4, hu4, _⟩ := hR4.any
    subst hu4
    have HI4 := Lib.hid hR4.cells
    clear hR4
    have HE4 := Lib.hid (HE3.out.trans' hX4)
    have HY4 := Lib.hid (hX4.hp HY3.out)
    have t4 := cellOf HY4.out 0
    simp only [List.getElem?_toArray, List.getElem?_cons_zero] at t4
    have HXX4 := Lib.hid hX4
    clear hX4 t3
    go_wp2_with fail
    refine (HC2.out _ HE4.out).mono ?_
    rintro e w5 ⟨u5, rfl, hR5, hX5⟩
    obtain ⟨ua5, uc5, hu5, _⟩ := hR5.any
    subst hu5
    have HI5 := Lib.hid hR5.ints
    clear hR5
    have HE5 := Lib.hid (HE4.out.trans' hX5)
    have HY5 := Lib.hid (hX5.hp HY4.out)
    have t5 := cellOf HY5.out 0
    simp only [List.getElem?_toArray, List.getElem?_cons_zero] at t5
    have HXX5 := Lib.hid hX5
    clear hX5 t4
    go_wp2_with fail
    refine (HC3.out _ HE5.out).mono ?_
    rintro e w6 ⟨u6, rfl, hR6, hX6⟩
    obtain ⟨ua6, uc6, hu6, _⟩ := hR6.any
    subst hu6
    have HI6 := Lib.hid hR6.ints
    clear hR6
    have HE6 := Lib.hid (HE5.out.trans' hX6)
    have HY6 := Lib.hid (hX6.hp HY5.out)
    have t6 := cellOf HY6.out 0
    simp only [List.getElem?_toArray, List.getElem?_cons_zero] at t6
    have HXX6 := Lib.hid hX6
    clear hX6 t5
    go_wp2_with fail
    refine (HC4.out _ HE6.out).mono ?_
    rintro e w7 ⟨rfl, hX7⟩
    have HE7 := Lib.hid (HE6.out.trans' hX7)
    have HY7 := Lib.hid (hX7.hp HY6.out)
    have t7 := cellOf HY7.out 0
    simp only [List.getElem?_toArray, List.getElem?_cons_zero] at t7
    have HXX7 := Lib.hid hX7
    clear hX7 t6
    go_wp2
    go_ret
    exact ⟨by simp, HE7.out⟩
  · have HSM := Lib.hid (show SmallTr t from by
      refine valid_small ?_
      cases hv : validT t with
      | true => rfl
      | false => exact absurd hE (by unfold givenE; rw [hv]; simp))
    have HPR := Lib.hid (HPR.out HSM.out)
    rw [hE] at HC1 HC2 HC4 hae
    cases pb with
    | false =>
      rw [if_pos ⟨rfl, rfl⟩] at hae
      rw [hae, if_neg (by decide)] at HC3
      clear h0 h1 hE hae hpb
      go_wp2_with fail
      refine (HC1.out _ HE3.out).mono ?_
      rintro e w4 ⟨u4, rfl, hR4, hX4⟩
      obtain ⟨ua4, uc4, hu4, _⟩ := hR4.any
      subst hu4
      have HI4 := Lib.hid hR4.cells
      clear hR4
      have HE4 := Lib.hid (HE3.out.trans' hX4)
      have HY4 := Lib.hid (hX4.hp HY3.out)
      have t4 := cellOf HY4.out 0
      simp only [List.getElem?_toArray, List.getElem?_cons_zero] at t4
      have HXX4 := Lib.hid hX4
      clear hX4 t3
      go_wp2_with fail
      refine (HC2.out _ HE4.out).mono ?_
      rintro e w5 ⟨u5, rfl, hR5, hX5⟩
      obtain ⟨ua5, uc5, hu5, _⟩ := hR5.any
      subst hu5
      have HI5 := Lib.hid hR5.ints
      clear hR5
      have HE5 := Lib.hid (HE4.out.trans' hX5)
      have HY5 := Lib.hid (hX5.hp HY4.out)
      have t5 := cellOf HY5.out 0
      simp only [List.getElem?_toArray, List.getElem?_cons_zero] at t5
      have HXX5 := Lib.hid hX5
      clear hX5 t4
      go_wp2_with fail
      refine (HC3.out _ HE5.out).mono ?_
      rintro e w6 ⟨u6, rfl, hR6, hX6⟩
      obtain ⟨ua6, uc6, hu6, _⟩ := hR6.any
      subst hu6
      have HI6 := Lib.hid hR6.ints
      clear hR6
      have HE6 := Lib.hid (HE5.out.trans' hX6)
      have HY6 := Lib.hid (hX6.hp HY5.out)
      have t6 := cellOf HY6.out 0
      simp only [List.getElem?_toArray, List.getElem?_cons_zero] at t6
      have HXX6 := Lib.hid hX6
      clear hX6 t5
      go_wp2_with fail
      refine (HC4.out _ HE6.out).mono ?_
      rintro e w7 ⟨rfl, hX7⟩
      have HE7 := Lib.hid (HE6.out.trans' hX7)
      have HY7 := Lib.hid (hX7.hp HY6.out)
      have t7 := cellOf HY7.out 0
      simp only [List.getElem?_toArray, List.getElem?_cons_zero] at t7
      have HXX7 := Lib.hid hX7
      clear hX7 t6
      go_wp2_with fail
      refine (HPR.out _ HE7.out).mono ?_
      rintro e w8 ⟨rfl, hX8⟩
      have HE8 := Lib.hid (HE7.out.trans' hX8)
      have HY8 := Lib.hid (hX8.hp HY7.out)
      have t8 := cellOf HY8.out 0
      simp only [List.getElem?_toArray, List.getElem?_cons_zero] at t8
      have HXX8 := Lib.hid hX8
      clear hX8 t7
      go_wp2
      go_ret
      exact ⟨by simp, HE8.out⟩
    | true =>
      rw [if_neg (by simp)] at hae
      rw [hae, if_neg (by decide)] at HC3
      clear h0 h1 hE hae hpb
      go_wp2_with fail
      refine (HC1.out _ HE3.out).mono ?_
      rintro e w4 ⟨u4, rfl, hR4, hX4⟩
      obtain ⟨ua4, uc4, hu4, _⟩ := hR4.any
      subst hu4
      have HI4 := Lib.hid hR4.cells
      clear hR4
      have HE4 := Lib.hid (HE3.out.trans' hX4)
      have HY4 := Lib.hid (hX4.hp HY3.out)
      have t4 := cellOf HY4.out 0
      simp only [List.getElem?_toArray, List.getElem?_cons_zero] at t4
      have HXX4 := Lib.hid hX4
      clear hX4 t3
      go_wp2_with fail
      refine (HC2.out _ HE4.out).mono ?_
      rintro e w5 ⟨u5, rfl, hR5, hX5⟩
      obtain ⟨ua5, uc5, hu5, _⟩ := hR5.any
      subst hu5
      have HI5 := Lib.hid hR5.ints
      clear hR5
      have HE5 := Lib.hid (HE4.out.trans' hX5)
      have HY5 := Lib.hid (hX5.hp HY4.out)
      have t5 := cellOf HY5.out 0
      simp only [List.getElem?_toArray, List.getElem?_cons_zero] at t5
      have HXX5 := Lib.hid hX5
      clear hX5 t4
      go_wp2_with fail
      refine (HC3.out _ HE5.out).mono ?_
      rintro e w6 ⟨u6, rfl, hR6, hX6⟩
      obtain ⟨ua6, uc6, hu6, _⟩ := hR6.any
      subst hu6
      have HI6 := Lib.hid hR6.ints
      clear hR6
      have HE6 := Lib.hid (HE5.out.trans' hX6)
      have HY6 := Lib.hid (hX6.hp HY5.out)
      have t6 := cellOf HY6.out 0
      simp only [List.getElem?_toArray, List.getElem?_cons_zero] at t6
      have HXX6 := Lib.hid hX6
      clear hX6 t5
      go_wp2_with fail
      refine (HC4.out _ HE6.out).mono ?_
      rintro e w7 ⟨rfl, hX7⟩
      have HE7 := Lib.hid (HE6.out.trans' hX7)
      have HY7 := Lib.hid (hX7.hp HY6.out)
      have t7 := cellOf HY7.out 0
      simp only [List.getElem?_toArray, List.getElem?_cons_zero] at t7
      have HXX7 := Lib.hid hX7
      clear hX7 t6
      go_wp2_with fail
      refine (HPR.out _ HE7.out).mono ?_
      rintro e w8 ⟨rfl, hX8⟩
      have HE8 := Lib.hid (HE7.out.trans' hX8)
      have HY8 := Lib.hid (hX8.hp HY7.out)
      have t8 := cellOf HY8.out 0
      simp only [List.getElem?_toArray, List.getElem?_cons_zero] at t8
      have HXX8 := Lib.hid hX8
      clear hX8 t7
      go_wp2
      go_ret
      exact ⟨by simp, HE8.out⟩

set_option maxHeartbeats 16000000 in
set_option maxRecDepth 100000 in
theorem cutSteps_ok (v vc : Value) (t : Tr) (c : List Int) (p : Int) (w : World) (h : TrAt w v t) (htop : TopTr t) (hc : Ints w vc c) (h0 : givenE t [c] [] = 0) (hf : few22 t = true) (hc20 : c.length ≤ 20) :
    Calls Try.prog 5 #[.agg #[v], vc, .int .i64 p] w fun e w' => e = .returned (.bool true) ∧ Ext w w' := by
  have H0 := Lib.hid h0
  have HCN := Lib.hid hc20
  have hvc := consB_iff.1 ((givenE_one t c).1 h0)
  have HV := Lib.hid hvc.1
  have HCO := Lib.hid hvc.2
  have HSM := Lib.hid (valid_small hvc.1)
  have HFT := Lib.hid hf
  clear h0 hvc hc20 hf
  have HC := Lib.hid hc
  obtain ⟨ca, cc, rfl, hacc, _⟩ := hc
  obtain ⟨n, hnc⟩ : ∃ n, c.length = n := ⟨_, rfl⟩
  rw [hnc]
  rw [hnc] at HC
  have HNC := Lib.hid hnc
  clear hacc hnc
  have HT := Lib.hid h
  have HFC := Lib.hid (fun W (hW : Ext w W) => few22_calls v t W (h.ext hW) htop)
  obtain ⟨ta, tc, rfl, htc⟩ := h.sh
  obtain ⟨tn, htn⟩ : ∃ n, t.length = n := ⟨_, rfl⟩
  rw [htn] at HFC HT ⊢
  have HTN := Lib.hid htn
  have HX0 := Lib.hid (heap_alloc_new w (.cells #[.slice ta tn tc] 24))
  have HE1 := Lib.hid ((Ext.rf w).al (.cells #[.slice ta tn tc] 24))
  obtain ⟨fw, hfw⟩ : ∃ b, few22 t = b := ⟨_, rfl⟩
  rw [hfw] at HFC
  have HFW := Lib.hid hfw
  clear h htop hfw htc htn
  go_enter Try.func5, Try.ntmps5
  go_wp2_with fail
  refine (awake22_calls _).mono ?_
  rintro e w2 ⟨rfl, hX2⟩
  have HE2 := Lib.hid (HE1.out.trans' hX2)
  have HY2 := Lib.hid (hX2.hp HX0.out)
  have t2 := cellOf HY2.out 0
  simp only [List.getElem?_toArray, List.getElem?_cons_zero] at t2
  clear hX2
  go_wp2_with fail
  refine (HFC.out _ HE2.out).mono ?_
  rintro e w3 ⟨rfl, hX3⟩
  have HE3 := Lib.hid (HE2.out.trans' hX3)
  have HY3 := Lib.hid (hX3.hp HY2.out)
  have t3 := cellOf HY3.out 0
  simp only [List.getElem?_toArray, List.getElem?_cons_zero] at t3
  clear hX3 t2
  obtain rfl : fw = true := HFW.out.symm.trans HFT.out
  have hn20 : n ≤ 20 := by rw [← HNC.out]; exact HCN.out
  have d1 : decide (20 < (n : Int)) = false := decide_eq_false (by omega)
  have d1n : decide (20 < n) = false := decide_eq_false (by omega)
  have HLO := Lib.hid (few22_loose HFW.out).1
  have HC1 := Lib.hid (fun W (hW : Ext w W) => frontierP_calls _ _ t c W (HT.out.ext hW) HLO.out (HC.out.ext hW))
  have HC2 := Lib.hid (fun W (hW : Ext w W) => enabledP_calls _ _ t c W (HT.out.ext hW) HLO.out (HC.out.ext hW))
  have HC3 := Lib.hid (fun W (hW : Ext w W) => advanceP_calls _ _ t c p W (HT.out.ext hW) HLO.out (HC.out.ext hW) (by rw [HNC.out]; omega))
  have HC4 := Lib.hid (fun W (hW : Ext w W) => faultC_calls _ _ _ t c c W (HT.out.ext hW) HLO.out (HC.out.ext hW) (HC.out.ext hW))
  have HC5 := Lib.hid (fun W (hW : Ext w W) => frontierR_calls _ c W (HC.out.ext hW) (by rw [HNC.out]; omega))
  have HC6 := Lib.hid (fun W (hW : Ext w W) => enabledR_calls _ _ t c W (HT.out.ext hW) HSM.out HV.out (HC.out.ext hW) HCO.out.1)
  have HPR := Lib.hid (fun W (hW : Ext w W) => procR_calls _ t p W (HT.out.ext hW) HSM.out)
  rw [given_dup] at HC4
  rw [if_pos H0.out] at HC1 HC2
  rw [H0.out] at HC1 HC2 HC4
  have HZ1 : Hid ((frontC c).length ≤ 1000000) := Lib.hid (by have := frTo_len c c.length; unfold frontC; rw [HNC.out] at this ⊢; omega)
  have HZ2 : Hid ((enabledC t c).length ≤ 1000000) := Lib.hid (by have := enTo_len t c c.length; unfold enabledC; rw [HNC.out] at this ⊢; omega)
  generalize frontC c = F at *
  generalize enabledC t c = G at *
  cases hpb : (decide (0 ≤ p) && decide (p < (t.length : Int))) with
  | false =>
    have hae := advE_out (p := p) H0.out hpb
    rw [hae, if_neg (by decide)] at HC3
    rw [hpb] at HPR
    clear hae hpb hn20
    go_wp2_with fail
    refine (HC1.out _ HE3.out).mono ?_
    rintro e w4 ⟨u4, rfl, hR4, hX4⟩
    obtain ⟨ua4, uc4, hu4, _⟩ := hR4.any
    subst hu4
    have HI4 := Lib.hid hR4.cells
    clear hR4
    have HE4 := Lib.hid (HE3.out.trans' hX4)
    have HY4 := Lib.hid (hX4.hp HY3.out)
    have t4 := cellOf HY4.out 0
    simp only [List.getElem?_toArray, List.getElem?_cons_zero] at t4
    have HXX4 := Lib.hid hX4
    clear hX4 t3
    go_wp2_with fail
    refine (HC2.out _ HE4.out).mono ?_
    rintro e w5 ⟨u5, rfl, hR5, hX5⟩
    obtain ⟨ua5, uc5, hu5, _⟩ := hR5.any
    subst hu5
    have HI5 := Lib.hid hR5.ints
    clear hR5
    have HE5 := Lib.hid (HE4.out.trans' hX5)
    have HY5 := Lib.hid (hX5.hp HY4.out)
    have t5 := cellOf HY5.out 0
    simp only [List.getElem?_toArray, List.getElem?_cons_zero] at t5
    have HXX5 := Lib.hid hX5
    clear hX5 t4
    go_wp2_with fail
    refine (HC3.out _ HE5.out).mono ?_
    rintro e w6 ⟨u6, rfl, hR6, hX6⟩
    obtain ⟨ua6, uc6, hu6, _⟩ := hR6.any
    subst hu6
    have HI6 := Lib.hid hR6.ints
    clear hR6
    have HE6 := Lib.hid (HE5.out.trans' hX6)
    have HY6 := Lib.hid (hX6.hp HY5.out)
    have t6 := cellOf HY6.out 0
    simp only [List.getElem?_toArray, List.getElem?_cons_zero] at t6
    have HXX6 := Lib.hid hX6
    clear hX6 t5
    go_wp2_with fail
    refine (HC4.out _ HE6.out).mono ?_
    rintro e w7 ⟨rfl, hX7⟩
    have HE7 := Lib.hid (HE6.out.trans' hX7)
    have HY7 := Lib.hid (hX7.hp HY6.out)
    have t7 := cellOf HY7.out 0
    simp only [List.getElem?_toArray, List.getElem?_cons_zero] at t7
    have HXX7 := Lib.hid hX7
    clear hX7 t6
    go_wp2_with fail
    refine (HC5.out _ HE7.out).mono ?_
    rintro e w8 ⟨u8, rfl, hR8, hX8⟩
    obtain ⟨ua8, uc8, hu8, _⟩ := hR8.any
    subst hu8
    have HI8 := Lib.hid hR8.cells
    have HX47 := Lib.hid (HXX5.out.trans' (HXX6.out.trans' HXX7.out))
    have HQ4 := Lib.hid (HI4.out.ext (HX47.out.trans' hX8))
    clear hR8
    have HE8 := Lib.hid (HE7.out.trans' hX8)
    have HY8 := Lib.hid (hX8.hp HY7.out)
    have t8 := cellOf HY8.out 0
    simp only [List.getElem?_toArray, List.getElem?_cons_zero] at t8
    have HXX8 := Lib.hid hX8
    clear hX8 t7
    go_wp2_with fail
    refine (equalE_calls _ _ F _ HQ4.out HI8.out HZ1.out).mono ?_
    rintro e w9 ⟨rfl, hX9⟩
    have HE9 := Lib.hid (HE8.out.trans' hX9)
    have HY9 := Lib.hid (hX9.hp HY8.out)
    have t9 := cellOf HY9.out 0
    simp only [List.getElem?_toArray, List.getElem?_cons_zero] at t9
    have HXX9 := Lib.hid hX9
    clear hX9 t8
    go_wp2_with fail
    refine (HC6.out _ HE9.out).mono ?_
    rintro e w10 ⟨u10, rfl, hR10, hX10⟩
    obtain ⟨ua10, uc10, hu10, _⟩ := hR10.any
    subst hu10
    have HI10 := Lib.hid hR10.ints
    have HX710 := Lib.hid (HXX8.out.trans' (HXX9.out.trans' hX10))
    have HQ5 := Lib.hid (HI5.out.ext (HXX6.out.trans' (HXX7.out.trans' HX710.out)))
    have HQ6 := Lib.hid (HI6.out.ext (HXX7.out.trans' HX710.out))
    clear hR10
    have HE10 := Lib.hid (HE9.out.trans' hX10)
    have HY10 := Lib.hid (hX10.hp HY9.out)
    have t10 := cellOf HY10.out 0
    simp only [List.getElem?_toArray, List.getElem?_cons_zero] at t10
    have HXX10 := Lib.hid hX10
    clear hX10 t9
    go_wp2_with fail
    refine (eqT _ _ G _ HQ5.out HI10.out HZ2.out).mono ?_
    rintro e w11 ⟨rfl, hX11⟩
    have HQ6 := Lib.hid (HQ6.out.ext hX11)
    have HE11 := Lib.hid (HE10.out.trans' hX11)
    have HY11 := Lib.hid (hX11.hp HY10.out)
    have t11 := cellOf HY11.out 0
    simp only [List.getElem?_toArray, List.getElem?_cons_zero] at t11
    have HXX11 := Lib.hid hX11
    clear hX11 t10
    go_wp2_with fail
    refine (HPR.out _ HE11.out).mono ?_
    rintro e w12 ⟨rfl, hX12⟩
    have HE12 := Lib.hid (HE11.out.trans' hX12)
    have HY12 := Lib.hid (hX12.hp HY11.out)
    have t12 := cellOf HY12.out 0
    simp only [List.getElem?_toArray, List.getElem?_cons_zero] at t12
    have HXX12 := Lib.hid hX12
    clear hX12 t11
    go_wp2
    go_ret
    exact ⟨by simp, HE12.out⟩
  | true =>
    rw [hpb] at HPR
    have hpp : 0 ≤ p ∧ p < (t.length : Int) := by simpa using hpb
    obtain ⟨P, rfl⟩ : ∃ P : Nat, p = (P : Int) := ⟨p.toNat, by omega⟩
    have hPL : P < t.length := by omega
    have hae := advE_ok H0.out hPL
    rw [Int.toNat_natCast] at HC3
    have HMO := Lib.hid (fun W (hW : Ext w W) => moreR_calls _ _ t c P W (HT.out.ext hW) HSM.out (HC.out.ext hW) HCO.out.1.1 hPL)
    have hkr := HCO.out.1.at hPL
    have hen := (HSM.out.2 P hPL).2.1
    by_cases hlt : c[P]! < (t[P]!.events.length : Int)
    case neg =>
      rw [decide_eq_false hlt] at HMO
      rw [if_neg hlt] at hae
      rw [hae, if_neg (by decide)] at HC3
      clear hae hpb hn20 hpp hPL hkr hen hlt
      go_wp2_with fail
      refine (HC1.out _ HE3.out).mono ?_
      rintro e w4 ⟨u4, rfl, hR4, hX4⟩
      obtain ⟨ua4, uc4, hu4, _⟩ := hR4.any
      subst hu4
      have HI4 := Lib.hid hR4.cells
      clear hR4
      have HE4 := Lib.hid (HE3.out.trans' hX4)
      have HY4 := Lib.hid (hX4.hp HY3.out)
      have t4 := cellOf HY4.out 0
      simp only [List.getElem?_toArray, List.getElem?_cons_zero] at t4
      have HXX4 := Lib.hid hX4
      clear hX4 t3
      go_wp2_with fail
      refine (HC2.out _ HE4.out).mono ?_
      rintro e w5 ⟨u5, rfl, hR5, hX5⟩
      obtain ⟨ua5, uc5, hu5, _⟩ := hR5.any
      subst hu5
      have HI5 := Lib.hid hR5.ints
      clear hR5
      have HE5 := Lib.hid (HE4.out.trans' hX5)
      have HY5 := Lib.hid (hX5.hp HY4.out)
      have t5 := cellOf HY5.out 0
      simp only [List.getElem?_toArray, List.getElem?_cons_zero] at t5
      have HXX5 := Lib.hid hX5
      clear hX5 t4
      go_wp2_with fail
      refine (HC3.out _ HE5.out).mono ?_
      rintro e w6 ⟨u6, rfl, hR6, hX6⟩
      obtain ⟨ua6, uc6, hu6, _⟩ := hR6.any
      subst hu6
      have HI6 := Lib.hid hR6.ints
      clear hR6
      have HE6 := Lib.hid (HE5.out.trans' hX6)
      have HY6 := Lib.hid (hX6.hp HY5.out)
      have t6 := cellOf HY6.out 0
      simp only [List.getElem?_toArray, List.getElem?_cons_zero] at t6
      have HXX6 := Lib.hid hX6
      clear hX6 t5
      go_wp2_with fail
      refine (HC4.out _ HE6.out).mono ?_
      rintro e w7 ⟨rfl, hX7⟩
      have HE7 := Lib.hid (HE6.out.trans' hX7)
      have HY7 := Lib.hid (hX7.hp HY6.out)
      have t7 := cellOf HY7.out 0
      simp only [List.getElem?_toArray, List.getElem?_cons_zero] at t7
      have HXX7 := Lib.hid hX7
      clear hX7 t6
      go_wp2_with fail
      refine (HC5.out _ HE7.out).mono ?_
      rintro e w8 ⟨u8, rfl, hR8, hX8⟩
      obtain ⟨ua8, uc8, hu8, _⟩ := hR8.any
      subst hu8
      have HI8 := Lib.hid hR8.cells
      have HX47 := Lib.hid (HXX5.out.trans' (HXX6.out.trans' HXX7.out))
      have HQ4 := Lib.hid (HI4.out.ext (HX47.out.trans' hX8))
      clear hR8
      have HE8 := Lib.hid (HE7.out.trans' hX8)
      have HY8 := Lib.hid (hX8.hp HY7.out)
      have t8 := cellOf HY8.out 0
      simp only [List.getElem?_toArray, List.getElem?_cons_zero] at t8
      have HXX8 := Lib.hid hX8
      clear hX8 t7
      go_wp2_with fail
      refine (equalE_calls _ _ F _ HQ4.out HI8.out HZ1.out).mono ?_
      rintro e w9 ⟨rfl, hX9⟩
      have HE9 := Lib.hid (HE8.out.trans' hX9)
      have HY9 := Lib.hid (hX9.hp HY8.out)
      have t9 := cellOf HY9.out 0
      simp only [List.getElem?_toArray, List.getElem?_cons_zero] at t9
      have HXX9 := Lib.hid hX9
      clear hX9 t8
      go_wp2_with fail
      refine (HC6.out _ HE9.out).mono ?_
      rintro e w10 ⟨u10, rfl, hR10, hX10⟩
      obtain ⟨ua10, uc10, hu10, _⟩ := hR10.any
      subst hu10
      have HI10 := Lib.hid hR10.ints
      have HX710 := Lib.hid (HXX8.out.trans' (HXX9.out.trans' hX10))
      have HQ5 := Lib.hid (HI5.out.ext (HXX6.out.trans' (HXX7.out.trans' HX710.out)))
      have HQ6 := Lib.hid (HI6.out.ext (HXX7.out.trans' HX710.out))
      clear hR10
      have HE10 := Lib.hid (HE9.out.trans' hX10)
      have HY10 := Lib.hid (hX10.hp HY9.out)
      have t10 := cellOf HY10.out 0
      simp only [List.getElem?_toArray, List.getElem?_cons_zero] at t10
      have HXX10 := Lib.hid hX10
      clear hX10 t9
      go_wp2_with fail
      refine (eqT _ _ G _ HQ5.out HI10.out HZ2.out).mono ?_
      rintro e w11 ⟨rfl, hX11⟩
      have HQ6 := Lib.hid (HQ6.out.ext hX11)
      have HE11 := Lib.hid (HE10.out.trans' hX11)
      have HY11 := Lib.hid (hX11.hp HY10.out)
      have t11 := cellOf HY11.out 0
      simp only [List.getElem?_toArray, List.getElem?_cons_zero] at t11
      have HXX11 := Lib.hid hX11
      clear hX11 t10
      go_wp2_with fail
      refine (HPR.out _ HE11.out).mono ?_
      rintro e w12 ⟨rfl, hX12⟩
      have HE12 := Lib.hid (HE11.out.trans' hX12)
      have HY12 := Lib.hid (hX12.hp HY11.out)
      have t12 := cellOf HY12.out 0
      simp only [List.getElem?_toArray, List.getElem?_cons_zero] at t12
      have HXX12 := Lib.hid hX12
      clear hX12 t11
      go_wp2_with fail
      refine (HMO.out _ HE12.out).mono ?_
      rintro e w13 ⟨rfl, hX13⟩
      have HE13 := Lib.hid (HE12.out.trans' hX13)
      have HY13 := Lib.hid (hX13.hp HY12.out)
      have t13 := cellOf HY13.out 0
      simp only [List.getElem?_toArray, List.getElem?_cons_zero] at t13
      have HXX13 := Lib.hid hX13
      clear hX13 t12
      go_wp2
      go_ret
      exact ⟨by simp, HE13.out⟩
    case pos =>
      rw [decide_eq_true hlt] at HMO
      rw [if_pos hlt] at hae
      have HWI := Lib.hid (fun W (hW : Ext w W) => withR_calls _ c P W (HC.out.ext hW) (by rw [HNC.out]; omega) (by have := HCO.out.1.1; omega) ⟨hkr.1, by omega⟩)
      have HWC := Lib.hid (with_cons HV.out HCO.out hPL hlt)
      have HCW := Lib.hid (fun W (hW : Ext w W) u (hu : Ints W u (withC c P)) => consistentR_calls _ u t (withC c P) W (HT.out.ext hW) HLO.out hu)
      rw [HWC.out] at HCW
      have HZ3 : Hid ((withC c P).length ≤ 1000000) := Lib.hid (by rw [withC_len, HNC.out]; omega)
      cases hsb : sentB t c (P, c[P]!.toNat) with
      | false =>
        rw [hsb, if_neg (by decide)] at hae
        rw [hae, if_neg (by decide)] at HC3
        rw [hsb] at HCW
        generalize withC c P = D at *
        clear hae hpb hn20 hpp hPL hkr hen hlt hsb
        go_wp2_with fail
        refine (HC1.out _ HE3.out).mono ?_
        rintro e w4 ⟨u4, rfl, hR4, hX4⟩
        obtain ⟨ua4, uc4, hu4, _⟩ := hR4.any
        subst hu4
        have HI4 := Lib.hid hR4.cells
        clear hR4
        have HE4 := Lib.hid (HE3.out.trans' hX4)
        have HY4 := Lib.hid (hX4.hp HY3.out)
        have t4 := cellOf HY4.out 0
        simp only [List.getElem?_toArray, List.getElem?_cons_zero] at t4
        have HXX4 := Lib.hid hX4
        clear hX4 t3
        go_wp2_with fail
        refine (HC2.out _ HE4.out).mono ?_
        rintro e w5 ⟨u5, rfl, hR5, hX5⟩
        obtain ⟨ua5, uc5, hu5, _⟩ := hR5.any
        subst hu5
        have HI5 := Lib.hid hR5.ints
        clear hR5
        have HE5 := Lib.hid (HE4.out.trans' hX5)
        have HY5 := Lib.hid (hX5.hp HY4.out)
        have t5 := cellOf HY5.out 0
        simp only [List.getElem?_toArray, List.getElem?_cons_zero] at t5
        have HXX5 := Lib.hid hX5
        clear hX5 t4
        go_wp2_with fail
        refine (HC3.out _ HE5.out).mono ?_
        rintro e w6 ⟨u6, rfl, hR6, hX6⟩
        obtain ⟨ua6, uc6, hu6, _⟩ := hR6.any
        subst hu6
        have HI6 := Lib.hid hR6.ints
        clear hR6
        have HE6 := Lib.hid (HE5.out.trans' hX6)
        have HY6 := Lib.hid (hX6.hp HY5.out)
        have t6 := cellOf HY6.out 0
        simp only [List.getElem?_toArray, List.getElem?_cons_zero] at t6
        have HXX6 := Lib.hid hX6
        clear hX6 t5
        go_wp2_with fail
        refine (HC4.out _ HE6.out).mono ?_
        rintro e w7 ⟨rfl, hX7⟩
        have HE7 := Lib.hid (HE6.out.trans' hX7)
        have HY7 := Lib.hid (hX7.hp HY6.out)
        have t7 := cellOf HY7.out 0
        simp only [List.getElem?_toArray, List.getElem?_cons_zero] at t7
        have HXX7 := Lib.hid hX7
        clear hX7 t6
        go_wp2_with fail
        refine (HC5.out _ HE7.out).mono ?_
        rintro e w8 ⟨u8, rfl, hR8, hX8⟩
        obtain ⟨ua8, uc8, hu8, _⟩ := hR8.any
        subst hu8
        have HI8 := Lib.hid hR8.cells
        have HX47 := Lib.hid (HXX5.out.trans' (HXX6.out.trans' HXX7.out))
        have HQ4 := Lib.hid (HI4.out.ext (HX47.out.trans' hX8))
        clear hR8
        have HE8 := Lib.hid (HE7.out.trans' hX8)
        have HY8 := Lib.hid (hX8.hp HY7.out)
        have t8 := cellOf HY8.out 0
        simp only [List.getElem?_toArray, List.getElem?_cons_zero] at t8
        have HXX8 := Lib.hid hX8
        clear hX8 t7
        go_wp2_with fail
        refine (equalE_calls _ _ F _ HQ4.out HI8.out HZ1.out).mono ?_
        rintro e w9 ⟨rfl, hX9⟩
        have HE9 := Lib.hid (HE8.out.trans' hX9)
        have HY9 := Lib.hid (hX9.hp HY8.out)
        have t9 := cellOf HY9.out 0
        simp only [List.getElem?_toArray, List.getElem?_cons_zero] at t9
        have HXX9 := Lib.hid hX9
        clear hX9 t8
        go_wp2_with fail
        refine (HC6.out _ HE9.out).mono ?_
        rintro e w10 ⟨u10, rfl, hR10, hX10⟩
        obtain ⟨ua10, uc10, hu10, _⟩ := hR10.any
        subst hu10
        have HI10 := Lib.hid hR10.ints
        have HX710 := Lib.hid (HXX8.out.trans' (HXX9.out.trans' hX10))
        have HQ5 := Lib.hid (HI5.out.ext (HXX6.out.trans' (HXX7.out.trans' HX710.out)))
        have HQ6 := Lib.hid (HI6.out.ext (HXX7.out.trans' HX710.out))
        clear hR10
        have HE10 := Lib.hid (HE9.out.trans' hX10)
        have HY10 := Lib.hid (hX10.hp HY9.out)
        have t10 := cellOf HY10.out 0
        simp only [List.getElem?_toArray, List.getElem?_cons_zero] at t10
        have HXX10 := Lib.hid hX10
        clear hX10 t9
        go_wp2_with fail
        refine (eqT _ _ G _ HQ5.out HI10.out HZ2.out).mono ?_
        rintro e w11 ⟨rfl, hX11⟩
        have HQ6 := Lib.hid (HQ6.out.ext hX11)
        have HE11 := Lib.hid (HE10.out.trans' hX11)
        have HY11 := Lib.hid (hX11.hp HY10.out)
        have t11 := cellOf HY11.out 0
        simp only [List.getElem?_toArray, List.getElem?_cons_zero] at t11
        have HXX11 := Lib.hid hX11
        clear hX11 t10
        go_wp2_with fail
        refine (HPR.out _ HE11.out).mono ?_
        rintro e w12 ⟨rfl, hX12⟩
        have HE12 := Lib.hid (HE11.out.trans' hX12)
        have HY12 := Lib.hid (hX12.hp HY11.out)
        have t12 := cellOf HY12.out 0
        simp only [List.getElem?_toArray, List.getElem?_cons_zero] at t12
        have HXX12 := Lib.hid hX12
        clear hX12 t11
        go_wp2_with fail
        refine (HMO.out _ HE12.out).mono ?_
        rintro e w13 ⟨rfl, hX13⟩
        have HE13 := Lib.hid (HE12.out.trans' hX13)
        have HY13 := Lib.hid (hX13.hp HY12.out)
        have t13 := cellOf HY13.out 0
        simp only [List.getElem?_toArray, List.getElem?_cons_zero] at t13
        have HXX13 := Lib.hid hX13
        clear hX13 t12
        go_upto_region 19 with (fail)
        go_cut [132] (fun s132 wx => s132 = .bool true ∧ Aside (Ext w13 wx))
        case first =>
          go_wp2
          go_region_with (first | (go_at_call 32; refine (HWI.out _ (by first | exact HE13.out | exact HE13.out.dr | exact HE13.out.dr.dr)).mono ?_; rintro e w14 ⟨u14, rfl, hR14, hX14⟩; obtain ⟨ua14, uc14, hu14, _⟩ := hR14.any; subst hu14; have HI14 := Lib.hid hR14.ints; have t14 : w14.cell? ⟨w.heap.size, 0, none⟩ = some (.slice ta tn tc) := hX14.cl t13; have HX14 := Lib.hid (show Ext w13 w14 from by first | exact hX14 | exact (Ext.rf w13).dr.trans' hX14 | exact (Ext.rf w13).dr.dr.trans' hX14); clear hR14 hX14) | (go_at_call 15; refine (HCW.out _ (by first | exact HE13.out.trans' HX14.out | exact (HE13.out.trans' HX14.out).dr) _ (by first | exact HI14.out | exact HI14.out.ext (Ext.rf _).dr)).mono ?_; rintro e w15 ⟨rfl, hX15⟩; have HX15 := Lib.hid (show Ext w13 w15 from by first | exact HX14.out.trans' hX15 | exact HX14.out.dr.trans' hX15); clear hX15))
          all_goals
            go_wp2
            go_meet
            exact ⟨rfl, (show Ext w13 _ from by first | exact HX15.out | exact HX15.out.dr)⟩
        case rest =>
          obtain ⟨rfl, HXW⟩ := hcut
          go_wp2
          go_ret
          exact ⟨by simp, HE13.out.trans' HXW.out⟩
      | true =>
        rw [hsb, if_pos rfl] at hae
        rw [hae, if_pos rfl] at HC3
        rw [hsb] at HCW
        generalize withC c P = D at *
        clear hae hpb hn20 hpp hPL hkr hen hlt hsb
        go_wp2_with fail
        refine (HC1.out _ HE3.out).mono ?_
        rintro e w4 ⟨u4, rfl, hR4, hX4⟩
        obtain ⟨ua4, uc4, hu4, _⟩ := hR4.any
        subst hu4
        have HI4 := Lib.hid hR4.cells
        clear hR4
        have HE4 := Lib.hid (HE3.out.trans' hX4)
        have HY4 := Lib.hid (hX4.hp HY3.out)
        have t4 := cellOf HY4.out 0
        simp only [List.getElem?_toArray, List.getElem?_cons_zero] at t4
        have HXX4 := Lib.hid hX4
        clear hX4 t3
        go_wp2_with fail
        refine (HC2.out _ HE4.out).mono ?_
        rintro e w5 ⟨u5, rfl, hR5, hX5⟩
        obtain ⟨ua5, uc5, hu5, _⟩ := hR5.any
        subst hu5
        have HI5 := Lib.hid hR5.ints
        clear hR5
        have HE5 := Lib.hid (HE4.out.trans' hX5)
        have HY5 := Lib.hid (hX5.hp HY4.out)
        have t5 := cellOf HY5.out 0
        simp only [List.getElem?_toArray, List.getElem?_cons_zero] at t5
        have HXX5 := Lib.hid hX5
        clear hX5 t4
        go_wp2_with fail
        refine (HC3.out _ HE5.out).mono ?_
        rintro e w6 ⟨u6, rfl, hR6, hX6⟩
        obtain ⟨ua6, uc6, hu6, _⟩ := hR6.any
        subst hu6
        have HI6 := Lib.hid hR6.ints
        clear hR6
        have HE6 := Lib.hid (HE5.out.trans' hX6)
        have HY6 := Lib.hid (hX6.hp HY5.out)
        have t6 := cellOf HY6.out 0
        simp only [List.getElem?_toArray, List.getElem?_cons_zero] at t6
        have HXX6 := Lib.hid hX6
        clear hX6 t5
        go_wp2_with fail
        refine (HC4.out _ HE6.out).mono ?_
        rintro e w7 ⟨rfl, hX7⟩
        have HE7 := Lib.hid (HE6.out.trans' hX7)
        have HY7 := Lib.hid (hX7.hp HY6.out)
        have t7 := cellOf HY7.out 0
        simp only [List.getElem?_toArray, List.getElem?_cons_zero] at t7
        have HXX7 := Lib.hid hX7
        clear hX7 t6
        go_wp2_with fail
        refine (HC5.out _ HE7.out).mono ?_
        rintro e w8 ⟨u8, rfl, hR8, hX8⟩
        obtain ⟨ua8, uc8, hu8, _⟩ := hR8.any
        subst hu8
        have HI8 := Lib.hid hR8.cells
        have HX47 := Lib.hid (HXX5.out.trans' (HXX6.out.trans' HXX7.out))
        have HQ4 := Lib.hid (HI4.out.ext (HX47.out.trans' hX8))
        clear hR8
        have HE8 := Lib.hid (HE7.out.trans' hX8)
        have HY8 := Lib.hid (hX8.hp HY7.out)
        have t8 := cellOf HY8.out 0
        simp only [List.getElem?_toArray, List.getElem?_cons_zero] at t8
        have HXX8 := Lib.hid hX8
        clear hX8 t7
        go_wp2_with fail
        refine (equalE_calls _ _ F _ HQ4.out HI8.out HZ1.out).mono ?_
        rintro e w9 ⟨rfl, hX9⟩
        have HE9 := Lib.hid (HE8.out.trans' hX9)
        have HY9 := Lib.hid (hX9.hp HY8.out)
        have t9 := cellOf HY9.out 0
        simp only [List.getElem?_toArray, List.getElem?_cons_zero] at t9
        have HXX9 := Lib.hid hX9
        clear hX9 t8
        go_wp2_with fail
        refine (HC6.out _ HE9.out).mono ?_
        rintro e w10 ⟨u10, rfl, hR10, hX10⟩
        obtain ⟨ua10, uc10, hu10, _⟩ := hR10.any
        subst hu10
        have HI10 := Lib.hid hR10.ints
        have HX710 := Lib.hid (HXX8.out.trans' (HXX9.out.trans' hX10))
        have HQ5 := Lib.hid (HI5.out.ext (HXX6.out.trans' (HXX7.out.trans' HX710.out)))
        have HQ6 := Lib.hid (HI6.out.ext (HXX7.out.trans' HX710.out))
        clear hR10
        have HE10 := Lib.hid (HE9.out.trans' hX10)
        have HY10 := Lib.hid (hX10.hp HY9.out)
        have t10 := cellOf HY10.out 0
        simp only [List.getElem?_toArray, List.getElem?_cons_zero] at t10
        have HXX10 := Lib.hid hX10
        clear hX10 t9
        go_wp2_with fail
        refine (eqT _ _ G _ HQ5.out HI10.out HZ2.out).mono ?_
        rintro e w11 ⟨rfl, hX11⟩
        have HQ6 := Lib.hid (HQ6.out.ext hX11)
        have HE11 := Lib.hid (HE10.out.trans' hX11)
        have HY11 := Lib.hid (hX11.hp HY10.out)
        have t11 := cellOf HY11.out 0
        simp only [List.getElem?_toArray, List.getElem?_cons_zero] at t11
        have HXX11 := Lib.hid hX11
        clear hX11 t10
        go_wp2_with fail
        refine (HPR.out _ HE11.out).mono ?_
        rintro e w12 ⟨rfl, hX12⟩
        have HE12 := Lib.hid (HE11.out.trans' hX12)
        have HY12 := Lib.hid (hX12.hp HY11.out)
        have t12 := cellOf HY12.out 0
        simp only [List.getElem?_toArray, List.getElem?_cons_zero] at t12
        have HXX12 := Lib.hid hX12
        clear hX12 t11
        go_wp2_with fail
        refine (HMO.out _ HE12.out).mono ?_
        rintro e w13 ⟨rfl, hX13⟩
        have HE13 := Lib.hid (HE12.out.trans' hX13)
        have HY13 := Lib.hid (hX13.hp HY12.out)
        have t13 := cellOf HY13.out 0
        simp only [List.getElem?_toArray, List.getElem?_cons_zero] at t13
        have HXX13 := Lib.hid hX13
        clear hX13 t12
        go_upto_region 19 with (fail)
        go_cut [132] (fun s132 wx => s132 = .bool false ∧ Aside (Ext w13 wx))
        case first =>
          go_wp2
          go_region_with (first | (go_at_call 32; refine (HWI.out _ (by first | exact HE13.out | exact HE13.out.dr | exact HE13.out.dr.dr)).mono ?_; rintro e w14 ⟨u14, rfl, hR14, hX14⟩; obtain ⟨ua14, uc14, hu14, _⟩ := hR14.any; subst hu14; have HI14 := Lib.hid hR14.ints; have t14 : w14.cell? ⟨w.heap.size, 0, none⟩ = some (.slice ta tn tc) := hX14.cl t13; have HX14 := Lib.hid (show Ext w13 w14 from by first | exact hX14 | exact (Ext.rf w13).dr.trans' hX14 | exact (Ext.rf w13).dr.dr.trans' hX14); clear hR14 hX14) | (go_at_call 15; refine (HCW.out _ (by first | exact HE13.out.trans' HX14.out | exact (HE13.out.trans' HX14.out).dr) _ (by first | exact HI14.out | exact HI14.out.ext (Ext.rf _).dr)).mono ?_; rintro e w15 ⟨rfl, hX15⟩; have HX15 := Lib.hid (show Ext w13 w15 from by first | exact HX14.out.trans' hX15 | exact HX14.out.dr.trans' hX15); clear hX15))
          all_goals
            go_wp2
            go_meet
            exact ⟨rfl, (show Ext w13 _ from by first | exact HX15.out | exact HX15.out.dr)⟩
        case rest =>
          obtain ⟨rfl, HXW⟩ := hcut
          have HE15 := Lib.hid (HE13.out.trans' HXW.out)
          have HQ15 := Lib.hid (HQ6.out.ext (HXX12.out.trans' (HXX13.out.trans' HXW.out)))
          clear t13
          go_wp2_with fail
          refine (HWI.out _ HE15.out).mono ?_
          rintro e w16 ⟨u16, rfl, hR16, hX16⟩
          obtain ⟨ua16, uc16, hu16, _⟩ := hR16.any
          subst hu16
          have HI16 := Lib.hid hR16.ints
          have HQ16 := Lib.hid (HQ15.out.ext hX16)
          have HE16 := Lib.hid (HE15.out.trans' hX16)
          clear hR16 hX16
          go_wp2_with fail
          refine (eqT _ _ D _ HQ16.out HI16.out HZ3.out).mono ?_
          rintro e w17 ⟨rfl, hX17⟩
          go_wp2
          go_ret
          exact ⟨by simp, HE16.out.trans' hX17⟩

theorem cutSteps_calls (v vc : Value) (t : Tr) (c : List Int) (p : Int) (w : World) (h : TrAt w v t) (htop : TopTr t) (hc : Ints w vc c) :
    Calls Try.prog 5 #[.agg #[v], vc, .int .i64 p] w fun e w' => e = .returned (.bool true) ∧ Ext w w' := by
  by_cases hf : few22 t = true
  · by_cases hn : c.length ≤ 20
    · by_cases h0 : givenE t [c] [] = 0
      · exact cutSteps_ok v vc t c p w h htop hc h0 hf hn
      · exact cutSteps_bad v vc t c p w h htop hc (fun _ _ => h0)
    · exact cutSteps_bad v vc t c p w h htop hc (fun _ h => absurd h hn)
  · exact cutSteps_bad v vc t c p w h htop hc (fun h => absurd h hf)

end Go.Proofs.Ytijncboddmjdcaa
