/-
  The statement VariableValues, walked.
-/
import Derived.Test.YtfcpnggdpaeldaaGa
import Derived.Test.YtfcpnggdpaeldaaProg
import Derived.BigQuiet
import Derived.Deep.QuietTactic
import Derived.Deep.LoopGhost
import Derived.Shelf.Abstract
import Derived.Test.YtfcpnggdpaeldaaGm
import Derived.Test.YtfcpnggdpaeldaaGn
namespace Go.Proofs.Ytfcpnggdpaeldaa
open Go.RowKit
set_option linter.unusedVariables false

theorem entersV_15 : ∀ args w, (callFunc 15 args).run Try.prog w = .ok (.enter 15 args) w := enters_of Try.func15 (by kernel_rfl) rfl
theorem entersV_31 : ∀ args w, (callFunc 31 args).run Try.prog w = .ok (.enter 31 args) w := enters_of Try.func31 (by kernel_rfl) rfl

theorem atL_len (t : Tr) (c : List Int) : (atL t c).length = c.length := atTo_len t c _
theorem atL_at {t : Tr} {c : List Int} {p : Nat} (h : p < c.length) : (atL t c)[p]! = stV t p c[p]!.toNat := by
  rw [getElem!_pos _ p (by rw [atL_len]; exact h)]
  simp [atL, atTo]

set_option maxHeartbeats 16000000 in
set_option maxRecDepth 100000 in
theorem variableValues_calls (v vc : Value) (t : Tr) (p k : Int) (s : ByteArray) (c : List Int) (w : World) (h : TrAt w v t) (hc : Ints w vc c) :
    Calls Try.prog 7 #[.agg #[v], .int .i64 p, .int .i64 k, .string s, vc] w fun e w' => e = .returned (.bool true) ∧ Ext w w' := by
  have HC := Lib.hid hc
  obtain ⟨ca, cc, rfl, hlc, _⟩ := hc
  generalize hcm : c.length = m at *
  have HCM := Lib.hid hcm
  clear hcm
  have HT := Lib.hid h
  have HGC := Lib.hid (fun W (hW : Ext w W) => great_calls v t W (h.ext hW))
  obtain ⟨ta, tc, rfl, htc⟩ := h.sh
  obtain ⟨tn, htn⟩ : ∃ n, t.length = n := ⟨_, rfl⟩
  rw [htn] at HGC HT ⊢
  have HTN := Lib.hid htn
  have HX0 := Lib.hid (heap_alloc_new w (.cells #[.slice ta tn tc] 24))
  have HE1 := Lib.hid ((Ext.rf w).al (.cells #[.slice ta tn tc] 24))
  obtain ⟨gw, hgw⟩ : ∃ b, greatT t = b := ⟨_, rfl⟩
  rw [hgw] at HGC
  have HGW := Lib.hid hgw
  clear h hgw htc htn
  go_enter Try.func7, Try.ntmps7
  go_wp2_with fail
  refine (awake25_calls _).mono ?_
  rintro e w2 ⟨rfl, hX2⟩
  have HE2 := Lib.hid (HE1.out.trans' hX2)
  have HY2 := Lib.hid (hX2.hp HX0.out)
  have t2 := cellOf HY2.out 0
  simp only [List.getElem?_toArray, List.getElem?_cons_zero] at t2
  clear hX2
  go_wp2_with fail
  refine (HGC.out _ HE2.out).mono ?_
  rintro e w3 ⟨rfl, hX3⟩
  have HE3 := Lib.hid (HE2.out.trans' hX3)
  have HY3 := Lib.hid (hX3.hp HY2.out)
  have t3 := cellOf HY3.out 0
  simp only [List.getElem?_toArray, List.getElem?_cons_zero] at t3
  clear hX3 t2
  cases gw with
  | true =>
    go_wp2
    go_ret
    exact ⟨rfl, HE3.out⟩
  | false =>
  have HLO := Lib.hid (great_loose HGW.out).1
  have HTL := Lib.hid (great_loose HGW.out).2
  by_cases h100 : 100 < m
  · have d1 : decide (100 < (m : Int)) = true := decide_eq_true (by omega)
    have d1n : decide (100 < m) = true := decide_eq_true h100
    clear h100
    go_wp2
    go_ret
    exact ⟨rfl, HE3.out⟩
  have d1 : decide (100 < (m : Int)) = false := decide_eq_false (by omega)
  have d1n : decide (100 < m) = false := decide_eq_false h100
  have hm8 : m ≤ 100 := by omega
  have HC1 := Lib.hid (fun W (hW : Ext w W) => valueV_calls _ t p s k W (HT.out.ext hW) HLO.out)
  have HC2 := Lib.hid (fun W (hW : Ext w W) => stateV_calls _ t p k W (HT.out.ext hW) HLO.out)
  have HC3 := Lib.hid (fun W (hW : Ext w W) => atP_calls _ _ t c W (HT.out.ext hW) HLO.out (HC.out.ext hW))
  have HC4 := Lib.hid (fun W (hW : Ext w W) => faultV_calls _ t p k s W (HT.out.ext hW) HLO.out)
  have HC5 := Lib.hid (fun W (hW : Ext w W) => placeR_calls _ t p k W (HT.out.ext hW) HLO.out)
  have HC6 := Lib.hid (fun W (hW : Ext w W) => cutFaultR_calls _ _ t c W (HT.out.ext hW) HLO.out (HC.out.ext hW))
  have HOF := Lib.hid (fun h0 => faultV_ok (t := t) (p := p) (k := k) (s := s) h0)
  have HOP := Lib.hid (fun h0 => placeE_ok (t := t) (p := p) (k := k) h0)
  have HOG : Hid (givenE t [c] [] = 0 → validT t = true ∧ ConsC t c) := Lib.hid (fun h0 => by obtain ⟨h1, h2, _⟩ := givenE_ps h0; exact ⟨h1, h2⟩)
  obtain ⟨F, hF⟩ : ∃ E, faultV t p k s = E := ⟨_, rfl⟩
  obtain ⟨P, hP⟩ : ∃ E, placeE t p k = E := ⟨_, rfl⟩
  obtain ⟨G, hG⟩ : ∃ E, givenE t [c] [] = E := ⟨_, rfl⟩
  rw [hF] at HC1 HC4 HOF
  rw [hP] at HC2 HC5 HOF HOP
  rw [hG] at HC3 HC6 HOG
  clear hF hP hG h100
  have eF : (F != F) = false := by simp
  have eP : (P != P) = false := by simp
  have eG : (G == G) = true := beq_self_eq_true G
  by_cases h1 : P = 0
  case neg =>
    have h0 : ¬ F = 0 := fun e => h1 (HOF.out e).1
    rw [if_neg h0] at HC1
    have g0 : (F != 0) = true := by simp [h0]
    rw [if_neg h1] at HC2
    have g1 : (P != 0) = true := by simp [h1]
    clear h0 h1
    by_cases h2 : G = 0
    case neg =>
      rw [if_neg h2] at HC3
      have g2 : (G != 0) = true := by simp [h2]
      clear h2
      go_wp2_with fail
      refine (HC1.out _ HE3.out).mono ?_
      rintro e w4 ⟨rfl, hX4⟩
      have HE4 := Lib.hid (HE3.out.trans' hX4)
      have HY4 := Lib.hid (hX4.hp HY3.out)
      have t4 := cellOf HY4.out 0
      simp only [List.getElem?_toArray, List.getElem?_cons_zero] at t4
      have HXX4 := Lib.hid hX4
      clear hX4 t3
      go_wp2_with fail
      refine (HC2.out _ HE4.out).mono ?_
      rintro e w5 ⟨u5, rfl, hR5, hX5⟩
      obtain ⟨ua5, uc5, hu5, _⟩ := hR5.any
      subst hu5
      have HI5 := Lib.hid hR5.ints
      clear hR5
      have HE5 := Lib.hid (HE4.out.trans' hX5)
      have HY5 := Lib.hid (hX5.hp HY4.out)
      have t5 := cellOf HY5.out 0
      simp only [List.getElem?_toArray, List.getElem?_cons_zero] at t5
      have HXX5 := Lib.hid hX5
      clear hX5 t4
      go_wp2_with fail
      refine (HC3.out _ HE5.out).mono ?_
      rintro e w6 ⟨u6, rfl, hS6, hX6⟩
      obtain ⟨ua6, uc6, hu6, _⟩ := hS6.sh
      subst hu6
      have HS6 := Lib.hid hS6
      clear hS6
      have HE6 := Lib.hid (HE5.out.trans' hX6)
      have HY6 := Lib.hid (hX6.hp HY5.out)
      have t6 := cellOf HY6.out 0
      simp only [List.getElem?_toArray, List.getElem?_cons_zero] at t6
      have HXX6 := Lib.hid hX6
      clear hX6 t5
      have HI5 := Lib.hid (HI5.out.ext HXX6.out)
      go_wp2_with fail
      refine (HC4.out _ HE6.out).mono ?_
      rintro e w7 ⟨rfl, hX7⟩
      have HE7 := Lib.hid (HE6.out.trans' hX7)
      have HY7 := Lib.hid (hX7.hp HY6.out)
      have t7 := cellOf HY7.out 0
      simp only [List.getElem?_toArray, List.getElem?_cons_zero] at t7
      have HXX7 := Lib.hid hX7
      clear hX7 t6
      have HI5 := Lib.hid (HI5.out.ext HXX7.out)
      have HS6 := Lib.hid (HS6.out.ext rints_lasts HXX7.out)
      go_wp2_with fail
      refine (HC5.out _ HE7.out).mono ?_
      rintro e w8 ⟨rfl, hX8⟩
      have HE8 := Lib.hid (HE7.out.trans' hX8)
      have HY8 := Lib.hid (hX8.hp HY7.out)
      have t8 := cellOf HY8.out 0
      simp only [List.getElem?_toArray, List.getElem?_cons_zero] at t8
      have HXX8 := Lib.hid hX8
      clear hX8 t7
      have HI5 := Lib.hid (HI5.out.ext HXX8.out)
      have HS6 := Lib.hid (HS6.out.ext rints_lasts HXX8.out)
      go_wp2_with fail
      refine (HC6.out _ HE8.out).mono ?_
      rintro e w9 ⟨rfl, hX9⟩
      have HE9 := Lib.hid (HE8.out.trans' hX9)
      have HY9 := Lib.hid (hX9.hp HY8.out)
      have t9 := cellOf HY9.out 0
      simp only [List.getElem?_toArray, List.getElem?_cons_zero] at t9
      have HXX9 := Lib.hid hX9
      clear hX9 t8
      go_wp2
      go_ret
      exact ⟨by simp, HE9.out⟩
    case pos =>
      subst h2
      obtain ⟨hv2, hc2⟩ := HOG.out rfl
      rw [if_pos rfl] at HC3
      have HC9 := Lib.hid (fun W (hW : Ext w W) => atF_calls _ _ t c W (HT.out.ext hW) hv2 (HC.out.ext hW) hc2.1)
      have HRL : Hid ((atL t c).length ≤ 1000000 ∧ ∀ i, i < (atL t c).length → (atL t c)[i]!.length ≤ 1000000) := Lib.hid (by
        rw [atL_len, HCM.out]
        refine ⟨by omega, fun i hi => ?_⟩
        have hit : i < t.length := by rw [← hc2.1.1, HCM.out]; exact hi
        have hr := hc2.1.at hit
        rw [atL_at (by rw [HCM.out]; exact hi), stV_len t i c[i]!.toNat (by have := hr.1; have := hr.2; omega)]
        have := ((valid_small hv2).2 i hit).1; omega)
      generalize atL t c = rows at *
      clear hv2 hc2
      go_wp2_with fail
      refine (HC1.out _ HE3.out).mono ?_
      rintro e w4 ⟨rfl, hX4⟩
      have HE4 := Lib.hid (HE3.out.trans' hX4)
      have HY4 := Lib.hid (hX4.hp HY3.out)
      have t4 := cellOf HY4.out 0
      simp only [List.getElem?_toArray, List.getElem?_cons_zero] at t4
      have HXX4 := Lib.hid hX4
      clear hX4 t3
      go_wp2_with fail
      refine (HC2.out _ HE4.out).mono ?_
      rintro e w5 ⟨u5, rfl, hR5, hX5⟩
      obtain ⟨ua5, uc5, hu5, _⟩ := hR5.any
      subst hu5
      have HI5 := Lib.hid hR5.ints
      clear hR5
      have HE5 := Lib.hid (HE4.out.trans' hX5)
      have HY5 := Lib.hid (hX5.hp HY4.out)
      have t5 := cellOf HY5.out 0
      simp only [List.getElem?_toArray, List.getElem?_cons_zero] at t5
      have HXX5 := Lib.hid hX5
      clear hX5 t4
      go_wp2_with fail
      refine (HC3.out _ HE5.out).mono ?_
      rintro e w6 ⟨u6, rfl, hS6, hX6⟩
      obtain ⟨ua6, uc6, hu6, _⟩ := hS6.sh
      subst hu6
      have HS6 := Lib.hid hS6
      clear hS6
      have HE6 := Lib.hid (HE5.out.trans' hX6)
      have HY6 := Lib.hid (hX6.hp HY5.out)
      have t6 := cellOf HY6.out 0
      simp only [List.getElem?_toArray, List.getElem?_cons_zero] at t6
      have HXX6 := Lib.hid hX6
      clear hX6 t5
      have HI5 := Lib.hid (HI5.out.ext HXX6.out)
      go_wp2_with fail
      refine (HC4.out _ HE6.out).mono ?_
      rintro e w7 ⟨rfl, hX7⟩
      have HE7 := Lib.hid (HE6.out.trans' hX7)
      have HY7 := Lib.hid (hX7.hp HY6.out)
      have t7 := cellOf HY7.out 0
      simp only [List.getElem?_toArray, List.getElem?_cons_zero] at t7
      have HXX7 := Lib.hid hX7
      clear hX7 t6
      have HI5 := Lib.hid (HI5.out.ext HXX7.out)
      have HS6 := Lib.hid (HS6.out.ext rints_lasts HXX7.out)
      go_wp2_with fail
      refine (HC5.out _ HE7.out).mono ?_
      rintro e w8 ⟨rfl, hX8⟩
      have HE8 := Lib.hid (HE7.out.trans' hX8)
      have HY8 := Lib.hid (hX8.hp HY7.out)
      have t8 := cellOf HY8.out 0
      simp only [List.getElem?_toArray, List.getElem?_cons_zero] at t8
      have HXX8 := Lib.hid hX8
      clear hX8 t7
      have HI5 := Lib.hid (HI5.out.ext HXX8.out)
      have HS6 := Lib.hid (HS6.out.ext rints_lasts HXX8.out)
      go_wp2_with fail
      refine (HC6.out _ HE8.out).mono ?_
      rintro e w9 ⟨rfl, hX9⟩
      have HE9 := Lib.hid (HE8.out.trans' hX9)
      have HY9 := Lib.hid (hX9.hp HY8.out)
      have t9 := cellOf HY9.out 0
      simp only [List.getElem?_toArray, List.getElem?_cons_zero] at t9
      have HXX9 := Lib.hid hX9
      clear hX9 t8
      have HI5 := Lib.hid (HI5.out.ext HXX9.out)
      have HS6 := Lib.hid (HS6.out.ext rints_lasts HXX9.out)
      go_wp2_with fail
      refine (HC9.out _ HE9.out).mono ?_
      rintro e w10 ⟨u10, rfl, hS10, hX10⟩
      obtain ⟨ua10, uc10, hu10, _⟩ := hS10.sh
      subst hu10
      have HS10 := Lib.hid hS10
      clear hS10
      have HE10 := Lib.hid (HE9.out.trans' hX10)
      have HY10 := Lib.hid (hX10.hp HY9.out)
      have t10 := cellOf HY10.out 0
      simp only [List.getElem?_toArray, List.getElem?_cons_zero] at t10
      have HXX10 := Lib.hid hX10
      clear hX10 t9
      have HS6 := Lib.hid (HS6.out.ext rints_lasts HXX10.out)
      go_wp2_with fail
      refine (sameLists_calls _ _ rows _ HS6.out HS10.out HRL.out.1 HRL.out.2).mono ?_
      rintro e w11 ⟨rfl, hX11⟩
      have HE11 := Lib.hid (HE10.out.trans' hX11)
      have HY11 := Lib.hid (hX11.hp HY10.out)
      have t11 := cellOf HY11.out 0
      simp only [List.getElem?_toArray, List.getElem?_cons_zero] at t11
      have HXX11 := Lib.hid hX11
      clear hX11 t10
      go_wp2
      go_ret
      exact ⟨by simp, HE11.out⟩
  case pos =>
    subst h1
    obtain ⟨hv, ⟨hp0, hpn⟩, hk0, hkn⟩ := HOP.out rfl
    rw [if_pos rfl] at HC2
    obtain ⟨q, rfl⟩ : ∃ q : Nat, p = (q : Int) := ⟨p.toNat, by omega⟩
    obtain ⟨j, rfl⟩ : ∃ j : Nat, k = (j : Int) := ⟨k.toNat, by omega⟩
    simp only [Int.toNat_natCast] at HC1 HC2 HOF hkn
    have hqt : q < t.length := by omega
    have hjn : j ≤ t[q]!.events.length := by omega
    have HCA := Lib.hid (fun W (hW : Ext w W) => stateF_calls _ t q j W (HT.out.ext hW) hv hqt hjn)
    have HLS : Hid ((stV t q j).length ≤ 1000000) := Lib.hid (by rw [stV_len t q j hjn]; have := ((valid_small hv).2 q hqt).1; omega)
    by_cases h0 : F = 0
    case neg =>
      rw [if_neg h0] at HC1
      have g0 : (F != 0) = true := by simp [h0]
      generalize stV t q j = st at *
      clear hv hp0 hpn hk0 hkn hqt hjn
      clear h0
      by_cases h2 : G = 0
      case neg =>
        rw [if_neg h2] at HC3
        have g2 : (G != 0) = true := by simp [h2]
        clear h2
        go_wp2_with fail
        refine (HC1.out _ HE3.out).mono ?_
        rintro e w4 ⟨rfl, hX4⟩
        have HE4 := Lib.hid (HE3.out.trans' hX4)
        have HY4 := Lib.hid (hX4.hp HY3.out)
        have t4 := cellOf HY4.out 0
        simp only [List.getElem?_toArray, List.getElem?_cons_zero] at t4
        have HXX4 := Lib.hid hX4
        clear hX4 t3
        go_wp2_with fail
        refine (HC2.out _ HE4.out).mono ?_
        rintro e w5 ⟨u5, rfl, hR5, hX5⟩
        obtain ⟨ua5, uc5, hu5, _⟩ := hR5.any
        subst hu5
        have HI5 := Lib.hid hR5.ints
        clear hR5
        have HE5 := Lib.hid (HE4.out.trans' hX5)
        have HY5 := Lib.hid (hX5.hp HY4.out)
        have t5 := cellOf HY5.out 0
        simp only [List.getElem?_toArray, List.getElem?_cons_zero] at t5
        have HXX5 := Lib.hid hX5
        clear hX5 t4
        go_wp2_with fail
        refine (HC3.out _ HE5.out).mono ?_
        rintro e w6 ⟨u6, rfl, hS6, hX6⟩
        obtain ⟨ua6, uc6, hu6, _⟩ := hS6.sh
        subst hu6
        have HS6 := Lib.hid hS6
        clear hS6
        have HE6 := Lib.hid (HE5.out.trans' hX6)
        have HY6 := Lib.hid (hX6.hp HY5.out)
        have t6 := cellOf HY6.out 0
        simp only [List.getElem?_toArray, List.getElem?_cons_zero] at t6
        have HXX6 := Lib.hid hX6
        clear hX6 t5
        have HI5 := Lib.hid (HI5.out.ext HXX6.out)
        go_wp2_with fail
        refine (HC4.out _ HE6.out).mono ?_
        rintro e w7 ⟨rfl, hX7⟩
        have HE7 := Lib.hid (HE6.out.trans' hX7)
        have HY7 := Lib.hid (hX7.hp HY6.out)
        have t7 := cellOf HY7.out 0
        simp only [List.getElem?_toArray, List.getElem?_cons_zero] at t7
        have HXX7 := Lib.hid hX7
        clear hX7 t6
        have HI5 := Lib.hid (HI5.out.ext HXX7.out)
        have HS6 := Lib.hid (HS6.out.ext rints_lasts HXX7.out)
        go_wp2_with fail
        refine (HC5.out _ HE7.out).mono ?_
        rintro e w8 ⟨rfl, hX8⟩
        have HE8 := Lib.hid (HE7.out.trans' hX8)
        have HY8 := Lib.hid (hX8.hp HY7.out)
        have t8 := cellOf HY8.out 0
        simp only [List.getElem?_toArray, List.getElem?_cons_zero] at t8
        have HXX8 := Lib.hid hX8
        clear hX8 t7
        have HI5 := Lib.hid (HI5.out.ext HXX8.out)
        have HS6 := Lib.hid (HS6.out.ext rints_lasts HXX8.out)
        go_wp2_with fail
        refine (HCA.out _ HE8.out).mono ?_
        rintro e w9 ⟨u9, rfl, hR9, hX9⟩
        obtain ⟨ua9, uc9, hu9, _⟩ := hR9.any
        subst hu9
        have HI9 := Lib.hid hR9.ints
        clear hR9
        have HE9 := Lib.hid (HE8.out.trans' hX9)
        have HY9 := Lib.hid (hX9.hp HY8.out)
        have t9 := cellOf HY9.out 0
        simp only [List.getElem?_toArray, List.getElem?_cons_zero] at t9
        have HXX9 := Lib.hid hX9
        clear hX9 t8
        have HI5 := Lib.hid (HI5.out.ext HXX9.out)
        have HS6 := Lib.hid (HS6.out.ext rints_lasts HXX9.out)
        go_wp2_with fail
        refine (equal_int _ _ st st _ HI5.out HI9.out HLS.out HLS.out).mono ?_
        rintro e w10 ⟨rfl, hX10⟩
        have HE10 := Lib.hid (HE9.out.trans' hX10)
        have HY10 := Lib.hid (hX10.hp HY9.out)
        have t10 := cellOf HY10.out 0
        simp only [List.getElem?_toArray, List.getElem?_cons_zero] at t10
        have HXX10 := Lib.hid hX10
        clear hX10 t9
        have HI5 := Lib.hid (HI5.out.ext HXX10.out)
        have HS6 := Lib.hid (HS6.out.ext rints_lasts HXX10.out)
        go_wp2_with fail
        refine (HC6.out _ HE10.out).mono ?_
        rintro e w11 ⟨rfl, hX11⟩
        have HE11 := Lib.hid (HE10.out.trans' hX11)
        have HY11 := Lib.hid (hX11.hp HY10.out)
        have t11 := cellOf HY11.out 0
        simp only [List.getElem?_toArray, List.getElem?_cons_zero] at t11
        have HXX11 := Lib.hid hX11
        clear hX11 t10
        go_wp2
        go_ret
        exact ⟨by simp, HE11.out⟩
      case pos =>
        subst h2
        obtain ⟨hv2, hc2⟩ := HOG.out rfl
        rw [if_pos rfl] at HC3
        have HC9 := Lib.hid (fun W (hW : Ext w W) => atF_calls _ _ t c W (HT.out.ext hW) hv2 (HC.out.ext hW) hc2.1)
        have HRL : Hid ((atL t c).length ≤ 1000000 ∧ ∀ i, i < (atL t c).length → (atL t c)[i]!.length ≤ 1000000) := Lib.hid (by
          rw [atL_len, HCM.out]
          refine ⟨by omega, fun i hi => ?_⟩
          have hit : i < t.length := by rw [← hc2.1.1, HCM.out]; exact hi
          have hr := hc2.1.at hit
          rw [atL_at (by rw [HCM.out]; exact hi), stV_len t i c[i]!.toNat (by have := hr.1; have := hr.2; omega)]
          have := ((valid_small hv2).2 i hit).1; omega)
        generalize atL t c = rows at *
        clear hv2 hc2
        go_wp2_with fail
        refine (HC1.out _ HE3.out).mono ?_
        rintro e w4 ⟨rfl, hX4⟩
        have HE4 := Lib.hid (HE3.out.trans' hX4)
        have HY4 := Lib.hid (hX4.hp HY3.out)
        have t4 := cellOf HY4.out 0
        simp only [List.getElem?_toArray, List.getElem?_cons_zero] at t4
        have HXX4 := Lib.hid hX4
        clear hX4 t3
        go_wp2_with fail
        refine (HC2.out _ HE4.out).mono ?_
        rintro e w5 ⟨u5, rfl, hR5, hX5⟩
        obtain ⟨ua5, uc5, hu5, _⟩ := hR5.any
        subst hu5
        have HI5 := Lib.hid hR5.ints
        clear hR5
        have HE5 := Lib.hid (HE4.out.trans' hX5)
        have HY5 := Lib.hid (hX5.hp HY4.out)
        have t5 := cellOf HY5.out 0
        simp only [List.getElem?_toArray, List.getElem?_cons_zero] at t5
        have HXX5 := Lib.hid hX5
        clear hX5 t4
        go_wp2_with fail
        refine (HC3.out _ HE5.out).mono ?_
        rintro e w6 ⟨u6, rfl, hS6, hX6⟩
        obtain ⟨ua6, uc6, hu6, _⟩ := hS6.sh
        subst hu6
        have HS6 := Lib.hid hS6
        clear hS6
        have HE6 := Lib.hid (HE5.out.trans' hX6)
        have HY6 := Lib.hid (hX6.hp HY5.out)
        have t6 := cellOf HY6.out 0
        simp only [List.getElem?_toArray, List.getElem?_cons_zero] at t6
        have HXX6 := Lib.hid hX6
        clear hX6 t5
        have HI5 := Lib.hid (HI5.out.ext HXX6.out)
        go_wp2_with fail
        refine (HC4.out _ HE6.out).mono ?_
        rintro e w7 ⟨rfl, hX7⟩
        have HE7 := Lib.hid (HE6.out.trans' hX7)
        have HY7 := Lib.hid (hX7.hp HY6.out)
        have t7 := cellOf HY7.out 0
        simp only [List.getElem?_toArray, List.getElem?_cons_zero] at t7
        have HXX7 := Lib.hid hX7
        clear hX7 t6
        have HI5 := Lib.hid (HI5.out.ext HXX7.out)
        have HS6 := Lib.hid (HS6.out.ext rints_lasts HXX7.out)
        go_wp2_with fail
        refine (HC5.out _ HE7.out).mono ?_
        rintro e w8 ⟨rfl, hX8⟩
        have HE8 := Lib.hid (HE7.out.trans' hX8)
        have HY8 := Lib.hid (hX8.hp HY7.out)
        have t8 := cellOf HY8.out 0
        simp only [List.getElem?_toArray, List.getElem?_cons_zero] at t8
        have HXX8 := Lib.hid hX8
        clear hX8 t7
        have HI5 := Lib.hid (HI5.out.ext HXX8.out)
        have HS6 := Lib.hid (HS6.out.ext rints_lasts HXX8.out)
        go_wp2_with fail
        refine (HCA.out _ HE8.out).mono ?_
        rintro e w9 ⟨u9, rfl, hR9, hX9⟩
        obtain ⟨ua9, uc9, hu9, _⟩ := hR9.any
        subst hu9
        have HI9 := Lib.hid hR9.ints
        clear hR9
        have HE9 := Lib.hid (HE8.out.trans' hX9)
        have HY9 := Lib.hid (hX9.hp HY8.out)
        have t9 := cellOf HY9.out 0
        simp only [List.getElem?_toArray, List.getElem?_cons_zero] at t9
        have HXX9 := Lib.hid hX9
        clear hX9 t8
        have HI5 := Lib.hid (HI5.out.ext HXX9.out)
        have HS6 := Lib.hid (HS6.out.ext rints_lasts HXX9.out)
        go_wp2_with fail
        refine (equal_int _ _ st st _ HI5.out HI9.out HLS.out HLS.out).mono ?_
        rintro e w10 ⟨rfl, hX10⟩
        have HE10 := Lib.hid (HE9.out.trans' hX10)
        have HY10 := Lib.hid (hX10.hp HY9.out)
        have t10 := cellOf HY10.out 0
        simp only [List.getElem?_toArray, List.getElem?_cons_zero] at t10
        have HXX10 := Lib.hid hX10
        clear hX10 t9
        have HI5 := Lib.hid (HI5.out.ext HXX10.out)
        have HS6 := Lib.hid (HS6.out.ext rints_lasts HXX10.out)
        go_wp2_with fail
        refine (HC6.out _ HE10.out).mono ?_
        rintro e w11 ⟨rfl, hX11⟩
        have HE11 := Lib.hid (HE10.out.trans' hX11)
        have HY11 := Lib.hid (hX11.hp HY10.out)
        have t11 := cellOf HY11.out 0
        simp only [List.getElem?_toArray, List.getElem?_cons_zero] at t11
        have HXX11 := Lib.hid hX11
        clear hX11 t10
        have HI5 := Lib.hid (HI5.out.ext HXX11.out)
        have HS6 := Lib.hid (HS6.out.ext rints_lasts HXX11.out)
        go_wp2_with fail
        refine (HC9.out _ HE11.out).mono ?_
        rintro e w12 ⟨u12, rfl, hS12, hX12⟩
        obtain ⟨ua12, uc12, hu12, _⟩ := hS12.sh
        subst hu12
        have HS12 := Lib.hid hS12
        clear hS12
        have HE12 := Lib.hid (HE11.out.trans' hX12)
        have HY12 := Lib.hid (hX12.hp HY11.out)
        have t12 := cellOf HY12.out 0
        simp only [List.getElem?_toArray, List.getElem?_cons_zero] at t12
        have HXX12 := Lib.hid hX12
        clear hX12 t11
        have HS6 := Lib.hid (HS6.out.ext rints_lasts HXX12.out)
        go_wp2_with fail
        refine (sameLists_calls _ _ rows _ HS6.out HS12.out HRL.out.1 HRL.out.2).mono ?_
        rintro e w13 ⟨rfl, hX13⟩
        have HE13 := Lib.hid (HE12.out.trans' hX13)
        have HY13 := Lib.hid (hX13.hp HY12.out)
        have t13 := cellOf HY13.out 0
        simp only [List.getElem?_toArray, List.getElem?_cons_zero] at t13
        have HXX13 := Lib.hid hX13
        clear hX13 t12
        go_wp2
        go_ret
        exact ⟨by simp, HE13.out⟩
    case pos =>
      subst h0
      have hi0 := (HOF.out rfl).2
      rw [if_pos rfl] at HC1
      obtain ⟨i, hi⟩ : ∃ i : Nat, idxV t[q]! s = (i : Int) := ⟨(idxV t[q]! s).toNat, by omega⟩
      have hin : i < t[q]!.vars.length := by have := (idxV_range t[q]! s).2; omega
      have HC7 := Lib.hid (fun W (hW : Ext w W) => indexR_calls _ t q s W (HT.out.ext hW) HLO.out hqt (HLO.out.2 q hqt).1)
      rw [hi] at HC1 HC7
      rw [Int.toNat_natCast] at HC1
      have HC8 := Lib.hid (fun W (hW : Ext w W) => valueF_calls _ t q i j W (HT.out.ext hW) hv hqt hin hjn)
      generalize valF t q i j = x at *
      have ex : (x != x) = false := by simp
      clear hi0 hi hin
      generalize stV t q j = st at *
      clear hv hp0 hpn hk0 hkn hqt hjn
      by_cases h2 : G = 0
      case neg =>
        rw [if_neg h2] at HC3
        have g2 : (G != 0) = true := by simp [h2]
        clear h2
        go_wp2_with fail
        refine (HC1.out _ HE3.out).mono ?_
        rintro e w4 ⟨rfl, hX4⟩
        have HE4 := Lib.hid (HE3.out.trans' hX4)
        have HY4 := Lib.hid (hX4.hp HY3.out)
        have t4 := cellOf HY4.out 0
        simp only [List.getElem?_toArray, List.getElem?_cons_zero] at t4
        have HXX4 := Lib.hid hX4
        clear hX4 t3
        go_wp2_with fail
        refine (HC2.out _ HE4.out).mono ?_
        rintro e w5 ⟨u5, rfl, hR5, hX5⟩
        obtain ⟨ua5, uc5, hu5, _⟩ := hR5.any
        subst hu5
        have HI5 := Lib.hid hR5.ints
        clear hR5
        have HE5 := Lib.hid (HE4.out.trans' hX5)
        have HY5 := Lib.hid (hX5.hp HY4.out)
        have t5 := cellOf HY5.out 0
        simp only [List.getElem?_toArray, List.getElem?_cons_zero] at t5
        have HXX5 := Lib.hid hX5
        clear hX5 t4
        go_wp2_with fail
        refine (HC3.out _ HE5.out).mono ?_
        rintro e w6 ⟨u6, rfl, hS6, hX6⟩
        obtain ⟨ua6, uc6, hu6, _⟩ := hS6.sh
        subst hu6
        have HS6 := Lib.hid hS6
        clear hS6
        have HE6 := Lib.hid (HE5.out.trans' hX6)
        have HY6 := Lib.hid (hX6.hp HY5.out)
        have t6 := cellOf HY6.out 0
        simp only [List.getElem?_toArray, List.getElem?_cons_zero] at t6
        have HXX6 := Lib.hid hX6
        clear hX6 t5
        have HI5 := Lib.hid (HI5.out.ext HXX6.out)
        go_wp2_with fail
        refine (HC4.out _ HE6.out).mono ?_
        rintro e w7 ⟨rfl, hX7⟩
        have HE7 := Lib.hid (HE6.out.trans' hX7)
        have HY7 := Lib.hid (hX7.hp HY6.out)
        have t7 := cellOf HY7.out 0
        simp only [List.getElem?_toArray, List.getElem?_cons_zero] at t7
        have HXX7 := Lib.hid hX7
        clear hX7 t6
        have HI5 := Lib.hid (HI5.out.ext HXX7.out)
        have HS6 := Lib.hid (HS6.out.ext rints_lasts HXX7.out)
        go_wp2
        have HT7 := Lib.hid (show Ext w w7.drew from HE7.out.dr)
        have c7 := (show Ext w7 w7.drew from (Ext.rf w7).dr).cl t7
        refine wp_region_tail (fun w' => w'.cell? ⟨w.heap.size, 0, none⟩ = some (.slice ta tn tc)) 13 (by kernel_rfl) c7 (fun hHeld => ?_)
        have HX7 := Lib.hid (show Ext w7 w7.drew from (Ext.rf w7).dr)
        generalize w7.drew = wT at *
        refine wpAnyT_take (i := 0) (d := some 64) (v := ?_) rfl rfl (by kernel_rfl) (by kernel_rfl) (by kernel_rfl) (by kernel_rfl) (fun _ _ _ h => h) (Or.inl ⟨by rfl, ?_⟩) (by assumption) ?_
        rotate_left
        · (intro w hSw; (try dsimp only at hSw); go_simp; try (with_reducible rfl))
        try simp only [Act.put]
        try simp only [List.setIfInBounds_toArray]
        try simp only [List.set_cons_zero, List.set_cons_succ]
        refine wpAnyT_take (i := 1) (d := some 65) (v := ?_) rfl rfl (by kernel_rfl) (by kernel_rfl) (by kernel_rfl) (by kernel_rfl) (fun _ _ _ h => h) (Or.inl ⟨by rfl, ?_⟩) (by assumption) ?_
        rotate_left
        · (intro w hSw; (try dsimp only at hSw); go_simp; try (with_reducible rfl))
        try simp only [Act.put]
        try simp only [List.setIfInBounds_toArray]
        try simp only [List.set_cons_zero, List.set_cons_succ]
        refine wpAnyT_take (i := 2) (d := some 66) (v := ?_) rfl rfl (by kernel_rfl) (by kernel_rfl) (by kernel_rfl) (by kernel_rfl) (fun _ _ _ h => h) (Or.inl ⟨by rfl, ?_⟩) (by assumption) ?_
        rotate_left
        · (intro w hSw; (try dsimp only at hSw); go_simp; try (with_reducible rfl))
        try simp only [Act.put]
        try simp only [List.setIfInBounds_toArray]
        try simp only [List.set_cons_zero, List.set_cons_succ]
        refine wpAnyT_take (i := 3) (d := some 67) (v := ?_) rfl rfl (by kernel_rfl) (by kernel_rfl) (by kernel_rfl) (by kernel_rfl) (fun _ _ _ h => h) (Or.inl ⟨by rfl, ?_⟩) (by assumption) ?_
        rotate_left
        · (intro w hSw; (try dsimp only at hSw); go_simp; try (with_reducible rfl))
        try simp only [Act.put]
        try simp only [List.setIfInBounds_toArray]
        try simp only [List.set_cons_zero, List.set_cons_succ]
        refine wpAnyT_take (i := 4) (d := some 68) (v := ?_) rfl rfl (by kernel_rfl) (by kernel_rfl) (by kernel_rfl) (by kernel_rfl) (fun _ _ _ h => h) (Or.inl ⟨by rfl, ?_⟩) (by assumption) ?_
        rotate_left
        · (intro w hSw; (try dsimp only at hSw); go_simp; try (with_reducible rfl))
        try simp only [Act.put]
        try simp only [List.setIfInBounds_toArray]
        try simp only [List.set_cons_zero, List.set_cons_succ]
        refine wpAnyT_take (i := 5) (d := some 69) (v := ?_) rfl rfl (by kernel_rfl) (by kernel_rfl) (by kernel_rfl) (by kernel_rfl) (fun _ _ _ h => h) (Or.inl ⟨by rfl, ?_⟩) (by assumption) ?_
        rotate_left
        · (intro w hSw; (try dsimp only at hSw); go_simp; try (with_reducible rfl))
        try simp only [Act.put]
        try simp only [List.setIfInBounds_toArray]
        try simp only [List.set_cons_zero, List.set_cons_succ]
        refine wpAnyT_take (i := 6) (d := some 70) (v := ?_) rfl rfl (by kernel_rfl) (by kernel_rfl) (by kernel_rfl) (by kernel_rfl) (fun _ _ _ h => h) (Or.inl ⟨by rfl, ?_⟩) (by assumption) ?_
        rotate_left
        · (intro w hSw; (try dsimp only at hSw); go_simp; try (with_reducible rfl))
        try simp only [Act.put]
        try simp only [List.setIfInBounds_toArray]
        try simp only [List.set_cons_zero, List.set_cons_succ]
        refine wpAnyT_take (i := 7) (d := some 71) (v := ?_) rfl rfl (by kernel_rfl) (by kernel_rfl) (by kernel_rfl) (by kernel_rfl) (fun _ _ _ h => h) (Or.inl ⟨by rfl, ?_⟩) (by assumption) ?_
        rotate_left
        · (intro w hSw; (try dsimp only at hSw); go_simp; try (with_reducible rfl))
        try simp only [Act.put]
        try simp only [List.setIfInBounds_toArray]
        try simp only [List.set_cons_zero, List.set_cons_succ]
        refine wpAnyT_take (i := 8) (d := some 72) (v := ?_) rfl rfl (by kernel_rfl) (by kernel_rfl) (by kernel_rfl) (by kernel_rfl) (fun _ _ _ h => h) (Or.inl ⟨by rfl, ?_⟩) (by assumption) ?_
        rotate_left
        · (intro w hSw; (try dsimp only at hSw); go_simp; try (with_reducible rfl))
        try simp only [Act.put]
        try simp only [List.setIfInBounds_toArray]
        try simp only [List.set_cons_zero, List.set_cons_succ]
        refine wpAnyT_take (i := 10) (d := some 74) (v := ?_) rfl rfl (by kernel_rfl) (by kernel_rfl) (by kernel_rfl) (by kernel_rfl) (fun _ _ _ h => h) (Or.inl ⟨by rfl, ?_⟩) (by assumption) ?_
        rotate_left
        · (intro w hSw; (try dsimp only at hSw); go_simp; try (with_reducible rfl))
        try simp only [Act.put]
        try simp only [List.setIfInBounds_toArray]
        try simp only [List.set_cons_zero, List.set_cons_succ]
        refine wpAnyT_step (i := 9) (by kernel_rfl) rfl (fun K hK => ?_)
        refine step_callW (by kernel_rfl) 15 _ _ rfl entersV_15 [.agg #[.slice ta tn tc], .int .i64 q, .string s] (by first | rfl | kernel_rfl | go_simp) (HC7.out _ HT7.out) ?_
        rintro e w8 ⟨rfl, hX8⟩
        refine ⟨_, rfl, ?_⟩
        have c8 := hX8.cl c7
        have HT8 := Lib.hid (HT7.out.trans' hX8)
        have HX8 := Lib.hid (HX7.out.trans' hX8)
        clear hX8
        refine hK.out _ _ ?_ (fun hHeld => ?_)
        · (try dsimp only)
          exact c8
        clear hK K
        try simp only [Act.put]
        try simp only [List.setIfInBounds_toArray]
        try simp only [List.set_cons_zero, List.set_cons_succ]
        refine wpAnyT_step (i := 11) (by kernel_rfl) rfl (fun K hK => ?_)
        refine step_callW (by kernel_rfl) 31 _ _ rfl entersV_31 [.agg #[.slice ta tn tc], .int .i64 q, .int .i64 i, .int .i64 j] (by first | rfl | kernel_rfl | go_simp) (HC8.out _ HT8.out) ?_
        rintro e w9 ⟨rfl, hX9⟩
        refine ⟨_, rfl, ?_⟩
        have t9 := hX9.cl c8
        have HE9 := Lib.hid (HT8.out.trans' hX9)
        have HXX9 := Lib.hid (HX8.out.trans' hX9)
        have HY9 := Lib.hid (HXX9.out.hp HY7.out)
        clear hX9 c7 c8 t7
        refine hK.out _ _ ?_ (fun hHeld => ?_)
        · (try dsimp only)
          exact t9
        clear hK K
        try simp only [Act.put]
        try simp only [List.setIfInBounds_toArray]
        try simp only [List.set_cons_zero, List.set_cons_succ]
        refine wpAnyT_take (i := 12) (d := some 76) (v := ?_) rfl rfl (by kernel_rfl) (by kernel_rfl) (by kernel_rfl) (by kernel_rfl) (fun _ _ _ h => h) (Or.inl ⟨by rfl, ?_⟩) (by assumption) ?_
        rotate_left
        · (intro w hSw; (try dsimp only at hSw); go_simp; try (with_reducible rfl))
        try simp only [Act.put]
        try simp only [List.setIfInBounds_toArray]
        try simp only [List.set_cons_zero, List.set_cons_succ]
        refine wpAnyT_last (by kernel_rfl) rfl (by kernel_rfl) (fun K hK => ?_)
        go_simp
        refine hK.out _ _ ?_
        have HI5 := Lib.hid (HI5.out.ext HXX9.out)
        have HS6 := Lib.hid (HS6.out.ext rints_lasts HXX9.out)
        go_wp2_with fail
        refine (HC5.out _ HE9.out).mono ?_
        rintro e w10 ⟨rfl, hX10⟩
        have HE10 := Lib.hid (HE9.out.trans' hX10)
        have HY10 := Lib.hid (hX10.hp HY9.out)
        have t10 := cellOf HY10.out 0
        simp only [List.getElem?_toArray, List.getElem?_cons_zero] at t10
        have HXX10 := Lib.hid hX10
        clear hX10 t9
        have HI5 := Lib.hid (HI5.out.ext HXX10.out)
        have HS6 := Lib.hid (HS6.out.ext rints_lasts HXX10.out)
        go_wp2_with fail
        refine (HCA.out _ HE10.out).mono ?_
        rintro e w11 ⟨u11, rfl, hR11, hX11⟩
        obtain ⟨ua11, uc11, hu11, _⟩ := hR11.any
        subst hu11
        have HI11 := Lib.hid hR11.ints
        clear hR11
        have HE11 := Lib.hid (HE10.out.trans' hX11)
        have HY11 := Lib.hid (hX11.hp HY10.out)
        have t11 := cellOf HY11.out 0
        simp only [List.getElem?_toArray, List.getElem?_cons_zero] at t11
        have HXX11 := Lib.hid hX11
        clear hX11 t10
        have HI5 := Lib.hid (HI5.out.ext HXX11.out)
        have HS6 := Lib.hid (HS6.out.ext rints_lasts HXX11.out)
        go_wp2_with fail
        refine (equal_int _ _ st st _ HI5.out HI11.out HLS.out HLS.out).mono ?_
        rintro e w12 ⟨rfl, hX12⟩
        have HE12 := Lib.hid (HE11.out.trans' hX12)
        have HY12 := Lib.hid (hX12.hp HY11.out)
        have t12 := cellOf HY12.out 0
        simp only [List.getElem?_toArray, List.getElem?_cons_zero] at t12
        have HXX12 := Lib.hid hX12
        clear hX12 t11
        have HI5 := Lib.hid (HI5.out.ext HXX12.out)
        have HS6 := Lib.hid (HS6.out.ext rints_lasts HXX12.out)
        go_wp2_with fail
        refine (HC6.out _ HE12.out).mono ?_
        rintro e w13 ⟨rfl, hX13⟩
        have HE13 := Lib.hid (HE12.out.trans' hX13)
        have HY13 := Lib.hid (hX13.hp HY12.out)
        have t13 := cellOf HY13.out 0
        simp only [List.getElem?_toArray, List.getElem?_cons_zero] at t13
        have HXX13 := Lib.hid hX13
        clear hX13 t12
        go_wp2
        go_ret
        exact ⟨by simp, HE13.out⟩
      case pos =>
        subst h2
        obtain ⟨hv2, hc2⟩ := HOG.out rfl
        rw [if_pos rfl] at HC3
        have HC9 := Lib.hid (fun W (hW : Ext w W) => atF_calls _ _ t c W (HT.out.ext hW) hv2 (HC.out.ext hW) hc2.1)
        have HRL : Hid ((atL t c).length ≤ 1000000 ∧ ∀ i, i < (atL t c).length → (atL t c)[i]!.length ≤ 1000000) := Lib.hid (by
          rw [atL_len, HCM.out]
          refine ⟨by omega, fun i hi => ?_⟩
          have hit : i < t.length := by rw [← hc2.1.1, HCM.out]; exact hi
          have hr := hc2.1.at hit
          rw [atL_at (by rw [HCM.out]; exact hi), stV_len t i c[i]!.toNat (by have := hr.1; have := hr.2; omega)]
          have := ((valid_small hv2).2 i hit).1; omega)
        generalize atL t c = rows at *
        clear hv2 hc2
        go_wp2_with fail
        refine (HC1.out _ HE3.out).mono ?_
        rintro e w4 ⟨rfl, hX4⟩
        have HE4 := Lib.hid (HE3.out.trans' hX4)
        have HY4 := Lib.hid (hX4.hp HY3.out)
        have t4 := cellOf HY4.out 0
        simp only [List.getElem?_toArray, List.getElem?_cons_zero] at t4
        have HXX4 := Lib.hid hX4
        clear hX4 t3
        go_wp2_with fail
        refine (HC2.out _ HE4.out).mono ?_
        rintro e w5 ⟨u5, rfl, hR5, hX5⟩
        obtain ⟨ua5, uc5, hu5, _⟩ := hR5.any
        subst hu5
        have HI5 := Lib.hid hR5.ints
        clear hR5
        have HE5 := Lib.hid (HE4.out.trans' hX5)
        have HY5 := Lib.hid (hX5.hp HY4.out)
        have t5 := cellOf HY5.out 0
        simp only [List.getElem?_toArray, List.getElem?_cons_zero] at t5
        have HXX5 := Lib.hid hX5
        clear hX5 t4
        go_wp2_with fail
        refine (HC3.out _ HE5.out).mono ?_
        rintro e w6 ⟨u6, rfl, hS6, hX6⟩
        obtain ⟨ua6, uc6, hu6, _⟩ := hS6.sh
        subst hu6
        have HS6 := Lib.hid hS6
        clear hS6
        have HE6 := Lib.hid (HE5.out.trans' hX6)
        have HY6 := Lib.hid (hX6.hp HY5.out)
        have t6 := cellOf HY6.out 0
        simp only [List.getElem?_toArray, List.getElem?_cons_zero] at t6
        have HXX6 := Lib.hid hX6
        clear hX6 t5
        have HI5 := Lib.hid (HI5.out.ext HXX6.out)
        go_wp2_with fail
        refine (HC4.out _ HE6.out).mono ?_
        rintro e w7 ⟨rfl, hX7⟩
        have HE7 := Lib.hid (HE6.out.trans' hX7)
        have HY7 := Lib.hid (hX7.hp HY6.out)
        have t7 := cellOf HY7.out 0
        simp only [List.getElem?_toArray, List.getElem?_cons_zero] at t7
        have HXX7 := Lib.hid hX7
        clear hX7 t6
        have HI5 := Lib.hid (HI5.out.ext HXX7.out)
        have HS6 := Lib.hid (HS6.out.ext rints_lasts HXX7.out)
        go_wp2
        have HT7 := Lib.hid (show Ext w w7.drew from HE7.out.dr)
        have c7 := (show Ext w7 w7.drew from (Ext.rf w7).dr).cl t7
        refine wp_region_tail (fun w' => w'.cell? ⟨w.heap.size, 0, none⟩ = some (.slice ta tn tc)) 13 (by kernel_rfl) c7 (fun hHeld => ?_)
        have HX7 := Lib.hid (show Ext w7 w7.drew from (Ext.rf w7).dr)
        generalize w7.drew = wT at *
        refine wpAnyT_take (i := 0) (d := some 64) (v := ?_) rfl rfl (by kernel_rfl) (by kernel_rfl) (by kernel_rfl) (by kernel_rfl) (fun _ _ _ h => h) (Or.inl ⟨by rfl, ?_⟩) (by assumption) ?_
        rotate_left
        · (intro w hSw; (try dsimp only at hSw); go_simp; try (with_reducible rfl))
        try simp only [Act.put]
        try simp only [List.setIfInBounds_toArray]
        try simp only [List.set_cons_zero, List.set_cons_succ]
        refine wpAnyT_take (i := 1) (d := some 65) (v := ?_) rfl rfl (by kernel_rfl) (by kernel_rfl) (by kernel_rfl) (by kernel_rfl) (fun _ _ _ h => h) (Or.inl ⟨by rfl, ?_⟩) (by assumption) ?_
        rotate_left
        · (intro w hSw; (try dsimp only at hSw); go_simp; try (with_reducible rfl))
        try simp only [Act.put]
        try simp only [List.setIfInBounds_toArray]
        try simp only [List.set_cons_zero, List.set_cons_succ]
        refine wpAnyT_take (i := 2) (d := some 66) (v := ?_) rfl rfl (by kernel_rfl) (by kernel_rfl) (by kernel_rfl) (by kernel_rfl) (fun _ _ _ h => h) (Or.inl ⟨by rfl, ?_⟩) (by assumption) ?_
        rotate_left
        · (intro w hSw; (try dsimp only at hSw); go_simp; try (with_reducible rfl))
        try simp only [Act.put]
        try simp only [List.setIfInBounds_toArray]
        try simp only [List.set_cons_zero, List.set_cons_succ]
        refine wpAnyT_take (i := 3) (d := some 67) (v := ?_) rfl rfl (by kernel_rfl) (by kernel_rfl) (by kernel_rfl) (by kernel_rfl) (fun _ _ _ h => h) (Or.inl ⟨by rfl, ?_⟩) (by assumption) ?_
        rotate_left
        · (intro w hSw; (try dsimp only at hSw); go_simp; try (with_reducible rfl))
        try simp only [Act.put]
        try simp only [List.setIfInBounds_toArray]
        try simp only [List.set_cons_zero, List.set_cons_succ]
        refine wpAnyT_take (i := 4) (d := some 68) (v := ?_) rfl rfl (by kernel_rfl) (by kernel_rfl) (by kernel_rfl) (by kernel_rfl) (fun _ _ _ h => h) (Or.inl ⟨by rfl, ?_⟩) (by assumption) ?_
        rotate_left
        · (intro w hSw; (try dsimp only at hSw); go_simp; try (with_reducible rfl))
        try simp only [Act.put]
        try simp only [List.setIfInBounds_toArray]
        try simp only [List.set_cons_zero, List.set_cons_succ]
        refine wpAnyT_take (i := 5) (d := some 69) (v := ?_) rfl rfl (by kernel_rfl) (by kernel_rfl) (by kernel_rfl) (by kernel_rfl) (fun _ _ _ h => h) (Or.inl ⟨by rfl, ?_⟩) (by assumption) ?_
        rotate_left
        · (intro w hSw; (try dsimp only at hSw); go_simp; try (with_reducible rfl))
        try simp only [Act.put]
        try simp only [List.setIfInBounds_toArray]
        try simp only [List.set_cons_zero, List.set_cons_succ]
        refine wpAnyT_take (i := 6) (d := some 70) (v := ?_) rfl rfl (by kernel_rfl) (by kernel_rfl) (by kernel_rfl) (by kernel_rfl) (fun _ _ _ h => h) (Or.inl ⟨by rfl, ?_⟩) (by assumption) ?_
        rotate_left
        · (intro w hSw; (try dsimp only at hSw); go_simp; try (with_reducible rfl))
        try simp only [Act.put]
        try simp only [List.setIfInBounds_toArray]
        try simp only [List.set_cons_zero, List.set_cons_succ]
        refine wpAnyT_take (i := 7) (d := some 71) (v := ?_) rfl rfl (by kernel_rfl) (by kernel_rfl) (by kernel_rfl) (by kernel_rfl) (fun _ _ _ h => h) (Or.inl ⟨by rfl, ?_⟩) (by assumption) ?_
        rotate_left
        · (intro w hSw; (try dsimp only at hSw); go_simp; try (with_reducible rfl))
        try simp only [Act.put]
        try simp only [List.setIfInBounds_toArray]
        try simp only [List.set_cons_zero, List.set_cons_succ]
        refine wpAnyT_take (i := 8) (d := some 72) (v := ?_) rfl rfl (by kernel_rfl) (by kernel_rfl) (by kernel_rfl) (by kernel_rfl) (fun _ _ _ h => h) (Or.inl ⟨by rfl, ?_⟩) (by assumption) ?_
        rotate_left
        · (intro w hSw; (try dsimp only at hSw); go_simp; try (with_reducible rfl))
        try simp only [Act.put]
        try simp only [List.setIfInBounds_toArray]
        try simp only [List.set_cons_zero, List.set_cons_succ]
        refine wpAnyT_take (i := 10) (d := some 74) (v := ?_) rfl rfl (by kernel_rfl) (by kernel_rfl) (by kernel_rfl) (by kernel_rfl) (fun _ _ _ h => h) (Or.inl ⟨by rfl, ?_⟩) (by assumption) ?_
        rotate_left
        · (intro w hSw; (try dsimp only at hSw); go_simp; try (with_reducible rfl))
        try simp only [Act.put]
        try simp only [List.setIfInBounds_toArray]
        try simp only [List.set_cons_zero, List.set_cons_succ]
        refine wpAnyT_step (i := 9) (by kernel_rfl) rfl (fun K hK => ?_)
        refine step_callW (by kernel_rfl) 15 _ _ rfl entersV_15 [.agg #[.slice ta tn tc], .int .i64 q, .string s] (by first | rfl | kernel_rfl | go_simp) (HC7.out _ HT7.out) ?_
        rintro e w8 ⟨rfl, hX8⟩
        refine ⟨_, rfl, ?_⟩
        have c8 := hX8.cl c7
        have HT8 := Lib.hid (HT7.out.trans' hX8)
        have HX8 := Lib.hid (HX7.out.trans' hX8)
        clear hX8
        refine hK.out _ _ ?_ (fun hHeld => ?_)
        · (try dsimp only)
          exact c8
        clear hK K
        try simp only [Act.put]
        try simp only [List.setIfInBounds_toArray]
        try simp only [List.set_cons_zero, List.set_cons_succ]
        refine wpAnyT_step (i := 11) (by kernel_rfl) rfl (fun K hK => ?_)
        refine step_callW (by kernel_rfl) 31 _ _ rfl entersV_31 [.agg #[.slice ta tn tc], .int .i64 q, .int .i64 i, .int .i64 j] (by first | rfl | kernel_rfl | go_simp) (HC8.out _ HT8.out) ?_
        rintro e w9 ⟨rfl, hX9⟩
        refine ⟨_, rfl, ?_⟩
        have t9 := hX9.cl c8
        have HE9 := Lib.hid (HT8.out.trans' hX9)
        have HXX9 := Lib.hid (HX8.out.trans' hX9)
        have HY9 := Lib.hid (HXX9.out.hp HY7.out)
        clear hX9 c7 c8 t7
        refine hK.out _ _ ?_ (fun hHeld => ?_)
        · (try dsimp only)
          exact t9
        clear hK K
        try simp only [Act.put]
        try simp only [List.setIfInBounds_toArray]
        try simp only [List.set_cons_zero, List.set_cons_succ]
        refine wpAnyT_take (i := 12) (d := some 76) (v := ?_) rfl rfl (by kernel_rfl) (by kernel_rfl) (by kernel_rfl) (by kernel_rfl) (fun _ _ _ h => h) (Or.inl ⟨by rfl, ?_⟩) (by assumption) ?_
        rotate_left
        · (intro w hSw; (try dsimp only at hSw); go_simp; try (with_reducible rfl))
        try simp only [Act.put]
        try simp only [List.setIfInBounds_toArray]
        try simp only [List.set_cons_zero, List.set_cons_succ]
        refine wpAnyT_last (by kernel_rfl) rfl (by kernel_rfl) (fun K hK => ?_)
        go_simp
        refine hK.out _ _ ?_
        have HI5 := Lib.hid (HI5.out.ext HXX9.out)
        have HS6 := Lib.hid (HS6.out.ext rints_lasts HXX9.out)
        go_wp2_with fail
        refine (HC5.out _ HE9.out).mono ?_
        rintro e w10 ⟨rfl, hX10⟩
        have HE10 := Lib.hid (HE9.out.trans' hX10)
        have HY10 := Lib.hid (hX10.hp HY9.out)
        have t10 := cellOf HY10.out 0
        simp only [List.getElem?_toArray, List.getElem?_cons_zero] at t10
        have HXX10 := Lib.hid hX10
        clear hX10 t9
        have HI5 := Lib.hid (HI5.out.ext HXX10.out)
        have HS6 := Lib.hid (HS6.out.ext rints_lasts HXX10.out)
        go_wp2_with fail
        refine (HCA.out _ HE10.out).mono ?_
        rintro e w11 ⟨u11, rfl, hR11, hX11⟩
        obtain ⟨ua11, uc11, hu11, _⟩ := hR11.any
        subst hu11
        have HI11 := Lib.hid hR11.ints
        clear hR11
        have HE11 := Lib.hid (HE10.out.trans' hX11)
        have HY11 := Lib.hid (hX11.hp HY10.out)
        have t11 := cellOf HY11.out 0
        simp only [List.getElem?_toArray, List.getElem?_cons_zero] at t11
        have HXX11 := Lib.hid hX11
        clear hX11 t10
        have HI5 := Lib.hid (HI5.out.ext HXX11.out)
        have HS6 := Lib.hid (HS6.out.ext rints_lasts HXX11.out)
        go_wp2_with fail
        refine (equal_int _ _ st st _ HI5.out HI11.out HLS.out HLS.out).mono ?_
        rintro e w12 ⟨rfl, hX12⟩
        have HE12 := Lib.hid (HE11.out.trans' hX12)
        have HY12 := Lib.hid (hX12.hp HY11.out)
        have t12 := cellOf HY12.out 0
        simp only [List.getElem?_toArray, List.getElem?_cons_zero] at t12
        have HXX12 := Lib.hid hX12
        clear hX12 t11
        have HI5 := Lib.hid (HI5.out.ext HXX12.out)
        have HS6 := Lib.hid (HS6.out.ext rints_lasts HXX12.out)
        go_wp2_with fail
        refine (HC6.out _ HE12.out).mono ?_
        rintro e w13 ⟨rfl, hX13⟩
        have HE13 := Lib.hid (HE12.out.trans' hX13)
        have HY13 := Lib.hid (hX13.hp HY12.out)
        have t13 := cellOf HY13.out 0
        simp only [List.getElem?_toArray, List.getElem?_cons_zero] at t13
        have HXX13 := Lib.hid hX13
        clear hX13 t12
        have HI5 := Lib.hid (HI5.out.ext HXX13.out)
        have HS6 := Lib.hid (HS6.out.ext rints_lasts HXX13.out)
        go_wp2_with fail
        refine (HC9.out _ HE13.out).mono ?_
        rintro e w14 ⟨u14, rfl, hS14, hX14⟩
        obtain ⟨ua14, uc14, hu14, _⟩ := hS14.sh
        subst hu14
        have HS14 := Lib.hid hS14
        clear hS14
        have HE14 := Lib.hid (HE13.out.trans' hX14)
        have HY14 := Lib.hid (hX14.hp HY13.out)
        have t14 := cellOf HY14.out 0
        simp only [List.getElem?_toArray, List.getElem?_cons_zero] at t14
        have HXX14 := Lib.hid hX14
        clear hX14 t13
        have HS6 := Lib.hid (HS6.out.ext rints_lasts HXX14.out)
        go_wp2_with fail
        refine (sameLists_calls _ _ rows _ HS6.out HS14.out HRL.out.1 HRL.out.2).mono ?_
        rintro e w15 ⟨rfl, hX15⟩
        have HE15 := Lib.hid (HE14.out.trans' hX15)
        have HY15 := Lib.hid (hX15.hp HY14.out)
        have t15 := cellOf HY15.out 0
        simp only [List.getElem?_toArray, List.getElem?_cons_zero] at t15
        have HXX15 := Lib.hid hX15
        clear hX15 t14
        go_wp2
        go_ret
        exact ⟨by simp, HE15.out⟩

end Go.Proofs.Ytfcpnggdpaeldaa
