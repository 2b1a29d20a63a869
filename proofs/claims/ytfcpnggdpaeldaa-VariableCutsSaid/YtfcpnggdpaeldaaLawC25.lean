/-
  The statement VariableCuts, walked.
-/
import Derived.Test.YtfcpnggdpaeldaaGa
import Derived.Test.YtfcpnggdpaeldaaProg
import Derived.BigQuiet
import Derived.Deep.QuietTactic
import Derived.Deep.LoopGhost
import Derived.Shelf.Abstract
import Derived.Test.YtfcpnggdpaeldaaGm
import Derived.Test.YtfcpnggdpaeldaaGo
import Derived.Test.YtfcpnggdpaeldaaLawV25
namespace Go.Proofs.Ytfcpnggdpaeldaa
open Go.RowKit
set_option linter.unusedVariables false

theorem given_zero {t : Tr} {c : List Int} (hv : validT t = true) (hc : ConsC t c) : givenE t [c] [] = 0 := (givenE_one t c).2 (consB_iff.2 ⟨hv, hc⟩)
theorem pre_at {t : Tr} {c : List Int} (hc : ConsC t c) : atL (prefT t c) c = atL t c := by
  unfold atL atTo
  refine List.map_congr_left fun p hp => ?_
  have hpl : p < t.length := by have := List.mem_range.1 hp; have := hc.1.1; omega
  exact pre_states hc.1 hpl _ (Nat.le_refl _)
theorem place_zero {t : Tr} {p k : Nat} (hv : validT t = true) (hp : p < t.length) (hk : k ≤ t[p]!.events.length) : placeE t p k = 0 := by
  unfold placeE
  rw [if_pos hv, if_pos ⟨⟨by omega, by omega⟩, by omega, by rw [Int.toNat_natCast]; omega⟩]

set_option maxHeartbeats 16000000 in
set_option maxRecDepth 100000 in
theorem variableCuts_calls (v vc : Value) (t : Tr) (c : List Int) (w : World) (h : TrAt w v t) (hc : Ints w vc c) :
    Calls Try.prog 8 #[.agg #[v], vc] w fun e w' => e = .returned (.bool true) ∧ Ext w w' := by
  have HC := Lib.hid hc
  obtain ⟨ca, cc, rfl, hlc, _⟩ := hc
  generalize hcm : c.length = m at *
  have HCM := Lib.hid hcm
  clear hcm
  have HT := Lib.hid h
  have HGC := Lib.hid (fun W (hW : Ext w W) => great_calls v t W (h.ext hW))
  obtain ⟨ta, tc, rfl, htc⟩ := h.sh
  obtain ⟨tn, htn⟩ : ∃ n, t.length = n := ⟨_, rfl⟩
  rw [htn] at HGC HT ⊢
  have HTN := Lib.hid htn
  have HX0 := Lib.hid (heap_alloc_new w (.cells #[.slice ta tn tc] 24))
  have HE1 := Lib.hid ((Ext.rf w).al (.cells #[.slice ta tn tc] 24))
  obtain ⟨gw, hgw⟩ : ∃ b, greatT t = b := ⟨_, rfl⟩
  rw [hgw] at HGC
  have HGW := Lib.hid hgw
  clear h hgw htc htn
  go_enter Try.func8, Try.ntmps8
  go_wp2_with fail
  refine (awake25_calls _).mono ?_
  rintro e w2 ⟨rfl, hX2⟩
  have HE2 := Lib.hid (HE1.out.trans' hX2)
  have HY2 := Lib.hid (hX2.hp HX0.out)
  have t2 := cellOf HY2.out 0
  simp only [List.getElem?_toArray, List.getElem?_cons_zero] at t2
  clear hX2
  go_wp2_with fail
  refine (HGC.out _ HE2.out).mono ?_
  rintro e w3 ⟨rfl, hX3⟩
  have HE3 := Lib.hid (HE2.out.trans' hX3)
  have HY3 := Lib.hid (hX3.hp HY2.out)
  have t3 := cellOf HY3.out 0
  simp only [List.getElem?_toArray, List.getElem?_cons_zero] at t3
  clear hX3 t2
  cases gw with
  | true =>
    go_wp2
    go_ret
    exact ⟨rfl, HE3.out⟩
  | false =>
  have HLO := Lib.hid (great_loose HGW.out).1
  have HTL := Lib.hid (great_loose HGW.out).2
  have HC6 := Lib.hid (fun W (hW : Ext w W) => cutFaultR_calls _ _ t c W (HT.out.ext hW) HLO.out (HC.out.ext hW))
  have HC3 := Lib.hid (fun W (hW : Ext w W) => atP_calls _ _ t c W (HT.out.ext hW) HLO.out (HC.out.ext hW))
  have HC2 := Lib.hid (fun W (hW : Ext w W) p k => stateV_calls _ t p k W (HT.out.ext hW) HLO.out)
  have HOG : Hid (givenE t [c] [] = 0 → validT t = true ∧ ConsC t c) := Lib.hid (fun h0 => by obtain ⟨h1, h2, _⟩ := givenE_ps h0; exact ⟨h1, h2⟩)
  obtain ⟨G, hG⟩ : ∃ E, givenE t [c] [] = E := ⟨_, rfl⟩
  rw [hG] at HC3 HC6 HOG
  clear hG
  by_cases h2 : G = 0
  case neg =>
    have g2 : (G != 0) = true := by simp [h2]
    clear h2
    go_wp2_with fail
    refine (HC6.out _ HE3.out).mono ?_
    rintro e w4 ⟨rfl, hX4⟩
    have HE4 := Lib.hid (HE3.out.trans' hX4)
    have HY4 := Lib.hid (hX4.hp HY3.out)
    have t4 := cellOf HY4.out 0
    simp only [List.getElem?_toArray, List.getElem?_cons_zero] at t4
    have HXX4 := Lib.hid hX4
    clear hX4 t3
    go_wp2
    go_ret
    exact ⟨rfl, HE4.out⟩
  case pos =>
  subst h2
  obtain ⟨hv, hk⟩ := HOG.out rfl
  rw [if_pos rfl] at HC3
  have hcl := hk.1.1
  have HV := Lib.hid hv
  have HK := Lib.hid hk
  have HCB := Lib.hid (fun W (hW : Ext w W) => prefixR_calls _ _ t c W (HT.out.ext hW) hv (HC.out.ext hW) hk)
  have HPV := Lib.hid (pre_valid hv hk)
  have HPA := Lib.hid (fun u W (hW : Ext w W) (hu : TrAt W u (prefT t c)) => atP_calls u _ (prefT t c) c W hu (valid_small (pre_valid hv hk)).loose (HC.out.ext hW))
  rw [given_zero (pre_valid hv hk) (pre_cons hk), if_pos rfl, pre_at hk] at HPA
  obtain rfl : m = tn := by rw [← HCM.out, ← HTN.out]; exact hcl
  have hm20 : m ≤ 1000000 := by have := (valid_small hv).1; rw [HTN.out] at this; exact this
  have HRN : Hid ((atL t c).length = m) := Lib.hid (by rw [atL_len, HCM.out])
  have HRL : Hid (∀ i, i < m → (atL t c)[i]!.length ≤ 1000000) := Lib.hid (fun i hi => by
    have hit : i < t.length := by rw [HTN.out]; exact hi
    have hr := hk.1.at hit
    rw [atL_at (by rw [HCM.out]; exact hi), stV_len t i c[i]!.toNat (by have := hr.1; have := hr.2; omega)]
    have := ((valid_small hv).2 i hit).1; omega)
  have HAT : Hid (∀ p, p < m → (atL t c)[p]! = stV t p c[p]!.toNat) := Lib.hid (fun p hp => atL_at (by rw [HCM.out]; exact hp))
  generalize atL t c = rows at *
  clear hv hk hcl
  go_wp2_with fail
  refine (HC6.out _ HE3.out).mono ?_
  rintro e w4 ⟨rfl, hX4⟩
  have HE4 := Lib.hid (HE3.out.trans' hX4)
  have HY4 := Lib.hid (hX4.hp HY3.out)
  have t4 := cellOf HY4.out 0
  simp only [List.getElem?_toArray, List.getElem?_cons_zero] at t4
  have HXX4 := Lib.hid hX4
  clear hX4 t3
  go_wp2_with fail
  refine (HC3.out _ HE4.out).mono ?_
  rintro e w5 ⟨u5, rfl, hS5, hX5⟩
  obtain ⟨ua5, uc5, hu5, _⟩ := hS5.sh
  rw [HRN.out] at hu5
  subst hu5
  have HS5 := Lib.hid hS5
  clear hS5
  have HE5 := Lib.hid (HE4.out.trans' hX5)
  have HY5 := Lib.hid (hX5.hp HY4.out)
  have t5 := cellOf HY5.out 0
  simp only [List.getElem?_toArray, List.getElem?_cons_zero] at t5
  have HXX5 := Lib.hid hX5
  clear hX5 t4
  go_wp2_with fail
  refine (HCB.out _ HE5.out).mono ?_
  rintro e w6 ⟨u6, rfl, hT6, hX6⟩
  obtain ⟨ua6, uc6, rfl, _⟩ := hT6.sh
  have HT6 := Lib.hid hT6
  clear hT6
  have HE6 := Lib.hid (HE5.out.trans' hX6)
  have HY6 := Lib.hid (hX6.hp HY5.out)
  have t6 := cellOf HY6.out 0
  simp only [List.getElem?_toArray, List.getElem?_cons_zero] at t6
  have HXX6 := Lib.hid hX6
  clear hX6 t5
  generalize (prefT t c).length = pl at *
  have HA6 := Lib.hid ((Ext.rf w6).al (.cells #[.slice ua6 pl uc6] 24))
  go_wp2_with fail
  refine (HPA.out _ _ (HE6.out.trans' HA6.out) (HT6.out.ext HA6.out)).mono ?_
  rintro e w7 ⟨u7, rfl, hS7, hX7⟩
  obtain ⟨ua7, uc7, hu7, _⟩ := hS7.sh
  rw [HRN.out] at hu7
  subst hu7
  have HS7 := Lib.hid hS7
  have HX7 := Lib.hid (HA6.out.trans' hX7)
  have HE7 := Lib.hid (HE6.out.trans' HX7.out)
  have HY7 := Lib.hid (HX7.out.hp HY6.out)
  have t7 := cellOf HY7.out 0
  simp only [List.getElem?_toArray, List.getElem?_cons_zero] at t7
  have d1 : ((m : Int) != (m : Int)) = false := by simp
  clear hS7 hX7 t6
  have HM5 := Lib.hid (HS5.out.ext rints_lasts (HXX6.out.trans' HX7.out))
  go_wp2_with fail
  refine (sameLists_calls _ _ rows _ HM5.out HS7.out (by rw [HRN.out]; exact hm20) (by rw [HRN.out]; exact HRL.out)).mono ?_
  rintro e w8 ⟨rfl, hX8⟩
  have HE8 := Lib.hid (HE7.out.trans' hX8)
  have HY8 := Lib.hid (hX8.hp HY7.out)
  have t8 := cellOf HY8.out 0
  simp only [List.getElem?_toArray, List.getElem?_cons_zero] at t8
  have HXX8 := Lib.hid hX8
  clear hX8 t7
  have HM8 := Lib.hid (HM5.out.ext rints_lasts HXX8.out)
  go_wp2
  go_loopg [68] m (fun g s68 wr => ∃ p : Nat, p ≤ m ∧ m - p ≤ g ∧ s68 = .int .i64 p ∧ Aside (Ext w8 wr))
  case atStart => exact ⟨0, Nat.zero_le _, by omega, rfl, Ext.rf _⟩
  case round =>
    obtain ⟨p, hp, hg, rfl, HEK⟩ := hrel
    have HEW := Lib.hid (HE8.out.trans' HEK.out)
    by_cases hlt : p < m
    · have hltz : (p : Int) < (m : Int) := by omega
      have hpz : (0 : Int) ≤ (p : Int) := by omega
      have HQ := Lib.hid (show p < t.length from by rw [HTN.out]; exact hlt)
      obtain ⟨cb, co, rfl, hcb, hcp⟩ := ints_at HC.out p (by rw [HCM.out]; exact hlt)
      have cp1 := HEW.out.cl hcp
      have hy0 := HEK.out.hp HY8.out
      have HY9 := Lib.hid hy0
      have t9 := cellOf hy0 0
      simp only [List.getElem?_toArray, List.getElem?_cons_zero] at t9
      have hkr := HK.out.1.at HQ.out
      obtain ⟨k, hk⟩ : ∃ k : Nat, c[p]! = (k : Int) := ⟨c[p]!.toNat, by omega⟩
      rw [hk] at cp1 hkr
      have hkn : k ≤ t[p]!.events.length := by omega
      have HC9 := Lib.hid (HC2.out _ HEW.out (p : Int) (k : Int))
      rw [place_zero HV.out HQ.out hkn, if_pos rfl, Int.toNat_natCast, Int.toNat_natCast] at HC9
      have hrow := HAT.out p hlt
      rw [hk, Int.toNat_natCast] at hrow
      obtain ⟨rb, ro, rc, ru, hre, _, hrb, hrc, hri⟩ := HM8.out.at1 p (by rw [HRN.out]; exact hlt)
      rw [HRN.out] at hre
      simp only [Value.slice.injEq] at hre
      obtain ⟨rfl, hzz, rfl⟩ := hre
      obtain ⟨ri, hri1, hri2⟩ := hri
      simp only [List.cons.injEq, and_true] at hri1
      subst hri1
      rw [hrow] at hri2
      have HRI := Lib.hid hri2
      obtain ⟨ry, rz, rfl, _, _⟩ := hri2
      have HRC := Lib.hid hrc
      have HLS := Lib.hid (HRL.out p hlt)
      rw [hrow] at HLS
      have e1 := HEK.out.cl hrc
      generalize stV t p k = st at *
      clear hcp hkr hkn hk hy0 hrow hrb hrc hzz
      go_wp2_with fail
      refine HC9.out.mono ?_
      rintro e w9 ⟨u9, rfl, hR9, hX9⟩
      obtain ⟨a9, c9, rfl, _⟩ := hR9.any
      have HI9 := Lib.hid hR9.ints
      have HX9 := Lib.hid (HEK.out.trans' hX9)
      have e2 := HX9.out.cl HRC.out
      have HQ9 := Lib.hid (equal_int _ _ st st _ HI9.out (HRI.out.ext HX9.out) HLS.out HLS.out)
      clear hR9 hX9 e1 cp1 t9
      go_wp2_with fail
      refine HQ9.out.mono ?_
      rintro e w10 ⟨rfl, hX10⟩
      have HX10 := Lib.hid (HX9.out.trans' hX10)
      clear hX10 e2
      go_wp2
      go_roundg (m - (p + 1))
      case measure => omega
      case rel => exact ⟨p + 1, by omega, by omega, by go_num, (show Ext _ _ from HX10.out)⟩
    · have hltz : ¬ (p : Int) < (m : Int) := by omega
      go_wp2
      go_ret
      exact ⟨rfl, HEW.out⟩

end Go.Proofs.Ytfcpnggdpaeldaa
