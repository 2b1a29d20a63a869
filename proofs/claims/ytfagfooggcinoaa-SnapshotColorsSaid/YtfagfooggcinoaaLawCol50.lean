/-
  The statement SnapshotColors, walked.
-/
import Derived.Test.YtfagfooggcinoaaJa
import Derived.Test.YtfagfooggcinoaaProg
import Derived.BigQuiet
import Derived.Deep.QuietTactic
import Derived.Deep.LoopGhost
import Derived.Shelf.Abstract
import Derived.Test.YtfagfooggcinoaaGk
import Derived.Test.YtfagfooggcinoaaGm
import Derived.Test.YtfagfooggcinoaaGx
import Derived.Test.YtfagfooggcinoaaGy
import Derived.Test.YtfagfooggcinoaaGg
namespace Go.Proofs.Ytfagfooggcinoaa
open Go.RowKit
set_option linter.unusedVariables false
theorem cutM_lightC {t : Tr} {c : List Int} (hv : validT t = true) (hc : RangeC t c) : LightM (cutM t c) := by
 have h8 := (valid_8 hv).2
 refine ⟨by rw [cutM_len]; omega, fun i hi => ?_⟩
 rw [cutM_len] at hi
 rw [cutM_at hi]
 refine ⟨by simp only [List.length_replicate]; omega, by simp only [List.length_map, List.length_range]; omega, fun j hj => ?_⟩
 simp only [List.length_map, List.length_range] at hj
 simp only
 rw [mapR_at _ hj]
 have h1 := uwTo_len t c (i : Int) j c[j]!.toNat
 have h2 := hc.at hj
 have h3 := valid_64 hv hj
 unfold underC
 omega
theorem lay_no {t : Tr} {red : List Int} (h : layE t red ≠ 0) : (layM t red).length = 0 := by unfold layM; rw [if_neg h]; rfl
theorem lay_1 {t : Tr} {red : List Int} (h : validT t = false) : layE t red = 1 := by unfold layE; rw [if_pos h]
theorem lay_len {t : Tr} {red : List Int} (h : red.length ≠ t.length) : layE t red = 1 := by
 unfold layE
 split
 ·rfl
 ·first | rfl | rw [if_pos h]
theorem lay_2 {t : Tr} {red : List Int} (hv : validT t = true) (hl : red.length = t.length) (h : turnsB t red = false) : layE t red = 2 := by
 unfold layE repE
 rw [if_neg (by rw [hv]; simp), if_neg (fun hh => hh hl), if_pos (by rw [hv, show fitsB t (redC t red) = true from decide_eq_true (by rw [redC_len, hl])]; rfl), if_neg (fun hr => by
  have := range_turns hl ⟨by rw [redC_len, hl], hr⟩
  rw [h] at this; cases this)]
set_option maxHeartbeats 8000000 in
set_option maxRecDepth 100000 in
theorem snapshotColors_calls (v vr : Value) (t : Tr) (red : List Int) (w : World) (h : TrAt w v t) (htop : TopTr t) (hr : Ints w vr red) :
  Calls Try.prog 3 #[.agg #[v], vr] w fun e w' => e = .returned (.bool true) ∧ Ext w w' := by
 have HR := Lib.hid hr
 obtain ⟨ra, rc, rfl, hacr, _⟩ := hr
 obtain ⟨n, hnr⟩ : ∃ n, red.length = n := ⟨_, rfl⟩
 rw [hnr]
 rw [hnr] at HR
 have HNR := Lib.hid hnr
 clear hacr hnr
 have HT := Lib.hid h
 have HFC := Lib.hid (fun W (hW : Ext w W) => few50_calls v t W (h.ext hW) htop)
 obtain ⟨ta, tc, rfl, htc⟩ := h.sh
 obtain ⟨tn, htn⟩ : ∃ n, t.length = n := ⟨_, rfl⟩
 rw [htn] at HFC HT ⊢
 have HTN := Lib.hid htn
 have HX0 := Lib.hid (heap_alloc_new w (.cells #[.slice ta tn tc] 24))
 have HE1 := Lib.hid ((Ext.rf w).al (.cells #[.slice ta tn tc] 24))
 obtain ⟨fw, hfw⟩ : ∃ b, few50 t = b := ⟨_, rfl⟩
 rw [hfw] at HFC
 have HFW := Lib.hid hfw
 clear h htop hfw htc htn
 go_enter Try.func3, Try.ntmps3
 go_wp2_with fail
 refine (awake50_calls _).mono ?_
 rintro e w2 ⟨rfl, hX2⟩
 have HE2 := Lib.hid (HE1.out.trans' hX2)
 have HY2 := Lib.hid (hX2.hp HX0.out)
 have t2 := cellOf HY2.out 0
 simp only [List.getElem?_toArray, List.getElem?_cons_zero] at t2
 clear hX2
 go_wp2_with fail
 refine (HFC.out _ HE2.out).mono ?_
 rintro e w3 ⟨rfl, hX3⟩
 have HE3 := Lib.hid (HE2.out.trans' hX3)
 have HY3 := Lib.hid (hX3.hp HY2.out)
 have t3 := cellOf HY3.out 0
 simp only [List.getElem?_toArray, List.getElem?_cons_zero] at t3
 clear hX3 t2
 cases fw with
 | false =>
   go_wp2_with fail
   refine (awake50_calls _).mono ?_
   rintro e w4 ⟨rfl, hX4⟩
   go_wp2
   go_ret
   exact ⟨rfl, HE3.out.trans' hX4⟩
 | true =>
 by_cases h1 : 20 < n
 ·have d1 : decide (20 < (n : Int)) = true := decide_eq_true (by omega)
  have d1n : decide (20 < n) = true := decide_eq_true h1
  clear h1
  go_wp2_with fail
  refine (awake50_calls _).mono ?_
  rintro e w4 ⟨rfl, hX4⟩
  go_wp2
  go_ret
  exact ⟨rfl, HE3.out.trans' hX4⟩
 have d1 : decide (20 < (n : Int)) = false := decide_eq_false (by omega)
 have d1n : decide (20 < n) = false := decide_eq_false h1
 have HLO := Lib.hid (few50_loose HFW.out).1
 have hn20 : n ≤ 20 := by omega
 have HL10 := Lib.hid (few50_loose HFW.out).2
 have HLC := Lib.hid (lai_calls _ _ t red w3 (HT.out.ext HE3.out) HLO.out (HR.out.ext HE3.out) (by rw [HNR.out]; omega))
 clear h1
 go_wp2_with fail
 refine HLC.out.mono ?_
 rintro e w4 ⟨v4, rfl, hX4, hS4⟩
 obtain ⟨ma, mc, rfl, hz4⟩ := hS4.sh
 have HS4 := Lib.hid hS4
 have HNO := Lib.hid (fun h => lay_no (t := t) (red := red) h)
 obtain ⟨er, her⟩ : ∃ x, layE t red = x := ⟨_, rfl⟩
 obtain ⟨ml, hml⟩ : ∃ x, (layM t red).length = x := ⟨_, rfl⟩
 have HER := Lib.hid her
 rw [hml] at HS4 HNO ⊢
 rw [her] at HNO ⊢
 have HML := Lib.hid hml
 clear hS4 hz4 hml her d1 d1n
 have HE4 := Lib.hid (HE3.out.trans' hX4)
 have HY4 := Lib.hid (hX4.hp HY3.out)
 have t4 := cellOf HY4.out 0
 simp only [List.getElem?_toArray, List.getElem?_cons_zero] at t4
 have HXX4 := Lib.hid hX4
 clear hX4 t3
 have HVR := Lib.hid (fun W (hW : Ext w W) => validR_calls _ t W (HT.out.ext hW) HLO.out)
 cases hv : validT t with
 | false =>
   rw [hv] at HVR
   have he1 : er = 1 := by rw [← HER.out]; exact lay_1 hv
   have hm0 : ml = 0 := HNO.out (by rw [he1]; decide)
   subst he1
   subst hm0
   clear hv
   go_wp2_with fail
   refine (HVR.out _ HE4.out).mono ?_
   rintro e w5 ⟨rfl, hX5⟩
   have HE5 := Lib.hid (HE4.out.trans' hX5)
   have HY5 := Lib.hid (hX5.hp HY4.out)
   have t5 := cellOf HY5.out 0
   simp only [List.getElem?_toArray, List.getElem?_cons_zero] at t5
   have HXX5 := Lib.hid hX5
   clear hX5 t4
   go_wp2
   go_ret
   exact ⟨rfl, HE5.out⟩
 | true =>
   rw [hv] at HVR
   have HVT := Lib.hid hv
   by_cases hnt : n = tn
   case neg =>
    have he1 : er = 1 := by rw [← HER.out]; exact lay_len (by rw [HNR.out, HTN.out]; exact hnt)
    have hm0 : ml = 0 := HNO.out (by rw [he1]; decide)
    subst he1
    subst hm0
    have d2 : ((n : Int) != (tn : Int)) = true := by rw [bne_iff_ne]; omega
    clear hv hnt
    go_wp2_with fail
    refine (HVR.out _ HE4.out).mono ?_
    rintro e w5 ⟨rfl, hX5⟩
    have HE5 := Lib.hid (HE4.out.trans' hX5)
    have HY5 := Lib.hid (hX5.hp HY4.out)
    have t5 := cellOf HY5.out 0
    simp only [List.getElem?_toArray, List.getElem?_cons_zero] at t5
    have HXX5 := Lib.hid hX5
    clear hX5 t4
    go_wp2
    go_ret
    exact ⟨rfl, HE5.out⟩
   case pos =>
    have HLN := Lib.hid (show red.length = t.length by rw [HNR.out, HTN.out]; exact hnt)
    have d2 : ((n : Int) != (tn : Int)) = false := by rw [bne_eq_false_iff_eq]; omega
    have HTR := Lib.hid (fun W (hW : Ext w W) => turnsR_calls _ _ t red W (HT.out.ext hW) (HR.out.ext hW) HLN.out (by have := HL10.out; omega))
    cases hb : turnsB t red with
    | false =>
      rw [hb] at HTR
      have he1 : er = 2 := by rw [← HER.out]; exact lay_2 hv HLN.out hb
      have hm0 : ml = 0 := HNO.out (by rw [he1]; decide)
      subst he1
      subst hm0
      clear hv hnt hb
      go_wp2_with fail
      refine (HVR.out _ HE4.out).mono ?_
      rintro e w5 ⟨rfl, hX5⟩
      have HE5 := Lib.hid (HE4.out.trans' hX5)
      have HY5 := Lib.hid (hX5.hp HY4.out)
      have t5 := cellOf HY5.out 0
      simp only [List.getElem?_toArray, List.getElem?_cons_zero] at t5
      have HXX5 := Lib.hid hX5
      clear hX5 t4
      go_wp2_with fail
      refine (HTR.out _ HE5.out).mono ?_
      rintro e w6 ⟨rfl, hX6⟩
      have HE6 := Lib.hid (HE5.out.trans' hX6)
      have HY6 := Lib.hid (hX6.hp HY5.out)
      have t6 := cellOf HY6.out 0
      simp only [List.getElem?_toArray, List.getElem?_cons_zero] at t6
      have HXX6 := Lib.hid hX6
      clear hX6 t5
      go_wp2
      go_ret
      exact ⟨rfl, HE6.out⟩
    | true =>
      rw [hb] at HTR
      have hz := lay_zero hv HLN.out hb
      have he1 : er = 0 := by rw [← HER.out]; exact hz.1
      subst he1
      have HRG := Lib.hid (turns_range HLN.out hb)
      have HLM : Hid (LightM (cutM t (openC t (redC t red)))) := Lib.hid (cutM_lightC hv (open_cons HRG.out).1)
      have HSA := Lib.hid (fun W (hW : Ext w W) => laiR_calls _ _ t red W (HT.out.ext hW) hv (HR.out.ext hW) HLN.out hb)
      rw [hz.2] at HS4 HML
      clear hv hnt hb hz HNO HER
      go_wp2_with fail
      refine (HVR.out _ HE4.out).mono ?_
      rintro e w5 ⟨rfl, hX5⟩
      have HE5 := Lib.hid (HE4.out.trans' hX5)
      have HY5 := Lib.hid (hX5.hp HY4.out)
      have t5 := cellOf HY5.out 0
      simp only [List.getElem?_toArray, List.getElem?_cons_zero] at t5
      have HXX5 := Lib.hid hX5
      clear hX5 t4
      go_wp2_with fail
      refine (HTR.out _ HE5.out).mono ?_
      rintro e w6 ⟨rfl, hX6⟩
      have HE6 := Lib.hid (HE5.out.trans' hX6)
      have HY6 := Lib.hid (hX6.hp HY5.out)
      have t6 := cellOf HY6.out 0
      simp only [List.getElem?_toArray, List.getElem?_cons_zero] at t6
      have HXX6 := Lib.hid hX6
      clear hX6 t5
      go_wp2_with fail
      refine (HSA.out w6 HE6.out).mono ?_
      rintro e w7 ⟨v7, rfl, hX7, hS7⟩
      obtain ⟨ka, kc, rfl, hz7⟩ := hS7.sh
      have HS7 := Lib.hid hS7
      have HX7 := Lib.hid (HE6.out.trans' hX7)
      have HM7 := Lib.hid (Sl.ext rmk_lasts HS4.out ((HXX5.out.trans' HXX6.out).trans' hX7))
      rw [HML.out] at HS7 ⊢
      clear hS7 hz7 hX7
      have HSC := Lib.hid (sameMarks_calls _ _ (cutM t (openC t (redC t red))) (cutM t (openC t (redC t red))) w7 HM7.out HS7.out HLM.out HLM.out)
      rw [show decide (cutM t (openC t (redC t red)) = cutM t (openC t (redC t red))) = true from decide_eq_true rfl] at HSC
      go_wp2_with fail
      refine HSC.out.mono ?_
      rintro e w8 ⟨rfl, hD⟩
      go_wp2
      go_ret
      exact ⟨rfl, HX7.out.trans' hD.ext⟩
end Go.Proofs.Ytfagfooggcinoaa
