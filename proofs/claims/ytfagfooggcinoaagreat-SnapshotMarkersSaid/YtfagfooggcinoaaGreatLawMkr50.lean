/-
  The statement SnapshotMarkers, walked.
-/
import Derived.Test.YtfagfooggcinoaaGreatJa
import Derived.Test.YtfagfooggcinoaaGreatProg
import Derived.BigQuiet
import Derived.Deep.QuietTactic
import Derived.Deep.LoopGhost
import Derived.Shelf.Abstract
import Derived.Test.YtfagfooggcinoaaGreatGk
import Derived.Test.YtfagfooggcinoaaGreatGm
import Derived.Test.YtfagfooggcinoaaGreatGp
import Derived.Test.YtfagfooggcinoaaGreatGo
import Derived.Test.YtfagfooggcinoaaGreatGg
import Derived.Test.YtfagfooggcinoaaGreatGv
namespace Go.Proofs.YtfagfooggcinoaaGreat
open Go.RowKit
set_option linter.unusedVariables false
theorem clL_no {t : Tr} {r : List (List Int)} {p a d : Int} (h : clE t r p a d ≠ 0) : (clL t r p a d).length = 0 := by unfold clL; rw [if_neg h]; rfl
theorem clE_1 {t : Tr} {r : List (List Int)} {p a d : Int} (h : validT t = false) : clE t r p a d = 1 := by unfold clE; rw [if_pos h]
theorem clE_11 {t : Tr} {r : List (List Int)} {p a d : Int} (h : validT t = true) (h2 : fifoB t = false) : clE t r p a d = 11 := by unfold clE; rw [if_neg (by rw [h]; simp), if_pos h2]
theorem clE_3 {t : Tr} {r : List (List Int)} {p a d : Int} (h : validT t = true) (h2 : fifoB t = true) (h3 : runB t r = false) : clE t r p a d = 3 := by unfold clE; rw [if_neg (by rw [h]; simp), if_neg (by rw [h2]; simp), if_pos h3]
theorem clE_2 {t : Tr} {r : List (List Int)} {p a d : Int} (h : validT t = true) (h2 : fifoB t = true) (h3 : runB t r = true) (h4 : clOk t r p a d = false) : clE t r p a d = 2 := by unfold clE; rw [if_neg (by rw [h]; simp), if_neg (by rw [h2]; simp), if_neg (by rw [h3]; simp), if_pos h4]
theorem clE_0 {t : Tr} {r : List (List Int)} {p a d : Int} (h : validT t = true) (h2 : fifoB t = true) (h3 : runB t r = true) (h4 : clOk t r p a d = true) : clE t r p a d = 0 := by unfold clE; rw [if_neg (by rw [h]; simp), if_neg (by rw [h2]; simp), if_neg (by rw [h3]; simp), if_neg (by rw [h4]; simp)]
theorem clOk_iff {t : Tr} {r : List (List Int)} {p a d : Int} : clOk t r p a d = true ↔ 0 ≤ p ∧ p < t.length ∧ 0 ≤ a ∧ a < r.length ∧ 0 ≤ d ∧ d ≤ 1000 := by
 unfold clOk; simp only [Bool.and_eq_true, decide_eq_true_eq]
theorem inv_light {t : Tr} {l : List Mk} {b : Nat} (hv : validT t = true) (h : InvE t l b) (hb : b ≤ 80) : LightM l := by
 have h8 := (valid_8 hv).2
 refine ⟨by rw [h.ll]; omega, fun i hi => ?_⟩
 rw [h.ll] at hi
 refine ⟨by rw [h.cl i hi]; omega, by rw [h.ch i hi]; omega, fun j hj => ?_⟩
 rw [h.ch i hi] at hj
 have := h.few i hi j hj
 omega
set_option maxHeartbeats 8000000 in
set_option maxRecDepth 100000 in
theorem snapshotMarkers_calls (v rv : Value) (t : Tr) (r : List (List Int)) (p a d : Int) (w : World) (h : TrAt w v t) (htop : TopTr t) (hrv : Sl RInts 1 w rv r) :
  Calls Tryz.prog 3 #[.agg #[v], rv, .int .i64 p, .int .i64 a, .int .i64 d] w fun e w' => e = .returned (.bool true) ∧ Ext w w' := by
 have HSHT := Lib.hid (fun W (hW : Ext w W) => short_calls rv r W (Sl.ext rints_lasts hrv hW))
 have HRV := Lib.hid hrv
 obtain ⟨ra, rc, rfl, hrc⟩ := hrv.sh
 obtain ⟨R, hR⟩ : ∃ R, r.length = R := ⟨_, rfl⟩
 rw [hR] at HSHT HRV ⊢
 have HRL := Lib.hid hR
 obtain ⟨sb, hsb⟩ : ∃ b, shortB r = b := ⟨_, rfl⟩
 rw [hsb] at HSHT
 have HSB := Lib.hid hsb
 clear hrv hrc hR hsb
 have HT := Lib.hid h
 have HFC := Lib.hid (fun W (hW : Ext w W) => few50_calls v t W (h.ext hW) htop)
 obtain ⟨ta, tc, rfl, htc⟩ := h.sh
 obtain ⟨tn, htn⟩ : ∃ n, t.length = n := ⟨_, rfl⟩
 rw [htn] at HFC HT ⊢
 have HTN := Lib.hid htn
 have HX0 := Lib.hid (heap_alloc_new w (.cells #[.slice ta tn tc] 24))
 have HE1 := Lib.hid ((Ext.rf w).al (.cells #[.slice ta tn tc] 24))
 obtain ⟨fw, hfw⟩ : ∃ b, few50 t = b := ⟨_, rfl⟩
 rw [hfw] at HFC
 have HFW := Lib.hid hfw
 clear h htop hfw htc htn
 go_enter Tryz.func3, Tryz.ntmps3
 go_wp2_with fail
 refine (awake50_calls _).mono ?_
 rintro e w2 ⟨rfl, hX2⟩
 have HE2 := Lib.hid (HE1.out.trans' hX2)
 have HY2 := Lib.hid (hX2.hp HX0.out)
 have t2 := cellOf HY2.out 0
 simp only [List.getElem?_toArray, List.getElem?_cons_zero] at t2
 clear hX2
 go_wp2_with fail
 refine (HFC.out _ HE2.out).mono ?_
 rintro e w3 ⟨rfl, hX3⟩
 have HE3 := Lib.hid (HE2.out.trans' hX3)
 have HY3 := Lib.hid (hX3.hp HY2.out)
 have t3 := cellOf HY3.out 0
 simp only [List.getElem?_toArray, List.getElem?_cons_zero] at t3
 clear hX3 t2
 cases fw with
 | false =>
   go_wp2_with fail
   refine (awake50_calls _).mono ?_
   rintro e w4 ⟨rfl, hX4⟩
   go_wp2
   go_ret
   exact ⟨rfl, HE3.out.trans' hX4⟩
 | true =>
 have HLO := Lib.hid (few50_loose HFW.out).1
 have HL10 := Lib.hid (few50_loose HFW.out).2
 go_wp2_with fail
 refine (HSHT.out _ HE3.out).mono ?_
 rintro e w4 ⟨rfl, hX4⟩
 have HE4 := Lib.hid (HE3.out.trans' hX4)
 have HY4 := Lib.hid (hX4.hp HY3.out)
 have t4 := cellOf HY4.out 0
 simp only [List.getElem?_toArray, List.getElem?_cons_zero] at t4
 have HXX4 := Lib.hid hX4
 clear hX4 t3
 cases sb with
 | false =>
   go_wp2_with fail
   refine (awake50_calls _).mono ?_
   rintro e w99 ⟨rfl, hX99⟩
   go_wp2
   go_ret
   exact ⟨rfl, HE4.out.trans' hX99⟩
 | true =>
 have HSO := Lib.hid (shortB_ok HSB.out)
 have HCH := Lib.hid (chandy_calls _ _ t r p a d w4 (HT.out.ext HE4.out) HLO.out (Sl.ext rints_lasts HRV.out HE4.out) (by have := HL10.out; omega) (by have := HSO.out.1; omega) (fun i hi => by have := HSO.out.2 i hi; omega))
 go_wp2_with fail
 refine HCH.out.mono ?_
 rintro e w5 ⟨v5, rfl, hX5, hS5⟩
 obtain ⟨ma, mc, rfl, hz5⟩ := hS5.sh
 have HS5 := Lib.hid hS5
 have HNO := Lib.hid (fun h => clL_no (t := t) (r := r) (p := p) (a := a) (d := d) h)
 obtain ⟨er, her⟩ : ∃ x, clE t r p a d = x := ⟨_, rfl⟩
 obtain ⟨ml, hml⟩ : ∃ x, (clL t r p a d).length = x := ⟨_, rfl⟩
 have HER := Lib.hid her
 rw [hml] at HS5 HNO ⊢
 rw [her] at HNO ⊢
 have HML := Lib.hid hml
 clear hS5 hz5 hml her
 have HE5 := Lib.hid (HE4.out.trans' hX5)
 have HY5 := Lib.hid (hX5.hp HY4.out)
 have t5 := cellOf HY5.out 0
 simp only [List.getElem?_toArray, List.getElem?_cons_zero] at t5
 have HXX5 := Lib.hid hX5
 clear hX5 t4
 have HVR := Lib.hid (fun W (hW : Ext w W) => validR_calls _ t W (HT.out.ext hW) HLO.out)
 have HFR := Lib.hid (fun W (hW : Ext w W) => fifoR_calls _ t W (HT.out.ext hW) HLO.out)
 have HIR := Lib.hid (fun W (hW : Ext w W) => isR_calls _ _ t r W (HT.out.ext hW) HLO.out (Sl.ext rints_lasts HRV.out hW) (by have := HSO.out.1; omega) (fun i hi => by have := HSO.out.2 i hi; omega))
 cases hv : validT t with
 | false =>
   rw [hv] at HVR
   have he1 : er = 1 := by rw [← HER.out]; exact clE_1 hv
   have hm0 : ml = 0 := HNO.out (by rw [he1]; decide)
   subst he1
   subst hm0
   clear hv
   go_wp2_with fail
   refine (HVR.out _ HE5.out).mono ?_
   rintro e w6 ⟨rfl, hX6⟩
   have HE6 := Lib.hid (HE5.out.trans' hX6)
   have HY6 := Lib.hid (hX6.hp HY5.out)
   have t6 := cellOf HY6.out 0
   simp only [List.getElem?_toArray, List.getElem?_cons_zero] at t6
   have HXX6 := Lib.hid hX6
   clear hX6 t5
   go_wp2
   go_ret
   exact ⟨rfl, HE6.out⟩
 | true =>
   rw [hv] at HVR HFR HIR
   rw [Bool.true_and] at HFR HIR
   have HVT := Lib.hid hv
   cases hf : fifoB t with
   | false =>
     rw [hf] at HFR
     have he1 : er = 11 := by rw [← HER.out]; exact clE_11 hv hf
     have hm0 : ml = 0 := HNO.out (by rw [he1]; decide)
     subst he1
     subst hm0
     clear hv hf
     go_wp2_with fail
     refine (HVR.out _ HE5.out).mono ?_
     rintro e w6 ⟨rfl, hX6⟩
     have HE6 := Lib.hid (HE5.out.trans' hX6)
     have HY6 := Lib.hid (hX6.hp HY5.out)
     have t6 := cellOf HY6.out 0
     simp only [List.getElem?_toArray, List.getElem?_cons_zero] at t6
     have HXX6 := Lib.hid hX6
     clear hX6 t5
     go_wp2_with fail
     refine (HFR.out _ HE6.out).mono ?_
     rintro e w7 ⟨rfl, hX7⟩
     have HE7 := Lib.hid (HE6.out.trans' hX7)
     have HY7 := Lib.hid (hX7.hp HY6.out)
     have t7 := cellOf HY7.out 0
     simp only [List.getElem?_toArray, List.getElem?_cons_zero] at t7
     have HXX7 := Lib.hid hX7
     clear hX7 t6
     go_wp2
     go_ret
     exact ⟨rfl, HE7.out⟩
   | true =>
     rw [hf] at HFR
     have HFB := Lib.hid hf
     cases hr : runB t r with
     | false =>
       rw [hr] at HIR
       have he1 : er = 3 := by rw [← HER.out]; exact clE_3 hv hf hr
       have hm0 : ml = 0 := HNO.out (by rw [he1]; decide)
       subst he1
       subst hm0
       clear hv hf hr
       go_wp2_with fail
       refine (HVR.out _ HE5.out).mono ?_
       rintro e w6 ⟨rfl, hX6⟩
       have HE6 := Lib.hid (HE5.out.trans' hX6)
       have HY6 := Lib.hid (hX6.hp HY5.out)
       have t6 := cellOf HY6.out 0
       simp only [List.getElem?_toArray, List.getElem?_cons_zero] at t6
       have HXX6 := Lib.hid hX6
       clear hX6 t5
       go_wp2_with fail
       refine (HFR.out _ HE6.out).mono ?_
       rintro e w7 ⟨rfl, hX7⟩
       have HE7 := Lib.hid (HE6.out.trans' hX7)
       have HY7 := Lib.hid (hX7.hp HY6.out)
       have t7 := cellOf HY7.out 0
       simp only [List.getElem?_toArray, List.getElem?_cons_zero] at t7
       have HXX7 := Lib.hid hX7
       clear hX7 t6
       go_wp2_with fail
       refine (HIR.out _ HE7.out).mono ?_
       rintro e w8 ⟨rfl, hX8⟩
       have HE8 := Lib.hid (HE7.out.trans' hX8)
       have HY8 := Lib.hid (hX8.hp HY7.out)
       have t8 := cellOf HY8.out 0
       simp only [List.getElem?_toArray, List.getElem?_cons_zero] at t8
       have HXX8 := Lib.hid hX8
       clear hX8 t7
       go_wp2
       go_ret
       exact ⟨rfl, HE8.out⟩
     | true =>
       rw [hr] at HIR
       have HRB := Lib.hid hr
       cases hk : clOk t r p a d with
       | false =>
         have he1 : er = 2 := by rw [← HER.out]; exact clE_2 hv hf hr hk
         have hm0 : ml = 0 := HNO.out (by rw [he1]; decide)
         subst he1
         subst hm0
         have hok : ¬ (0 ≤ p ∧ p < (tn : Int) ∧ 0 ≤ a ∧ a < (R : Int) ∧ 0 ≤ d ∧ d ≤ 1000) := by
          rw [← HTN.out, ← HRL.out, ← clOk_iff, hk]; simp
         clear hv hf hr hk
         go_wp2_with fail
         refine (HVR.out _ HE5.out).mono ?_
         rintro e w6 ⟨rfl, hX6⟩
         have HE6 := Lib.hid (HE5.out.trans' hX6)
         have HY6 := Lib.hid (hX6.hp HY5.out)
         have t6 := cellOf HY6.out 0
         simp only [List.getElem?_toArray, List.getElem?_cons_zero] at t6
         have HXX6 := Lib.hid hX6
         clear hX6 t5
         go_wp2_with fail
         refine (HFR.out _ HE6.out).mono ?_
         rintro e w7 ⟨rfl, hX7⟩
         have HE7 := Lib.hid (HE6.out.trans' hX7)
         have HY7 := Lib.hid (hX7.hp HY6.out)
         have t7 := cellOf HY7.out 0
         simp only [List.getElem?_toArray, List.getElem?_cons_zero] at t7
         have HXX7 := Lib.hid hX7
         clear hX7 t6
         go_wp2_with fail
         refine (HIR.out _ HE7.out).mono ?_
         rintro e w8 ⟨rfl, hX8⟩
         have HE8 := Lib.hid (HE7.out.trans' hX8)
         have HY8 := Lib.hid (hX8.hp HY7.out)
         have t8 := cellOf HY8.out 0
         simp only [List.getElem?_toArray, List.getElem?_cons_zero] at t8
         have HXX8 := Lib.hid hX8
         clear hX8 t7
         clear t8
         by_cases c1 : p < 0
         case pos =>
          have d1 : decide (p < 0) = true := decide_eq_true c1
          have ht := cellOf HY8.out 0
          simp only [List.getElem?_toArray, List.getElem?_cons_zero] at ht
          clear hok
          go_wp2
          go_ret
          exact ⟨rfl, HE8.out⟩
         case neg =>
         have d1 : decide (p < 0) = false := decide_eq_false c1
         by_cases c2 : (tn : Int) ≤ p
         case pos =>
          have d2 : decide ((tn : Int) ≤ p) = true := decide_eq_true c2
          have ht := cellOf HY8.out 0
          simp only [List.getElem?_toArray, List.getElem?_cons_zero] at ht
          clear hok
          go_wp2
          go_ret
          exact ⟨rfl, HE8.out⟩
         case neg =>
         have d2 : decide ((tn : Int) ≤ p) = false := decide_eq_false c2
         by_cases c3 : a < 0
         case pos =>
          have d3 : decide (a < 0) = true := decide_eq_true c3
          have ht := cellOf HY8.out 0
          simp only [List.getElem?_toArray, List.getElem?_cons_zero] at ht
          clear hok
          go_wp2
          go_ret
          exact ⟨rfl, HE8.out⟩
         case neg =>
         have d3 : decide (a < 0) = false := decide_eq_false c3
         by_cases c4 : (R : Int) ≤ a
         case pos =>
          have d4 : decide ((R : Int) ≤ a) = true := decide_eq_true c4
          have ht := cellOf HY8.out 0
          simp only [List.getElem?_toArray, List.getElem?_cons_zero] at ht
          clear hok
          go_wp2
          go_ret
          exact ⟨rfl, HE8.out⟩
         case neg =>
         have d4 : decide ((R : Int) ≤ a) = false := decide_eq_false c4
         by_cases c5 : d < 0
         case pos =>
          have d5 : decide (d < 0) = true := decide_eq_true c5
          have ht := cellOf HY8.out 0
          simp only [List.getElem?_toArray, List.getElem?_cons_zero] at ht
          clear hok
          go_wp2
          go_ret
          exact ⟨rfl, HE8.out⟩
         case neg =>
         have d5 : decide (d < 0) = false := decide_eq_false c5
         by_cases c6 : 1000 < d
         case pos =>
          have d6 : decide (1000 < d) = true := decide_eq_true c6
          have ht := cellOf HY8.out 0
          simp only [List.getElem?_toArray, List.getElem?_cons_zero] at ht
          clear hok
          go_wp2
          go_ret
          exact ⟨rfl, HE8.out⟩
         case neg =>
          exact absurd (by omega) hok
       | true =>
         have he1 : er = 0 := by rw [← HER.out]; exact clE_0 hv hf hr hk
         obtain ⟨hp0, hp1, ha0, ha1, hd0, hd1⟩ := clOk_iff.1 hk
         have hcl : clL t r p a d = chanL t r d p.toNat a.toNat := by unfold clL; rw [HER.out, if_pos he1]
         obtain ⟨P, rfl⟩ : ∃ P : Nat, p = (P : Int) := ⟨p.toNat, by omega⟩
         obtain ⟨A, rfl⟩ : ∃ A : Nat, a = (A : Int) := ⟨a.toNat, by omega⟩
         rw [Int.toNat_natCast, Int.toNat_natCast] at hcl
         subst he1
         have HRB80 := Lib.hid (show r.length ≤ 80 from HSO.out.1)
         have HSA := Lib.hid (fun W (hW : Ext w W) => refChandy_calls _ _ t r P A d W (HT.out.ext hW) HVT.out HRB.out (Sl.ext rints_lasts HRV.out hW) (by have := HSO.out.1; omega) (by omega) (by omega) ⟨hd0, hd1⟩)
         rw [hcl] at HS5 HML
         have d1 : decide ((P : Int) < 0) = false := decide_eq_false (by omega)
         have d2 : decide ((tn : Int) ≤ (P : Int)) = false := decide_eq_false (by have := HTN.out; omega)
         have d2n : decide (tn ≤ P) = false := decide_eq_false (by have := HTN.out; omega)
         have d3 : decide ((A : Int) < 0) = false := decide_eq_false (by omega)
         have d4 : decide ((R : Int) ≤ (A : Int)) = false := decide_eq_false (by have := HRL.out; omega)
         have d4n : decide (R ≤ A) = false := decide_eq_false (by have := HRL.out; omega)
         have d5 : decide (d < 0) = false := decide_eq_false (by omega)
         have d6 : decide (1000 < d) = false := decide_eq_false (by omega)
         clear hv hf hr hk hp0 hp1 ha0 ha1 hd0 hd1 hcl HNO HER
         go_wp2_with fail
         refine (HVR.out _ HE5.out).mono ?_
         rintro e w6 ⟨rfl, hX6⟩
         have HE6 := Lib.hid (HE5.out.trans' hX6)
         have HY6 := Lib.hid (hX6.hp HY5.out)
         have t6 := cellOf HY6.out 0
         simp only [List.getElem?_toArray, List.getElem?_cons_zero] at t6
         have HXX6 := Lib.hid hX6
         clear hX6 t5
         go_wp2_with fail
         refine (HFR.out _ HE6.out).mono ?_
         rintro e w7 ⟨rfl, hX7⟩
         have HE7 := Lib.hid (HE6.out.trans' hX7)
         have HY7 := Lib.hid (hX7.hp HY6.out)
         have t7 := cellOf HY7.out 0
         simp only [List.getElem?_toArray, List.getElem?_cons_zero] at t7
         have HXX7 := Lib.hid hX7
         clear hX7 t6
         go_wp2_with fail
         refine (HIR.out _ HE7.out).mono ?_
         rintro e w8 ⟨rfl, hX8⟩
         have HE8 := Lib.hid (HE7.out.trans' hX8)
         have HY8 := Lib.hid (hX8.hp HY7.out)
         have t8 := cellOf HY8.out 0
         simp only [List.getElem?_toArray, List.getElem?_cons_zero] at t8
         have HXX8 := Lib.hid hX8
         clear hX8 t7
         go_wp2_with fail
         refine (HSA.out w8 HE8.out).mono ?_
         rintro e w9 ⟨v9, rfl, hX9, hS9, hI9⟩
         have HLM := Lib.hid (inv_light HVT.out hI9 HRB80.out)
         clear hI9
         obtain ⟨ka, kc, rfl, hz9⟩ := hS9.sh
         have HS9 := Lib.hid hS9
         have HX9 := Lib.hid (HE8.out.trans' hX9)
         have HM9 := Lib.hid (Sl.ext rmk_lasts HS5.out ((HXX6.out.trans' (HXX7.out.trans' HXX8.out)).trans' hX9))
         rw [HML.out] at HS9 ⊢
         clear hS9 hz9 hX9 d1 d2 d2n d3 d4 d4n d5 d6
         have HSC := Lib.hid (sameMarks_calls _ _ (chanL t r d P A) (chanL t r d P A) w9 HM9.out HS9.out HLM.out HLM.out)
         rw [show decide (chanL t r d P A = chanL t r d P A) = true from decide_eq_true rfl] at HSC
         go_wp2_with fail
         refine HSC.out.mono ?_
         rintro e w10 ⟨rfl, hD⟩
         go_wp2
         go_ret
         exact ⟨rfl, HX9.out.trans' hD.ext⟩
end Go.Proofs.YtfagfooggcinoaaGreat
