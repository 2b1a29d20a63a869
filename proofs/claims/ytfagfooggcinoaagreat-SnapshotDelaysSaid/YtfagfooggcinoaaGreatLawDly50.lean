/-
  The statement SnapshotDelays, walked.
-/
import Derived.Test.YtfagfooggcinoaaGreatJa
import Derived.Test.YtfagfooggcinoaaGreatProg
import Derived.BigQuiet
import Derived.Deep.QuietTactic
import Derived.Deep.LoopGhost
import Derived.Shelf.Abstract
import Derived.Test.YtfagfooggcinoaaGreatGk
import Derived.Test.YtfagfooggcinoaaGreatGm
import Derived.Test.YtfagfooggcinoaaGreatGp
import Derived.Test.YtfagfooggcinoaaGreatGo
import Derived.Test.YtfagfooggcinoaaGreatGq
import Derived.Test.YtfagfooggcinoaaGreatGl
import Derived.Test.YtfagfooggcinoaaGreatGg
namespace Go.Proofs.YtfagfooggcinoaaGreat
open Go.RowKit
set_option linter.unusedVariables false
theorem u16_wfD {n : Int} (h : (Lit.int .u16 n).wf = true) : 0 ≤ n ∧ n < 65536 := by
 simp [Lit.wf, IntKind.min, IntKind.max, IntKind.signed, IntKind.bits] at h
 omega
theorem eqBdly (u v : Value) (l m : List Int) (b : Bool) (w : World) (hu : Ints w u l) (hv : Ints w v m) (hl : l.length ≤ 1000000) (hm : m.length ≤ 1000000) (hb : (l == m) = b) : Calls Tryz.prog 22 #[u, v] w fun e w' => e = .returned (.bool b) ∧ Ext w w' := by
 have := equal_int u v l m w hu hv hl hm
 rwa [hb] at this
theorem rep_zeroD {t : Tr} {c : List Int} (hv : validT t = true) (hr : RangeC t c) : repE t c = 0 := by
 unfold repE
 rw [if_pos (by rw [hv, show fitsB t c = true from decide_eq_true hr.1]; rfl), if_pos hr.2]
def dlyC (t : Tr) (P : Nat) (z : Int) : List Int := (lensC t).set P z
theorem lensC_at {t : Tr} {q : Nat} (hq : q < t.length) : (lensC t)[q]! = (t[q]!.events.length : Int) := by
 unfold lensC lensTo
 rw [mapR_at _ hq]
theorem lensC_len (t : Tr) : (lensC t).length = t.length := by unfold lensC; rw [lensTo_len]
theorem dlyC_len (t : Tr) (P : Nat) (z : Int) : (dlyC t P z).length = t.length := by unfold dlyC; rw [List.length_set, lensC_len]
theorem dlyC_p {t : Tr} {P : Nat} {z : Int} (hP : P < t.length) : (dlyC t P z)[P]! = z := setG_at (by rw [lensC_len]; exact hP) _
theorem dlyC_q {t : Tr} {P q : Nat} {z : Int} (hq : q < t.length) (h : q ≠ P) : (dlyC t P z)[q]! = (t[q]!.events.length : Int) := by
 unfold dlyC; rw [setG_ne h, lensC_at hq]
theorem dlyC_range {t : Tr} {P : Nat} {z : Int} (hP : P < t.length) (h0 : 0 ≤ z) (h1 : z ≤ (t[P]!.events.length : Int)) : RangeC t (dlyC t P z) := by
 refine ⟨dlyC_len .., rangeB_iff.2 fun q hq => ?_⟩
 rw [dlyC_len] at hq
 by_cases e : q = P
 ·subst e; rw [dlyC_p hq]; exact ⟨h0, h1⟩
 ·rw [dlyC_q hq e]; omega
theorem dly_facts {t : Tr} {r : List (List Int)} {P A : Nat} {d : Int} (hv : validT t = true) (hf : fifoB t = true) (hrun : runB t r = true) (hrl : r.length ≤ 1000) (hP : P < t.length) (hA : A < r.length) :
  ∃ C0 C1 C2 O, ConsC t C0 ∧ ConsC t C1 ∧ ConsC t C2 ∧ chanL t r 0 P A = cutM t C0 ∧ chanL t r 1000 P A = cutM t C1 ∧ chanL t r d P A = cutM t C2 ∧ openC t (dlyC t P (rAt r A P)) = O ∧ C1 = O ∧ LeC C2 C1 ∧ LeC C0 C1 ∧ ((∀ s, s < t.length → ∀ q, q < t.length → underC t r[A]! s (q : Int) = []) → C0 = r[A]!) := by
 have hra := (run_rangeC hrun hA)
 have hz := hra.at hP
 have hrz : rAt r A P = (r[A]!)[P]! := rfl
 have hrg : RangeC t (dlyC t P (rAt r A P)) := dlyC_range hP (by rw [hrz]; exact hz.1) (by rw [hrz]; exact hz.2)
 obtain ⟨n, hn⟩ := openC_fix hrg
 obtain ⟨o1, o2, o3⟩ := dn_greatest hn hrg
 obtain ⟨C0, a1, a2, a3, a4, a5⟩ := chan_cut (d := 0) hv hf hrun (by omega) hP hA
 obtain ⟨C1, b1, b2, b3, b4, b5⟩ := chan_cut (d := 1000) hv hf hrun (by omega) hP hA
 obtain ⟨C2, c1, c2, c3, c4, c5⟩ := chan_cut (d := d) hv hf hrun (by omega) hP hA
 have hle : ∀ C, ConsC t C → C[P]! = rAt r A P → LeC C (openC t (dlyC t P (rAt r A P))) := fun C hC hp => o3 C hC (fun q hq => by
  rw [hC.1.1] at hq
  by_cases e : q = P
  ·subst e; rw [dlyC_p hq, hp]; exact Int.le_refl _
  ·rw [dlyC_q hq e]; exact (hC.1.at hq).2)
 have h1 : C1 = openC t (dlyC t P (rAt r A P)) := chan_late hv hf hrun (by omega) hP hA (show (r.length : Int) ≤ 1000 by omega) b1 b3 b5 o1 o2 o3 (dlyC_len ..) (dlyC_p hP) (fun q hq e => dlyC_q hq e)
 exact ⟨C0, C1, C2, _, a1, b1, c1, a2, b2, c2, rfl, h1, by rw [h1]; exact hle C2 c1 c3, by rw [h1]; exact hle C0 a1 a3, fun hu => chan_now hv hf hrun (by omega) hP hA a1 a5 hu⟩
set_option maxHeartbeats 8000000 in
set_option maxRecDepth 100000 in
theorem snapshotDelays_calls (v rv : Value) (t : Tr) (r : List (List Int)) (p a dl : Int) (w : World) (h : TrAt w v t) (htop : TopTr t) (hrv : Sl RInts 1 w rv r) (hd0 : 0 ≤ dl) (hd1 : dl < 65536) :
  Calls Tryz.prog 4 #[.agg #[v], rv, .int .i64 p, .int .i64 a, .int .u16 dl] w fun e w' => e = .returned (.bool true) ∧ Ext w w' := by
 have HSHT := Lib.hid (fun W (hW : Ext w W) => short_calls rv r W (Sl.ext rints_lasts hrv hW))
 have HRV := Lib.hid hrv
 obtain ⟨ra, rc, rfl, hrc⟩ := hrv.sh
 obtain ⟨R, hR⟩ : ∃ R, r.length = R := ⟨_, rfl⟩
 rw [hR] at HSHT HRV ⊢
 have HRL := Lib.hid hR
 obtain ⟨sb, hsb⟩ : ∃ b, shortB r = b := ⟨_, rfl⟩
 rw [hsb] at HSHT
 have HSB := Lib.hid hsb
 have hD0 : 0 ≤ (wrap64 dl).tmod 80 := Int.tmod_nonneg _ (by rw [IntWalk.wrap64_in _ (by omega)]; exact hd0)
 have hD1 : (wrap64 dl).tmod 80 ≤ 1000 := by have := Int.tmod_lt_of_pos (wrap64 dl) (show (0 : Int) < 80 by decide); omega
 clear hrv hrc hR hsb
 obtain ⟨bb, hbb⟩ : ∃ b, bgnB t r p a = b := ⟨_, rfl⟩
 cases bb with
 | false =>
   have HBB := Lib.hid hbb
   clear hbb hd0 hd1 hD0 hD1
   have HT := Lib.hid h
   have HFC := Lib.hid (fun W (hW : Ext w W) => few50_calls v t W (h.ext hW) htop)
   obtain ⟨ta, tc, rfl, htc⟩ := h.sh
   obtain ⟨tn, htn⟩ : ∃ n, t.length = n := ⟨_, rfl⟩
   rw [htn] at HFC HT ⊢
   have HTN := Lib.hid htn
   have HX0 := Lib.hid (heap_alloc_new w (.cells #[.slice ta tn tc] 24))
   have HE1 := Lib.hid ((Ext.rf w).al (.cells #[.slice ta tn tc] 24))
   obtain ⟨fw, hfw⟩ : ∃ b, few50 t = b := ⟨_, rfl⟩
   rw [hfw] at HFC
   have HFW := Lib.hid hfw
   clear h htop hfw htc htn
   go_enter Tryz.func4, Tryz.ntmps4
   go_wp2_with fail
   refine (awake50_calls _).mono ?_
   rintro e w2 ⟨rfl, hX2⟩
   have HE2 := Lib.hid (HE1.out.trans' hX2)
   have HY2 := Lib.hid (hX2.hp HX0.out)
   have t2 := cellOf HY2.out 0
   simp only [List.getElem?_toArray, List.getElem?_cons_zero] at t2
   clear hX2
   go_wp2_with fail
   refine (HFC.out _ HE2.out).mono ?_
   rintro e w3 ⟨rfl, hX3⟩
   have HE3 := Lib.hid (HE2.out.trans' hX3)
   have HY3 := Lib.hid (hX3.hp HY2.out)
   have t3 := cellOf HY3.out 0
   simp only [List.getElem?_toArray, List.getElem?_cons_zero] at t3
   clear hX3 t2
   cases fw with
   | false =>
     go_wp2_with fail
     refine (awake50_calls _).mono ?_
     rintro e w4 ⟨rfl, hX4⟩
     go_wp2
     go_ret
     exact ⟨rfl, HE3.out.trans' hX4⟩
   | true =>
   have HLO := Lib.hid (few50_loose HFW.out).1
   go_wp2_with fail
   refine (HSHT.out _ HE3.out).mono ?_
   rintro e w4 ⟨rfl, hX4⟩
   have HE4 := Lib.hid (HE3.out.trans' hX4)
   have HY4 := Lib.hid (hX4.hp HY3.out)
   have t4 := cellOf HY4.out 0
   simp only [List.getElem?_toArray, List.getElem?_cons_zero] at t4
   have HXX4 := Lib.hid hX4
   clear hX4 t3
   cases sb with
   | false =>
     go_wp2_with fail
     refine (awake50_calls _).mono ?_
     rintro e w99 ⟨rfl, hX99⟩
     go_wp2
     go_ret
     exact ⟨rfl, HE4.out.trans' hX99⟩
   | true =>
   have HSO := Lib.hid (shortB_ok HSB.out)
   have HBC := Lib.hid (fun W (hW : Ext w W) => begins_calls _ _ t r p a W (HT.out.ext hW) HLO.out (Sl.ext rints_lasts HRV.out hW) (by have := HSO.out.1; omega) (fun i hi => by have := HSO.out.2 i hi; omega))
   rw [HBB.out] at HBC
   go_wp2_with fail
   refine (HBC.out _ HE4.out).mono ?_
   rintro e w5 ⟨rfl, hX5⟩
   have HE5 := Lib.hid (HE4.out.trans' hX5)
   have HY5 := Lib.hid (hX5.hp HY4.out)
   have t5 := cellOf HY5.out 0
   simp only [List.getElem?_toArray, List.getElem?_cons_zero] at t5
   have HXX5 := Lib.hid hX5
   clear hX5 t4
   go_wp2_with fail
   refine (awake50_calls _).mono ?_
   rintro e w99 ⟨rfl, hX99⟩
   go_wp2
   go_ret
   exact ⟨rfl, HE5.out.trans' hX99⟩
 | true =>
   obtain ⟨hv, hf, hrun, hp0, hp1, ha0, ha1⟩ := bgnB_iff.1 hbb
   obtain ⟨P, rfl⟩ : ∃ P : Nat, p = (P : Int) := ⟨p.toNat, by omega⟩
   obtain ⟨A, rfl⟩ : ∃ A : Nat, a = (A : Int) := ⟨a.toNat, by omega⟩
   have HBB := Lib.hid hbb
   have hcl0 := cl_zero (d := 0) hv hf hrun hp0 hp1 ha0 ha1 (Int.le_refl _) (by decide)
   have hcl1 := cl_zero (d := 1000) hv hf hrun hp0 hp1 ha0 ha1 (by decide) (Int.le_refl _)
   have hcl2 := cl_zero hv hf hrun hp0 hp1 ha0 ha1 hD0 hD1
   rw [Int.toNat_natCast, Int.toNat_natCast] at hcl0 hcl1 hcl2
   have hP : P < t.length := by omega
   have hA : A < r.length := by omega
   have HCZ := Lib.hid (fun (hrl : r.length ≤ 1000) => dly_facts (d := (wrap64 dl).tmod 80) hv hf hrun hrl hP hA)
   have HCL0 := Lib.hid hcl0
   have HCL1 := Lib.hid hcl1
   have HCL2 := Lib.hid hcl2
   have HVT := Lib.hid hv
   have HRN := Lib.hid hrun
   have HPN := Lib.hid hP
   have HAN := Lib.hid hA
   clear hbb hv hf hrun hcl0 hcl1 hcl2 hp0 hp1 ha0 ha1 hD0 hD1 hd0 hd1 hP hA
   have HT := Lib.hid h
   have HFC := Lib.hid (fun W (hW : Ext w W) => few50_calls v t W (h.ext hW) htop)
   obtain ⟨ta, tc, rfl, htc⟩ := h.sh
   obtain ⟨tn, htn⟩ : ∃ n, t.length = n := ⟨_, rfl⟩
   rw [htn] at HFC HT ⊢
   have HTN := Lib.hid htn
   have HX0 := Lib.hid (heap_alloc_new w (.cells #[.slice ta tn tc] 24))
   have HE1 := Lib.hid ((Ext.rf w).al (.cells #[.slice ta tn tc] 24))
   obtain ⟨fw, hfw⟩ : ∃ b, few50 t = b := ⟨_, rfl⟩
   rw [hfw] at HFC
   have HFW := Lib.hid hfw
   clear h htop hfw htc htn
   go_enter Tryz.func4, Tryz.ntmps4
   go_wp2_with fail
   refine (awake50_calls _).mono ?_
   rintro e w2 ⟨rfl, hX2⟩
   have HE2 := Lib.hid (HE1.out.trans' hX2)
   have HY2 := Lib.hid (hX2.hp HX0.out)
   have t2 := cellOf HY2.out 0
   simp only [List.getElem?_toArray, List.getElem?_cons_zero] at t2
   clear hX2
   go_wp2_with fail
   refine (HFC.out _ HE2.out).mono ?_
   rintro e w3 ⟨rfl, hX3⟩
   have HE3 := Lib.hid (HE2.out.trans' hX3)
   have HY3 := Lib.hid (hX3.hp HY2.out)
   have t3 := cellOf HY3.out 0
   simp only [List.getElem?_toArray, List.getElem?_cons_zero] at t3
   clear hX3 t2
   cases fw with
   | false =>
     go_wp2_with fail
     refine (awake50_calls _).mono ?_
     rintro e w4 ⟨rfl, hX4⟩
     go_wp2
     go_ret
     exact ⟨rfl, HE3.out.trans' hX4⟩
   | true =>
   have HLO := Lib.hid (few50_loose HFW.out).1
   go_wp2_with fail
   refine (HSHT.out _ HE3.out).mono ?_
   rintro e w4 ⟨rfl, hX4⟩
   have HE4 := Lib.hid (HE3.out.trans' hX4)
   have HY4 := Lib.hid (hX4.hp HY3.out)
   have t4 := cellOf HY4.out 0
   simp only [List.getElem?_toArray, List.getElem?_cons_zero] at t4
   have HXX4 := Lib.hid hX4
   clear hX4 t3
   cases sb with
   | false =>
     go_wp2_with fail
     refine (awake50_calls _).mono ?_
     rintro e w99 ⟨rfl, hX99⟩
     go_wp2
     go_ret
     exact ⟨rfl, HE4.out.trans' hX99⟩
   | true =>
   have HSO := Lib.hid (shortB_ok HSB.out)
   have HBC := Lib.hid (fun W (hW : Ext w W) => begins_calls _ _ t r P A W (HT.out.ext hW) HLO.out (Sl.ext rints_lasts HRV.out hW) (by have := HSO.out.1; omega) (fun i hi => by have := HSO.out.2 i hi; omega))
   rw [HBB.out] at HBC
   go_wp2_with fail
   refine (HBC.out _ HE4.out).mono ?_
   rintro e w5 ⟨rfl, hX5⟩
   have HE5 := Lib.hid (HE4.out.trans' hX5)
   have HY5 := Lib.hid (hX5.hp HY4.out)
   have t5 := cellOf HY5.out 0
   simp only [List.getElem?_toArray, List.getElem?_cons_zero] at t5
   have HXX5 := Lib.hid hX5
   clear hX5 t4
   obtain ⟨C9, C10, C11, O, k1, k2, k3, k4, k5, k6, k7, k8, k9, k10, k11⟩ := HCZ.out (by have := HSO.out.1; omega)
   subst k8
   have HN9 := Lib.hid k1
   have HN10 := Lib.hid k2
   have HN11 := Lib.hid k3
   have HOP := Lib.hid k7
   have HL11 := Lib.hid (leCB_iff.2 ⟨by rw [k3.1.1, k2.1.1], k9⟩)
   have HL9 := Lib.hid (leCB_iff.2 ⟨by rw [k1.1.1, k2.1.1], k10⟩)
   have HUN := Lib.hid k11
   have HCHL := Lib.hid (fun d W (hW : Ext w W) => chandy_calls _ _ t r (P : Int) (A : Int) d W (HT.out.ext hW) HLO.out (Sl.ext rints_lasts HRV.out hW) (by have := (valid_8 HVT.out).2; omega) (by have := HSO.out.1; omega) (fun i hi => by have := HSO.out.2 i hi; omega))
   have HCH0 := Lib.hid (HCHL.out 0)
   have HCH1 := Lib.hid (HCHL.out 1000)
   have HCH2 := Lib.hid (HCHL.out ((wrap64 dl).tmod 80))
   rw [HCL0.out.1, HCL0.out.2, k4] at HCH0
   rw [HCL1.out.1, HCL1.out.2, k5] at HCH1
   rw [HCL2.out.1, HCL2.out.2, k6] at HCH2
   clear k1 k2 k3 k4 k5 k6 k7 k9 k10 k11 HCZ HCHL
   have h81 := (valid_8 HVT.out)
   rw [HTN.out] at h81
   have HLC9 : Hid (C9.length = tn) := Lib.hid (HN9.out.1.1.trans HTN.out)
   have HLC10 : Hid (C10.length = tn) := Lib.hid (HN10.out.1.1.trans HTN.out)
   have HLC11 : Hid (C11.length = tn) := Lib.hid (HN11.out.1.1.trans HTN.out)
   have HCU : Hid (∀ C, ConsC t C → ∀ W u, Sl RMk 3 W u (cutM t C) → Calls Tryz.prog 19 #[u] W fun e w' => IntsRes W w' e 0 C) := Lib.hid (fun C hC W u hu => by
    have h := snapCut_calls u (cutM t C) W hu (cutM_lightE HVT.out hC.1)
    rw [cutE_zeroE (cutM_valid HVT.out hC.1) (cutM_rec hC.1), if_pos rfl, cutM_cnts hC.1.1] at h
    exact h)
   have HRG : Hid (RangeC t (dlyC t P (rAt r A P))) := Lib.hid (by
    have hz := (run_rangeC HRN.out HAN.out).at HPN.out
    have hrz : rAt r A P = (r[A]!)[P]! := rfl
    exact dlyC_range HPN.out (by rw [hrz]; exact hz.1) (by rw [hrz]; exact hz.2))
   have HOC := Lib.hid (fun W u (hW : Ext w W) (hu : Ints W u (dlyC t P (rAt r A P))) => openP_calls _ u t (dlyC t P (rAt r A P)) W (HT.out.ext hW) HLO.out hu (by rw [dlyC_len]; have := (valid_8 HVT.out).2; omega))
   rw [rep_zeroD HVT.out HRG.out, if_pos rfl, HOP.out] at HOC
   go_wp2_with fail
   refine (HCH0.out w5 HE5.out).mono ?_
   rintro e w6 ⟨v6, rfl, hX6, hS6⟩
   obtain ⟨ma6, mc6, rfl, hz6⟩ := hS6.sh
   have HS6 := Lib.hid hS6
   rw [cutM_len, HTN.out]
   rw [cutM_len, HTN.out] at HS6
   clear hS6 hz6
   have HE6 := Lib.hid (HE5.out.trans' hX6)
   have HY6 := Lib.hid (hX6.hp HY5.out)
   have t6 := cellOf HY6.out 0
   simp only [List.getElem?_toArray, List.getElem?_cons_zero] at t6
   have HXX6 := Lib.hid hX6
   clear hX6 t5
   go_wp2_with fail
   refine (HCH1.out w6 HE6.out).mono ?_
   rintro e w7 ⟨v7, rfl, hX7, hS7⟩
   obtain ⟨ma7, mc7, rfl, hz7⟩ := hS7.sh
   have HS7 := Lib.hid hS7
   rw [cutM_len, HTN.out]
   rw [cutM_len, HTN.out] at HS7
   clear hS7 hz7
   have HE7 := Lib.hid (HE6.out.trans' hX7)
   have HY7 := Lib.hid (hX7.hp HY6.out)
   have t7 := cellOf HY7.out 0
   simp only [List.getElem?_toArray, List.getElem?_cons_zero] at t7
   have HXX7 := Lib.hid hX7
   clear hX7 t6
   go_wp2_with fail
   refine (HCH2.out w7 HE7.out).mono ?_
   rintro e w8 ⟨v8, rfl, hX8, hS8⟩
   obtain ⟨ma8, mc8, rfl, hz8⟩ := hS8.sh
   have HS8 := Lib.hid hS8
   rw [cutM_len, HTN.out]
   rw [cutM_len, HTN.out] at HS8
   clear hS8 hz8
   have HE8 := Lib.hid (HE7.out.trans' hX8)
   have HY8 := Lib.hid (hX8.hp HY7.out)
   have t8 := cellOf HY8.out 0
   simp only [List.getElem?_toArray, List.getElem?_cons_zero] at t8
   have HXX8 := Lib.hid hX8
   clear hX8 t7
   go_wp2_with fail
   refine (HCU.out C9 HN9.out w8 _ (Sl.ext rmk_lasts HS6.out (HXX7.out.trans' HXX8.out))).mono ?_
   rintro e w9 ⟨v9, rfl, hR9, hX9⟩
   rw [HLC9.out] at hR9
   obtain ⟨ca9, cc9, rfl, hz9⟩ := hR9.any
   have HI9 : Hid (Ints w9 (.slice ca9 tn cc9) C9) := Lib.hid (by
    have h := hR9
    rw [← HLC9.out] at h ⊢
    exact h.ints)
   clear hR9 hz9
   have HE9 := Lib.hid (HE8.out.trans' hX9)
   have HY9 := Lib.hid (hX9.hp HY8.out)
   have t9 := cellOf HY9.out 0
   simp only [List.getElem?_toArray, List.getElem?_cons_zero] at t9
   have HXX9 := Lib.hid hX9
   clear hX9 t8
   go_wp2_with fail
   refine (HCU.out C10 HN10.out w9 _ (Sl.ext rmk_lasts HS7.out (HXX8.out.trans' HXX9.out))).mono ?_
   rintro e w10 ⟨v10, rfl, hR10, hX10⟩
   rw [HLC10.out] at hR10
   obtain ⟨ca10, cc10, rfl, hz10⟩ := hR10.any
   have HI10 : Hid (Ints w10 (.slice ca10 tn cc10) C10) := Lib.hid (by
    have h := hR10
    rw [← HLC10.out] at h ⊢
    exact h.ints)
   clear hR10 hz10
   have HE10 := Lib.hid (HE9.out.trans' hX10)
   have HY10 := Lib.hid (hX10.hp HY9.out)
   have t10 := cellOf HY10.out 0
   simp only [List.getElem?_toArray, List.getElem?_cons_zero] at t10
   have HXX10 := Lib.hid hX10
   clear hX10 t9
   go_wp2_with fail
   refine (HCU.out C11 HN11.out w10 _ (Sl.ext rmk_lasts HS8.out (HXX9.out.trans' HXX10.out))).mono ?_
   rintro e w11 ⟨v11, rfl, hR11, hX11⟩
   rw [HLC11.out] at hR11
   obtain ⟨ca11, cc11, rfl, hz11⟩ := hR11.any
   have HI11 : Hid (Ints w11 (.slice ca11 tn cc11) C11) := Lib.hid (by
    have h := hR11
    rw [← HLC11.out] at h ⊢
    exact h.ints)
   clear hR11 hz11
   have HE11 := Lib.hid (HE10.out.trans' hX11)
   have HY11 := Lib.hid (hX11.hp HY10.out)
   have t11 := cellOf HY11.out 0
   simp only [List.getElem?_toArray, List.getElem?_cons_zero] at t11
   have HXX11 := Lib.hid hX11
   clear hX11 t10
   go_wp2_with fail
   refine (lengthsR_calls _ t w11 (HT.out.ext HE11.out) (valid_small HVT.out)).mono ?_
   rintro e w12 ⟨v12, rfl, hR12, hX12⟩
   rw [show (lensC t).length = tn from by unfold lensC; rw [lensTo_len, HTN.out]] at hR12
   obtain ⟨G, O, cap, rfl, hG, hGw, hcap⟩ := hR12.shape (by omega)
   have HR12 := Lib.hid hR12
   have HGG := Lib.hid hG
   clear hR12 hG hGw
   have HE12 := Lib.hid (HE11.out.trans' hX12)
   have HY12 := Lib.hid (hX12.hp HY11.out)
   have t12 := cellOf HY12.out 0
   simp only [List.getElem?_toArray, List.getElem?_cons_zero] at t12
   have HXX12 := Lib.hid hX12
   clear hX12 t11
   have HPZ : Hid (P < tn) := Lib.hid (by have := HPN.out; rw [HTN.out] at this; exact this)
   have HAZ : Hid (A < R) := Lib.hid (by have := HAN.out; rw [HRL.out] at this; exact this)
   obtain ⟨rB, rO, rC, xa, xc, hre, _, _, hrc, hrI⟩ := rowAt HRV.out A HAN.out
   simp only [Value.slice.injEq] at hre
   obtain ⟨rfl, hq2, rfl⟩ := hre
   have HRLN : Hid (r[A]!.length = tn) := Lib.hid ((run_rangeC HRN.out HAN.out).1.trans HTN.out)
   obtain ⟨uB, uO, uC, hue, huC, huB, huP⟩ := Ints.at1 hrI P (by rw [HRLN.out]; exact HPZ.out)
   simp only [Value.slice.injEq] at hue
   obtain ⟨rfl, hq3, rfl⟩ := hue
   have hra : r[A]![P]! = rAt r A P := rfl
   rw [hra] at huP
   rw [HRLN.out] at hrc hrI
   have HRI := Lib.hid hrI
   have HRC := Lib.hid hrc
   have r0 := HE12.out.cl hrc
   have u0 := HE12.out.cl huP
   have HDC : Hid (dlyC t P (rAt r A P) = (lensC t).set P (rAt r A P)) := Lib.hid rfl
   generalize rAt r A P = z at *
   have b1 : (P : Int) < (tn : Int) := by have := HPZ.out; omega
   have b1n := HPZ.out
   have b2 : (A : Int) < (R : Int) := by have := HAZ.out; omega
   have b2n := HAZ.out
   have b3 : (0 : Int) ≤ (P : Int) := by omega
   have b4 : (0 : Int) ≤ (A : Int) := by omega
   have hfr := HR12.out.free (O + P)
   obtain ⟨old, hold⟩ : ∃ u, ((lensC t).map (Value.int .i64))[P]? = some u := ⟨_, List.getElem?_eq_getElem (by rw [List.length_map, lensC_len]; exact HPN.out)⟩
   have g0 := HR12.out.cell P (by omega)
   rw [hold] at g0
   have HS := Lib.hid (HR12.out.set P (.int .i64 z) (by omega))
   rw [← List.map_set, ← HDC.out] at HS
   have HXS := Lib.hid (HXX12.out.st (p := ⟨G, O + P, none⟩) HGG.out (.int .i64 z))
   have HY13 := Lib.hid (HXS.out.hp HY11.out)
   have t13 := cellOf HY13.out 0
   simp only [List.getElem?_toArray, List.getElem?_cons_zero] at t13
   clear hold hq2 hq3 hrc hrI huC huB huP hra
   go_wp2_with fail
   generalize hw13 : w12.setCell ⟨G, O + P, none⟩ (.int .i64 z) = w13 at *
   have HE13 := Lib.hid (HE11.out.trans' HXS.out)
   have HI13 : Hid (Ints w13 (.slice (some ⟨G, O, none⟩) tn cap) (dlyC t P z)) := Lib.hid (by
    have h := HS.out
    have h2 : Row w13 w11.heap.size 3 1 (.slice (some ⟨G, O, none⟩) tn cap) (dlyC t P z).length ((dlyC t P z).map (Value.int .i64)) := by rw [dlyC_len, HTN.out]; exact h
    exact h2.ints)
   clear hw13 t12 r0 u0 g0 hfr
   refine (HOC.out w13 _ HE13.out HI13.out).mono ?_
   rintro e w14 ⟨v14, rfl, hR14, hX14⟩
   rw [HLC10.out] at hR14
   obtain ⟨ca14, cc14, rfl, hz14⟩ := hR14.any
   have HI14 : Hid (Ints w14 (.slice ca14 tn cc14) C10) := Lib.hid (by
    have h := hR14
    rw [← HLC10.out] at h ⊢
    exact h.ints)
   clear hR14 hz14
   have HE14 := Lib.hid (HE13.out.trans' hX14)
   have HY14 := Lib.hid (hX14.hp HY13.out)
   have t14 := cellOf HY14.out 0
   simp only [List.getElem?_toArray, List.getElem?_cons_zero] at t14
   have HXX14 := Lib.hid hX14
   clear hX14 t13
   have HT14 := Lib.hid t14
   clear t14
   have HX9E := Lib.hid (HXX10.out.trans' (HXX11.out.trans' (HXS.out.trans' HXX14.out)))
   have HI9E := Lib.hid (HI9.out.ext HX9E.out)
   have HI10E := Lib.hid (HI10.out.ext (HXX11.out.trans' (HXS.out.trans' HXX14.out)))
   have HI11E := Lib.hid (HI11.out.ext (HXS.out.trans' HXX14.out))
   go_wp2_with fail
   refine (eqBdly _ _ C10 C10 true w14 HI10E.out HI14.out (by rw [HLC10.out]; omega) (by rw [HLC10.out]; omega) (by simp)).mono ?_
   rintro e w15 ⟨rfl, hX15⟩
   have HX15 := Lib.hid hX15
   clear hX15
   have HLE11 := Lib.hid (leqP_calls _ _ C11 C10 w15 (HI11E.out.ext HX15.out) (HI10E.out.ext HX15.out) (by rw [HLC11.out]; omega) (by rw [HLC10.out]; omega))
   rw [HL11.out] at HLE11
   go_wp2_with fail
   refine HLE11.out.mono ?_
   rintro e w16 ⟨rfl, hX16⟩
   have HX16 := Lib.hid (HX15.out.trans' hX16)
   clear hX16
   have HLE9 := Lib.hid (leqP_calls _ _ C9 C10 w16 (HI9E.out.ext HX16.out) (HI10E.out.ext HX16.out) (by rw [HLC9.out]; omega) (by rw [HLC10.out]; omega))
   rw [HL9.out] at HLE9
   go_wp2_with fail
   refine HLE9.out.mono ?_
   rintro e w17 ⟨rfl, hX17⟩
   have HX17 := Lib.hid (HX16.out.trans' hX17)
   have HEL := Lib.hid (HE14.out.trans' HX17.out)
   have HTL := Lib.hid (HX17.out.cl HT14.out)
   have tL := HTL.out
   have HIR := Lib.hid (HRI.out.ext HEL.out)
   have HI9L := Lib.hid (HI9E.out.ext HX17.out)
   have HCR := Lib.hid (HEL.out.cl HRC.out)
   clear hX17
   have HU : Hid (∀ W, Ext w17 W → ∀ f q : Nat, f < tn → q < tn → Calls Tryz.prog 24 #[.agg #[.slice ta tn tc], .slice (some ⟨uB, uO, none⟩) tn xc, .int .i64 f, .int .i64 q] W fun e w' => IntsRes W w' e 0 (underC t r[A]! f (q : Int))) := Lib.hid (fun W hW f q hf hq => by
    have h := underWayP_calls (.slice ta tn tc) (.slice (some ⟨uB, uO, none⟩) tn xc) t r[A]! (f : Int) (q : Int) W (HT.out.ext (HEL.out.trans' hW)) HLO.out (HIR.out.ext hW)
    rw [given_pq HVT.out ((run_ok HVT.out HRN.out A HAN.out).cons HVT.out) (by rw [HTN.out]; omega) (by rw [HTN.out]; omega), if_pos rfl, Int.toNat_natCast] at h
    exact h)
   have HUL : Hid (∀ f q : Nat, f < tn → (underC t r[A]! f (q : Int)).length ≤ 64) := Lib.hid (fun f q hf => under_len64 HVT.out (run_rangeC HRN.out HAN.out) (by rw [HTN.out]; exact hf) _)
   go_wp2
   clear tL
   go_loopg [23, 24, 25, 26, 153] tn (fun g s23 s24 s25 s26 s153 wr => ∃ q : Nat, q ≤ tn ∧ tn - q ≤ g ∧ s153 = .int .i64 q ∧ Aside (Ext w17 wr) ∧ Aside (∀ y, y < q → ∀ s, s < tn → underC t r[A]! s (y : Int) = []))
   case atStart => exact ⟨0, Nat.zero_le _, by omega, rfl, (show Ext _ _ from Ext.rf _), (show Aside _ from fun y hy => absurd hy (Nat.not_lt_zero _))⟩
   case round =>
    obtain ⟨q, hq, hgq, rfl, HE, HUQ⟩ := hrel
    by_cases hqn : q < tn
    case neg =>
     have hqz : ¬ (q : Int) < (tn : Int) := by omega
     have HEQ := Lib.hid (HUN.out (fun s hs y hy => HUQ.out y (by rw [HTN.out] at hy; omega) s (by rw [HTN.out] at hs; exact hs)))
     have HCE := Lib.hid (eqBdly _ _ C9 r[A]! true wr (HI9L.out.ext HE.out) (HIR.out.ext HE.out) (by rw [HLC9.out]; omega) (by rw [HRLN.out]; omega) (by rw [HEQ.out]; simp))
     have c0 := HE.out.cl HCR.out
     have b2 : (A : Int) < (R : Int) := by have := HAZ.out; omega
     have b2n := HAZ.out
     have b4 : (0 : Int) ≤ (A : Int) := by omega
     go_wp2_with fail
     refine HCE.out.mono ?_
     rintro e w20 ⟨rfl, hX20⟩
     go_wp2
     go_ret
     exact ⟨rfl, HEL.out.trans' (HE.out.trans' hX20)⟩
    case pos =>
     have hqz : (q : Int) < (tn : Int) := by omega
     have hqz0 : (0 : Int) ≤ (q : Int) := by omega
     have tW := HE.out.cl HTL.out
     obtain ⟨wo, rfl⟩ : ∃ x, x = wr := ⟨_, rfl⟩
     go_wp2
     clear tW
     go_loopg [24, 25, 26, 159] tn (fun g s24 s25 s26 s159 wr => ∃ f : Nat, f ≤ tn ∧ tn - f ≤ g ∧ s159 = .int .i64 f ∧ Aside (Ext w17 wr) ∧ Aside (∀ s, s < f → underC t r[A]! s (q : Int) = []))
     case atStart => exact ⟨0, Nat.zero_le _, by omega, rfl, (show Ext _ _ from HE.out), (show Aside _ from fun y hy => absurd hy (Nat.not_lt_zero _))⟩
     case round =>
      clear HE
      obtain ⟨f, hf, hgf, rfl, HE, HUF⟩ := hrel
      by_cases hfn : f < tn
      case neg =>
       have hfz : ¬ (f : Int) < (tn : Int) := by omega
       go_wp2
       go_roundg (tn - (q + 1))
       case measure => omega
       case rel => exact ⟨q + 1, by omega, by omega, by go_num, (show Ext _ _ from HE.out), (show Aside _ from fun y hy s hs => by
        by_cases e : y = q
        ·subst e; exact HUF.out s (by omega)
        ·exact HUQ.out y (by omega) s hs)⟩
      case pos =>
       have hfz : (f : Int) < (tn : Int) := by omega
       have hfz0 : (0 : Int) ≤ (f : Int) := by omega
       have tW := HE.out.cl HTL.out
       have c0 := HE.out.cl HCR.out
       have HUC := Lib.hid (fun W (hW : Ext w17 W) => HU.out W hW f q hfn hqn)
       have hul := HUL.out f q hfn
       have b2 : (A : Int) < (R : Int) := by have := HAZ.out; omega
       have b2n := HAZ.out
       have b4 : (0 : Int) ≤ (A : Int) := by omega
       have HUS : Hid (underC t r[A]! f (q : Int) = [] → ∀ s, s < f + 1 → underC t r[A]! s (q : Int) = []) := Lib.hid (fun h s hs => by
        by_cases e : s = f
        ·subst e; exact h
        ·exact HUF.out s (by omega))
       generalize underC t r[A]! f (q : Int) = U at *
       go_upto_region 22 with (fail)
       refine wp_region_tail (fun W => W.cell? ⟨w.heap.size, 0, none⟩ = some (.slice ta tn tc) ∧ W.cell? ⟨rB, rO + A, none⟩ = some (.slice (some ⟨uB, uO, none⟩) tn xc)) 12 (by kernel_rfl) ⟨tW, c0⟩ (fun hHeld => ?_)
       refine wpAnyT_take (i := 0) (d := some 163) (v := ?_) rfl rfl (by kernel_rfl) (by kernel_rfl) (by kernel_rfl) (by kernel_rfl) (fun _ _ _ h => h) (Or.inl ⟨by kernel_rfl, ?_⟩) (by assumption) ?_
       rotate_left
       ·(intro w hSw; (try dsimp only at hSw); go_simp; try (with_reducible rfl))
       try simp only [Act.put]
       try simp only [List.setIfInBounds_toArray]
       try simp only [List.set_cons_zero, List.set_cons_succ]
       refine wpAnyT_take (i := 1) (d := some 164) (v := ?_) rfl rfl (by kernel_rfl) (by kernel_rfl) (by kernel_rfl) (by kernel_rfl) (fun _ _ _ h => h) (Or.inl ⟨by kernel_rfl, ?_⟩) (by assumption) ?_
       rotate_left
       ·(intro w hSw; (try dsimp only at hSw); go_simp; try (with_reducible rfl))
       try simp only [Act.put]
       try simp only [List.setIfInBounds_toArray]
       try simp only [List.set_cons_zero, List.set_cons_succ]
       refine wpAnyT_take (i := 2) (d := some 165) (v := ?_) rfl rfl (by kernel_rfl) (by kernel_rfl) (by kernel_rfl) (by kernel_rfl) (fun _ _ _ h => h) (Or.inl ⟨by kernel_rfl, ?_⟩) (by assumption) ?_
       rotate_left
       ·(intro w hSw; (try dsimp only at hSw); go_simp; try (with_reducible rfl))
       try simp only [Act.put]
       try simp only [List.setIfInBounds_toArray]
       try simp only [List.set_cons_zero, List.set_cons_succ]
       refine wpAnyT_take (i := 3) (d := some 166) (v := ?_) rfl rfl (by kernel_rfl) (by kernel_rfl) (by kernel_rfl) (by kernel_rfl) (fun _ _ _ h => h) (Or.inl ⟨by kernel_rfl, ?_⟩) (by assumption) ?_
       rotate_left
       ·(intro w hSw; (try dsimp only at hSw); go_simp; try (with_reducible rfl))
       try simp only [Act.put]
       try simp only [List.setIfInBounds_toArray]
       try simp only [List.set_cons_zero, List.set_cons_succ]
       refine wpAnyT_take (i := 4) (d := some 167) (v := ?_) rfl rfl (by kernel_rfl) (by kernel_rfl) (by kernel_rfl) (by kernel_rfl) (fun _ _ _ h => h) (Or.inl ⟨by kernel_rfl, ?_⟩) (by assumption) ?_
       rotate_left
       ·(intro w hSw; (try dsimp only at hSw); go_simp; try (with_reducible rfl))
       try simp only [Act.put]
       try simp only [List.setIfInBounds_toArray]
       try simp only [List.set_cons_zero, List.set_cons_succ]
       refine wpAnyT_take (i := 5) (d := some 168) (v := ?_) rfl rfl (by kernel_rfl) (by kernel_rfl) (by kernel_rfl) (by kernel_rfl) (fun _ _ _ h => h) (Or.inl ⟨by kernel_rfl, ?_⟩) (by assumption) ?_
       rotate_left
       ·(intro w hSw; (try dsimp only at hSw); go_simp; try (with_reducible rfl))
       try simp only [Act.put]
       try simp only [List.setIfInBounds_toArray]
       try simp only [List.set_cons_zero, List.set_cons_succ]
       refine wpAnyT_take (i := 6) (d := some 169) (v := ?_) rfl rfl (by kernel_rfl) (by kernel_rfl) (by kernel_rfl) (by kernel_rfl) (fun _ _ _ h => h) (Or.inl ⟨by kernel_rfl, ?_⟩) (by assumption) ?_
       rotate_left
       ·(intro w hSw; (try dsimp only at hSw); go_simp; try (with_reducible rfl))
       try simp only [Act.put]
       try simp only [List.setIfInBounds_toArray]
       try simp only [List.set_cons_zero, List.set_cons_succ]
       refine wpAnyT_step (i := 7) (o := ⟨some 170, _, _, _, _, _⟩) (by kernel_rfl) rfl (fun K hK => ?_)
       refine step_callW (by kernel_rfl) 24 _ _ rfl enters_24 [.agg #[.slice ta tn tc], .slice (some ⟨uB, uO, none⟩) tn xc, .int .i64 f, .int .i64 q] (by first | rfl | kernel_rfl | go_simp) (HUC.out _ (HE.out.trans' ((Ext.rf wr).dr))) ?_
       rintro e y1 ⟨vu, rfl, hRu, hXu⟩
       refine ⟨_, rfl, ?_⟩
       have HY1 := Lib.hid ((HE.out.trans' ((Ext.rf wr).dr)).trans' hXu)
       obtain ⟨da, dc, rfl, hzd⟩ := hRu.any
       have HLU : Hid (U.length = 0 → U = []) := Lib.hid (fun h => List.length_eq_zero_iff.1 h)
       generalize U.length = ul at *
       clear hXu hRu hzd
       refine hK.out _ _ ?_ (fun hHeld => ?_)
       ·(try dsimp only)
        exact ⟨HY1.out.cl HTL.out, HY1.out.cl HCR.out⟩
       clear hK K
       try simp only [Act.put]
       try simp only [List.setIfInBounds_toArray]
       try simp only [List.set_cons_zero, List.set_cons_succ]
       refine wpAnyT_take (i := 8) (d := some 162) (v := ?_) rfl rfl (by kernel_rfl) (by kernel_rfl) (by kernel_rfl) (by kernel_rfl) (fun _ _ _ h => h) (Or.inl ⟨by kernel_rfl, ?_⟩) (by assumption) ?_
       rotate_left
       ·(intro w hSw; (try dsimp only at hSw); go_simp; try (with_reducible rfl))
       try simp only [Act.put]
       try simp only [List.setIfInBounds_toArray]
       try simp only [List.set_cons_zero, List.set_cons_succ]
       refine wpAnyT_take (i := 9) (d := some 171) (v := ?_) rfl rfl (by kernel_rfl) (by kernel_rfl) (by kernel_rfl) (by kernel_rfl) (fun _ _ _ h => h) (Or.inl ⟨by kernel_rfl, ?_⟩) (by assumption) ?_
       rotate_left
       ·(intro w hSw; (try dsimp only at hSw); go_simp; try (with_reducible rfl))
       try simp only [Act.put]
       try simp only [List.setIfInBounds_toArray]
       try simp only [List.set_cons_zero, List.set_cons_succ]
       refine wpAnyT_take (i := 10) (d := some 172) (v := ?_) rfl rfl (by kernel_rfl) (by kernel_rfl) (by kernel_rfl) (by kernel_rfl) (fun _ _ _ h => h) (Or.inl ⟨by kernel_rfl, ?_⟩) (by assumption) ?_
       rotate_left
       ·(intro w hSw; (try dsimp only at hSw); go_simp; try (with_reducible rfl))
       try simp only [Act.put]
       try simp only [List.setIfInBounds_toArray]
       try simp only [List.set_cons_zero, List.set_cons_succ]
       refine wpAnyT_take (i := 11) (d := some 25) (v := ?_) rfl rfl (by kernel_rfl) (by kernel_rfl) (by kernel_rfl) (by kernel_rfl) (fun _ _ _ h => h) (Or.inl ⟨by kernel_rfl, ?_⟩) (by assumption) ?_
       rotate_left
       ·(intro w hSw; (try dsimp only at hSw); go_simp; try (with_reducible rfl))
       try simp only [Act.put]
       try simp only [List.setIfInBounds_toArray]
       try simp only [List.set_cons_zero, List.set_cons_succ]
       refine wpAnyT_last (by kernel_rfl) rfl (by kernel_rfl) (fun K hK => ?_)
       go_simp
       refine hK.out _ _ ?_
       clear tW c0 hHeld b2 b2n b4
       by_cases hu0 : ul = 0
       case pos =>
        have HUZ := Lib.hid (HUS.out (HLU.out hu0))
        have g1 : decide ((0 : Int) < (ul : Int)) = false := decide_eq_false (by omega)
        have g2 : decide (0 < ul) = false := decide_eq_false (by omega)
        have g3 : ¬ 0 < ul := by omega
        clear hu0
        go_wp2
        go_roundg (tn - (f + 1))
        case measure => omega
        case rel => exact ⟨f + 1, by omega, by omega, by go_num, (show Ext _ _ from HY1.out), (show Aside _ from HUZ.out)⟩
       case neg =>
        have g1 : decide ((0 : Int) < (ul : Int)) = true := decide_eq_true (by omega)
        have g2 : decide (0 < ul) = true := decide_eq_true (by omega)
        have g3 : 0 < ul := by omega
        clear hu0
        go_wp2
        go_ret
        exact ⟨rfl, HEL.out.trans' HY1.out⟩
end Go.Proofs.YtfagfooggcinoaaGreat
