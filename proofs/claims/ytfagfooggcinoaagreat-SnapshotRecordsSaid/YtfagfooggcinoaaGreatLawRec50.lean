/-
  The statement SnapshotRecords, walked.
-/
import Derived.Test.YtfagfooggcinoaaGreatJa
import Derived.Test.YtfagfooggcinoaaGreatProg
import Derived.BigQuiet
import Derived.Deep.QuietTactic
import Derived.Deep.LoopGhost
import Derived.Shelf.Abstract
import Derived.Test.YtfagfooggcinoaaGreatGk
import Derived.Test.YtfagfooggcinoaaGreatGm
import Derived.Test.YtfagfooggcinoaaGreatGp
import Derived.Test.YtfagfooggcinoaaGreatGo
import Derived.Test.YtfagfooggcinoaaGreatGg
namespace Go.Proofs.YtfagfooggcinoaaGreat
open Go.RowKit
set_option linter.unusedVariables false
theorem eqTrec (u v : Value) (l : List Int) (w : World) (hu : Ints w u l) (hv : Ints w v l) (hl : l.length ≤ 1000000) : Calls Tryz.prog 22 #[u, v] w fun e w' => e = .returned (.bool true) ∧ Ext w w' := by
 have := equal_int u v l l w hu hv hl hl
 rw [show (l == l) = true from by simp] at this
 exact this
theorem u16_wf {n : Int} (h : (Lit.int .u16 n).wf = true) : 0 ≤ n ∧ n < 65536 := by
 simp [Lit.wf, IntKind.min, IntKind.max, IntKind.signed, IntKind.bits] at h
 omega
theorem enters_35 : ∀ args w, (callFunc 35 args).run Tryz.prog w = .ok (.enter 35 args) w := enters_of Tryz.func35 (by kernel_rfl) rfl
theorem enters_23 : ∀ args w, (callFunc 23 args).run Tryz.prog w = .ok (.enter 23 args) w := enters_of Tryz.func23 (by kernel_rfl) rfl
set_option maxHeartbeats 8000000 in
set_option maxRecDepth 100000 in
theorem snapshotRecords_calls (v rv : Value) (t : Tr) (r : List (List Int)) (p a dl : Int) (w : World) (h : TrAt w v t) (htop : TopTr t) (hrv : Sl RInts 1 w rv r) (hd0 : 0 ≤ dl) (hd1 : dl < 65536) :
  Calls Tryz.prog 8 #[.agg #[v], rv, .int .i64 p, .int .i64 a, .int .u16 dl] w fun e w' => e = .returned (.bool true) ∧ Ext w w' := by
 have HSHT := Lib.hid (fun W (hW : Ext w W) => short_calls rv r W (Sl.ext rints_lasts hrv hW))
 have HRV := Lib.hid hrv
 obtain ⟨ra, rc, rfl, hrc⟩ := hrv.sh
 obtain ⟨R, hR⟩ : ∃ R, r.length = R := ⟨_, rfl⟩
 rw [hR] at HSHT HRV ⊢
 have HRL := Lib.hid hR
 obtain ⟨sb, hsb⟩ : ∃ b, shortB r = b := ⟨_, rfl⟩
 rw [hsb] at HSHT
 have HSB := Lib.hid hsb
 have hD0 : 0 ≤ (wrap64 dl).tmod 1001 := Int.tmod_nonneg _ (by rw [IntWalk.wrap64_in _ (by omega)]; exact hd0)
 have hD1 : (wrap64 dl).tmod 1001 ≤ 1000 := by have := Int.tmod_lt_of_pos (wrap64 dl) (show (0 : Int) < 1001 by decide); omega
 clear hrv hrc hR hsb
 obtain ⟨bb, hbb⟩ : ∃ b, bgnB t r p a = b := ⟨_, rfl⟩
 cases bb with
 | false =>
   have HBB := Lib.hid hbb
   clear hbb hd0 hd1 hD0 hD1
   have HT := Lib.hid h
   have HFC := Lib.hid (fun W (hW : Ext w W) => few50_calls v t W (h.ext hW) htop)
   obtain ⟨ta, tc, rfl, htc⟩ := h.sh
   obtain ⟨tn, htn⟩ : ∃ n, t.length = n := ⟨_, rfl⟩
   rw [htn] at HFC HT ⊢
   have HTN := Lib.hid htn
   have HX0 := Lib.hid (heap_alloc_new w (.cells #[.slice ta tn tc] 24))
   have HE1 := Lib.hid ((Ext.rf w).al (.cells #[.slice ta tn tc] 24))
   obtain ⟨fw, hfw⟩ : ∃ b, few50 t = b := ⟨_, rfl⟩
   rw [hfw] at HFC
   have HFW := Lib.hid hfw
   clear h htop hfw htc htn
   go_enter Tryz.func8, Tryz.ntmps8
   go_wp2_with fail
   refine (awake50_calls _).mono ?_
   rintro e w2 ⟨rfl, hX2⟩
   have HE2 := Lib.hid (HE1.out.trans' hX2)
   have HY2 := Lib.hid (hX2.hp HX0.out)
   have t2 := cellOf HY2.out 0
   simp only [List.getElem?_toArray, List.getElem?_cons_zero] at t2
   clear hX2
   go_wp2_with fail
   refine (HFC.out _ HE2.out).mono ?_
   rintro e w3 ⟨rfl, hX3⟩
   have HE3 := Lib.hid (HE2.out.trans' hX3)
   have HY3 := Lib.hid (hX3.hp HY2.out)
   have t3 := cellOf HY3.out 0
   simp only [List.getElem?_toArray, List.getElem?_cons_zero] at t3
   clear hX3 t2
   cases fw with
   | false =>
     go_wp2_with fail
     refine (awake50_calls _).mono ?_
     rintro e w4 ⟨rfl, hX4⟩
     go_wp2
     go_ret
     exact ⟨rfl, HE3.out.trans' hX4⟩
   | true =>
   have HLO := Lib.hid (few50_loose HFW.out).1
   go_wp2_with fail
   refine (HSHT.out _ HE3.out).mono ?_
   rintro e w4 ⟨rfl, hX4⟩
   have HE4 := Lib.hid (HE3.out.trans' hX4)
   have HY4 := Lib.hid (hX4.hp HY3.out)
   have t4 := cellOf HY4.out 0
   simp only [List.getElem?_toArray, List.getElem?_cons_zero] at t4
   have HXX4 := Lib.hid hX4
   clear hX4 t3
   cases sb with
   | false =>
     go_wp2_with fail
     refine (awake50_calls _).mono ?_
     rintro e w99 ⟨rfl, hX99⟩
     go_wp2
     go_ret
     exact ⟨rfl, HE4.out.trans' hX99⟩
   | true =>
   have HSO := Lib.hid (shortB_ok HSB.out)
   have HBC := Lib.hid (fun W (hW : Ext w W) => begins_calls _ _ t r p a W (HT.out.ext hW) HLO.out (Sl.ext rints_lasts HRV.out hW) (by have := HSO.out.1; omega) (fun i hi => by have := HSO.out.2 i hi; omega))
   rw [HBB.out] at HBC
   go_wp2_with fail
   refine (HBC.out _ HE4.out).mono ?_
   rintro e w5 ⟨rfl, hX5⟩
   have HE5 := Lib.hid (HE4.out.trans' hX5)
   have HY5 := Lib.hid (hX5.hp HY4.out)
   have t5 := cellOf HY5.out 0
   simp only [List.getElem?_toArray, List.getElem?_cons_zero] at t5
   have HXX5 := Lib.hid hX5
   clear hX5 t4
   go_wp2_with fail
   refine (awake50_calls _).mono ?_
   rintro e w99 ⟨rfl, hX99⟩
   go_wp2
   go_ret
   exact ⟨rfl, HE5.out.trans' hX99⟩
 | true =>
   obtain ⟨hv, hf, hrun, hp0, hp1, ha0, ha1⟩ := bgnB_iff.1 hbb
   obtain ⟨P, rfl⟩ : ∃ P : Nat, p = (P : Int) := ⟨p.toNat, by omega⟩
   obtain ⟨A, rfl⟩ : ∃ A : Nat, a = (A : Int) := ⟨a.toNat, by omega⟩
   have HBB := Lib.hid hbb
   have hcl := cl_zero hv hf hrun hp0 hp1 ha0 ha1 hD0 hD1
   rw [Int.toNat_natCast, Int.toNat_natCast] at hcl
   have HCZ := Lib.hid (fun (hrl : r.length ≤ 1000000) => chan_cut (d := ((wrap64 dl).tmod 1001)) hv hf hrun hrl (show P < t.length by omega) (show A < r.length by omega))
   have HCL := Lib.hid hcl
   have HVT := Lib.hid hv
   have HRN := Lib.hid hrun
   have HDL := Lib.hid (And.intro hd0 hd1)
   have hP : P < t.length := by omega
   have hA : A < r.length := by omega
   have HPN := Lib.hid hP
   have HAN := Lib.hid hA
   clear hbb hv hf hrun hcl hp0 hp1 ha0 ha1 hD0 hD1 hd0 hd1 hP hA
   have HT := Lib.hid h
   have HFC := Lib.hid (fun W (hW : Ext w W) => few50_calls v t W (h.ext hW) htop)
   obtain ⟨ta, tc, rfl, htc⟩ := h.sh
   obtain ⟨tn, htn⟩ : ∃ n, t.length = n := ⟨_, rfl⟩
   rw [htn] at HFC HT ⊢
   have HTN := Lib.hid htn
   have HX0 := Lib.hid (heap_alloc_new w (.cells #[.slice ta tn tc] 24))
   have HE1 := Lib.hid ((Ext.rf w).al (.cells #[.slice ta tn tc] 24))
   obtain ⟨fw, hfw⟩ : ∃ b, few50 t = b := ⟨_, rfl⟩
   rw [hfw] at HFC
   have HFW := Lib.hid hfw
   clear h htop hfw htc htn
   go_enter Tryz.func8, Tryz.ntmps8
   go_wp2_with fail
   refine (awake50_calls _).mono ?_
   rintro e w2 ⟨rfl, hX2⟩
   have HE2 := Lib.hid (HE1.out.trans' hX2)
   have HY2 := Lib.hid (hX2.hp HX0.out)
   have t2 := cellOf HY2.out 0
   simp only [List.getElem?_toArray, List.getElem?_cons_zero] at t2
   clear hX2
   go_wp2_with fail
   refine (HFC.out _ HE2.out).mono ?_
   rintro e w3 ⟨rfl, hX3⟩
   have HE3 := Lib.hid (HE2.out.trans' hX3)
   have HY3 := Lib.hid (hX3.hp HY2.out)
   have t3 := cellOf HY3.out 0
   simp only [List.getElem?_toArray, List.getElem?_cons_zero] at t3
   clear hX3 t2
   cases fw with
   | false =>
     go_wp2_with fail
     refine (awake50_calls _).mono ?_
     rintro e w4 ⟨rfl, hX4⟩
     go_wp2
     go_ret
     exact ⟨rfl, HE3.out.trans' hX4⟩
   | true =>
   have HLO := Lib.hid (few50_loose HFW.out).1
   go_wp2_with fail
   refine (HSHT.out _ HE3.out).mono ?_
   rintro e w4 ⟨rfl, hX4⟩
   have HE4 := Lib.hid (HE3.out.trans' hX4)
   have HY4 := Lib.hid (hX4.hp HY3.out)
   have t4 := cellOf HY4.out 0
   simp only [List.getElem?_toArray, List.getElem?_cons_zero] at t4
   have HXX4 := Lib.hid hX4
   clear hX4 t3
   cases sb with
   | false =>
     go_wp2_with fail
     refine (awake50_calls _).mono ?_
     rintro e w99 ⟨rfl, hX99⟩
     go_wp2
     go_ret
     exact ⟨rfl, HE4.out.trans' hX99⟩
   | true =>
   have HSO := Lib.hid (shortB_ok HSB.out)
   have HBC := Lib.hid (fun W (hW : Ext w W) => begins_calls _ _ t r P A W (HT.out.ext hW) HLO.out (Sl.ext rints_lasts HRV.out hW) (by have := HSO.out.1; omega) (fun i hi => by have := HSO.out.2 i hi; omega))
   rw [HBB.out] at HBC
   go_wp2_with fail
   refine (HBC.out _ HE4.out).mono ?_
   rintro e w5 ⟨rfl, hX5⟩
   have HE5 := Lib.hid (HE4.out.trans' hX5)
   have HY5 := Lib.hid (hX5.hp HY4.out)
   have t5 := cellOf HY5.out 0
   simp only [List.getElem?_toArray, List.getElem?_cons_zero] at t5
   have HXX5 := Lib.hid hX5
   clear hX5 t4
   obtain ⟨C, hC0, hC1, hC2, hC3, hC4⟩ := HCZ.out (by have := HSO.out.1; omega)
   have HCN := Lib.hid hC0
   have HCP := Lib.hid hC2
   have HCE := Lib.hid hC3
   have HCH := Lib.hid (chandy_calls _ _ t r (P : Int) (A : Int) (((wrap64 dl).tmod 1001)) w5 (HT.out.ext HE5.out) HLO.out (Sl.ext rints_lasts HRV.out HE5.out) (by have := (valid_8 HVT.out).2; omega) (by have := HSO.out.1; omega) (fun i hi => by have := HSO.out.2 i hi; omega))
   rw [HCL.out.1, HCL.out.2, hC1] at HCH
   clear hC0 hC1 hC2 hC3 hC4 HCZ
   go_wp2_with fail
   refine HCH.out.mono ?_
   rintro e w6 ⟨v6, rfl, hX6, hS6⟩
   obtain ⟨ma, mc, rfl, hz6⟩ := hS6.sh
   have HS6 := Lib.hid hS6
   have h81 := (valid_8 HVT.out)
   rw [HTN.out] at h81
   have HML : Hid ((cutM t C).length = tn) := Lib.hid (by rw [cutM_len, HTN.out])
   rw [HML.out]
   rw [HML.out] at HS6
   clear hS6 hz6
   have HE6 := Lib.hid (HE5.out.trans' hX6)
   have HY6 := Lib.hid (hX6.hp HY5.out)
   have t6 := cellOf HY6.out 0
   simp only [List.getElem?_toArray, List.getElem?_cons_zero] at t6
   have HXX6 := Lib.hid hX6
   clear hX6 t5
   have HLI := Lib.hid (cutM_lightE HVT.out HCN.out.1)
   have HPZ : Hid (P < tn) := Lib.hid (by have := HPN.out; rw [HTN.out] at this; exact this)
   have HAZ : Hid (A < R) := Lib.hid (by have := HAN.out; rw [HRL.out] at this; exact this)
   have HA1 : Hid ((0 : Int) ≤ (A : Int) ∧ (A : Int) < (r.length : Int)) := Lib.hid (by have := HAN.out; omega)
   have HSV := Lib.hid (fun W (hW : Ext w6 W) => snapValid_calls _ (cutM t C) W (Sl.ext rmk_lasts HS6.out hW) HLI.out)
   rw [cutM_valid HVT.out HCN.out.1] at HSV
   go_wp2_with fail
   refine (HSV.out w6 (Ext.rf _)).mono ?_
   rintro e w7 ⟨rfl, hX7⟩
   have HE7 := Lib.hid (HE6.out.trans' hX7)
   have HY7 := Lib.hid (hX7.hp HY6.out)
   have t7 := cellOf HY7.out 0
   simp only [List.getElem?_toArray, List.getElem?_cons_zero] at t7
   have HXX7 := Lib.hid hX7
   clear hX7 t6
   have HCK := Lib.hid (fun W (hW : Ext w6 W) => snapCheck_calls _ _ t (cutM t C) W (HT.out.ext (HE6.out.trans' hW)) HLO.out (Sl.ext rmk_lasts HS6.out hW) HLI.out)
   rw [cutM_check HVT.out HCN.out] at HCK
   go_wp2_with fail
   refine (HCK.out w7 HXX7.out).mono ?_
   rintro e w8 ⟨rfl, hX8⟩
   have HE8 := Lib.hid (HE7.out.trans' hX8)
   have HY8 := Lib.hid (hX8.hp HY7.out)
   have t8 := cellOf HY8.out 0
   simp only [List.getElem?_toArray, List.getElem?_cons_zero] at t8
   have HXX8 := Lib.hid hX8
   clear hX8 t7
   have HCU := Lib.hid (fun W (hW : Ext w6 W) => snapCut_calls _ (cutM t C) W (Sl.ext rmk_lasts HS6.out hW) HLI.out)
   rw [cutE_zeroE (cutM_valid HVT.out HCN.out.1) (cutM_rec HCN.out.1), if_pos rfl, cutM_cnts HCN.out.1.1] at HCU
   have HCLN : Hid (C.length = tn) := Lib.hid (HCN.out.1.1.trans HTN.out)
   go_wp2_with fail
   refine (HCU.out w8 (HXX7.out.trans' HXX8.out)).mono ?_
   rintro e w9 ⟨v9, rfl, hR9, hX9⟩
   rw [HCLN.out] at hR9
   obtain ⟨ca, cc, rfl, hz9⟩ := hR9.any
   have HI9 : Hid (Ints w9 (.slice ca tn cc) C) := Lib.hid (by
    have h := hR9
    rw [← HCLN.out] at h ⊢
    exact h.ints)
   clear hR9 hz9
   have HE9 := Lib.hid (HE8.out.trans' hX9)
   have HY9 := Lib.hid (hX9.hp HY8.out)
   have t9 := cellOf HY9.out 0
   simp only [List.getElem?_toArray, List.getElem?_cons_zero] at t9
   have HXX9 := Lib.hid hX9
   clear hX9 t8
   have HLN := Lib.hid (snapLine_calls _ _ _ t r (A : Int) (cutM t C) w9 (HT.out.ext HE9.out) HLO.out (Sl.ext rints_lasts HRV.out HE9.out) (by have := (valid_8 HVT.out).2; omega) (by have := HSO.out.1; omega) (fun i hi => by have := HSO.out.2 i hi; omega) (Sl.ext rmk_lasts HS6.out (HXX7.out.trans' (HXX8.out.trans' HXX9.out))) HLI.out)
   rw [cutM_lineE HVT.out HRN.out HA1.out.1 HA1.out.2 HCN.out, cutM_lineB HVT.out HRN.out HA1.out.1 HA1.out.2 HCN.out (by rw [Int.toNat_natCast]; exact HCE.out)] at HLN
   go_wp2_with fail
   refine (HLN.out).mono ?_
   rintro e w10 ⟨rfl, hX10⟩
   have HE10 := Lib.hid (HE9.out.trans' hX10)
   have HY10 := Lib.hid (hX10.hp HY9.out)
   have t10 := cellOf HY10.out 0
   simp only [List.getElem?_toArray, List.getElem?_cons_zero] at t10
   have HXX10 := Lib.hid hX10
   clear hX10 t9
   have HI10 := Lib.hid (HI9.out.ext HXX10.out)
   obtain ⟨cB, cO, cC, hce, hcC, hcB, hcP⟩ := Ints.at1 HI10.out P (by rw [HCLN.out]; exact HPZ.out)
   simp only [Value.slice.injEq] at hce
   obtain ⟨rfl, hq1, rfl⟩ := hce
   obtain ⟨rB, rO, rC, xa, xc, hre, _, _, hrc, hrI⟩ := rowAt HRV.out A HAN.out
   simp only [Value.slice.injEq] at hre
   obtain ⟨rfl, hq2, rfl⟩ := hre
   have HRLN : Hid (r[A]!.length = tn) := Lib.hid ((run_rangeC HRN.out HAN.out).1.trans HTN.out)
   obtain ⟨uB, uO, uC, hue, huC, huB, huP⟩ := Ints.at1 hrI P (by rw [HRLN.out]; exact HPZ.out)
   simp only [Value.slice.injEq] at hue
   obtain ⟨rfl, hq3, rfl⟩ := hue
   rw [HCP.out] at hcP
   have hra : r[A]![P]! = rAt r A P := rfl
   rw [hra] at huP
   rw [HRLN.out] at hrc hrI
   have HRI := Lib.hid hrI
   have r0 := HE10.out.cl hrc
   have u0 := HE10.out.cl huP
   have c0 := hcP
   generalize rAt r A P = z at *
   have HCO := Lib.hid (fun W (hW : Ext w10 W) => consistentP_calls _ _ t C W (HT.out.ext (HE10.out.trans' hW)) HLO.out (HI10.out.ext hW))
   rw [consB_iff.2 ⟨HVT.out, HCN.out⟩] at HCO
   have HLE := Lib.hid (fun W (hW : Ext w10 W) => leqP_calls _ _ r[A]! C W (HRI.out.ext (HE10.out.trans' hW)) (HI10.out.ext hW) (by rw [HRLN.out]; omega) (by rw [HCLN.out]; omega))
   rw [leCB_iff.2 ⟨by rw [HRLN.out, HCLN.out], HCE.out⟩] at HLE
   clear hcC hcB hcP hq1 hq2 hq3 hrc hrI huC huB huP hra
   have b1 : (P : Int) < (tn : Int) := by have := HPZ.out; omega
   have b1n := HPZ.out
   have b2 : (A : Int) < (R : Int) := by have := HAZ.out; omega
   have b2n := HAZ.out
   have b3 : (0 : Int) ≤ (P : Int) := by omega
   have b4 : (0 : Int) ≤ (A : Int) := by omega
   go_upto_region 8 with (fail)
   refine wp_region_tail (fun W => W.cell? ⟨w.heap.size, 0, none⟩ = some (.slice ta tn tc) ∧ W.cell? ⟨cB, cO + P, none⟩ = some (.int .i64 z) ∧ W.cell? ⟨rB, rO + A, none⟩ = some (.slice (some ⟨uB, uO, none⟩) tn xc) ∧ W.cell? ⟨uB, uO + P, none⟩ = some (.int .i64 z)) 45 (by kernel_rfl) ⟨t10, c0, r0, u0⟩ (fun hHeld => ?_)
   refine wpAnyT_take (i := 0) (d := some 87) (v := ?_) rfl rfl (by kernel_rfl) (by kernel_rfl) (by kernel_rfl) (by kernel_rfl) (fun _ _ _ h => h) (Or.inl ⟨by kernel_rfl, ?_⟩) (by assumption) ?_
   rotate_left
   ·(intro w hSw; (try dsimp only at hSw); go_simp; try (with_reducible rfl))
   try simp only [Act.put]
   try simp only [List.setIfInBounds_toArray]
   try simp only [List.set_cons_zero, List.set_cons_succ]
   refine wpAnyT_take (i := 1) (d := some 88) (v := ?_) rfl rfl (by kernel_rfl) (by kernel_rfl) (by kernel_rfl) (by kernel_rfl) (fun _ _ _ h => h) (Or.inl ⟨by kernel_rfl, ?_⟩) (by assumption) ?_
   rotate_left
   ·(intro w hSw; (try dsimp only at hSw); go_simp; try (with_reducible rfl))
   try simp only [Act.put]
   try simp only [List.setIfInBounds_toArray]
   try simp only [List.set_cons_zero, List.set_cons_succ]
   refine wpAnyT_take (i := 2) (d := some 89) (v := ?_) rfl rfl (by kernel_rfl) (by kernel_rfl) (by kernel_rfl) (by kernel_rfl) (fun _ _ _ h => h) (Or.inl ⟨by kernel_rfl, ?_⟩) (by assumption) ?_
   rotate_left
   ·(intro w hSw; (try dsimp only at hSw); go_simp; try (with_reducible rfl))
   try simp only [Act.put]
   try simp only [List.setIfInBounds_toArray]
   try simp only [List.set_cons_zero, List.set_cons_succ]
   refine wpAnyT_take (i := 3) (d := some 90) (v := ?_) rfl rfl (by kernel_rfl) (by kernel_rfl) (by kernel_rfl) (by kernel_rfl) (fun _ _ _ h => h) (Or.inl ⟨by kernel_rfl, ?_⟩) (by assumption) ?_
   rotate_left
   ·(intro w hSw; (try dsimp only at hSw); go_simp; try (with_reducible rfl))
   try simp only [Act.put]
   try simp only [List.setIfInBounds_toArray]
   try simp only [List.set_cons_zero, List.set_cons_succ]
   refine wpAnyT_take (i := 4) (d := some 91) (v := ?_) rfl rfl (by kernel_rfl) (by kernel_rfl) (by kernel_rfl) (by kernel_rfl) (fun _ _ _ h => h) (Or.inl ⟨by kernel_rfl, ?_⟩) (by assumption) ?_
   rotate_left
   ·(intro w hSw; (try dsimp only at hSw); go_simp; try (with_reducible rfl))
   try simp only [Act.put]
   try simp only [List.setIfInBounds_toArray]
   try simp only [List.set_cons_zero, List.set_cons_succ]
   refine wpAnyT_take (i := 5) (d := some 92) (v := ?_) rfl rfl (by kernel_rfl) (by kernel_rfl) (by kernel_rfl) (by kernel_rfl) (fun _ _ _ h => h) (Or.inl ⟨by kernel_rfl, ?_⟩) (by assumption) ?_
   rotate_left
   ·(intro w hSw; (try dsimp only at hSw); go_simp; try (with_reducible rfl))
   try simp only [Act.put]
   try simp only [List.setIfInBounds_toArray]
   try simp only [List.set_cons_zero, List.set_cons_succ]
   refine wpAnyT_take (i := 6) (d := some 93) (v := ?_) rfl rfl (by kernel_rfl) (by kernel_rfl) (by kernel_rfl) (by kernel_rfl) (fun _ _ _ h => h) (Or.inl ⟨by kernel_rfl, ?_⟩) (by assumption) ?_
   rotate_left
   ·(intro w hSw; (try dsimp only at hSw); go_simp; try (with_reducible rfl))
   try simp only [Act.put]
   try simp only [List.setIfInBounds_toArray]
   try simp only [List.set_cons_zero, List.set_cons_succ]
   refine wpAnyT_take (i := 7) (d := some 94) (v := ?_) rfl rfl (by kernel_rfl) (by kernel_rfl) (by kernel_rfl) (by kernel_rfl) (fun _ _ _ h => h) (Or.inl ⟨by kernel_rfl, ?_⟩) (by assumption) ?_
   rotate_left
   ·(intro w hSw; (try dsimp only at hSw); go_simp; try (with_reducible rfl))
   try simp only [Act.put]
   try simp only [List.setIfInBounds_toArray]
   try simp only [List.set_cons_zero, List.set_cons_succ]
   refine wpAnyT_take (i := 8) (d := some 95) (v := ?_) rfl rfl (by kernel_rfl) (by kernel_rfl) (by kernel_rfl) (by kernel_rfl) (fun _ _ _ h => h) (Or.inl ⟨by kernel_rfl, ?_⟩) (by assumption) ?_
   rotate_left
   ·(intro w hSw; (try dsimp only at hSw); go_simp; try (with_reducible rfl))
   try simp only [Act.put]
   try simp only [List.setIfInBounds_toArray]
   try simp only [List.set_cons_zero, List.set_cons_succ]
   refine wpAnyT_take (i := 9) (d := some 96) (v := ?_) rfl rfl (by kernel_rfl) (by kernel_rfl) (by kernel_rfl) (by kernel_rfl) (fun _ _ _ h => h) (Or.inl ⟨by kernel_rfl, ?_⟩) (by assumption) ?_
   rotate_left
   ·(intro w hSw; (try dsimp only at hSw); go_simp; try (with_reducible rfl))
   try simp only [Act.put]
   try simp only [List.setIfInBounds_toArray]
   try simp only [List.set_cons_zero, List.set_cons_succ]
   refine wpAnyT_take (i := 10) (d := some 97) (v := ?_) rfl rfl (by kernel_rfl) (by kernel_rfl) (by kernel_rfl) (by kernel_rfl) (fun _ _ _ h => h) (Or.inl ⟨by kernel_rfl, ?_⟩) (by assumption) ?_
   rotate_left
   ·(intro w hSw; (try dsimp only at hSw); go_simp; try (with_reducible rfl))
   try simp only [Act.put]
   try simp only [List.setIfInBounds_toArray]
   try simp only [List.set_cons_zero, List.set_cons_succ]
   refine wpAnyT_take (i := 11) (d := some 98) (v := ?_) rfl rfl (by kernel_rfl) (by kernel_rfl) (by kernel_rfl) (by kernel_rfl) (fun _ _ _ h => h) (Or.inl ⟨by kernel_rfl, ?_⟩) (by assumption) ?_
   rotate_left
   ·(intro w hSw; (try dsimp only at hSw); go_simp; try (with_reducible rfl))
   try simp only [Act.put]
   try simp only [List.setIfInBounds_toArray]
   try simp only [List.set_cons_zero, List.set_cons_succ]
   refine wpAnyT_take (i := 12) (d := some 99) (v := ?_) rfl rfl (by kernel_rfl) (by kernel_rfl) (by kernel_rfl) (by kernel_rfl) (fun _ _ _ h => h) (Or.inl ⟨by kernel_rfl, ?_⟩) (by assumption) ?_
   rotate_left
   ·(intro w hSw; (try dsimp only at hSw); go_simp; try (with_reducible rfl))
   try simp only [Act.put]
   try simp only [List.setIfInBounds_toArray]
   try simp only [List.set_cons_zero, List.set_cons_succ]
   refine wpAnyT_take (i := 13) (d := some 100) (v := ?_) rfl rfl (by kernel_rfl) (by kernel_rfl) (by kernel_rfl) (by kernel_rfl) (fun _ _ _ h => h) (Or.inl ⟨by kernel_rfl, ?_⟩) (by assumption) ?_
   rotate_left
   ·(intro w hSw; (try dsimp only at hSw); go_simp; try (with_reducible rfl))
   try simp only [Act.put]
   try simp only [List.setIfInBounds_toArray]
   try simp only [List.set_cons_zero, List.set_cons_succ]
   refine wpAnyT_take (i := 14) (d := some 101) (v := ?_) rfl rfl (by kernel_rfl) (by kernel_rfl) (by kernel_rfl) (by kernel_rfl) (fun _ _ _ h => h) (Or.inl ⟨by kernel_rfl, ?_⟩) (by assumption) ?_
   rotate_left
   ·(intro w hSw; (try dsimp only at hSw); go_simp; try (with_reducible rfl))
   try simp only [Act.put]
   try simp only [List.setIfInBounds_toArray]
   try simp only [List.set_cons_zero, List.set_cons_succ]
   refine wpAnyT_take (i := 15) (d := some 102) (v := ?_) rfl rfl (by kernel_rfl) (by kernel_rfl) (by kernel_rfl) (by kernel_rfl) (fun _ _ _ h => h) (Or.inl ⟨by kernel_rfl, ?_⟩) (by assumption) ?_
   rotate_left
   ·(intro w hSw; (try dsimp only at hSw); go_simp; try (with_reducible rfl))
   try simp only [Act.put]
   try simp only [List.setIfInBounds_toArray]
   try simp only [List.set_cons_zero, List.set_cons_succ]
   refine wpAnyT_take (i := 16) (d := some 103) (v := ?_) rfl rfl (by kernel_rfl) (by kernel_rfl) (by kernel_rfl) (by kernel_rfl) (fun _ _ _ h => h) (Or.inl ⟨by kernel_rfl, ?_⟩) (by assumption) ?_
   rotate_left
   ·(intro w hSw; (try dsimp only at hSw); go_simp; try (with_reducible rfl))
   try simp only [Act.put]
   try simp only [List.setIfInBounds_toArray]
   try simp only [List.set_cons_zero, List.set_cons_succ]
   refine wpAnyT_take (i := 17) (d := some 104) (v := ?_) rfl rfl (by kernel_rfl) (by kernel_rfl) (by kernel_rfl) (by kernel_rfl) (fun _ _ _ h => h) (Or.inl ⟨by kernel_rfl, ?_⟩) (by assumption) ?_
   rotate_left
   ·(intro w hSw; (try dsimp only at hSw); go_simp; try (with_reducible rfl))
   try simp only [Act.put]
   try simp only [List.setIfInBounds_toArray]
   try simp only [List.set_cons_zero, List.set_cons_succ]
   refine wpAnyT_take (i := 18) (d := some 105) (v := ?_) rfl rfl (by kernel_rfl) (by kernel_rfl) (by kernel_rfl) (by kernel_rfl) (fun _ _ _ h => h) (Or.inl ⟨by kernel_rfl, ?_⟩) (by assumption) ?_
   rotate_left
   ·(intro w hSw; (try dsimp only at hSw); go_simp; try (with_reducible rfl))
   try simp only [Act.put]
   try simp only [List.setIfInBounds_toArray]
   try simp only [List.set_cons_zero, List.set_cons_succ]
   refine wpAnyT_take (i := 19) (d := some 106) (v := ?_) rfl rfl (by kernel_rfl) (by kernel_rfl) (by kernel_rfl) (by kernel_rfl) (fun _ _ _ h => h) (Or.inl ⟨by kernel_rfl, ?_⟩) (by assumption) ?_
   rotate_left
   ·(intro w hSw; (try dsimp only at hSw); go_simp; try (with_reducible rfl))
   try simp only [Act.put]
   try simp only [List.setIfInBounds_toArray]
   try simp only [List.set_cons_zero, List.set_cons_succ]
   refine wpAnyT_take (i := 20) (d := some 107) (v := ?_) rfl rfl (by kernel_rfl) (by kernel_rfl) (by kernel_rfl) (by kernel_rfl) (fun _ _ _ h => h) (Or.inl ⟨by kernel_rfl, ?_⟩) (by assumption) ?_
   rotate_left
   ·(intro w hSw; (try dsimp only at hSw); go_simp; try (with_reducible rfl))
   try simp only [Act.put]
   try simp only [List.setIfInBounds_toArray]
   try simp only [List.set_cons_zero, List.set_cons_succ]
   refine wpAnyT_take (i := 21) (d := some 108) (v := ?_) rfl rfl (by kernel_rfl) (by kernel_rfl) (by kernel_rfl) (by kernel_rfl) (fun _ _ _ h => h) (Or.inl ⟨by kernel_rfl, ?_⟩) (by assumption) ?_
   rotate_left
   ·(intro w hSw; (try dsimp only at hSw); go_simp; try (with_reducible rfl))
   try simp only [Act.put]
   try simp only [List.setIfInBounds_toArray]
   try simp only [List.set_cons_zero, List.set_cons_succ]
   refine wpAnyT_take (i := 22) (d := some 109) (v := ?_) rfl rfl (by kernel_rfl) (by kernel_rfl) (by kernel_rfl) (by kernel_rfl) (fun _ _ _ h => h) (Or.inl ⟨by kernel_rfl, ?_⟩) (by assumption) ?_
   rotate_left
   ·(intro w hSw; (try dsimp only at hSw); go_simp; try (with_reducible rfl))
   try simp only [Act.put]
   try simp only [List.setIfInBounds_toArray]
   try simp only [List.set_cons_zero, List.set_cons_succ]
   refine wpAnyT_take (i := 23) (d := some 110) (v := ?_) rfl rfl (by kernel_rfl) (by kernel_rfl) (by kernel_rfl) (by kernel_rfl) (fun _ _ _ h => h) (Or.inl ⟨by kernel_rfl, ?_⟩) (by assumption) ?_
   rotate_left
   ·(intro w hSw; (try dsimp only at hSw); go_simp; try (with_reducible rfl))
   try simp only [Act.put]
   try simp only [List.setIfInBounds_toArray]
   try simp only [List.set_cons_zero, List.set_cons_succ]
   refine wpAnyT_take (i := 24) (d := some 111) (v := ?_) rfl rfl (by kernel_rfl) (by kernel_rfl) (by kernel_rfl) (by kernel_rfl) (fun _ _ _ h => h) (Or.inl ⟨by kernel_rfl, ?_⟩) (by assumption) ?_
   rotate_left
   ·(intro w hSw; (try dsimp only at hSw); go_simp; try (with_reducible rfl))
   try simp only [Act.put]
   try simp only [List.setIfInBounds_toArray]
   try simp only [List.set_cons_zero, List.set_cons_succ]
   refine wpAnyT_take (i := 25) (d := some 112) (v := ?_) rfl rfl (by kernel_rfl) (by kernel_rfl) (by kernel_rfl) (by kernel_rfl) (fun _ _ _ h => h) (Or.inl ⟨by kernel_rfl, ?_⟩) (by assumption) ?_
   rotate_left
   ·(intro w hSw; (try dsimp only at hSw); go_simp; try (with_reducible rfl))
   try simp only [Act.put]
   try simp only [List.setIfInBounds_toArray]
   try simp only [List.set_cons_zero, List.set_cons_succ]
   refine wpAnyT_take (i := 26) (d := some 113) (v := ?_) rfl rfl (by kernel_rfl) (by kernel_rfl) (by kernel_rfl) (by kernel_rfl) (fun _ _ _ h => h) (Or.inl ⟨by kernel_rfl, ?_⟩) (by assumption) ?_
   rotate_left
   ·(intro w hSw; (try dsimp only at hSw); go_simp; try (with_reducible rfl))
   try simp only [Act.put]
   try simp only [List.setIfInBounds_toArray]
   try simp only [List.set_cons_zero, List.set_cons_succ]
   refine wpAnyT_take (i := 27) (d := some 114) (v := ?_) rfl rfl (by kernel_rfl) (by kernel_rfl) (by kernel_rfl) (by kernel_rfl) (fun _ _ _ h => h) (Or.inl ⟨by kernel_rfl, ?_⟩) (by assumption) ?_
   rotate_left
   ·(intro w hSw; (try dsimp only at hSw); go_simp; try (with_reducible rfl))
   try simp only [Act.put]
   try simp only [List.setIfInBounds_toArray]
   try simp only [List.set_cons_zero, List.set_cons_succ]
   refine wpAnyT_take (i := 28) (d := some 115) (v := ?_) rfl rfl (by kernel_rfl) (by kernel_rfl) (by kernel_rfl) (by kernel_rfl) (fun _ _ _ h => h) (Or.inl ⟨by kernel_rfl, ?_⟩) (by assumption) ?_
   rotate_left
   ·(intro w hSw; (try dsimp only at hSw); go_simp; try (with_reducible rfl))
   try simp only [Act.put]
   try simp only [List.setIfInBounds_toArray]
   try simp only [List.set_cons_zero, List.set_cons_succ]
   refine wpAnyT_take (i := 29) (d := some 116) (v := ?_) rfl rfl (by kernel_rfl) (by kernel_rfl) (by kernel_rfl) (by kernel_rfl) (fun _ _ _ h => h) (Or.inl ⟨by kernel_rfl, ?_⟩) (by assumption) ?_
   rotate_left
   ·(intro w hSw; (try dsimp only at hSw); go_simp; try (with_reducible rfl))
   try simp only [Act.put]
   try simp only [List.setIfInBounds_toArray]
   try simp only [List.set_cons_zero, List.set_cons_succ]
   refine wpAnyT_take (i := 30) (d := some 117) (v := ?_) rfl rfl (by kernel_rfl) (by kernel_rfl) (by kernel_rfl) (by kernel_rfl) (fun _ _ _ h => h) (Or.inl ⟨by kernel_rfl, ?_⟩) (by assumption) ?_
   rotate_left
   ·(intro w hSw; (try dsimp only at hSw); go_simp; try (with_reducible rfl))
   try simp only [Act.put]
   try simp only [List.setIfInBounds_toArray]
   try simp only [List.set_cons_zero, List.set_cons_succ]
   refine wpAnyT_take (i := 31) (d := some 118) (v := ?_) rfl rfl (by kernel_rfl) (by kernel_rfl) (by kernel_rfl) (by kernel_rfl) (fun _ _ _ h => h) (Or.inl ⟨by kernel_rfl, ?_⟩) (by assumption) ?_
   rotate_left
   ·(intro w hSw; (try dsimp only at hSw); go_simp; try (with_reducible rfl))
   try simp only [Act.put]
   try simp only [List.setIfInBounds_toArray]
   try simp only [List.set_cons_zero, List.set_cons_succ]
   refine wpAnyT_take (i := 32) (d := some 119) (v := ?_) rfl rfl (by kernel_rfl) (by kernel_rfl) (by kernel_rfl) (by kernel_rfl) (fun _ _ _ h => h) (Or.inl ⟨by kernel_rfl, ?_⟩) (by assumption) ?_
   rotate_left
   ·(intro w hSw; (try dsimp only at hSw); go_simp; try (with_reducible rfl))
   try simp only [Act.put]
   try simp only [List.setIfInBounds_toArray]
   try simp only [List.set_cons_zero, List.set_cons_succ]
   refine wpAnyT_take (i := 33) (d := some 120) (v := ?_) rfl rfl (by kernel_rfl) (by kernel_rfl) (by kernel_rfl) (by kernel_rfl) (fun _ _ _ h => h) (Or.inl ⟨by kernel_rfl, ?_⟩) (by assumption) ?_
   rotate_left
   ·(intro w hSw; (try dsimp only at hSw); go_simp; try (with_reducible rfl))
   try simp only [Act.put]
   try simp only [List.setIfInBounds_toArray]
   try simp only [List.set_cons_zero, List.set_cons_succ]
   refine wpAnyT_step (i := 34) (o := ⟨some 121, _, _, _, _, _⟩) (by kernel_rfl) rfl (fun K hK => ?_)
   refine step_callW (by kernel_rfl) 35 _ _ rfl enters_35 [.agg #[.slice ta tn tc], .slice (some ⟨cB, cO, none⟩) tn cc] (by first | rfl | kernel_rfl | go_simp) (HCO.out _ ((Ext.rf w10).dr)) ?_
   rintro e y1 ⟨rfl, hX⟩
   refine ⟨_, rfl, ?_⟩
   have HY1 := Lib.hid ((Ext.rf w10).dr.trans' hX)
   clear hX
   refine hK.out _ _ ?_ (fun hHeld => ?_)
   ·(try dsimp only)
    exact ⟨HY1.out.cl t10, HY1.out.cl c0, HY1.out.cl r0, HY1.out.cl u0⟩
   clear hK K
   try simp only [Act.put]
   try simp only [List.setIfInBounds_toArray]
   try simp only [List.set_cons_zero, List.set_cons_succ]
   refine wpAnyT_take (i := 35) (d := some 122) (v := ?_) rfl rfl (by kernel_rfl) (by kernel_rfl) (by kernel_rfl) (by kernel_rfl) (fun _ _ _ h => h) (Or.inl ⟨by kernel_rfl, ?_⟩) (by assumption) ?_
   rotate_left
   ·(intro w hSw; (try dsimp only at hSw); go_simp; try (with_reducible rfl))
   try simp only [Act.put]
   try simp only [List.setIfInBounds_toArray]
   try simp only [List.set_cons_zero, List.set_cons_succ]
   refine wpAnyT_take (i := 36) (d := some 123) (v := ?_) rfl rfl (by kernel_rfl) (by kernel_rfl) (by kernel_rfl) (by kernel_rfl) (fun _ _ _ h => h) (Or.inl ⟨by kernel_rfl, ?_⟩) (by assumption) ?_
   rotate_left
   ·(intro w hSw; (try dsimp only at hSw); go_simp; try (with_reducible rfl))
   try simp only [Act.put]
   try simp only [List.setIfInBounds_toArray]
   try simp only [List.set_cons_zero, List.set_cons_succ]
   refine wpAnyT_take (i := 37) (d := some 124) (v := ?_) rfl rfl (by kernel_rfl) (by kernel_rfl) (by kernel_rfl) (by kernel_rfl) (fun _ _ _ h => h) (Or.inl ⟨by kernel_rfl, ?_⟩) (by assumption) ?_
   rotate_left
   ·(intro w hSw; (try dsimp only at hSw); go_simp; try (with_reducible rfl))
   try simp only [Act.put]
   try simp only [List.setIfInBounds_toArray]
   try simp only [List.set_cons_zero, List.set_cons_succ]
   refine wpAnyT_take (i := 38) (d := some 125) (v := ?_) rfl rfl (by kernel_rfl) (by kernel_rfl) (by kernel_rfl) (by kernel_rfl) (fun _ _ _ h => h) (Or.inl ⟨by kernel_rfl, ?_⟩) (by assumption) ?_
   rotate_left
   ·(intro w hSw; (try dsimp only at hSw); go_simp; try (with_reducible rfl))
   try simp only [Act.put]
   try simp only [List.setIfInBounds_toArray]
   try simp only [List.set_cons_zero, List.set_cons_succ]
   refine wpAnyT_take (i := 39) (d := some 126) (v := ?_) rfl rfl (by kernel_rfl) (by kernel_rfl) (by kernel_rfl) (by kernel_rfl) (fun _ _ _ h => h) (Or.inl ⟨by kernel_rfl, ?_⟩) (by assumption) ?_
   rotate_left
   ·(intro w hSw; (try dsimp only at hSw); go_simp; try (with_reducible rfl))
   try simp only [Act.put]
   try simp only [List.setIfInBounds_toArray]
   try simp only [List.set_cons_zero, List.set_cons_succ]
   refine wpAnyT_take (i := 40) (d := some 127) (v := ?_) rfl rfl (by kernel_rfl) (by kernel_rfl) (by kernel_rfl) (by kernel_rfl) (fun _ _ _ h => h) (Or.inl ⟨by kernel_rfl, ?_⟩) (by assumption) ?_
   rotate_left
   ·(intro w hSw; (try dsimp only at hSw); go_simp; try (with_reducible rfl))
   try simp only [Act.put]
   try simp only [List.setIfInBounds_toArray]
   try simp only [List.set_cons_zero, List.set_cons_succ]
   refine wpAnyT_take (i := 41) (d := some 128) (v := ?_) rfl rfl (by kernel_rfl) (by kernel_rfl) (by kernel_rfl) (by kernel_rfl) (fun _ _ _ h => h) (Or.inl ⟨by kernel_rfl, ?_⟩) (by assumption) ?_
   rotate_left
   ·(intro w hSw; (try dsimp only at hSw); go_simp; try (with_reducible rfl))
   try simp only [Act.put]
   try simp only [List.setIfInBounds_toArray]
   try simp only [List.set_cons_zero, List.set_cons_succ]
   refine wpAnyT_take (i := 42) (d := some 129) (v := ?_) rfl rfl (by kernel_rfl) (by kernel_rfl) (by kernel_rfl) (by kernel_rfl) (fun _ _ _ h => h) (Or.inl ⟨by kernel_rfl, ?_⟩) (by assumption) ?_
   rotate_left
   ·(intro w hSw; (try dsimp only at hSw); go_simp; try (with_reducible rfl))
   try simp only [Act.put]
   try simp only [List.setIfInBounds_toArray]
   try simp only [List.set_cons_zero, List.set_cons_succ]
   refine wpAnyT_step (i := 43) (o := ⟨some 130, _, _, _, _, _⟩) (by kernel_rfl) rfl (fun K hK => ?_)
   refine step_callW (by kernel_rfl) 23 _ _ rfl enters_23 [.slice (some ⟨uB, uO, none⟩) tn xc, .slice (some ⟨cB, cO, none⟩) tn cc] (by first | rfl | kernel_rfl | go_simp) (HLE.out _ HY1.out) ?_
   rintro e y2 ⟨rfl, hX⟩
   refine ⟨_, rfl, ?_⟩
   have HY2 := Lib.hid (HY1.out.trans' hX)
   clear hX
   refine hK.out _ _ ?_ (fun hHeld => ?_)
   ·(try dsimp only)
    exact ⟨HY2.out.cl t10, HY2.out.cl c0, HY2.out.cl r0, HY2.out.cl u0⟩
   clear hK K
   try simp only [Act.put]
   try simp only [List.setIfInBounds_toArray]
   try simp only [List.set_cons_zero, List.set_cons_succ]
   refine wpAnyT_take (i := 44) (d := some 131) (v := ?_) rfl rfl (by kernel_rfl) (by kernel_rfl) (by kernel_rfl) (by kernel_rfl) (fun _ _ _ h => h) (Or.inl ⟨by kernel_rfl, ?_⟩) (by assumption) ?_
   rotate_left
   ·(intro w hSw; (try dsimp only at hSw); go_simp; try (with_reducible rfl))
   try simp only [Act.put]
   try simp only [List.setIfInBounds_toArray]
   try simp only [List.set_cons_zero, List.set_cons_succ]
   refine wpAnyT_last (by kernel_rfl) rfl (by kernel_rfl) (fun K hK => ?_)
   go_simp
   refine hK.out _ _ ?_
   have HEL := Lib.hid (HE10.out.trans' HY2.out)
   have HTL := Lib.hid (HY2.out.cl t10)
   have HIL := Lib.hid (HI10.out.ext HY2.out)
   have HSL := Lib.hid (Sl.ext rmk_lasts HS6.out (HXX7.out.trans' (HXX8.out.trans' (HXX9.out.trans' (HXX10.out.trans' HY2.out)))))
   clear t10 c0 r0 u0 b1 b1n b2 b2n b3 b4 hHeld
   have HU : Hid (∀ W, Ext y2 W → ∀ f q : Nat, f < tn → q < tn → Calls Tryz.prog 24 #[.agg #[.slice ta tn tc], .slice (some ⟨cB, cO, none⟩) tn cc, .int .i64 f, .int .i64 q] W fun e w' => IntsRes W w' e 0 (underC t C f (q : Int))) := Lib.hid (fun W hW f q hf hq => by
    have h := underWayP_calls (.slice ta tn tc) (.slice (some ⟨cB, cO, none⟩) tn cc) t C (f : Int) (q : Int) W (HT.out.ext (HEL.out.trans' hW)) HLO.out (HIL.out.ext hW)
    rw [given_pq HVT.out HCN.out (by rw [HTN.out]; omega) (by rw [HTN.out]; omega), if_pos rfl, Int.toNat_natCast] at h
    exact h)
   have HUL : Hid (∀ f q : Nat, f < tn → (underC t C f (q : Int)).length ≤ 64) := Lib.hid (fun f q hf => under_len64 HVT.out HCN.out.1 (by rw [HTN.out]; exact hf) _)
   go_wp2
   go_loopg [17, 18, 19, 20, 135] tn (fun g s17 s18 s19 s20 s135 wr => ∃ q : Nat, q ≤ tn ∧ tn - q ≤ g ∧ s135 = .int .i64 q ∧ Aside (Ext y2 wr))
   case atStart => exact ⟨0, Nat.zero_le _, by omega, rfl, (show Ext _ _ from Ext.rf _)⟩
   case round =>
    obtain ⟨q, hq, hgq, rfl, HE⟩ := hrel
    by_cases hqn : q < tn
    case neg =>
     have hqz : ¬ (q : Int) < (tn : Int) := by omega
     go_wp2
     go_ret
     exact ⟨rfl, HEL.out.trans' HE.out⟩
    case pos =>
     have hqz : (q : Int) < (tn : Int) := by omega
     have hqz0 : (0 : Int) ≤ (q : Int) := by omega
     have HQL := Lib.hid (show q < (cutM t C).length by rw [HML.out]; exact hqn)
     obtain ⟨B, O, Cm, ua, uc, y, hve, hlC, hBw, p0, p1, p2, hb, hs⟩ := mark_at HSL.out q HQL.out
     simp only [Value.slice.injEq] at hve
     obtain ⟨rfl, hz1, rfl⟩ := hve
     rw [cutM_at (by rw [HTN.out]; exact hqn)] at p0 p1 hb hs
     simp only at p0 p1 hb hs
     obtain ⟨ya, yc, rfl, _⟩ := hs.sh
     rw [List.length_map, List.length_range, HTN.out] at p2 hs
     have HP2 := Lib.hid p2
     have HCH := Lib.hid hs
     obtain ⟨wo, rfl⟩ : ∃ x, x = wr := ⟨_, rfl⟩
     clear p0 p1 p2 hz1 hb hs
     go_wp2
     go_loopg [18, 19, 20, 140] tn (fun g s18 s19 s20 s140 wr => ∃ f : Nat, f ≤ tn ∧ tn - f ≤ g ∧ s140 = .int .i64 f ∧ Aside (Ext y2 wr))
     case atStart => exact ⟨0, Nat.zero_le _, by omega, rfl, (show Ext _ _ from HE.out)⟩
     case round =>
      clear HE
      obtain ⟨f, hf, hgf, rfl, HE⟩ := hrel
      by_cases hfn : f < tn
      case neg =>
       have hfz : ¬ (f : Int) < (tn : Int) := by omega
       go_wp2
       go_roundg (tn - (q + 1))
       case measure => omega
       case rel => exact ⟨q + 1, by omega, by omega, by go_num, (show Ext _ _ from HE.out)⟩
      case pos =>
       have hfz : (f : Int) < (tn : Int) := by omega
       have hfz0 : (0 : Int) ≤ (f : Int) := by omega
       have tW := HE.out.cl HTL.out
       obtain ⟨gB, gO, gC, ga, gc, hge, _, _, hgc, hgI⟩ := rowAt HCH.out f (by rw [List.length_map, List.length_range]; exact hfn)
       simp only [Value.slice.injEq, List.length_map, List.length_range] at hge
       obtain ⟨rfl, hz2, rfl⟩ := hge
       rw [mapR_at _ hfn] at hgc hgI
       have HGI := Lib.hid hgI
       have HGC := Lib.hid hgc
       have HUC := Lib.hid (HU.out wr HE.out f q hfn hqn)
       have hul := HUL.out f q hfn
       have HEQ := Lib.hid (fun W u v hu hv => eqTrec u v (underC t C f (q : Int)) W hu hv (by omega))
       generalize underC t C f (q : Int) = U at *
       clear hgc hgI hz2
       go_wp2_with fail
       refine HUC.out.mono ?_
       rintro e w11 ⟨v11, rfl, hR11, hX11⟩
       have HI11 := Lib.hid hR11.ints
       obtain ⟨da, dc, rfl, hzd⟩ := hR11.any
       have HE11 := Lib.hid (HE.out.trans' hX11)
       have q2 := HE11.out.cl HP2.out
       have gw := HE11.out.cl HGC.out
       generalize U.length = ul at *
       clear hR11 hzd hX11 tW
       go_wp2_with fail
       refine (HEQ.out w11 _ _ (HGI.out.ext HE11.out) HI11.out).mono ?_
       rintro e w12 ⟨rfl, hX12⟩
       go_wp2
       go_roundg (tn - (f + 1))
       case measure => omega
       case rel => exact ⟨f + 1, by omega, by omega, by go_num, (show Ext _ _ from HE11.out.trans' hX12)⟩
end Go.Proofs.YtfagfooggcinoaaGreat
