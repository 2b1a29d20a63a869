/-
  The statement SnapshotSpoilt, walked.
-/
import Derived.Test.YtfagfooggcinoaaGreatJa
import Derived.Test.YtfagfooggcinoaaGreatProg
import Derived.BigQuiet
import Derived.Deep.QuietTactic
import Derived.Deep.LoopGhost
import Derived.Shelf.Abstract
import Derived.Test.YtfagfooggcinoaaGreatGk
import Derived.Test.YtfagfooggcinoaaGreatGm
import Derived.Test.YtfagfooggcinoaaGreatGt
import Derived.Test.YtfagfooggcinoaaGreatGg
import Derived.Test.YtfagfooggcinoaaGreatGl
import Derived.RegionTactic
import Derived.BigRegion
namespace Go.Proofs.YtfagfooggcinoaaGreat
open Go.RowKit
set_option linter.unusedVariables false
theorem u8_wfS {n : Int} (h : (Lit.int .u8 n).wf = true) : 0 ≤ n ∧ n < 256 := by
 simp [Lit.wf, IntKind.min, IntKind.max, IntKind.signed, IntKind.bits] at h
 omega
theorem rem_in {q : Int} {n : Nat} (hq : 0 ≤ q ∧ q < 256) (hn : 1 ≤ n) : ∃ I : Nat, I < n ∧ (wrap64 q).tmod (n : Int) = (I : Int) := by
 rw [IntWalk.wrap64_in _ (by omega)]
 have h0 := Int.tmod_nonneg (n : Int) hq.1
 have h1 := Int.tmod_lt_of_pos q (show (0 : Int) < (n : Int) by omega)
 exact ⟨(q.tmod (n : Int)).toNat, by omega, by omega⟩
theorem putH_putH {l : List Mk} {i j : Nat} (hi : i < l.length) (x y : List Int) : putH (putH l i j x) i j y = putH l i j y := by
 have h := putH_at hi j x
 unfold putH at h ⊢
 rw [h, List.set_set]
 simp only [List.set_set]
theorem enters_28 : ∀ args w, (callFunc 28 args).run Tryz.prog w = .ok (.enter 28 args) w := enters_of Tryz.func28 (by kernel_rfl) rfl
set_option maxHeartbeats 8000000 in
set_option maxRecDepth 100000 in
theorem snapshotSpoilt_calls (v vr : Value) (t : Tr) (red : List Int) (q s kd : Int) (w : World) (h : TrAt w v t) (htop : TopTr t) (hr : Ints w vr red) (hq : 0 ≤ q ∧ q < 256) (hs : 0 ≤ s ∧ s < 256) (hkd : 0 ≤ kd ∧ kd < 256) :
  Calls Tryz.prog 5 #[.agg #[v], vr, .int .u8 q, .int .u8 s, .int .u8 kd] w fun e w' => e = .returned (.bool true) ∧ Ext w w' := by
 have HQ := Lib.hid hq
 have HS := Lib.hid hs
 have HKD := Lib.hid hkd
 clear hq hs hkd
 have HR := Lib.hid hr
 obtain ⟨ra, rc, rfl, hacr, _⟩ := hr
 obtain ⟨n, hnr⟩ : ∃ n, red.length = n := ⟨_, rfl⟩
 rw [hnr]
 rw [hnr] at HR
 have HNR := Lib.hid hnr
 clear hacr hnr
 have HT := Lib.hid h
 have HFC := Lib.hid (fun W (hW : Ext w W) => few50_calls v t W (h.ext hW) htop)
 obtain ⟨ta, tc, rfl, htc⟩ := h.sh
 obtain ⟨tn, htn⟩ : ∃ n, t.length = n := ⟨_, rfl⟩
 rw [htn] at HFC HT ⊢
 have HTN := Lib.hid htn
 have HX0 := Lib.hid (heap_alloc_new w (.cells #[.slice ta tn tc] 24))
 have HE1 := Lib.hid ((Ext.rf w).al (.cells #[.slice ta tn tc] 24))
 obtain ⟨fw, hfw⟩ : ∃ b, few50 t = b := ⟨_, rfl⟩
 rw [hfw] at HFC
 have HFW := Lib.hid hfw
 clear h htop hfw htc htn
 go_enter Tryz.func5, Tryz.ntmps5
 go_wp2_with fail
 refine (awake50_calls _).mono ?_
 rintro e w2 ⟨rfl, hX2⟩
 have HE2 := Lib.hid (HE1.out.trans' hX2)
 have HY2 := Lib.hid (hX2.hp HX0.out)
 have t2 := cellOf HY2.out 0
 simp only [List.getElem?_toArray, List.getElem?_cons_zero] at t2
 clear hX2
 go_wp2_with fail
 refine (HFC.out _ HE2.out).mono ?_
 rintro e w3 ⟨rfl, hX3⟩
 have HE3 := Lib.hid (HE2.out.trans' hX3)
 have HY3 := Lib.hid (hX3.hp HY2.out)
 have t3 := cellOf HY3.out 0
 simp only [List.getElem?_toArray, List.getElem?_cons_zero] at t3
 clear hX3 t2
 cases fw with
 | false =>
   go_wp2_with fail
   refine (awake50_calls _).mono ?_
   rintro e w4 ⟨rfl, hX4⟩
   go_wp2
   go_ret
   exact ⟨rfl, HE3.out.trans' hX4⟩
 | true =>
 have HLO := Lib.hid (few50_loose HFW.out).1
 have HVR := Lib.hid (fun W (hW : Ext w W) => validR_calls _ t W (HT.out.ext hW) HLO.out)
 obtain ⟨vb, hvb⟩ : ∃ b, validT t = b := ⟨_, rfl⟩
 rw [hvb] at HVR
 have HVT := Lib.hid hvb
 clear hvb
 go_wp2_with fail
 refine (HVR.out _ HE3.out).mono ?_
 rintro e w4 ⟨rfl, hX4⟩
 have HE4 := Lib.hid (HE3.out.trans' hX4)
 have HY4 := Lib.hid (hX4.hp HY3.out)
 have t4 := cellOf HY4.out 0
 simp only [List.getElem?_toArray, List.getElem?_cons_zero] at t4
 have HXX4 := Lib.hid hX4
 clear hX4 t3
 cases vb with
 | false =>
   go_wp2_with fail
   refine (awake50_calls _).mono ?_
   rintro e w99 ⟨rfl, hX99⟩
   go_wp2
   go_ret
   exact ⟨rfl, HE4.out.trans' hX99⟩
 | true =>
 have h8 : tn ≤ 8 := by have := (valid_8 HVT.out).2; rw [HTN.out] at this; exact this
 have h81 : 1 ≤ tn := by have := (valid_8 HVT.out).1; rw [HTN.out] at this; exact this
 by_cases hne : n = tn
 case neg =>
  have hq : ((n : Int) != (tn : Int)) = true := by rw [bne_iff_ne]; omega
  clear hne
  go_wp2_with fail
  refine (awake50_calls _).mono ?_
  rintro e w99 ⟨rfl, hX99⟩
  go_wp2
  go_ret
  exact ⟨rfl, HE4.out.trans' hX99⟩
 case pos =>
 subst hne
 have hq : ((n : Int) != (n : Int)) = false := by simp
 have HLT : Hid (red.length = t.length) := Lib.hid (by rw [HNR.out, HTN.out])
 have HTU := Lib.hid (fun W (hW : Ext w W) => turnsR_calls _ _ t red W (HT.out.ext hW) (HR.out.ext hW) HLT.out (by rw [HTN.out]; omega))
 obtain ⟨tb, htb⟩ : ∃ b, turnsB t red = b := ⟨_, rfl⟩
 rw [htb] at HTU
 have HTB := Lib.hid htb
 clear htb
 go_wp2_with fail
 refine (HTU.out _ HE4.out).mono ?_
 rintro e w5 ⟨rfl, hX5⟩
 have HE5 := Lib.hid (HE4.out.trans' hX5)
 have HY5 := Lib.hid (hX5.hp HY4.out)
 have t5 := cellOf HY5.out 0
 simp only [List.getElem?_toArray, List.getElem?_cons_zero] at t5
 have HXX5 := Lib.hid hX5
 clear hX5 t4
 cases tb with
 | false =>
   go_wp2_with fail
   refine (awake50_calls _).mono ?_
   rintro e w99 ⟨rfl, hX99⟩
   go_wp2
   go_ret
   exact ⟨rfl, HE5.out.trans' hX99⟩
 | true =>
 have HRG := Lib.hid (turns_range HLT.out HTB.out)
 have HCN := Lib.hid (open_cons HRG.out)
 have HLZ := Lib.hid (lay_zero HVT.out HLT.out HTB.out)
 have HRE0 : Hid (repE t (redC t red) = 0) := Lib.hid (by
  have h := HLZ.out.1
  unfold layE at h
  rw [if_neg (by rw [HVT.out]; simp), if_neg (fun hh => hh HLT.out)] at h
  exact h)
 have HLY := Lib.hid (laiO_calls _ _ t red w5 (HT.out.ext HE5.out) HLO.out (HR.out.ext HE5.out) (by rw [HNR.out]; omega) HVT.out HLT.out HRE0.out)
 have HLM := Lib.hid HLZ.out.2
 obtain ⟨C, hC⟩ : ∃ c, openC t (redC t red) = c := ⟨_, rfl⟩
 rw [hC] at HCN HLM
 clear hC HRE0
 go_wp2_with fail
 refine HLY.out.mono ?_
 rintro e w6 ⟨v6, vc, vh, vr, rfl, hX6, hO6⟩
 have HML : Hid ((cutM t C).length = n) := Lib.hid (by rw [cutM_len, HTN.out])
 rw [HLM.out, HTN.out] at hO6
 obtain ⟨g, o, cp, rfl, hg, hgw, hcp⟩ := hO6.shape (by rw [HML.out]; omega)
 rw [HML.out] at hO6 hcp ⊢
 have HO6 := Lib.hid hO6
 have HG6 := Lib.hid (And.intro hg hgw)
 clear hO6 hg hgw
 have HE6 := Lib.hid (HE5.out.trans' hX6)
 have HY6 := Lib.hid (hX6.hp HY5.out)
 have t6 := cellOf HY6.out 0
 simp only [List.getElem?_toArray, List.getElem?_cons_zero] at t6
 have HXX6 := Lib.hid hX6
 clear hX6 t5
 have HLI := Lib.hid (cutM_lightE HVT.out HCN.out.1)
 have HSV := Lib.hid (snapValid_calls _ (cutM t C) w6 (HO6.out.sl2 HML.out) HLI.out)
 rw [cutM_valid HVT.out HCN.out.1] at HSV
 go_wp2_with fail
 refine (HSV.out).mono ?_
 rintro e w7 ⟨rfl, hX7⟩
 have HE7 := Lib.hid (HE6.out.trans' hX7)
 have HY7 := Lib.hid (hX7.hp HY6.out)
 have t7 := cellOf HY7.out 0
 simp only [List.getElem?_toArray, List.getElem?_cons_zero] at t7
 have HXX7 := Lib.hid hX7
 clear hX7 t6
 obtain ⟨I, hI, hqi⟩ := rem_in HQ.out h81
 obtain ⟨J, hJ, hsj⟩ := rem_in HS.out h81
 have hn0 : (n : Int) ≠ 0 := by omega
 have hn1 : n ≠ 0 := by omega
 go_upto_region 7 with (fail)
 go_cut [14, 15] (fun s14 s15 wx => s14 = .int .i64 I ∧ s15 = .int .i64 J ∧ Aside (Ext w7 wx))
 case first =>
  go_region
  all_goals (go_wp2; go_meet)
  all_goals exact ⟨by first | rfl | (simp only [Value.int.injEq, true_and]; exact hqi), by first | rfl | (simp only [Value.int.injEq, true_and]; exact hsj), (show Ext _ _ from (Ext.rf w7).dr)⟩
 case rest =>
  obtain ⟨rfl, rfl, HXC⟩ := hcut
  obtain ⟨wb, rfl⟩ : ∃ x, x = wc := ⟨_, rfl⟩
  clear t7 hqi hsj
  have HOB := Lib.hid (HO6.out.ext (HXX7.out.trans' HXC.out))
  have HEB := Lib.hid (HE7.out.trans' HXC.out)
  have HEB5 := Lib.hid (HXX6.out.trans' (HXX7.out.trans' HXC.out))
  have HTB2 := Lib.hid ((HXX7.out.trans' HXC.out).hp HY6.out)
  have b1 : (I : Int) < (n : Int) := by omega
  have b2 : (0 : Int) ≤ (I : Int) := by omega
  have b3 : (J : Int) < (n : Int) := by omega
  have b4 : (0 : Int) ≤ (J : Int) := by omega
  go_upto_region 9 with (fail)
  have hz0 := Int.tmod_nonneg 4 HKD.out.1
  have hz4 := Int.tmod_lt_of_pos kd (show (0 : Int) < 4 by decide)
  obtain ⟨z, hz⟩ : ∃ z, kd.tmod 4 = z := ⟨_, rfl⟩
  rw [hz] at hz0 hz4
  have hzc : z = 0 ∨ z = 1 ∨ z = 2 ∨ z = 3 := by omega
  clear hz0 hz4
  have HIL := Lib.hid (show I < (cutM t C).length by rw [HML.out]; exact hI)
  have HIT := Lib.hid (show I < t.length by rw [HTN.out]; exact hI)
  have HJT := Lib.hid (show J < t.length by rw [HTN.out]; exact hJ)
  obtain ⟨U, hU⟩ : ∃ U, underC t C J (I : Int) = U := ⟨_, rfl⟩
  have HU := Lib.hid hU
  have HUL : Hid (U.length ≤ 64) := Lib.hid (by rw [← hU]; exact under_len64 HVT.out HCN.out.1 HJT.out _)
  have HUN : Hid (U.Nodup) := Lib.hid (by rw [← hU]; exact under_nodup HVT.out HCN.out.1 HJT.out)
  have HCHA := Lib.hid (HOB.out.cha I hI J hJ)
  rw [cutM_at HIT.out] at HCHA
  simp only at HCHA
  rw [mapR_at _ HJT.out, hU] at HCHA
  obtain ⟨m0, m1, m2, _⟩ := HOB.out.cellsAt (i := I) HIL.out
  obtain ⟨g2, o2, c2, hv, hgb2, hgw2, hnc2, k1, hf2⟩ := HOB.out.boolAt (i := I) (j := J) hI hJ
  obtain ⟨gh, oh, ch, hvh, hgb, hgw, hnc, e0, hf3⟩ := HOB.out.hdrAt (i := I) (j := J) hI hJ
  rw [hv] at m1
  rw [hvh] at m2
  have HV2 := Lib.hid hv
  have HVH := Lib.hid hvh
  have hfr2 := hf2 (o2 + J)
  have hfr3 := hf3 (oh + J)
  have HGH := Lib.hid hgb
  have HG2 := Lib.hid hgb2
  obtain ⟨ra2, rc2, hvr, hvrl⟩ := HCHA.out.any
  have HVR := Lib.hid hvr
  rw [hvr] at e0
  generalize ((cutM t C)[I]!.closed[J]!) = zb at *
  clear hU hv hvh m0 hf2 hf3 hgb2 hgw2 hnc2 hgb hgw hnc hvr hvrl
  rcases hzc with rfl | rfl | rfl | rfl
  ·have HXS := Lib.hid (HEB5.out.st (p := ⟨g2, o2 + J, none⟩) HG2.out (.bool false))
   have HOX := Lib.hid (HOB.out.setBb hI hJ HV2.out false)
   generalize hwS : wb.setCell ⟨g2, o2 + J, none⟩ (.bool false) = wS at *
   have HT9 := Lib.hid (HXS.out.hp HY5.out)
   have t9 := cellOf HT9.out 0
   simp only [List.getElem?_toArray, List.getElem?_cons_zero] at t9
   have HCK := Lib.hid (snapCheck_calls _ _ t (putB (cutM t C) I J false) wS (HT.out.ext (HE5.out.trans' HXS.out)) HLO.out (HOX.out.sl2 (by rw [putB_len]; exact HML.out)) (putB_light HLI.out I J false))
   rw [spoil_open HIL.out (by rw [HML.out]; exact hJ) (by rw [cutM_at HIT.out]; simp only [List.length_replicate]; rw [HML.out, HTN.out])] at HCK
   rw [← hwS] at t9 HCK HXS
   clear hwS
   go_wp2_with fail
   refine HCK.out.mono ?_
   rintro e w10 ⟨rfl, hX10⟩
   go_wp2
   go_ret
   exact ⟨rfl, HE5.out.trans' (HXS.out.trans' hX10)⟩
  ·have HCLN := Lib.hid (fun W (hW : Ext wb W) => clone_cints (vr I J) U.length (U.map (Value.int .i64)) W (HCHA.out.ext hW).cells (by simp [Value.oneCell']) (by have := HUL.out; omega))
   rw [HVR.out] at HCLN
   obtain ⟨ul, hul⟩ : ∃ x, U.length = x := ⟨_, rfl⟩
   have HULE := Lib.hid hul
   have hul64 := HUL.out
   rw [hul] at e0 HVR HCLN hul64
   obtain ⟨x, hx⟩ : ∃ x, (IntKind.i64.wrap kd).tmod 200 = x := ⟨_, rfl⟩
   have hx2 : (wrap64 kd).tmod 200 = x := by rw [← hx, IntWalk.wrap64_in kd (by have := HKD.out; omega), IntWalk.i64_in kd (by have := HKD.out; omega)]
   obtain ⟨ii, hii, iz0, iz1, iz2⟩ := info_parts info_int3
   clear hul
   go_upto_region 13 with (fail)
   refine wp_region_tail (fun W => W.cell? ⟨g, o + I * 3 + 2, none⟩ = some (.slice (some ⟨gh, oh, none⟩) n ch) ∧ W.cell? ⟨gh, oh + J, none⟩ = some (.slice ra2 ul rc2)) 19 (by kernel_rfl) ⟨m2, e0⟩ (fun hHeld => ?_)
   have HOD := Lib.hid (HOB.out.ext (Ext.rf wb).dr)
   have HED := Lib.hid (HEB5.out.trans' (Ext.rf wb).dr)
   have HWD := Lib.hid ((Ext.rf wb).dr)
   have M2 : Hid (wb.drew.cell? ⟨g, o + I * 3 + 2, none⟩ = some (.slice (some ⟨gh, oh, none⟩) n ch)) := Lib.hid m2
   have E0 : Hid (wb.drew.cell? ⟨gh, oh + J, none⟩ = some (.slice ra2 ul rc2)) := Lib.hid e0
   generalize wb.drew = wd at *
   refine wpAnyT_take (i := 0) (d := some 89) (v := ?_) rfl rfl (by kernel_rfl) (by kernel_rfl) (by kernel_rfl) (by kernel_rfl) (fun _ _ _ h => h) (Or.inl ⟨by kernel_rfl, ?_⟩) (by assumption) ?_
   rotate_left
   ·(intro w hSw; (try dsimp only at hSw); go_simp; try (with_reducible rfl))
   try simp only [Act.put]
   try simp only [List.setIfInBounds_toArray]
   try simp only [List.set_cons_zero, List.set_cons_succ]
   refine wpAnyT_take (i := 1) (d := some 90) (v := ?_) rfl rfl (by kernel_rfl) (by kernel_rfl) (by kernel_rfl) (by kernel_rfl) (fun _ _ _ h => h) (Or.inl ⟨by kernel_rfl, ?_⟩) (by assumption) ?_
   rotate_left
   ·(intro w hSw; (try dsimp only at hSw); go_simp; try (with_reducible rfl))
   try simp only [Act.put]
   try simp only [List.setIfInBounds_toArray]
   try simp only [List.set_cons_zero, List.set_cons_succ]
   refine wpAnyT_take (i := 2) (d := some 91) (v := ?_) rfl rfl (by kernel_rfl) (by kernel_rfl) (by kernel_rfl) (by kernel_rfl) (fun _ _ _ h => h) (Or.inl ⟨by kernel_rfl, ?_⟩) (by assumption) ?_
   rotate_left
   ·(intro w hSw; (try dsimp only at hSw); go_simp; try (with_reducible rfl))
   try simp only [Act.put]
   try simp only [List.setIfInBounds_toArray]
   try simp only [List.set_cons_zero, List.set_cons_succ]
   refine wpAnyT_take (i := 3) (d := some 92) (v := ?_) rfl rfl (by kernel_rfl) (by kernel_rfl) (by kernel_rfl) (by kernel_rfl) (fun _ _ _ h => h) (Or.inl ⟨by kernel_rfl, ?_⟩) (by assumption) ?_
   rotate_left
   ·(intro w hSw; (try dsimp only at hSw); go_simp; try (with_reducible rfl))
   try simp only [Act.put]
   try simp only [List.setIfInBounds_toArray]
   try simp only [List.set_cons_zero, List.set_cons_succ]
   refine wpAnyT_take (i := 4) (d := some 93) (v := ?_) rfl rfl (by kernel_rfl) (by kernel_rfl) (by kernel_rfl) (by kernel_rfl) (fun _ _ _ h => h) (Or.inl ⟨by kernel_rfl, ?_⟩) (by assumption) ?_
   rotate_left
   ·(intro w hSw; (try dsimp only at hSw); go_simp; try (with_reducible rfl))
   try simp only [Act.put]
   try simp only [List.setIfInBounds_toArray]
   try simp only [List.set_cons_zero, List.set_cons_succ]
   refine wpAnyT_take (i := 5) (d := some 94) (v := ?_) rfl rfl (by kernel_rfl) (by kernel_rfl) (by kernel_rfl) (by kernel_rfl) (fun _ _ _ h => h) (Or.inl ⟨by kernel_rfl, ?_⟩) (by assumption) ?_
   rotate_left
   ·(intro w hSw; (try dsimp only at hSw); go_simp; try (with_reducible rfl))
   try simp only [Act.put]
   try simp only [List.setIfInBounds_toArray]
   try simp only [List.set_cons_zero, List.set_cons_succ]
   refine wpAnyT_take (i := 6) (d := some 95) (v := ?_) rfl rfl (by kernel_rfl) (by kernel_rfl) (by kernel_rfl) (by kernel_rfl) (fun _ _ _ h => h) (Or.inl ⟨by kernel_rfl, ?_⟩) (by assumption) ?_
   rotate_left
   ·(intro w hSw; (try dsimp only at hSw); go_simp; try (with_reducible rfl))
   try simp only [Act.put]
   try simp only [List.setIfInBounds_toArray]
   try simp only [List.set_cons_zero, List.set_cons_succ]
   refine wpAnyT_take (i := 7) (d := some 96) (v := ?_) rfl rfl (by kernel_rfl) (by kernel_rfl) (by kernel_rfl) (by kernel_rfl) (fun _ _ _ h => h) (Or.inl ⟨by kernel_rfl, ?_⟩) (by assumption) ?_
   rotate_left
   ·(intro w hSw; (try dsimp only at hSw); go_simp; try (with_reducible rfl))
   try simp only [Act.put]
   try simp only [List.setIfInBounds_toArray]
   try simp only [List.set_cons_zero, List.set_cons_succ]
   refine wpAnyT_take (i := 8) (d := some 97) (v := ?_) rfl rfl (by kernel_rfl) (by kernel_rfl) (by kernel_rfl) (by kernel_rfl) (fun _ _ _ h => h) (Or.inl ⟨by kernel_rfl, ?_⟩) (by assumption) ?_
   rotate_left
   ·(intro w hSw; (try dsimp only at hSw); go_simp; try (with_reducible rfl))
   try simp only [Act.put]
   try simp only [List.setIfInBounds_toArray]
   try simp only [List.set_cons_zero, List.set_cons_succ]
   refine wpAnyT_take (i := 9) (d := some 98) (v := ?_) rfl rfl (by kernel_rfl) (by kernel_rfl) (by kernel_rfl) (by kernel_rfl) (fun _ _ _ h => h) (Or.inl ⟨by kernel_rfl, ?_⟩) (by assumption) ?_
   rotate_left
   ·(intro w hSw; (try dsimp only at hSw); go_simp; try (with_reducible rfl))
   try simp only [Act.put]
   try simp only [List.setIfInBounds_toArray]
   try simp only [List.set_cons_zero, List.set_cons_succ]
   refine wpAnyT_take (i := 10) (d := some 99) (v := ?_) rfl rfl (by kernel_rfl) (by kernel_rfl) (by kernel_rfl) (by kernel_rfl) (fun _ _ _ h => h) (Or.inl ⟨by kernel_rfl, ?_⟩) (by assumption) ?_
   rotate_left
   ·(intro w hSw; (try dsimp only at hSw); go_simp; try (with_reducible rfl))
   try simp only [Act.put]
   try simp only [List.setIfInBounds_toArray]
   try simp only [List.set_cons_zero, List.set_cons_succ]
   refine wpAnyT_take (i := 11) (d := some 100) (v := ?_) rfl rfl (by kernel_rfl) (by kernel_rfl) (by kernel_rfl) (by kernel_rfl) (fun _ _ _ h => h) (Or.inl ⟨by kernel_rfl, ?_⟩) (by assumption) ?_
   rotate_left
   ·(intro w hSw; (try dsimp only at hSw); go_simp; try (with_reducible rfl))
   try simp only [Act.put]
   try simp only [List.setIfInBounds_toArray]
   try simp only [List.set_cons_zero, List.set_cons_succ]
   refine wpAnyT_take (i := 13) (d := some 102) (v := ?_) rfl rfl (by kernel_rfl) (by kernel_rfl) (by kernel_rfl) (by kernel_rfl) (fun _ _ _ h => h) (Or.inl ⟨by kernel_rfl, ?_⟩) (by assumption) ?_
   rotate_left
   ·(intro w hSw; (try dsimp only at hSw); go_simp; try (with_reducible rfl))
   try simp only [Act.put]
   try simp only [List.setIfInBounds_toArray]
   try simp only [List.set_cons_zero, List.set_cons_succ]
   refine wpAnyT_take (i := 14) (d := some 103) (v := ?_) rfl rfl (by kernel_rfl) (by kernel_rfl) (by kernel_rfl) (by kernel_rfl) (fun _ _ _ h => h) (Or.inl ⟨by kernel_rfl, ?_⟩) (by assumption) ?_
   rotate_left
   ·(intro w hSw; (try dsimp only at hSw); go_simp; try (with_reducible rfl))
   try simp only [Act.put]
   try simp only [List.setIfInBounds_toArray]
   try simp only [List.set_cons_zero, List.set_cons_succ]
   refine wpAnyT_take (i := 15) (d := some 104) (v := ?_) rfl rfl (by kernel_rfl) (by kernel_rfl) (by kernel_rfl) (by kernel_rfl) (fun _ _ _ h => h) (Or.inl ⟨by kernel_rfl, ?_⟩) (by assumption) ?_
   rotate_left
   ·(intro w hSw; (try dsimp only at hSw); go_simp; try (with_reducible rfl))
   try simp only [Act.put]
   try simp only [List.setIfInBounds_toArray]
   try simp only [List.set_cons_zero, List.set_cons_succ]
   refine wpAnyT_ready (rs := [12, 16]) (by kernel_rfl) (by simp) ?_
   refine AllT.cons (i := 12) rfl (fun K hK => ?_) ?_
   ·refine step_callW (by kernel_rfl) 28 _ _ rfl enters_28 [.slice ra2 ul rc2] (by first | rfl | kernel_rfl | go_simp) (HCLN.out _ HWD.out) ?_
    rintro e y1 ⟨v3, rfl, hR3, hX3⟩
    obtain ⟨x3, y3, rfl, _⟩ := hR3.any
    refine ⟨_, rfl, ?_⟩
    have HR3 := Lib.hid hR3
    have HX3 := Lib.hid hX3
    clear hR3 hX3
    refine hK.out _ _ ?_ (fun hHeld => ?_)
    ·(try dsimp only)
     exact ⟨HX3.out.cl M2.out, HX3.out.cl E0.out⟩
    clear hK K
    try simp only [Act.put]
    try simp only [List.setIfInBounds_toArray]
    try simp only [List.set_cons_zero, List.set_cons_succ]
    refine wpAnyT_step (i := 16) (o := ⟨some 105, _, _, _, _, _⟩) (by kernel_rfl) rfl (fun K hK => ?_)
    go_simp
    have HN5 : Hid ((y1.alloc (.cells #[.int .i64 x] 3)).heap[y1.heap.size]? = some (.cells #[.int .i64 x] 3)) := Lib.hid (heap_alloc_new y1 _)
    have HX5 : Hid (Ext y1 (y1.alloc (.cells #[.int .i64 x] 3))) := Lib.hid ((Ext.rf y1).al _)
    generalize y1.heap.size = kN at *
    generalize y1.alloc (.cells #[.int .i64 x] 3) = y2 at *
    refine hK.out _ _ ?_ (fun hHeld => ?_)
    ·(try dsimp only)
     exact ⟨(HX3.out.trans' HX5.out).cl M2.out, (HX3.out.trans' HX5.out).cl E0.out⟩
    clear hK K
    try simp only [Act.put]
    try simp only [List.setIfInBounds_toArray]
    try simp only [List.set_cons_zero, List.set_cons_succ]
    have HR2 := Lib.hid (HR3.out.ext HX5.out)
    have HXE := Lib.hid (HX3.out.trans' HX5.out)
    have HNW := Lib.hid (HN5.out)
    refine wpAnyT_step (i := 17) (o := ⟨some 106, _, _, _, _, _⟩) (by kernel_rfl) rfl (fun K hK => ?_)
    refine step_append_rowN rfl _ _ 39 rfl wd.heap.size 3 ii (.int .i64 0) 1 8 Tryz.underlying39 hii iz0 iz1 iz2 rfl (by decide) (.slice x3 ul y3) ul (U.map (Value.int .i64)) rfl HR2.out kN 1 [.int .i64 x] rfl rfl ⟨_, HNW.out⟩ (by simp [Value.oneCell']) (by unfold maxLen; omega) (by omega) HXE.out.sz ?_
    intro v8 w8 hown8 hgrow8 hblk8
    obtain ⟨x8, y8, rfl, _⟩ := hown8.any
    have HX8 := Lib.hid (HXE.out.gr hgrow8 (fun q hq => (HR2.out.lt q hq).1))
    have HR8 : Hid (Row w8 wd.heap.size 3 1 (.slice x8 (ul + 1) y8) (U ++ [x]).length ((U ++ [x]).map (Value.int .i64))) := Lib.hid (by
     rw [List.length_append, List.length_singleton, HULE.out, List.map_append]; exact hown8)
    clear hown8 hgrow8 hblk8
    refine hK.out _ _ ?_ (fun hHeld => ?_)
    ·(try dsimp only)
     exact ⟨HX8.out.cl M2.out, HX8.out.cl E0.out⟩
    clear hK K
    try simp only [Act.put]
    try simp only [List.setIfInBounds_toArray]
    try simp only [List.set_cons_zero, List.set_cons_succ]
    have e8 := HX8.out.cl E0.out
    have hfr8 : w8.frozen? ⟨gh, oh + J, none⟩ = false := by
     have h := (HOD.out.hdr I hI).ext HX8.out
     rw [HVH.out] at h
     exact h.free _
    have HOX := Lib.hid (HOD.out.newR hI hJ HVH.out HX8.out HR8.out (Nat.le_refl _) HED.out.sz)
    have HXS := Lib.hid ((HED.out.trans' HX8.out).st (p := ⟨gh, oh + J, none⟩) HGH.out (.slice x8 (ul + 1) y8))
    have HNE : Hid (underC t C J (I : Int) ≠ U ++ [x]) := Lib.hid (by
     rw [HU.out]
     intro e
     have h := congrArg List.length e
     rw [List.length_append, List.length_singleton] at h
     omega)
    refine wpAnyT_take (i := 18) (d := some 107) (v := ?_) rfl rfl (by kernel_rfl) (by kernel_rfl) (by kernel_rfl) (by kernel_rfl) (fun _ _ _ h => h) (Or.inl ⟨by kernel_rfl, ?_⟩) (by assumption) ?_
    rotate_left
    ·(intro w hSw; (try dsimp only at hSw); go_simp; try (with_reducible rfl))
    try simp only [Act.put]
    try simp only [List.setIfInBounds_toArray]
    try simp only [List.set_cons_zero, List.set_cons_succ]
    refine wpAnyT_last (by kernel_rfl) rfl (by kernel_rfl) (fun K hK => ?_)
    go_simp
    refine hK.out _ _ ?_
    generalize w8.setCell ⟨gh, oh + J, none⟩ (.slice x8 (ul + 1) y8) = wS at *
    clear e8 hfr8 e0 m2
    have HT9 := Lib.hid (HXS.out.hp HY5.out)
    have t9 := cellOf HT9.out 0
    simp only [List.getElem?_toArray, List.getElem?_cons_zero] at t9
    have HCK := Lib.hid (snapCheck_calls _ _ t (putH (cutM t C) I J (U ++ [x])) wS (HT.out.ext (HE5.out.trans' HXS.out)) HLO.out (HOX.out.sl2 (by rw [List.length_set]; exact HML.out)) (putH_light HLI.out I J (by rw [List.length_append, List.length_singleton]; have := HUL.out; omega)))
    rw [spoil_chan HCN.out.1.1 HIT.out HJT.out HNE.out] at HCK
    go_wp2_with fail
    refine HCK.out.mono ?_
    rintro e w10 ⟨rfl, hX10⟩
    go_wp2
    go_ret
    exact ⟨rfl, HE5.out.trans' (HXS.out.trans' hX10)⟩
   refine AllT.cons (i := 16) rfl (fun K hK => ?_) AllT.nil
   go_simp
   have HN5 : Hid ((wd.alloc (.cells #[.int .i64 x] 3)).heap[wd.heap.size]? = some (.cells #[.int .i64 x] 3)) := Lib.hid (heap_alloc_new wd _)
   have HX5 : Hid (Ext wd (wd.alloc (.cells #[.int .i64 x] 3))) := Lib.hid ((Ext.rf wd).al _)
   obtain ⟨kN, hkN⟩ : ∃ k, wd.heap.size = k := ⟨_, rfl⟩
   rw [hkN] at HN5
   simp only [hkN]
   generalize wd.alloc (.cells #[.int .i64 x] 3) = y2 at *
   refine hK.out _ _ ?_ (fun hHeld => ?_)
   ·(try dsimp only)
    exact ⟨HX5.out.cl M2.out, HX5.out.cl E0.out⟩
   clear hK K
   try simp only [Act.put]
   try simp only [List.setIfInBounds_toArray]
   try simp only [List.set_cons_zero, List.set_cons_succ]
   refine wpAnyT_step (i := 12) (o := ⟨some 101, _, _, _, _, _⟩) (by kernel_rfl) rfl (fun K hK => ?_)
   refine step_callW (by kernel_rfl) 28 _ _ rfl enters_28 [.slice ra2 ul rc2] (by first | rfl | kernel_rfl | go_simp) (HCLN.out _ (HWD.out.trans' HX5.out)) ?_
   rintro e y1 ⟨v3, rfl, hR3, hX3⟩
   obtain ⟨x3, y3, rfl, _⟩ := hR3.any
   refine ⟨_, rfl, ?_⟩
   have HR3 := Lib.hid hR3
   have HX3 := Lib.hid hX3
   clear hR3 hX3 hkN
   refine hK.out _ _ ?_ (fun hHeld => ?_)
   ·(try dsimp only)
    exact ⟨(HX5.out.trans' HX3.out).cl M2.out, (HX5.out.trans' HX3.out).cl E0.out⟩
   clear hK K
   try simp only [Act.put]
   try simp only [List.setIfInBounds_toArray]
   try simp only [List.set_cons_zero, List.set_cons_succ]
   have HR2 := Lib.hid (HR3.out.mono HX5.out.sz)
   have HXE := Lib.hid (HX5.out.trans' HX3.out)
   have HNW := Lib.hid (HX3.out.hp HN5.out)
   refine wpAnyT_step (i := 17) (o := ⟨some 106, _, _, _, _, _⟩) (by kernel_rfl) rfl (fun K hK => ?_)
   refine step_append_rowN rfl _ _ 39 rfl wd.heap.size 3 ii (.int .i64 0) 1 8 Tryz.underlying39 hii iz0 iz1 iz2 rfl (by decide) (.slice x3 ul y3) ul (U.map (Value.int .i64)) rfl HR2.out kN 1 [.int .i64 x] rfl rfl ⟨_, HNW.out⟩ (by simp [Value.oneCell']) (by unfold maxLen; omega) (by omega) HXE.out.sz ?_
   intro v8 w8 hown8 hgrow8 hblk8
   obtain ⟨x8, y8, rfl, _⟩ := hown8.any
   have HX8 := Lib.hid (HXE.out.gr hgrow8 (fun q hq => (HR2.out.lt q hq).1))
   have HR8 : Hid (Row w8 wd.heap.size 3 1 (.slice x8 (ul + 1) y8) (U ++ [x]).length ((U ++ [x]).map (Value.int .i64))) := Lib.hid (by
    rw [List.length_append, List.length_singleton, HULE.out, List.map_append]; exact hown8)
   clear hown8 hgrow8 hblk8
   refine hK.out _ _ ?_ (fun hHeld => ?_)
   ·(try dsimp only)
    exact ⟨HX8.out.cl M2.out, HX8.out.cl E0.out⟩
   clear hK K
   try simp only [Act.put]
   try simp only [List.setIfInBounds_toArray]
   try simp only [List.set_cons_zero, List.set_cons_succ]
   have e8 := HX8.out.cl E0.out
   have hfr8 : w8.frozen? ⟨gh, oh + J, none⟩ = false := by
    have h := (HOD.out.hdr I hI).ext HX8.out
    rw [HVH.out] at h
    exact h.free _
   have HOX := Lib.hid (HOD.out.newR hI hJ HVH.out HX8.out HR8.out (Nat.le_refl _) HED.out.sz)
   have HXS := Lib.hid ((HED.out.trans' HX8.out).st (p := ⟨gh, oh + J, none⟩) HGH.out (.slice x8 (ul + 1) y8))
   have HNE : Hid (underC t C J (I : Int) ≠ U ++ [x]) := Lib.hid (by
    rw [HU.out]
    intro e
    have h := congrArg List.length e
    rw [List.length_append, List.length_singleton] at h
    omega)
   refine wpAnyT_take (i := 18) (d := some 107) (v := ?_) rfl rfl (by kernel_rfl) (by kernel_rfl) (by kernel_rfl) (by kernel_rfl) (fun _ _ _ h => h) (Or.inl ⟨by kernel_rfl, ?_⟩) (by assumption) ?_
   rotate_left
   ·(intro w hSw; (try dsimp only at hSw); go_simp; try (with_reducible rfl))
   try simp only [Act.put]
   try simp only [List.setIfInBounds_toArray]
   try simp only [List.set_cons_zero, List.set_cons_succ]
   refine wpAnyT_last (by kernel_rfl) rfl (by kernel_rfl) (fun K hK => ?_)
   go_simp
   refine hK.out _ _ ?_
   generalize w8.setCell ⟨gh, oh + J, none⟩ (.slice x8 (ul + 1) y8) = wS at *
   clear e8 hfr8 e0 m2
   have HT9 := Lib.hid (HXS.out.hp HY5.out)
   have t9 := cellOf HT9.out 0
   simp only [List.getElem?_toArray, List.getElem?_cons_zero] at t9
   have HCK := Lib.hid (snapCheck_calls _ _ t (putH (cutM t C) I J (U ++ [x])) wS (HT.out.ext (HE5.out.trans' HXS.out)) HLO.out (HOX.out.sl2 (by rw [List.length_set]; exact HML.out)) (putH_light HLI.out I J (by rw [List.length_append, List.length_singleton]; have := HUL.out; omega)))
   rw [spoil_chan HCN.out.1.1 HIT.out HJT.out HNE.out] at HCK
   go_wp2_with fail
   refine HCK.out.mono ?_
   rintro e w10 ⟨rfl, hX10⟩
   go_wp2
   go_ret
   exact ⟨rfl, HE5.out.trans' (HXS.out.trans' hX10)⟩
  ·have hulz : U.length ≤ rc2 := by have h := HCHA.out; rw [HVR.out] at h; obtain ⟨_, _, e, h2, _⟩ := h.any; simp only [Value.slice.injEq] at e; obtain ⟨_, _, rfl⟩ := e; exact h2
   obtain ⟨ul, hul⟩ : ∃ x, U.length = x := ⟨_, rfl⟩
   have HULE := Lib.hid hul
   rw [hul] at e0 HVR hulz
   by_cases hu0 : ul = 0
   case pos =>
    have d0 : ((ul : Int) == 0) = true := by rw [beq_iff_eq]; omega
    have d0n : decide (ul = 0) = true := decide_eq_true hu0
    clear hu0 hul hulz
    go_wp2
    go_ret
    exact ⟨rfl, HEB.out⟩
   case neg =>
    have d0 : ((ul : Int) == 0) = false := by rw [beq_eq_false_iff_ne]; omega
    have d0n : decide (ul = 0) = false := decide_eq_false hu0
    obtain ⟨R, r0, rcp, hvs, hR1, hR2, hR3⟩ := HCHA.out.shape (by rw [hul]; omega)
    rw [HVR.out, hul] at hvs
    simp only [Value.slice.injEq, true_and] at hvs
    obtain ⟨rfl, rfl⟩ := hvs
    obtain ⟨um, hum⟩ : ∃ m, ul = m + 1 := ⟨ul - 1, by omega⟩
    have HUM := Lib.hid hum
    have s1 : (1 : Int) ≤ (ul : Int) := by omega
    have s2 : (ul : Int) ≤ (rc2 : Int) := by omega
    have s3 : 1 ≤ ul := by omega
    clear hu0 hul hR1 hR2 hR3 hum
    by_cases hr1 : rc2 = 1
    case pos =>
     subst hr1
     have HU1 := Lib.hid (show ul = 1 by omega)
     go_upto_region 17 with (fail)
     refine wp_region_tail (fun W => W.cell? ⟨g, o + I * 3 + 2, none⟩ = some (.slice (some ⟨gh, oh, none⟩) n ch) ∧ W.cell? ⟨gh, oh + J, none⟩ = some (.slice (some ⟨R, r0, none⟩) ul 1)) 14 (by kernel_rfl) ⟨m2, e0⟩ (fun hHeld => ?_)
     have HOD := Lib.hid (HOB.out.ext (Ext.rf wb).dr)
     have HED := Lib.hid (HEB5.out.trans' (Ext.rf wb).dr)
     have e0 : wb.drew.cell? ⟨gh, oh + J, none⟩ = some (.slice (some ⟨R, r0, none⟩) ul 1) := e0
     have hfr3 : wb.drew.frozen? ⟨gh, oh + J, none⟩ = false := hfr3
     generalize wb.drew = wd at *
     refine wpAnyT_take (i := 0) (d := some 119) (v := ?_) rfl rfl (by kernel_rfl) (by kernel_rfl) (by kernel_rfl) (by kernel_rfl) (fun _ _ _ h => h) (Or.inl ⟨by kernel_rfl, ?_⟩) (by assumption) ?_
     rotate_left
     ·(intro w hSw; (try dsimp only at hSw); go_simp; try (with_reducible rfl))
     try simp only [Act.put]
     try simp only [List.setIfInBounds_toArray]
     try simp only [List.set_cons_zero, List.set_cons_succ]
     refine wpAnyT_take (i := 1) (d := some 120) (v := ?_) rfl rfl (by kernel_rfl) (by kernel_rfl) (by kernel_rfl) (by kernel_rfl) (fun _ _ _ h => h) (Or.inl ⟨by kernel_rfl, ?_⟩) (by assumption) ?_
     rotate_left
     ·(intro w hSw; (try dsimp only at hSw); go_simp; try (with_reducible rfl))
     try simp only [Act.put]
     try simp only [List.setIfInBounds_toArray]
     try simp only [List.set_cons_zero, List.set_cons_succ]
     refine wpAnyT_take (i := 2) (d := some 121) (v := ?_) rfl rfl (by kernel_rfl) (by kernel_rfl) (by kernel_rfl) (by kernel_rfl) (fun _ _ _ h => h) (Or.inl ⟨by kernel_rfl, ?_⟩) (by assumption) ?_
     rotate_left
     ·(intro w hSw; (try dsimp only at hSw); go_simp; try (with_reducible rfl))
     try simp only [Act.put]
     try simp only [List.setIfInBounds_toArray]
     try simp only [List.set_cons_zero, List.set_cons_succ]
     refine wpAnyT_take (i := 3) (d := some 122) (v := ?_) rfl rfl (by kernel_rfl) (by kernel_rfl) (by kernel_rfl) (by kernel_rfl) (fun _ _ _ h => h) (Or.inl ⟨by kernel_rfl, ?_⟩) (by assumption) ?_
     rotate_left
     ·(intro w hSw; (try dsimp only at hSw); go_simp; try (with_reducible rfl))
     try simp only [Act.put]
     try simp only [List.setIfInBounds_toArray]
     try simp only [List.set_cons_zero, List.set_cons_succ]
     refine wpAnyT_take (i := 4) (d := some 123) (v := ?_) rfl rfl (by kernel_rfl) (by kernel_rfl) (by kernel_rfl) (by kernel_rfl) (fun _ _ _ h => h) (Or.inl ⟨by kernel_rfl, ?_⟩) (by assumption) ?_
     rotate_left
     ·(intro w hSw; (try dsimp only at hSw); go_simp; try (with_reducible rfl))
     try simp only [Act.put]
     try simp only [List.setIfInBounds_toArray]
     try simp only [List.set_cons_zero, List.set_cons_succ]
     refine wpAnyT_take (i := 5) (d := some 124) (v := ?_) rfl rfl (by kernel_rfl) (by kernel_rfl) (by kernel_rfl) (by kernel_rfl) (fun _ _ _ h => h) (Or.inl ⟨by kernel_rfl, ?_⟩) (by assumption) ?_
     rotate_left
     ·(intro w hSw; (try dsimp only at hSw); go_simp; try (with_reducible rfl))
     try simp only [Act.put]
     try simp only [List.setIfInBounds_toArray]
     try simp only [List.set_cons_zero, List.set_cons_succ]
     refine wpAnyT_take (i := 6) (d := some 125) (v := ?_) rfl rfl (by kernel_rfl) (by kernel_rfl) (by kernel_rfl) (by kernel_rfl) (fun _ _ _ h => h) (Or.inl ⟨by kernel_rfl, ?_⟩) (by assumption) ?_
     rotate_left
     ·(intro w hSw; (try dsimp only at hSw); go_simp; try (with_reducible rfl))
     try simp only [Act.put]
     try simp only [List.setIfInBounds_toArray]
     try simp only [List.set_cons_zero, List.set_cons_succ]
     refine wpAnyT_take (i := 7) (d := some 126) (v := ?_) rfl rfl (by kernel_rfl) (by kernel_rfl) (by kernel_rfl) (by kernel_rfl) (fun _ _ _ h => h) (Or.inl ⟨by kernel_rfl, ?_⟩) (by assumption) ?_
     rotate_left
     ·(intro w hSw; (try dsimp only at hSw); go_simp; try (with_reducible rfl))
     try simp only [Act.put]
     try simp only [List.setIfInBounds_toArray]
     try simp only [List.set_cons_zero, List.set_cons_succ]
     refine wpAnyT_take (i := 8) (d := some 127) (v := ?_) rfl rfl (by kernel_rfl) (by kernel_rfl) (by kernel_rfl) (by kernel_rfl) (fun _ _ _ h => h) (Or.inl ⟨by kernel_rfl, ?_⟩) (by assumption) ?_
     rotate_left
     ·(intro w hSw; (try dsimp only at hSw); go_simp; try (with_reducible rfl))
     try simp only [Act.put]
     try simp only [List.setIfInBounds_toArray]
     try simp only [List.set_cons_zero, List.set_cons_succ]
     refine wpAnyT_take (i := 9) (d := some 128) (v := ?_) rfl rfl (by kernel_rfl) (by kernel_rfl) (by kernel_rfl) (by kernel_rfl) (fun _ _ _ h => h) (Or.inl ⟨by kernel_rfl, ?_⟩) (by assumption) ?_
     rotate_left
     ·(intro w hSw; (try dsimp only at hSw); go_simp; try (with_reducible rfl))
     try simp only [Act.put]
     try simp only [List.setIfInBounds_toArray]
     try simp only [List.set_cons_zero, List.set_cons_succ]
     refine wpAnyT_take (i := 10) (d := some 129) (v := ?_) rfl rfl (by kernel_rfl) (by kernel_rfl) (by kernel_rfl) (by kernel_rfl) (fun _ _ _ h => h) (Or.inl ⟨by kernel_rfl, ?_⟩) (by assumption) ?_
     rotate_left
     ·(intro w hSw; (try dsimp only at hSw); go_simp; try (with_reducible rfl))
     try simp only [Act.put]
     try simp only [List.setIfInBounds_toArray]
     try simp only [List.set_cons_zero, List.set_cons_succ]
     refine wpAnyT_take (i := 11) (d := some 130) (v := ?_) rfl rfl (by kernel_rfl) (by kernel_rfl) (by kernel_rfl) (by kernel_rfl) (fun _ _ _ h => h) (Or.inl ⟨by kernel_rfl, ?_⟩) (by assumption) ?_
     rotate_left
     ·(intro w hSw; (try dsimp only at hSw); go_simp; try (with_reducible rfl))
     try simp only [Act.put]
     try simp only [List.setIfInBounds_toArray]
     try simp only [List.set_cons_zero, List.set_cons_succ]
     refine wpAnyT_take (i := 12) (d := some 131) (v := ?_) rfl rfl (by kernel_rfl) (by kernel_rfl) (by kernel_rfl) (by kernel_rfl) (fun _ _ _ h => h) (Or.inl ⟨by kernel_rfl, ?_⟩) (by assumption) ?_
     rotate_left
     ·(intro w hSw; (try dsimp only at hSw); go_simp; try (with_reducible rfl))
     try simp only [Act.put]
     try simp only [List.setIfInBounds_toArray]
     try simp only [List.set_cons_zero, List.set_cons_succ]
     refine wpAnyT_take (i := 13) (d := some 132) (v := ?_) rfl rfl (by kernel_rfl) (by kernel_rfl) (by kernel_rfl) (by kernel_rfl) (fun _ _ _ h => h) (Or.inl ⟨by kernel_rfl, ?_⟩) (by assumption) ?_
     rotate_left
     ·(intro w hSw; (try dsimp only at hSw); go_simp; try (with_reducible rfl))
     try simp only [Act.put]
     try simp only [List.setIfInBounds_toArray]
     try simp only [List.set_cons_zero, List.set_cons_succ]
     refine wpAnyT_last (by kernel_rfl) rfl (by kernel_rfl) (fun K hK => ?_)
     go_simp
     refine hK.out _ _ ?_
     have HDR := Lib.hid (HOD.out.cha I hI J hJ)
     have HNW : Hid (Row wd w5.heap.size 3 1 (.slice (some ⟨R, r0, none⟩) 0 0) (U.drop 1).length ((U.drop 1).map (Value.int .i64))) := Lib.hid (by
      have h := HDR.out
      rw [HVR.out, cutM_at HIT.out] at h
      simp only at h
      rw [mapR_at _ HJT.out, HU.out] at h
      have h2 : Row wd w5.heap.size 3 1 (.slice (some ⟨R, r0, none⟩) (0 + 1) 1) (0 + 1) (U.map (Value.int .i64)) := by
       rw [show 0 + 1 = ul from HU1.out.symm, ← HULE.out]
       rw [← HULE.out] at h
       exact h
      have h3 := h2.tail.2
      have h4 : U.drop 1 = [] := List.drop_eq_nil_of_le (by rw [HULE.out, HU1.out]; exact Nat.le_refl _)
      rw [h4]
      exact h3)
     have HOX := Lib.hid (HOD.out.setH (v' := .slice (some ⟨R, r0, none⟩) 0 0) (x := U.drop 1) hI hJ HVH.out (fun a c ha hc _ => HOD.out.cha a ha c hc) HNW.out (fun a c ha hc hne => by
      have h := HOD.out.dr I J a c hI hJ ha hc (fun hh => hne ⟨hh.1.symm, hh.2.symm⟩)
      rw [HVR.out] at h
      exact h) HOD.out.row HOD.out.clo HOD.out.hdr)
     have HXS := Lib.hid (HED.out.st (p := ⟨gh, oh + J, none⟩) HGH.out (.slice (some ⟨R, r0, none⟩) 0 0))
     have HNE : Hid (underC t C J (I : Int) ≠ U.drop 1) := Lib.hid (by
      rw [HU.out]
      intro e
      have h := congrArg List.length e
      rw [List.length_drop, HULE.out] at h
      have := HUM.out
      omega)
     generalize wd.setCell ⟨gh, oh + J, none⟩ (.slice (some ⟨R, r0, none⟩) 0 0) = wS at *
     clear e0 hfr3 m2 k1 hfr2 m1
     have HT9 := Lib.hid (HXS.out.hp HY5.out)
     have t9 := cellOf HT9.out 0
     simp only [List.getElem?_toArray, List.getElem?_cons_zero] at t9
     have HCK := Lib.hid (snapCheck_calls _ _ t (putH (cutM t C) I J (U.drop 1)) wS (HT.out.ext (HE5.out.trans' HXS.out)) HLO.out (HOX.out.sl2 (by rw [List.length_set]; exact HML.out)) (putH_light HLI.out I J (by rw [List.length_drop]; have := HUL.out; omega)))
     rw [spoil_chan HCN.out.1.1 HIT.out HJT.out HNE.out] at HCK
     go_wp2_with fail
     refine HCK.out.mono ?_
     rintro e w10 ⟨rfl, hX10⟩
     go_wp2
     go_ret
     exact ⟨rfl, HE5.out.trans' (HXS.out.trans' hX10)⟩
    case neg =>
     have hr2 : rc2 - 1 ≠ 0 := by omega
     go_upto_region 17 with (fail)
     refine wp_region_tail (fun W => W.cell? ⟨g, o + I * 3 + 2, none⟩ = some (.slice (some ⟨gh, oh, none⟩) n ch) ∧ W.cell? ⟨gh, oh + J, none⟩ = some (.slice (some ⟨R, r0, none⟩) ul rc2)) 14 (by kernel_rfl) ⟨m2, e0⟩ (fun hHeld => ?_)
     have HOD := Lib.hid (HOB.out.ext (Ext.rf wb).dr)
     have HED := Lib.hid (HEB5.out.trans' (Ext.rf wb).dr)
     have e0 : wb.drew.cell? ⟨gh, oh + J, none⟩ = some (.slice (some ⟨R, r0, none⟩) ul rc2) := e0
     have hfr3 : wb.drew.frozen? ⟨gh, oh + J, none⟩ = false := hfr3
     generalize wb.drew = wd at *
     refine wpAnyT_take (i := 0) (d := some 119) (v := ?_) rfl rfl (by kernel_rfl) (by kernel_rfl) (by kernel_rfl) (by kernel_rfl) (fun _ _ _ h => h) (Or.inl ⟨by kernel_rfl, ?_⟩) (by assumption) ?_
     rotate_left
     ·(intro w hSw; (try dsimp only at hSw); go_simp; try (with_reducible rfl))
     try simp only [Act.put]
     try simp only [List.setIfInBounds_toArray]
     try simp only [List.set_cons_zero, List.set_cons_succ]
     refine wpAnyT_take (i := 1) (d := some 120) (v := ?_) rfl rfl (by kernel_rfl) (by kernel_rfl) (by kernel_rfl) (by kernel_rfl) (fun _ _ _ h => h) (Or.inl ⟨by kernel_rfl, ?_⟩) (by assumption) ?_
     rotate_left
     ·(intro w hSw; (try dsimp only at hSw); go_simp; try (with_reducible rfl))
     try simp only [Act.put]
     try simp only [List.setIfInBounds_toArray]
     try simp only [List.set_cons_zero, List.set_cons_succ]
     refine wpAnyT_take (i := 2) (d := some 121) (v := ?_) rfl rfl (by kernel_rfl) (by kernel_rfl) (by kernel_rfl) (by kernel_rfl) (fun _ _ _ h => h) (Or.inl ⟨by kernel_rfl, ?_⟩) (by assumption) ?_
     rotate_left
     ·(intro w hSw; (try dsimp only at hSw); go_simp; try (with_reducible rfl))
     try simp only [Act.put]
     try simp only [List.setIfInBounds_toArray]
     try simp only [List.set_cons_zero, List.set_cons_succ]
     refine wpAnyT_take (i := 3) (d := some 122) (v := ?_) rfl rfl (by kernel_rfl) (by kernel_rfl) (by kernel_rfl) (by kernel_rfl) (fun _ _ _ h => h) (Or.inl ⟨by kernel_rfl, ?_⟩) (by assumption) ?_
     rotate_left
     ·(intro w hSw; (try dsimp only at hSw); go_simp; try (with_reducible rfl))
     try simp only [Act.put]
     try simp only [List.setIfInBounds_toArray]
     try simp only [List.set_cons_zero, List.set_cons_succ]
     refine wpAnyT_take (i := 4) (d := some 123) (v := ?_) rfl rfl (by kernel_rfl) (by kernel_rfl) (by kernel_rfl) (by kernel_rfl) (fun _ _ _ h => h) (Or.inl ⟨by kernel_rfl, ?_⟩) (by assumption) ?_
     rotate_left
     ·(intro w hSw; (try dsimp only at hSw); go_simp; try (with_reducible rfl))
     try simp only [Act.put]
     try simp only [List.setIfInBounds_toArray]
     try simp only [List.set_cons_zero, List.set_cons_succ]
     refine wpAnyT_take (i := 5) (d := some 124) (v := ?_) rfl rfl (by kernel_rfl) (by kernel_rfl) (by kernel_rfl) (by kernel_rfl) (fun _ _ _ h => h) (Or.inl ⟨by kernel_rfl, ?_⟩) (by assumption) ?_
     rotate_left
     ·(intro w hSw; (try dsimp only at hSw); go_simp; try (with_reducible rfl))
     try simp only [Act.put]
     try simp only [List.setIfInBounds_toArray]
     try simp only [List.set_cons_zero, List.set_cons_succ]
     refine wpAnyT_take (i := 6) (d := some 125) (v := ?_) rfl rfl (by kernel_rfl) (by kernel_rfl) (by kernel_rfl) (by kernel_rfl) (fun _ _ _ h => h) (Or.inl ⟨by kernel_rfl, ?_⟩) (by assumption) ?_
     rotate_left
     ·(intro w hSw; (try dsimp only at hSw); go_simp; try (with_reducible rfl))
     try simp only [Act.put]
     try simp only [List.setIfInBounds_toArray]
     try simp only [List.set_cons_zero, List.set_cons_succ]
     refine wpAnyT_take (i := 7) (d := some 126) (v := ?_) rfl rfl (by kernel_rfl) (by kernel_rfl) (by kernel_rfl) (by kernel_rfl) (fun _ _ _ h => h) (Or.inl ⟨by kernel_rfl, ?_⟩) (by assumption) ?_
     rotate_left
     ·(intro w hSw; (try dsimp only at hSw); go_simp; try (with_reducible rfl))
     try simp only [Act.put]
     try simp only [List.setIfInBounds_toArray]
     try simp only [List.set_cons_zero, List.set_cons_succ]
     refine wpAnyT_take (i := 8) (d := some 127) (v := ?_) rfl rfl (by kernel_rfl) (by kernel_rfl) (by kernel_rfl) (by kernel_rfl) (fun _ _ _ h => h) (Or.inl ⟨by kernel_rfl, ?_⟩) (by assumption) ?_
     rotate_left
     ·(intro w hSw; (try dsimp only at hSw); go_simp; try (with_reducible rfl))
     try simp only [Act.put]
     try simp only [List.setIfInBounds_toArray]
     try simp only [List.set_cons_zero, List.set_cons_succ]
     refine wpAnyT_take (i := 9) (d := some 128) (v := ?_) rfl rfl (by kernel_rfl) (by kernel_rfl) (by kernel_rfl) (by kernel_rfl) (fun _ _ _ h => h) (Or.inl ⟨by kernel_rfl, ?_⟩) (by assumption) ?_
     rotate_left
     ·(intro w hSw; (try dsimp only at hSw); go_simp; try (with_reducible rfl))
     try simp only [Act.put]
     try simp only [List.setIfInBounds_toArray]
     try simp only [List.set_cons_zero, List.set_cons_succ]
     refine wpAnyT_take (i := 10) (d := some 129) (v := ?_) rfl rfl (by kernel_rfl) (by kernel_rfl) (by kernel_rfl) (by kernel_rfl) (fun _ _ _ h => h) (Or.inl ⟨by kernel_rfl, ?_⟩) (by assumption) ?_
     rotate_left
     ·(intro w hSw; (try dsimp only at hSw); go_simp; try (with_reducible rfl))
     try simp only [Act.put]
     try simp only [List.setIfInBounds_toArray]
     try simp only [List.set_cons_zero, List.set_cons_succ]
     refine wpAnyT_take (i := 11) (d := some 130) (v := ?_) rfl rfl (by kernel_rfl) (by kernel_rfl) (by kernel_rfl) (by kernel_rfl) (fun _ _ _ h => h) (Or.inl ⟨by kernel_rfl, ?_⟩) (by assumption) ?_
     rotate_left
     ·(intro w hSw; (try dsimp only at hSw); go_simp; try (with_reducible rfl))
     try simp only [Act.put]
     try simp only [List.setIfInBounds_toArray]
     try simp only [List.set_cons_zero, List.set_cons_succ]
     refine wpAnyT_take (i := 12) (d := some 131) (v := ?_) rfl rfl (by kernel_rfl) (by kernel_rfl) (by kernel_rfl) (by kernel_rfl) (fun _ _ _ h => h) (Or.inl ⟨by kernel_rfl, ?_⟩) (by assumption) ?_
     rotate_left
     ·(intro w hSw; (try dsimp only at hSw); go_simp; try (with_reducible rfl))
     try simp only [Act.put]
     try simp only [List.setIfInBounds_toArray]
     try simp only [List.set_cons_zero, List.set_cons_succ]
     refine wpAnyT_take (i := 13) (d := some 132) (v := ?_) rfl rfl (by kernel_rfl) (by kernel_rfl) (by kernel_rfl) (by kernel_rfl) (fun _ _ _ h => h) (Or.inl ⟨by kernel_rfl, ?_⟩) (by assumption) ?_
     rotate_left
     ·(intro w hSw; (try dsimp only at hSw); go_simp; try (with_reducible rfl))
     try simp only [Act.put]
     try simp only [List.setIfInBounds_toArray]
     try simp only [List.set_cons_zero, List.set_cons_succ]
     refine wpAnyT_last (by kernel_rfl) rfl (by kernel_rfl) (fun K hK => ?_)
     go_simp
     refine hK.out _ _ ?_
     have HDR := Lib.hid (HOD.out.cha I hI J hJ)
     have HNW : Hid (Row wd w5.heap.size 3 1 (.slice (some ⟨R, r0 + 1, none⟩) (ul - 1) (rc2 - 1)) (U.drop 1).length ((U.drop 1).map (Value.int .i64))) := Lib.hid (by
      have h := HDR.out
      rw [HVR.out, cutM_at HIT.out] at h
      simp only at h
      rw [mapR_at _ HJT.out, HU.out] at h
      have h2 : Row wd w5.heap.size 3 1 (.slice (some ⟨R, r0, none⟩) (ul - 1 + 1) rc2) (ul - 1 + 1) (U.map (Value.int .i64)) := by
       rw [show ul - 1 + 1 = ul by have := HUM.out; omega, ← HULE.out]
       rw [← HULE.out] at h
       exact h
      have h3 := h2.tail.1
      rw [List.length_drop, HULE.out, List.map_drop]
      exact h3)
     have HOX := Lib.hid (HOD.out.setH (v' := .slice (some ⟨R, r0 + 1, none⟩) (ul - 1) (rc2 - 1)) (x := U.drop 1) hI hJ HVH.out (fun a c ha hc _ => HOD.out.cha a ha c hc) HNW.out (fun a c ha hc hne => by
      have h := HOD.out.dr I J a c hI hJ ha hc (fun hh => hne ⟨hh.1.symm, hh.2.symm⟩)
      rw [HVR.out] at h
      exact h) HOD.out.row HOD.out.clo HOD.out.hdr)
     have HXS := Lib.hid (HED.out.st (p := ⟨gh, oh + J, none⟩) HGH.out (.slice (some ⟨R, r0 + 1, none⟩) (ul - 1) (rc2 - 1)))
     have HNE : Hid (underC t C J (I : Int) ≠ U.drop 1) := Lib.hid (by
      rw [HU.out]
      intro e
      have h := congrArg List.length e
      rw [List.length_drop, HULE.out] at h
      have := HUM.out
      omega)
     generalize wd.setCell ⟨gh, oh + J, none⟩ (.slice (some ⟨R, r0 + 1, none⟩) (ul - 1) (rc2 - 1)) = wS at *
     clear e0 hfr3 m2 k1 hfr2 m1
     have HT9 := Lib.hid (HXS.out.hp HY5.out)
     have t9 := cellOf HT9.out 0
     simp only [List.getElem?_toArray, List.getElem?_cons_zero] at t9
     have HCK := Lib.hid (snapCheck_calls _ _ t (putH (cutM t C) I J (U.drop 1)) wS (HT.out.ext (HE5.out.trans' HXS.out)) HLO.out (HOX.out.sl2 (by rw [List.length_set]; exact HML.out)) (putH_light HLI.out I J (by rw [List.length_drop]; have := HUL.out; omega)))
     rw [spoil_chan HCN.out.1.1 HIT.out HJT.out HNE.out] at HCK
     go_wp2_with fail
     refine HCK.out.mono ?_
     rintro e w10 ⟨rfl, hX10⟩
     go_wp2
     go_ret
     exact ⟨rfl, HE5.out.trans' (HXS.out.trans' hX10)⟩
  ·have hulz : U.length ≤ rc2 := by have h := HCHA.out; rw [HVR.out] at h; obtain ⟨_, _, e, h2, _⟩ := h.any; simp only [Value.slice.injEq] at e; obtain ⟨_, _, rfl⟩ := e; exact h2
   have HCLN := Lib.hid (fun W (hW : Ext wb W) => clone_cints (vr I J) U.length (U.map (Value.int .i64)) W (HCHA.out.ext hW).cells (by simp [Value.oneCell']) (by have := HUL.out; omega))
   rw [HVR.out] at HCLN
   obtain ⟨ul, hul⟩ : ∃ x, U.length = x := ⟨_, rfl⟩
   have HULE := Lib.hid hul
   rw [hul] at e0 HVR HCLN hulz
   by_cases hu2 : ul < 2
   case pos =>
    have d0 : decide ((ul : Int) < 2) = true := decide_eq_true (by omega)
    have d0n : decide (ul < 2) = true := decide_eq_true hu2
    clear hu2 hul hulz
    go_wp2
    go_ret
    exact ⟨rfl, HEB.out⟩
   case neg =>
    have d0 : decide ((ul : Int) < 2) = false := decide_eq_false (by omega)
    have d0n : decide (ul < 2) = false := decide_eq_false hu2
    have HU2 := Lib.hid (show 2 ≤ ul by omega)
    clear hu2 hul hulz
    go_upto_region 21 with (fail)
    refine wp_region_tail (fun W => W.cell? ⟨g, o + I * 3 + 2, none⟩ = some (.slice (some ⟨gh, oh, none⟩) n ch) ∧ W.cell? ⟨gh, oh + J, none⟩ = some (.slice ra2 ul rc2)) 14 (by kernel_rfl) ⟨m2, e0⟩ (fun hHeld => ?_)
    have HOD := Lib.hid (HOB.out.ext (Ext.rf wb).dr)
    have HED := Lib.hid (HEB5.out.trans' (Ext.rf wb).dr)
    have HWD := Lib.hid ((Ext.rf wb).dr)
    have M2 : Hid (wb.drew.cell? ⟨g, o + I * 3 + 2, none⟩ = some (.slice (some ⟨gh, oh, none⟩) n ch)) := Lib.hid m2
    have E0 : Hid (wb.drew.cell? ⟨gh, oh + J, none⟩ = some (.slice ra2 ul rc2)) := Lib.hid e0
    generalize wb.drew = wd at *
    refine wpAnyT_take (i := 0) (d := some 144) (v := ?_) rfl rfl (by kernel_rfl) (by kernel_rfl) (by kernel_rfl) (by kernel_rfl) (fun _ _ _ h => h) (Or.inl ⟨by kernel_rfl, ?_⟩) (by assumption) ?_
    rotate_left
    ·(intro w hSw; (try dsimp only at hSw); go_simp; try (with_reducible rfl))
    try simp only [Act.put]
    try simp only [List.setIfInBounds_toArray]
    try simp only [List.set_cons_zero, List.set_cons_succ]
    refine wpAnyT_take (i := 1) (d := some 145) (v := ?_) rfl rfl (by kernel_rfl) (by kernel_rfl) (by kernel_rfl) (by kernel_rfl) (fun _ _ _ h => h) (Or.inl ⟨by kernel_rfl, ?_⟩) (by assumption) ?_
    rotate_left
    ·(intro w hSw; (try dsimp only at hSw); go_simp; try (with_reducible rfl))
    try simp only [Act.put]
    try simp only [List.setIfInBounds_toArray]
    try simp only [List.set_cons_zero, List.set_cons_succ]
    refine wpAnyT_take (i := 2) (d := some 146) (v := ?_) rfl rfl (by kernel_rfl) (by kernel_rfl) (by kernel_rfl) (by kernel_rfl) (fun _ _ _ h => h) (Or.inl ⟨by kernel_rfl, ?_⟩) (by assumption) ?_
    rotate_left
    ·(intro w hSw; (try dsimp only at hSw); go_simp; try (with_reducible rfl))
    try simp only [Act.put]
    try simp only [List.setIfInBounds_toArray]
    try simp only [List.set_cons_zero, List.set_cons_succ]
    refine wpAnyT_take (i := 3) (d := some 147) (v := ?_) rfl rfl (by kernel_rfl) (by kernel_rfl) (by kernel_rfl) (by kernel_rfl) (fun _ _ _ h => h) (Or.inl ⟨by kernel_rfl, ?_⟩) (by assumption) ?_
    rotate_left
    ·(intro w hSw; (try dsimp only at hSw); go_simp; try (with_reducible rfl))
    try simp only [Act.put]
    try simp only [List.setIfInBounds_toArray]
    try simp only [List.set_cons_zero, List.set_cons_succ]
    refine wpAnyT_take (i := 4) (d := some 148) (v := ?_) rfl rfl (by kernel_rfl) (by kernel_rfl) (by kernel_rfl) (by kernel_rfl) (fun _ _ _ h => h) (Or.inl ⟨by kernel_rfl, ?_⟩) (by assumption) ?_
    rotate_left
    ·(intro w hSw; (try dsimp only at hSw); go_simp; try (with_reducible rfl))
    try simp only [Act.put]
    try simp only [List.setIfInBounds_toArray]
    try simp only [List.set_cons_zero, List.set_cons_succ]
    refine wpAnyT_take (i := 5) (d := some 149) (v := ?_) rfl rfl (by kernel_rfl) (by kernel_rfl) (by kernel_rfl) (by kernel_rfl) (fun _ _ _ h => h) (Or.inl ⟨by kernel_rfl, ?_⟩) (by assumption) ?_
    rotate_left
    ·(intro w hSw; (try dsimp only at hSw); go_simp; try (with_reducible rfl))
    try simp only [Act.put]
    try simp only [List.setIfInBounds_toArray]
    try simp only [List.set_cons_zero, List.set_cons_succ]
    refine wpAnyT_take (i := 6) (d := some 150) (v := ?_) rfl rfl (by kernel_rfl) (by kernel_rfl) (by kernel_rfl) (by kernel_rfl) (fun _ _ _ h => h) (Or.inl ⟨by kernel_rfl, ?_⟩) (by assumption) ?_
    rotate_left
    ·(intro w hSw; (try dsimp only at hSw); go_simp; try (with_reducible rfl))
    try simp only [Act.put]
    try simp only [List.setIfInBounds_toArray]
    try simp only [List.set_cons_zero, List.set_cons_succ]
    refine wpAnyT_take (i := 7) (d := some 151) (v := ?_) rfl rfl (by kernel_rfl) (by kernel_rfl) (by kernel_rfl) (by kernel_rfl) (fun _ _ _ h => h) (Or.inl ⟨by kernel_rfl, ?_⟩) (by assumption) ?_
    rotate_left
    ·(intro w hSw; (try dsimp only at hSw); go_simp; try (with_reducible rfl))
    try simp only [Act.put]
    try simp only [List.setIfInBounds_toArray]
    try simp only [List.set_cons_zero, List.set_cons_succ]
    refine wpAnyT_take (i := 8) (d := some 152) (v := ?_) rfl rfl (by kernel_rfl) (by kernel_rfl) (by kernel_rfl) (by kernel_rfl) (fun _ _ _ h => h) (Or.inl ⟨by kernel_rfl, ?_⟩) (by assumption) ?_
    rotate_left
    ·(intro w hSw; (try dsimp only at hSw); go_simp; try (with_reducible rfl))
    try simp only [Act.put]
    try simp only [List.setIfInBounds_toArray]
    try simp only [List.set_cons_zero, List.set_cons_succ]
    refine wpAnyT_take (i := 9) (d := some 153) (v := ?_) rfl rfl (by kernel_rfl) (by kernel_rfl) (by kernel_rfl) (by kernel_rfl) (fun _ _ _ h => h) (Or.inl ⟨by kernel_rfl, ?_⟩) (by assumption) ?_
    rotate_left
    ·(intro w hSw; (try dsimp only at hSw); go_simp; try (with_reducible rfl))
    try simp only [Act.put]
    try simp only [List.setIfInBounds_toArray]
    try simp only [List.set_cons_zero, List.set_cons_succ]
    refine wpAnyT_take (i := 10) (d := some 154) (v := ?_) rfl rfl (by kernel_rfl) (by kernel_rfl) (by kernel_rfl) (by kernel_rfl) (fun _ _ _ h => h) (Or.inl ⟨by kernel_rfl, ?_⟩) (by assumption) ?_
    rotate_left
    ·(intro w hSw; (try dsimp only at hSw); go_simp; try (with_reducible rfl))
    try simp only [Act.put]
    try simp only [List.setIfInBounds_toArray]
    try simp only [List.set_cons_zero, List.set_cons_succ]
    refine wpAnyT_take (i := 11) (d := some 155) (v := ?_) rfl rfl (by kernel_rfl) (by kernel_rfl) (by kernel_rfl) (by kernel_rfl) (fun _ _ _ h => h) (Or.inl ⟨by kernel_rfl, ?_⟩) (by assumption) ?_
    rotate_left
    ·(intro w hSw; (try dsimp only at hSw); go_simp; try (with_reducible rfl))
    try simp only [Act.put]
    try simp only [List.setIfInBounds_toArray]
    try simp only [List.set_cons_zero, List.set_cons_succ]
    refine wpAnyT_step (i := 12) (o := ⟨some 156, _, _, _, _, _⟩) (by kernel_rfl) rfl (fun K hK => ?_)
    refine step_callW (by kernel_rfl) 28 _ _ rfl enters_28 [.slice ra2 ul rc2] (by first | rfl | kernel_rfl | go_simp) (HCLN.out _ HWD.out) ?_
    rintro e y1 ⟨v3, rfl, hR3, hX3⟩
    obtain ⟨g3, o3, y3, rfl, hg3, hgw3, hnc3⟩ := hR3.shape (by have := HU2.out; omega)
    refine ⟨_, rfl, ?_⟩
    have HX3 := Lib.hid hX3
    have HR3 : Hid (Row y1 wd.heap.size 3 1 (.slice (some ⟨g3, o3, none⟩) ul y3) U.length (U.map (Value.int .i64))) := Lib.hid (by rw [HULE.out]; exact hR3)
    have HG3 := Lib.hid hg3
    clear hR3 hX3 hg3 hgw3 hnc3
    refine hK.out _ _ ?_ (fun hHeld => ?_)
    ·(try dsimp only)
     exact ⟨HX3.out.cl M2.out, HX3.out.cl E0.out⟩
    clear hK K
    try simp only [Act.put]
    try simp only [List.setIfInBounds_toArray]
    try simp only [List.set_cons_zero, List.set_cons_succ]
    have e8 := HX3.out.cl E0.out
    have hfr8 : y1.frozen? ⟨gh, oh + J, none⟩ = false := by
     have h := (HOD.out.hdr I hI).ext HX3.out
     rw [HVH.out] at h
     exact h.free _
    have HO3 := Lib.hid (HOD.out.newR hI hJ HVH.out HX3.out HR3.out (Nat.le_refl _) HED.out.sz)
    have HXS := Lib.hid ((HED.out.trans' HX3.out).st (p := ⟨gh, oh + J, none⟩) HGH.out (.slice (some ⟨g3, o3, none⟩) ul y3))
    refine wpAnyT_take (i := 13) (d := some 157) (v := ?_) rfl rfl (by kernel_rfl) (by kernel_rfl) (by kernel_rfl) (by kernel_rfl) (fun _ _ _ h => h) (Or.inl ⟨by kernel_rfl, ?_⟩) (by assumption) ?_
    rotate_left
    ·(intro w hSw; (try dsimp only at hSw); go_simp; try (with_reducible rfl))
    try simp only [Act.put]
    try simp only [List.setIfInBounds_toArray]
    try simp only [List.set_cons_zero, List.set_cons_succ]
    refine wpAnyT_last (by kernel_rfl) rfl (by kernel_rfl) (fun K hK => ?_)
    go_simp
    refine hK.out _ _ ?_
    generalize y1.setCell ⟨gh, oh + J, none⟩ (.slice (some ⟨g3, o3, none⟩) ul y3) = yS at *
    clear e8 hfr8 e0 m2
    have HL3 : Hid (((cutM t C).set I { (cutM t C)[I]! with chan := (cutM t C)[I]!.chan.set J U }).length = n) := Lib.hid (by rw [List.length_set]; exact HML.out)
    obtain ⟨_, _, m2, _⟩ := HO3.out.cellsAt (i := I) (by rw [HL3.out]; exact hI)
    rw [HVH.out] at m2
    have e0 : yS.cell? ⟨gh, oh + J, none⟩ = some (.slice (some ⟨g3, o3, none⟩) ul y3) := by
     have h := HO3.out.hdr I hI
     rw [HVH.out] at h
     rw [h.cell J (by omega), List.getElem?_map, List.getElem?_range hJ]
     exact congrArg some put2_same
    have HRC : Hid (Row yS w5.heap.size 3 1 (.slice (some ⟨g3, o3, none⟩) U.length y3) U.length (U.map (Value.int .i64))) := Lib.hid (by
     have h := HO3.out.cha I hI J hJ
     rw [put2_same, setG_at HIL.out] at h
     simp only at h
     rw [setG_at (by rw [cutM_at HIT.out]; simp only [List.length_map, List.length_range]; exact HJT.out)] at h
     have h2 : Row yS w5.heap.size 3 1 (.slice (some ⟨g3, o3, none⟩) ul y3) U.length (U.map (Value.int .i64)) := h
     rw [HULE.out] at h2 ⊢
     exact h2)
    have HRV := Lib.hid (reverse_calls g3 o3 y3 w5.heap.size U yS HRC.out (by have := HUL.out; omega))
    rw [HULE.out] at HRV
    go_wp2_with fail
    refine HRV.out.mono ?_
    rintro e w11 ⟨rfl, hR11, hB11, hF11⟩
    have HO4 := Lib.hid (HO3.out.other (x := U.reverse) hI hJ (by
     rw [put2_same]
     show Row w11 w5.heap.size 3 1 _ U.reverse.length _
     rw [List.length_reverse, HULE.out]; exact hR11) (fun b hb => hF11 b (fun e => hb (by rw [put2_same, e]; rfl))))
    have HXR := Lib.hid (show Ext w5 w11 from Below.trans HXS.out (hB11.mono (by have := HED.out.sz; have := HG3.out; omega)))
    rw [show putH ((cutM t C).set I { (cutM t C)[I]! with chan := (cutM t C)[I]!.chan.set J U }) I J U.reverse = putH (cutM t C) I J U.reverse from putH_putH HIL.out U U.reverse] at HO4
    have HNE : Hid (underC t C J (I : Int) ≠ U.reverse) := Lib.hid (by rw [HU.out]; exact rev_ne HUN.out (by rw [HULE.out]; exact HU2.out))
    clear hR11 hB11 hF11 m2 e0
    have HT9 := Lib.hid (HXR.out.hp HY5.out)
    have t9 := cellOf HT9.out 0
    simp only [List.getElem?_toArray, List.getElem?_cons_zero] at t9
    have HCK := Lib.hid (snapCheck_calls _ _ t (putH (cutM t C) I J U.reverse) w11 (HT.out.ext (HE5.out.trans' HXR.out)) HLO.out (HO4.out.sl2 (by rw [putH_len]; exact HML.out)) (putH_light HLI.out I J (by rw [List.length_reverse]; have := HUL.out; omega)))
    rw [spoil_chan HCN.out.1.1 HIT.out HJT.out HNE.out] at HCK
    go_wp2_with fail
    refine HCK.out.mono ?_
    rintro e w10 ⟨rfl, hX10⟩
    go_wp2
    go_ret
    exact ⟨rfl, HE5.out.trans' (HXR.out.trans' hX10)⟩
end Go.Proofs.YtfagfooggcinoaaGreat
