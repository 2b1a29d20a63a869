/-
  The statement TerminateStable, walked.
-/
import Derived.Test.YtfcpnggdpaeldaaGreatJa
import Derived.Test.YtfcpnggdpaeldaaGreatProg
import Derived.BigQuiet
import Derived.Deep.QuietTactic
import Derived.Deep.LoopGhost
import Derived.Shelf.Abstract
import Derived.Test.YtfcpnggdpaeldaaGreatGd
import Derived.Test.YtfcpnggdpaeldaaGreatGy
import Derived.Test.YtfcpnggdpaeldaaGreatStL51
import Derived.Test.YtfcpnggdpaeldaaGreatHa
import Derived.Test.YtfcpnggdpaeldaaGreatHf
import Derived.Test.YtfcpnggdpaeldaaGreatGw
import Derived.Test.YtfcpnggdpaeldaaGreatGz
import Derived.Deep.DeepCutAuto
namespace Go.Proofs.YtfcpnggdpaeldaaGreat
open Go.RowKit
set_option linter.unusedVariables false

theorem enters_22 : ∀ args w, (callFunc 22 args).run Tryz.prog w = .ok (.enter 22 args) w := enters_of Tryz.func22 (by kernel_rfl) rfl
theorem info_st51 : (Tryz.prog.info? 25).map (fun i => (i.zero, i.size, i.bytes)) = some (some (.slice none 0 0), 1, 24) := by kernel_rfl
theorem done_two {t : Tr} {s : ByteArray} {a b : List Int} (h : Done t s a) (k : Done t s b) : ∀ i, i < 2 → Done t s (([a, b] : List (List Int))[i]!) := by
  intro i hi
  rcases (by omega : i = 0 ∨ i = 1) with rfl | rfl
  · exact h
  · exact k
theorem done_three {t : Tr} {s : ByteArray} {a b c : List Int} (h : Done t s a) (k : Done t s b) (l : Done t s c) : ∀ i, i < 3 → Done t s (([a, b, c] : List (List Int))[i]!) := by
  intro i hi
  rcases (by omega : i = 0 ∨ i = 1 ∨ i = 2) with rfl | rfl | rfl
  · exact h
  · exact k
  · exact l
theorem rows3 {W : World} {v va vb vc : Value} {a b c : List Int} (h : CellsAt W v 1 3 [va, vb, vc]) (ha : Ints W va a) (hb : Ints W vb b) (hc : Ints W vc c) : Sl RInts 1 W v [a, b, c] := by
  refine CellsAt.sl (l := [a, b, c]) h fun i hi => ?_
  have hi : i < 3 := hi
  rcases (by omega : i = 0 ∨ i = 1 ∨ i = 2) with rfl | rfl | rfl
  · exact ⟨va, rfl, ha⟩
  · exact ⟨vb, rfl, hb⟩
  · exact ⟨vc, rfl, hc⟩


set_option maxHeartbeats 16000000 in
set_option maxRecDepth 100000 in
theorem terminateStable_calls (v vc vd vw : Value) (t : Tr) (s : ByteArray) (c d : List Int) (ws : List (List Int)) (w : World) (h : TrAt w v t) (hc : Ints w vc c) (hd : Ints w vd d) (hw : Sl RInts 1 w vw ws) :
    Calls Tryz.prog 4 #[.agg #[v], .string s, vc, vd, vw] w fun e w' => e = .returned (.bool true) ∧ Ext w w' := by
  have HFC := Lib.hid (fun W (hW : Ext w W) => few51_calls v t W (h.ext hW))
  have HLG := Lib.hid (fun W (hW : Ext w W) => long51_calls vw ws W (hw.ext rints_lasts hW))
  have HVR := Lib.hid (fun W (hW : Ext w W) hs => validR_calls v t W (h.ext hW) hs)
  have HHR := Lib.hid (fun W (hW : Ext w W) (hv : validT t = true) => hasR_calls v t s W (h.ext hW) hv)
  have HDR := Lib.hid (fun W (hW : Ext w W) (hv : validT t = true) (hh : hasT t s = true) => drivenR_calls v t s W (h.ext hW) hv hh)
  have HTC := Lib.hid (fun W (hW : Ext w W) hs => termP_calls v vc t s c W (h.ext hW) hs (hc.ext hW))
  have HTU := Lib.hid (fun W (hW : Ext w W) hs u x (hx : Ints W u x) => termP_calls v u t s x W (h.ext hW) hs hx)
  have HJC := Lib.hid (fun W (hW : Ext w W) hs => joinP_calls v vc vd t c d W (h.ext hW) hs (hc.ext hW) (hd.ext hW))
  have HEN := Lib.hid (fun W (hW : Ext w W) hs => enabledP_calls v vc t c W (h.ext hW) hs (hc.ext hW))
  have HAD := Lib.hid (fun W (hW : Ext w W) hs hn p => advanceP_calls v vc t c p W (h.ext hW) hs (hc.ext hW) hn)
  have HCP := Lib.hid (fun W (hW : Ext w W) hs hn => countingP_calls v vw t s ws W (h.ext hW) hs (hw.ext rints_lasts hW) hn)
  have HCLO := Lib.hid (fun W (hW : Ext w W) hs u x (hx : Ints W u x) hn => closeP_calls v u t x W (h.ext hW) hs hx hn)
  have HOPN := Lib.hid (fun W (hW : Ext w W) hs u x (hx : Ints W u x) hn => openP_calls v u t x W (h.ext hW) hs hx hn)
  have HIS := Lib.hid (fun W (hW : Ext w W) hv => is51_calls v vc t c W (h.ext hW) hv (hc.ext hW))
  have HC := Lib.hid hc
  have HW := Lib.hid hw
  have HFL : Hid (few51T t = true → LooseTr t) := Lib.hid (fun h => (few51_loose h).1)
  have HLL : Hid (long51 ws = false → ws.length ≤ 120) := Lib.hid (fun h => long51_len h)
  have HDN : Hid (pasE t s c = 0 → trmB t s c = true → Done t s c) := Lib.hid (fun h1 h2 => ⟨h1, h2⟩)
  have HKZ := Lib.hid (fun h => cgK_zero (t := t) (s := s) (ws := ws) h)
  obtain ⟨ta, tc, rfl, htc⟩ := h.sh
  obtain ⟨ca, cc, rfl, hlc, _⟩ := hc
  obtain ⟨da, dc, rfl, hld, _⟩ := hd
  obtain ⟨wa, wc', rfl, hwc⟩ := hw.shape
  clear h hw hlc hwc htc hld
  generalize few51T t = fb at *
  generalize long51 ws = lb at *
  generalize hPE : pasE t s c = PE at *
  generalize hTB : trmB t s c = TB at *
  generalize hKK : cgK t s ws = K at *
  generalize hCE : cgE t s ws = E at *
  have HKK := Lib.hid hKK
  have HCE := Lib.hid hCE
  obtain ⟨vb, hvb⟩ : ∃ b, validT t = b := ⟨_, rfl⟩
  obtain ⟨hb, hhb⟩ : ∃ b, hasT t s = b := ⟨_, rfl⟩
  obtain ⟨db, hdb⟩ : ∃ b, drvT t s = b := ⟨_, rfl⟩
  rw [hvb] at HVR HHR HDR HIS
  rw [hhb] at HHR HDR
  rw [hdb] at HDR
  have HVB := Lib.hid hvb
  have HHB := Lib.hid hhb
  have HDB := Lib.hid hdb
  obtain ⟨tn, htn⟩ : ∃ n, t.length = n := ⟨_, rfl⟩
  have HTN := Lib.hid htn
  obtain ⟨cl, hcl⟩ : ∃ n, c.length = n := ⟨_, rfl⟩
  have HCL := Lib.hid hcl
  obtain ⟨dl, hdl⟩ : ∃ n, d.length = n := ⟨_, rfl⟩
  obtain ⟨wl, hwl⟩ : ∃ n, ws.length = n := ⟨_, rfl⟩
  have HWL := Lib.hid hwl
  rw [htn] at HFC HVR HHR HDR HTC HTU HJC HEN HAD HCP HCLO HOPN HIS ⊢
  rw [hcl] at HTC HJC HEN HAD HIS HC ⊢
  rw [hdl] at HJC ⊢
  rw [hwl] at HLG HCP HLL HW ⊢
  clear hvb hhb hdb htn hcl hdl hwl hPE hTB hKK hCE
  have HY1 := Lib.hid (heap_alloc_new w (.cells #[.slice ta tn tc] 24))
  have HE1 := Lib.hid ((Ext.rf w).al (.cells #[.slice ta tn tc] 24))
  have t1 := cellOf HY1.out 0
  simp only [List.getElem?_toArray, List.getElem?_cons_zero] at t1
  go_enter Tryz.func4, Tryz.ntmps4
  go_wp2_with fail
  refine (awake_calls _).mono ?_
  rintro e w2 ⟨rfl, hX2⟩
  have HE2 := Lib.hid (HE1.out.trans' hX2)
  have HY2 := Lib.hid (hX2.hp HY1.out)
  have t2 := cellOf HY2.out 0
  simp only [List.getElem?_toArray, List.getElem?_cons_zero] at t2
  have HXX2 := Lib.hid hX2
  clear hX2 t1
  go_wp2_with fail
  refine (HFC.out _ HE2.out).mono ?_
  rintro e w3 ⟨rfl, hX3⟩
  have HE3 := Lib.hid (HE2.out.trans' hX3)
  have HY3 := Lib.hid (hX3.hp HY2.out)
  have t3 := cellOf HY3.out 0
  simp only [List.getElem?_toArray, List.getElem?_cons_zero] at t3
  have HXX3 := Lib.hid hX3
  clear hX3 t2
  cases fb with
  | false =>
    go_wp2
    go_ret
    exact ⟨rfl, HE3.out⟩
  | true =>
  have HLO := Lib.hid (HFL.out (by trivial))
  go_wp2_with fail
  refine (HVR.out _ HE3.out HLO.out).mono ?_
  rintro e w4 ⟨rfl, hX4⟩
  have HE4 := Lib.hid (HE3.out.trans' hX4)
  have HY4 := Lib.hid (hX4.hp HY3.out)
  have t4 := cellOf HY4.out 0
  simp only [List.getElem?_toArray, List.getElem?_cons_zero] at t4
  have HXX4 := Lib.hid hX4
  clear hX4 t3
  cases vb with
  | false =>
    go_wp2
    go_ret
    exact ⟨rfl, HE4.out⟩
  | true =>
  have HHR2 := Lib.hid (fun W hW => HHR.out W hW (by trivial))
  clear HHR
  go_wp2_with fail
  refine (HHR2.out _ HE4.out).mono ?_
  rintro e w5 ⟨rfl, hX5⟩
  have HE5 := Lib.hid (HE4.out.trans' hX5)
  have HY5 := Lib.hid (hX5.hp HY4.out)
  have t5 := cellOf HY5.out 0
  simp only [List.getElem?_toArray, List.getElem?_cons_zero] at t5
  have HXX5 := Lib.hid hX5
  clear hX5 t4
  cases hb with
  | false =>
    go_wp2
    go_ret
    exact ⟨rfl, HE5.out⟩
  | true =>
  have HDR2 := Lib.hid (fun W hW => HDR.out W hW (by trivial) (by trivial))
  clear HDR
  go_wp2_with fail
  refine (HDR2.out _ HE5.out).mono ?_
  rintro e w6 ⟨rfl, hX6⟩
  have HE6 := Lib.hid (HE5.out.trans' hX6)
  have HY6 := Lib.hid (hX6.hp HY5.out)
  have t6 := cellOf HY6.out 0
  simp only [List.getElem?_toArray, List.getElem?_cons_zero] at t6
  have HXX6 := Lib.hid hX6
  clear hX6 t5
  cases db with
  | false =>
    go_wp2
    go_ret
    exact ⟨rfl, HE6.out⟩
  | true =>
  have HDT := Lib.hid (drvT_iff.1 HDB.out)
  by_cases hcl : 20 < cl
  case pos =>
    have d1 : decide (20 < (cl : Int)) = true := decide_eq_true (by omega)
    clear hcl
    go_wp2
    go_ret
    exact ⟨rfl, HE6.out⟩
  case neg =>
  have d1 : decide (20 < (cl : Int)) = false := decide_eq_false (by omega)
  have HCN := Lib.hid (show cl ≤ 1000000 by omega)
  clear hcl
  by_cases hdl : 20 < dl
  case pos =>
    have d2 : decide (20 < (dl : Int)) = true := decide_eq_true (by omega)
    clear hdl
    go_wp2
    go_ret
    exact ⟨rfl, HE6.out⟩
  case neg =>
  have d2 : decide (20 < (dl : Int)) = false := decide_eq_false (by omega)
  clear hdl
  go_wp2_with fail
  refine (HLG.out _ HE6.out).mono ?_
  rintro e w7 ⟨rfl, hX7⟩
  have HE7 := Lib.hid (HE6.out.trans' hX7)
  have HY7 := Lib.hid (hX7.hp HY6.out)
  have t7 := cellOf HY7.out 0
  simp only [List.getElem?_toArray, List.getElem?_cons_zero] at t7
  have HXX7 := Lib.hid hX7
  clear hX7 t6
  cases lb with
  | true =>
    go_wp2
    go_ret
    exact ⟨rfl, HE7.out⟩
  | false =>
  have hwl := HLL.out (by trivial)
  have HWN := Lib.hid (show wl ≤ 1000000 by omega)
  clear d1 d2 HFC HVR HHR2 HDR2 HLG
  go_wp2_with fail
  refine (HTC.out _ HE7.out HLO.out).mono ?_
  rintro e w8 ⟨rfl, hX8⟩
  have HE8 := Lib.hid (HE7.out.trans' hX8)
  have HY8 := Lib.hid (hX8.hp HY7.out)
  have t8 := cellOf HY8.out 0
  simp only [List.getElem?_toArray, List.getElem?_cons_zero] at t8
  have HXX8 := Lib.hid hX8
  clear hX8 t7
  by_cases hP : PE = 0
  case neg =>
    have dP : (PE == 0) = false := by simp [hP]
    clear hP
    go_upto_region 23 with (fail)
    have HXC := Lib.hid (Ext.rf w8)
    obtain ⟨wc, hwc9⟩ : ∃ x, x = w8 := ⟨_, rfl⟩
    rw [← hwc9]
    rw [← hwc9] at HXC
    have HXC := Lib.hid (show Ext w8 wc from by rw [hwc9]; exact Ext.rf _)
    clear hwc9 t8
    have HE13 := Lib.hid (HE8.out.trans' HXC.out)
    have HY13 := Lib.hid (HXC.out.hp HY8.out)
    have t13 := cellOf HY13.out 0
    simp only [List.getElem?_toArray, List.getElem?_cons_zero] at t13
    go_wp2_with fail
    refine (HCP.out _ HE13.out HLO.out HWN.out).mono ?_
    rintro e w14 ⟨rfl, hX14⟩
    have HE14 := Lib.hid (HE13.out.trans' hX14)
    have HY14 := Lib.hid (hX14.hp HY13.out)
    have t14 := cellOf HY14.out 0
    simp only [List.getElem?_toArray, List.getElem?_cons_zero] at t14
    have HXX14 := Lib.hid hX14
    clear hX14 t13
    by_cases hE : E = 0
    case neg =>
      have hK : K = 0 := HKZ.out hE
      subst hK
      have dE : (E != 0) = true := by simp [hE]
      clear hE
      go_wp2
      go_ret
      exact ⟨rfl, HE14.out⟩
    case pos =>
    subst hE
    obtain ⟨k, hk, hwv⟩ := wave_of HHB.out HDT.out HCE.out
    have hKk : (k : Int) = K := hk.symm.trans HKK.out
    subst hKk
    have HWV := Lib.hid hwv
    have hk1 := hwv.one
    have hkl : k < wl := by have := hwv.lt; rw [HWL.out] at this; exact this
    have dk1 : decide ((k : Int) < 1) = false := decide_eq_false (by omega)
    have dk2 : decide ((wl : Int) ≤ (k : Int)) = false := decide_eq_false (by omega)
    have hk1p : ¬ (k : Int) < 1 := by omega
    have hk2p : ¬ (wl : Int) ≤ (k : Int) := by omega
    have hltz : (k : Int) < (wl : Int) := by omega
    have hkz : (0 : Int) ≤ (k : Int) := by omega
    obtain ⟨j, hj⟩ : ∃ j : Nat, k = j + 1 := ⟨k - 1, by omega⟩
    have e3 : (k : Int) - 1 = (j : Int) := by omega
    have hjz : (0 : Int) ≤ (j : Int) := by omega
    have hjm : (j : Int) < (wl : Int) := by omega
    have hwj : IntKind.i64.wrap (j : Int) = (j : Int) := IntWalk.i64_in _ (by omega)
    have hkj : k - 1 = j := by omega
    obtain ⟨rb, ro, a0, c0, rfl, hr0, hi0⟩ := wave_at HW.out j (by rw [HWL.out]; omega)
    obtain ⟨rb', ro', a1, c1, hre, hr1, hi1⟩ := wave_at HW.out k (by rw [HWL.out]; omega)
    simp only [Option.some.injEq, Addr.mk.injEq, and_true] at hre
    obtain ⟨rfl, rfl⟩ := hre
    have hR0 := hwv.r0
    have hLO := hwv.lo
    have hMD := hwv.mid
    rw [hkj] at hR0 hLO hMD
    have HR0 := Lib.hid hR0
    have HR1 := Lib.hid hwv.r1
    have HLW := Lib.hid hLO
    have HHW := Lib.hid hwv.hi
    have HMD := Lib.hid hMD
    have r0 := HE14.out.cl hr0
    have r1 := HE14.out.cl hr1
    have HI0 := Lib.hid hi0
    have HI1 := Lib.hid hi1
    rw [HR0.out.1, HTN.out] at r0
    rw [HR1.out.1, HTN.out] at r1
    rw [HR0.out.1, HTN.out] at HI0
    rw [HR1.out.1, HTN.out] at HI1
    have htn8 := HLO.out.1
    rw [HTN.out] at htn8
    have hP0 : repE t ws[j]! = 0 := by unfold repE; rw [HVB.out, show fitsB t ws[j]! = true from decide_eq_true HR0.out.1, HR0.out.2]; rfl
    have hP1 : repE t ws[k]! = 0 := by unfold repE; rw [HVB.out, show fitsB t ws[k]! = true from decide_eq_true HR1.out.1, HR1.out.2]; rfl
    have HCJ := Lib.hid (fun W (hW : Ext w W) => HCLO.out W hW HLO.out _ _ (HI0.out.ext hW) (by rw [HR0.out.1, HTN.out]; exact htn8))
    have HOK := Lib.hid (fun W (hW : Ext w W) => HOPN.out W hW HLO.out _ _ (HI1.out.ext hW) (by rw [HR1.out.1, HTN.out]; exact htn8))
    rw [hP0, if_pos rfl] at HCJ
    rw [hP1, if_pos rfl] at HOK
    have HCN2 : Hid ((closeC t ws[j]!).length = tn) := Lib.hid (by obtain ⟨_, hf⟩ := closeC_fix HR0.out; rw [(up_least hf HR0.out).1.1.1]; exact HTN.out)
    have HON2 : Hid ((openC t ws[k]!).length = tn) := Lib.hid (by obtain ⟨_, hf⟩ := openC_fix HR1.out; rw [(dn_greatest hf HR1.out).1.1.1]; exact HTN.out)
    generalize closeC t ws[j]! = cj at *
    generalize openC t ws[k]! = oj at *
    clear hr0 hr1 hi0 hi1 hj hkj hR0 hLO hMD hwv hk hP0 hP1
    go_wp2
    have HT0 := Lib.hid (show Ext w w14.drew from HE14.out.dr)
    have z0a := (show Ext w14 w14.drew from (Ext.rf w14).dr).cl t14
    have z0b := (show Ext w14 w14.drew from (Ext.rf w14).dr).cl r0
    have z0c := (show Ext w14 w14.drew from (Ext.rf w14).dr).cl r1
    have HY30 := Lib.hid ((show Ext w14 w14.drew from (Ext.rf w14).dr).hp HY14.out)
    refine wp_region_tails (fun w' => w'.cell? ⟨w.heap.size, 0, none⟩ = some (.slice ta tn tc) ∧ w'.cell? ⟨rb, ro + j, none⟩ = some (.slice a0 tn c0) ∧ w'.cell? ⟨rb, ro + k, none⟩ = some (.slice a1 tn c1)) [] (by kernel_rfl) ⟨z0a, z0b, z0c⟩ (fun hHeld => ?_)
    generalize w14.drew = wT at *
    refine wpAnyU_take (i := 0) (d := some 165) (v := ?_) rfl rfl (by kernel_rfl) (by kernel_rfl) (by kernel_rfl) (by kernel_rfl) (fun _ _ _ h => h) (Or.inl ⟨by rfl, ?_⟩) (by assumption) ?_
    rotate_left
    · (intro w hSw; (try dsimp only at hSw); go_simp; try (with_reducible rfl))
    try simp only [Act.put]
    try simp only [List.setIfInBounds_toArray]
    try simp only [List.set_cons_zero, List.set_cons_succ]
    refine wpAnyU_take (i := 1) (d := some 166) (v := ?_) rfl rfl (by kernel_rfl) (by kernel_rfl) (by kernel_rfl) (by kernel_rfl) (fun _ _ _ h => h) (Or.inl ⟨by rfl, ?_⟩) (by assumption) ?_
    rotate_left
    · (intro w hSw; (try dsimp only at hSw); go_simp; try (with_reducible rfl))
    try simp only [Act.put]
    try simp only [List.setIfInBounds_toArray]
    try simp only [List.set_cons_zero, List.set_cons_succ]
    refine wpAnyU_take (i := 2) (d := some 167) (v := ?_) rfl rfl (by kernel_rfl) (by kernel_rfl) (by kernel_rfl) (by kernel_rfl) (fun _ _ _ h => h) (Or.inl ⟨by rfl, ?_⟩) (by assumption) ?_
    rotate_left
    · (intro w hSw; (try dsimp only at hSw); go_simp; try (with_reducible rfl))
    try simp only [Act.put]
    try simp only [List.setIfInBounds_toArray]
    try simp only [List.set_cons_zero, List.set_cons_succ]
    refine wpAnyU_take (i := 3) (d := some 168) (v := ?_) rfl rfl (by kernel_rfl) (by kernel_rfl) (by kernel_rfl) (by kernel_rfl) (fun _ _ _ h => h) (Or.inl ⟨by rfl, ?_⟩) (by assumption) ?_
    rotate_left
    · (intro w hSw; (try dsimp only at hSw); go_simp; try (with_reducible rfl))
    try simp only [Act.put]
    try simp only [List.setIfInBounds_toArray]
    try simp only [List.set_cons_zero, List.set_cons_succ]
    refine wpAnyU_take (i := 4) (d := some 169) (v := ?_) rfl rfl (by kernel_rfl) (by kernel_rfl) (by kernel_rfl) (by kernel_rfl) (fun _ _ _ h => h) (Or.inl ⟨by rfl, ?_⟩) (by assumption) ?_
    rotate_left
    · (intro w hSw; (try dsimp only at hSw); go_simp; try (with_reducible rfl))
    try simp only [Act.put]
    try simp only [List.setIfInBounds_toArray]
    try simp only [List.set_cons_zero, List.set_cons_succ]
    refine wpAnyU_take (i := 5) (d := some 170) (v := ?_) rfl rfl (by kernel_rfl) (by kernel_rfl) (by kernel_rfl) (by kernel_rfl) (fun _ _ _ h => h) (Or.inl ⟨by rfl, ?_⟩) (by assumption) ?_
    rotate_left
    · (intro w hSw; (try dsimp only at hSw); go_simp; try (with_reducible rfl))
    try simp only [Act.put]
    try simp only [List.setIfInBounds_toArray]
    try simp only [List.set_cons_zero, List.set_cons_succ]
    refine wpAnyU_step (i := 6) (by kernel_rfl) rfl (fun K hK => ?_)
    refine step_callW (by kernel_rfl) 21 _ _ rfl enters_21 [.agg #[.slice ta tn tc], .slice a0 tn c0] (by first | rfl | kernel_rfl | go_simp) (HCJ.out _ HT0.out) ?_
    rintro e y1 ⟨u, rfl, hRU, hX⟩
    refine ⟨_, rfl, ?_⟩
    have HIU := Lib.hid hRU.ints
    rw [HCN2.out] at hRU
    obtain ⟨au, cu, rfl, _⟩ := hRU.any
    have HT1 := Lib.hid (HT0.out.trans' hX)
    have HY31 := Lib.hid (hX.hp HY30.out)
    have z1a := hX.cl z0a
    have z1b := hX.cl z0b
    have z1c := hX.cl z0c
    clear hX hRU z0a z0b z0c t14 r0 r1
    refine hK.out _ _ ?_ (fun hHeld => ?_)
    · (try dsimp only)
      exact ⟨z1a, z1b, z1c⟩
    clear hK K
    try simp only [List.getElem_toArray, List.getElem_cons_zero, List.getElem_cons_succ]
    try simp only [Act.put]
    try simp only [List.setIfInBounds_toArray]
    try simp only [List.set_cons_zero, List.set_cons_succ]
    refine wpAnyU_take (i := 7) (d := some 164) (v := ?_) rfl rfl (by kernel_rfl) (by kernel_rfl) (by kernel_rfl) (by kernel_rfl) (fun _ _ _ h => h) (Or.inl ⟨by rfl, ?_⟩) (by assumption) ?_
    rotate_left
    · (intro w hSw; (try dsimp only at hSw); go_simp; try (with_reducible rfl))
    try simp only [Act.put]
    try simp only [List.setIfInBounds_toArray]
    try simp only [List.set_cons_zero, List.set_cons_succ]
    refine wpAnyU_take (i := 8) (d := some 172) (v := ?_) rfl rfl (by kernel_rfl) (by kernel_rfl) (by kernel_rfl) (by kernel_rfl) (fun _ _ _ h => h) (Or.inl ⟨by rfl, ?_⟩) (by assumption) ?_
    rotate_left
    · (intro w hSw; (try dsimp only at hSw); go_simp; try (with_reducible rfl))
    try simp only [Act.put]
    try simp only [List.setIfInBounds_toArray]
    try simp only [List.set_cons_zero, List.set_cons_succ]
    refine wpAnyU_take (i := 9) (d := some 173) (v := ?_) rfl rfl (by kernel_rfl) (by kernel_rfl) (by kernel_rfl) (by kernel_rfl) (fun _ _ _ h => h) (Or.inl ⟨by rfl, ?_⟩) (by assumption) ?_
    rotate_left
    · (intro w hSw; (try dsimp only at hSw); go_simp; try (with_reducible rfl))
    try simp only [Act.put]
    try simp only [List.setIfInBounds_toArray]
    try simp only [List.set_cons_zero, List.set_cons_succ]
    refine wpAnyU_take (i := 10) (d := some 27) (v := ?_) rfl rfl (by kernel_rfl) (by kernel_rfl) (by kernel_rfl) (by kernel_rfl) (fun _ _ _ h => h) (Or.inl ⟨by rfl, ?_⟩) (by assumption) ?_
    rotate_left
    · (intro w hSw; (try dsimp only at hSw); go_simp; try (with_reducible rfl))
    try simp only [Act.put]
    try simp only [List.setIfInBounds_toArray]
    try simp only [List.set_cons_zero, List.set_cons_succ]
    refine wpAnyU_take (i := 11) (d := some 28) (v := ?_) rfl rfl (by kernel_rfl) (by kernel_rfl) (by kernel_rfl) (by kernel_rfl) (fun _ _ _ h => h) (Or.inl ⟨by rfl, ?_⟩) (by assumption) ?_
    rotate_left
    · (intro w hSw; (try dsimp only at hSw); go_simp; try (with_reducible rfl))
    try simp only [Act.put]
    try simp only [List.setIfInBounds_toArray]
    try simp only [List.set_cons_zero, List.set_cons_succ]
    refine wpAnyU_done (by kernel_rfl) ?_
    go_wp2
    have HT2 := Lib.hid (show Ext w y1.drew from HT1.out.dr)
    have HIU2 := Lib.hid (HIU.out.ext (show Ext y1 y1.drew from (Ext.rf y1).dr))
    have HY32 := Lib.hid ((show Ext y1 y1.drew from (Ext.rf y1).dr).hp HY31.out)
    have z2a := (show Ext y1 y1.drew from (Ext.rf y1).dr).cl z1a
    have z2b := (show Ext y1 y1.drew from (Ext.rf y1).dr).cl z1b
    have z2c := (show Ext y1 y1.drew from (Ext.rf y1).dr).cl z1c
    refine wp_region_tails (fun w' => w'.cell? ⟨w.heap.size, 0, none⟩ = some (.slice ta tn tc) ∧ w'.cell? ⟨rb, ro + j, none⟩ = some (.slice a0 tn c0) ∧ w'.cell? ⟨rb, ro + k, none⟩ = some (.slice a1 tn c1)) [] (by kernel_rfl) ⟨z2a, z2b, z2c⟩ (fun hHeld => ?_)
    generalize y1.drew = wT2 at *
    refine wpAnyU_take (i := 0) (d := some 175) (v := ?_) rfl rfl (by kernel_rfl) (by kernel_rfl) (by kernel_rfl) (by kernel_rfl) (fun _ _ _ h => h) (Or.inl ⟨by rfl, ?_⟩) (by assumption) ?_
    rotate_left
    · (intro w hSw; (try dsimp only at hSw); go_simp; try (with_reducible rfl))
    try simp only [Act.put]
    try simp only [List.setIfInBounds_toArray]
    try simp only [List.set_cons_zero, List.set_cons_succ]
    refine wpAnyU_take (i := 1) (d := some 176) (v := ?_) rfl rfl (by kernel_rfl) (by kernel_rfl) (by kernel_rfl) (by kernel_rfl) (fun _ _ _ h => h) (Or.inl ⟨by rfl, ?_⟩) (by assumption) ?_
    rotate_left
    · (intro w hSw; (try dsimp only at hSw); go_simp; try (with_reducible rfl))
    try simp only [Act.put]
    try simp only [List.setIfInBounds_toArray]
    try simp only [List.set_cons_zero, List.set_cons_succ]
    refine wpAnyU_take (i := 2) (d := some 177) (v := ?_) rfl rfl (by kernel_rfl) (by kernel_rfl) (by kernel_rfl) (by kernel_rfl) (fun _ _ _ h => h) (Or.inl ⟨by rfl, ?_⟩) (by assumption) ?_
    rotate_left
    · (intro w hSw; (try dsimp only at hSw); go_simp; try (with_reducible rfl))
    try simp only [Act.put]
    try simp only [List.setIfInBounds_toArray]
    try simp only [List.set_cons_zero, List.set_cons_succ]
    refine wpAnyU_take (i := 3) (d := some 178) (v := ?_) rfl rfl (by kernel_rfl) (by kernel_rfl) (by kernel_rfl) (by kernel_rfl) (fun _ _ _ h => h) (Or.inl ⟨by rfl, ?_⟩) (by assumption) ?_
    rotate_left
    · (intro w hSw; (try dsimp only at hSw); go_simp; try (with_reducible rfl))
    try simp only [Act.put]
    try simp only [List.setIfInBounds_toArray]
    try simp only [List.set_cons_zero, List.set_cons_succ]
    refine wpAnyU_take (i := 4) (d := some 179) (v := ?_) rfl rfl (by kernel_rfl) (by kernel_rfl) (by kernel_rfl) (by kernel_rfl) (fun _ _ _ h => h) (Or.inl ⟨by rfl, ?_⟩) (by assumption) ?_
    rotate_left
    · (intro w hSw; (try dsimp only at hSw); go_simp; try (with_reducible rfl))
    try simp only [Act.put]
    try simp only [List.setIfInBounds_toArray]
    try simp only [List.set_cons_zero, List.set_cons_succ]
    refine wpAnyU_step (i := 5) (by kernel_rfl) rfl (fun K hK => ?_)
    refine step_callW (by kernel_rfl) 22 _ _ rfl enters_22 [.agg #[.slice ta tn tc], .slice a1 tn c1] (by first | rfl | kernel_rfl | go_simp) (HOK.out _ HT2.out) ?_
    rintro e y2 ⟨u, rfl, hRU, hX⟩
    refine ⟨_, rfl, ?_⟩
    have HOU := Lib.hid hRU.ints
    rw [HON2.out] at hRU
    obtain ⟨ao, co, rfl, _⟩ := hRU.any
    have HT3 := Lib.hid (HT2.out.trans' hX)
    have HIU3 := Lib.hid (HIU2.out.ext hX)
    have HY33 := Lib.hid (hX.hp HY32.out)
    have z3a := hX.cl z2a
    have z3b := hX.cl z2b
    have z3c := hX.cl z2c
    clear hX hRU z1a z1b z1c z2a z2b z2c
    refine hK.out _ _ ?_ (fun hHeld => ?_)
    · (try dsimp only)
      exact ⟨z3a, z3b, z3c⟩
    clear hK K
    try simp only [List.getElem_toArray, List.getElem_cons_zero, List.getElem_cons_succ]
    try simp only [Act.put]
    try simp only [List.setIfInBounds_toArray]
    try simp only [List.set_cons_zero, List.set_cons_succ]
    refine wpAnyU_take (i := 6) (d := some 174) (v := ?_) rfl rfl (by kernel_rfl) (by kernel_rfl) (by kernel_rfl) (by kernel_rfl) (fun _ _ _ h => h) (Or.inl ⟨by rfl, ?_⟩) (by assumption) ?_
    rotate_left
    · (intro w hSw; (try dsimp only at hSw); go_simp; try (with_reducible rfl))
    try simp only [Act.put]
    try simp only [List.setIfInBounds_toArray]
    try simp only [List.set_cons_zero, List.set_cons_succ]
    refine wpAnyU_take (i := 7) (d := some 181) (v := ?_) rfl rfl (by kernel_rfl) (by kernel_rfl) (by kernel_rfl) (by kernel_rfl) (fun _ _ _ h => h) (Or.inl ⟨by rfl, ?_⟩) (by assumption) ?_
    rotate_left
    · (intro w hSw; (try dsimp only at hSw); go_simp; try (with_reducible rfl))
    try simp only [Act.put]
    try simp only [List.setIfInBounds_toArray]
    try simp only [List.set_cons_zero, List.set_cons_succ]
    refine wpAnyU_take (i := 8) (d := some 182) (v := ?_) rfl rfl (by kernel_rfl) (by kernel_rfl) (by kernel_rfl) (by kernel_rfl) (fun _ _ _ h => h) (Or.inl ⟨by rfl, ?_⟩) (by assumption) ?_
    rotate_left
    · (intro w hSw; (try dsimp only at hSw); go_simp; try (with_reducible rfl))
    try simp only [Act.put]
    try simp only [List.setIfInBounds_toArray]
    try simp only [List.set_cons_zero, List.set_cons_succ]
    refine wpAnyU_take (i := 9) (d := some 29) (v := ?_) rfl rfl (by kernel_rfl) (by kernel_rfl) (by kernel_rfl) (by kernel_rfl) (fun _ _ _ h => h) (Or.inl ⟨by rfl, ?_⟩) (by assumption) ?_
    rotate_left
    · (intro w hSw; (try dsimp only at hSw); go_simp; try (with_reducible rfl))
    try simp only [Act.put]
    try simp only [List.setIfInBounds_toArray]
    try simp only [List.set_cons_zero, List.set_cons_succ]
    refine wpAnyU_take (i := 10) (d := some 30) (v := ?_) rfl rfl (by kernel_rfl) (by kernel_rfl) (by kernel_rfl) (by kernel_rfl) (fun _ _ _ h => h) (Or.inl ⟨by rfl, ?_⟩) (by assumption) ?_
    rotate_left
    · (intro w hSw; (try dsimp only at hSw); go_simp; try (with_reducible rfl))
    try simp only [Act.put]
    try simp only [List.setIfInBounds_toArray]
    try simp only [List.set_cons_zero, List.set_cons_succ]
    refine wpAnyU_done (by kernel_rfl) ?_
    clear dk1 dk2 hk1p hk2p
    obtain ⟨i2, hi2, iz0, iz1, iz2⟩ := info_parts info_st51
    have HX40 := Lib.hid ((Ext.rf y2).al (.cells #[.slice au tn cu, .slice ao tn co] 25))
    have HB40 := Lib.hid (heap_alloc_new y2 (.cells #[.slice au tn cu, .slice ao tn co] 25))
    have HE40 := Lib.hid (HT3.out.trans' HX40.out)
    have HY40 := Lib.hid (HX40.out.hp HY33.out)
    have t40 := cellOf HY40.out 0
    simp only [List.getElem?_toArray, List.getElem?_cons_zero] at t40
    have HIL := Lib.hid (HIU3.out.ext HX40.out)
    have HIH := Lib.hid (HOU.out.ext HX40.out)
    have r40 := HX40.out.cl z3b
    have q40 := HX40.out.cl z3c
    have HIS2 := Lib.hid (fun W hW => HIS.out W hW (by trivial))
    obtain ⟨b1, hb1⟩ : ∃ b, consB t c = b := ⟨_, rfl⟩
    have HC1 := Lib.hid hb1
    rw [hb1] at HIS2
    clear hb1 z3a z3b z3c
    go_wp2_with fail
    refine (HIS2.out _ HE40.out).mono ?_
    rintro e w41 ⟨rfl, hX41⟩
    have HE41 := Lib.hid (HE40.out.trans' hX41)
    have HY41 := Lib.hid (hX41.hp HY40.out)
    have t41 := cellOf HY41.out 0
    simp only [List.getElem?_toArray, List.getElem?_cons_zero] at t41
    have HXX41 := Lib.hid hX41
    clear hX41 t40
    have r41 := HXX41.out.cl r40
    have q41 := HXX41.out.cl q40
    have HB41 := Lib.hid (HXX41.out.hp HB40.out)
    clear r40 q40
    cases b1 with
    | false =>
      clear r41 q41
      have HXS := Lib.hid (rows_two HB41.out (HIL.out.ext HXX41.out) (HIH.out.ext HXX41.out))
      have HXD : Hid (∀ i, i < 2 → Done t s (([cj, oj] : List (List Int))[i]!)) := Lib.hid (done_two HLW.out HHW.out)
      have HXL : Hid (([cj, oj] : List (List Int)).length = 2) := Lib.hid rfl
      obtain ⟨xs, hxs⟩ : ∃ x : List (List Int), [cj, oj] = x := ⟨_, rfl⟩
      rw [hxs] at HXS HXD HXL
      clear hxs
      go_wp2
      clear t41
      go_loopg [218] 2 (fun g s218 wr => ∃ i : Nat, i ≤ 2 ∧ 2 - i ≤ g ∧ s218 = .int .i64 i ∧ Aside (Ext w41 wr))
      case atStart => exact ⟨0, Nat.zero_le _, by omega, rfl, Ext.rf _⟩
      case round =>
        obtain ⟨i, hi, hgi, rfl, HEK⟩ := hrel
        by_cases hlt : i < 2
        case neg =>
          have hltz : ¬ (i : Int) < 2 := by omega
          go_wp2
          go_ret
          exact ⟨rfl, HE41.out.trans' HEK.out⟩
        case pos =>
          have hltz : (i : Int) < 2 := by omega
          have hiz : (0 : Int) ≤ (i : Int) := by omega
          have HE50 := Lib.hid (HE41.out.trans' HEK.out)
          have HY50 := Lib.hid (HEK.out.hp HY41.out)
          have t50 := cellOf HY50.out 0
          simp only [List.getElem?_toArray, List.getElem?_cons_zero] at t50
          obtain ⟨gb5, go5, sv, sc, hrr, hr5, hi5⟩ := wave_at HXS.out i (by rw [HXL.out]; exact hlt)
          simp only [Option.some.injEq, Addr.mk.injEq, and_true] at hrr
          obtain ⟨rfl, rfl⟩ := hrr
          have r5 := HEK.out.cl hr5
          have r6 := r5
          try simp only [Nat.zero_add] at r6
          have HDX := Lib.hid (HXD.out i hlt)
          have HTJ := Lib.hid (HTU.out wr HE50.out HLO.out _ _ (hi5.ext HEK.out))
          rw [HDX.out.1, HDX.out.2] at HTJ
          generalize xs[i]!.length = xl at *
          clear hr5 hi5
          go_wp2_with fail
          refine (HTJ.out).mono ?_
          rintro e w51 ⟨rfl, hX51⟩
          have HE51 := Lib.hid (HE50.out.trans' hX51)
          have HY51 := Lib.hid (hX51.hp HY50.out)
          have t51 := cellOf HY51.out 0
          simp only [List.getElem?_toArray, List.getElem?_cons_zero] at t51
          have HXX51 := Lib.hid hX51
          clear hX51 t50
          go_wp2
          go_roundg (2 - (i + 1))
          case measure => omega
          case rel => exact ⟨i + 1, hlt, Nat.le_refl _, by go_num, (show Ext _ _ from HEK.out.trans' HXX51.out)⟩
    | true =>
    have HCC := Lib.hid (consB_iff.1 HC1.out).2
    have HLN : Hid (c.length = t.length) := Lib.hid HCC.out.1.1
    have HQ0 := Lib.hid (fun W (hW : Ext w W) => leq15_calls (.slice a0 tn c0) (.slice ca cl cc) ws[j]! c W (HI0.out.ext hW) (HC.out.ext hW) (by rw [HR0.out.1, HLN.out]) (by rw [HR0.out.1, HTN.out]; omega))
    obtain ⟨b2, hb2⟩ : ∃ b, leCB ws[j]! c = b := ⟨_, rfl⟩
    have HC2 := Lib.hid hb2
    rw [hb2] at HQ0
    clear hb2
    go_wp2_with fail
    refine (HQ0.out _ HE41.out).mono ?_
    rintro e w42 ⟨rfl, hX42⟩
    have HE42 := Lib.hid (HE41.out.trans' hX42)
    have HY42 := Lib.hid (hX42.hp HY41.out)
    have t42 := cellOf HY42.out 0
    simp only [List.getElem?_toArray, List.getElem?_cons_zero] at t42
    have HXX42 := Lib.hid hX42
    clear hX42 t41
    have q42 := HXX42.out.cl q41
    have HB42 := Lib.hid (HXX42.out.hp HB41.out)
    clear r41 q41
    cases b2 with
    | false =>
      clear q42
      have HXS := Lib.hid (rows_two HB42.out (HIL.out.ext (HXX41.out.trans' HXX42.out)) (HIH.out.ext (HXX41.out.trans' HXX42.out)))
      have HXD : Hid (∀ i, i < 2 → Done t s (([cj, oj] : List (List Int))[i]!)) := Lib.hid (done_two HLW.out HHW.out)
      have HXL : Hid (([cj, oj] : List (List Int)).length = 2) := Lib.hid rfl
      obtain ⟨xs, hxs⟩ : ∃ x : List (List Int), [cj, oj] = x := ⟨_, rfl⟩
      rw [hxs] at HXS HXD HXL
      clear hxs
      go_wp2
      clear t42
      go_loopg [218] 2 (fun g s218 wr => ∃ i : Nat, i ≤ 2 ∧ 2 - i ≤ g ∧ s218 = .int .i64 i ∧ Aside (Ext w42 wr))
      case atStart => exact ⟨0, Nat.zero_le _, by omega, rfl, Ext.rf _⟩
      case round =>
        obtain ⟨i, hi, hgi, rfl, HEK⟩ := hrel
        by_cases hlt : i < 2
        case neg =>
          have hltz : ¬ (i : Int) < 2 := by omega
          go_wp2
          go_ret
          exact ⟨rfl, HE42.out.trans' HEK.out⟩
        case pos =>
          have hltz : (i : Int) < 2 := by omega
          have hiz : (0 : Int) ≤ (i : Int) := by omega
          have HE50 := Lib.hid (HE42.out.trans' HEK.out)
          have HY50 := Lib.hid (HEK.out.hp HY42.out)
          have t50 := cellOf HY50.out 0
          simp only [List.getElem?_toArray, List.getElem?_cons_zero] at t50
          obtain ⟨gb5, go5, sv, sc, hrr, hr5, hi5⟩ := wave_at HXS.out i (by rw [HXL.out]; exact hlt)
          simp only [Option.some.injEq, Addr.mk.injEq, and_true] at hrr
          obtain ⟨rfl, rfl⟩ := hrr
          have r5 := HEK.out.cl hr5
          have r6 := r5
          try simp only [Nat.zero_add] at r6
          have HDX := Lib.hid (HXD.out i hlt)
          have HTJ := Lib.hid (HTU.out wr HE50.out HLO.out _ _ (hi5.ext HEK.out))
          rw [HDX.out.1, HDX.out.2] at HTJ
          generalize xs[i]!.length = xl at *
          clear hr5 hi5
          go_wp2_with fail
          refine (HTJ.out).mono ?_
          rintro e w51 ⟨rfl, hX51⟩
          have HE51 := Lib.hid (HE50.out.trans' hX51)
          have HY51 := Lib.hid (hX51.hp HY50.out)
          have t51 := cellOf HY51.out 0
          simp only [List.getElem?_toArray, List.getElem?_cons_zero] at t51
          have HXX51 := Lib.hid hX51
          clear hX51 t50
          go_wp2
          go_roundg (2 - (i + 1))
          case measure => omega
          case rel => exact ⟨i + 1, hlt, Nat.le_refl _, by go_num, (show Ext _ _ from HEK.out.trans' HXX51.out)⟩
    | true =>
    have HQ1 := Lib.hid (fun W (hW : Ext w W) => leq15_calls (.slice ca cl cc) (.slice a1 tn c1) c ws[k]! W (HC.out.ext hW) (HI1.out.ext hW) (by rw [HR1.out.1, HLN.out]) (by rw [HLN.out, HTN.out]; omega))
    obtain ⟨b3, hb3⟩ : ∃ b, leCB c ws[k]! = b := ⟨_, rfl⟩
    have HC3 := Lib.hid hb3
    rw [hb3] at HQ1
    clear hb3
    go_wp2_with fail
    refine (HQ1.out _ HE42.out).mono ?_
    rintro e w43 ⟨rfl, hX43⟩
    have HE43 := Lib.hid (HE42.out.trans' hX43)
    have HY43 := Lib.hid (hX43.hp HY42.out)
    have t43 := cellOf HY43.out 0
    simp only [List.getElem?_toArray, List.getElem?_cons_zero] at t43
    have HXX43 := Lib.hid hX43
    clear hX43 t42
    have HB43 := Lib.hid (HXX43.out.hp HB42.out)
    clear q42
    cases b3 with
    | false =>
      have HXS := Lib.hid (rows_two HB43.out (HIL.out.ext (HXX41.out.trans' (HXX42.out.trans' HXX43.out))) (HIH.out.ext (HXX41.out.trans' (HXX42.out.trans' HXX43.out))))
      have HXD : Hid (∀ i, i < 2 → Done t s (([cj, oj] : List (List Int))[i]!)) := Lib.hid (done_two HLW.out HHW.out)
      have HXL : Hid (([cj, oj] : List (List Int)).length = 2) := Lib.hid rfl
      obtain ⟨xs, hxs⟩ : ∃ x : List (List Int), [cj, oj] = x := ⟨_, rfl⟩
      rw [hxs] at HXS HXD HXL
      clear hxs
      go_wp2
      clear t43
      go_loopg [218] 2 (fun g s218 wr => ∃ i : Nat, i ≤ 2 ∧ 2 - i ≤ g ∧ s218 = .int .i64 i ∧ Aside (Ext w43 wr))
      case atStart => exact ⟨0, Nat.zero_le _, by omega, rfl, Ext.rf _⟩
      case round =>
        obtain ⟨i, hi, hgi, rfl, HEK⟩ := hrel
        by_cases hlt : i < 2
        case neg =>
          have hltz : ¬ (i : Int) < 2 := by omega
          go_wp2
          go_ret
          exact ⟨rfl, HE43.out.trans' HEK.out⟩
        case pos =>
          have hltz : (i : Int) < 2 := by omega
          have hiz : (0 : Int) ≤ (i : Int) := by omega
          have HE50 := Lib.hid (HE43.out.trans' HEK.out)
          have HY50 := Lib.hid (HEK.out.hp HY43.out)
          have t50 := cellOf HY50.out 0
          simp only [List.getElem?_toArray, List.getElem?_cons_zero] at t50
          obtain ⟨gb5, go5, sv, sc, hrr, hr5, hi5⟩ := wave_at HXS.out i (by rw [HXL.out]; exact hlt)
          simp only [Option.some.injEq, Addr.mk.injEq, and_true] at hrr
          obtain ⟨rfl, rfl⟩ := hrr
          have r5 := HEK.out.cl hr5
          have r6 := r5
          try simp only [Nat.zero_add] at r6
          have HDX := Lib.hid (HXD.out i hlt)
          have HTJ := Lib.hid (HTU.out wr HE50.out HLO.out _ _ (hi5.ext HEK.out))
          rw [HDX.out.1, HDX.out.2] at HTJ
          generalize xs[i]!.length = xl at *
          clear hr5 hi5
          go_wp2_with fail
          refine (HTJ.out).mono ?_
          rintro e w51 ⟨rfl, hX51⟩
          have HE51 := Lib.hid (HE50.out.trans' hX51)
          have HY51 := Lib.hid (hX51.hp HY50.out)
          have t51 := cellOf HY51.out 0
          simp only [List.getElem?_toArray, List.getElem?_cons_zero] at t51
          have HXX51 := Lib.hid hX51
          clear hX51 t50
          go_wp2
          go_roundg (2 - (i + 1))
          case measure => omega
          case rel => exact ⟨i + 1, hlt, Nat.le_refl _, by go_num, (show Ext _ _ from HEK.out.trans' HXX51.out)⟩
    | true =>
    have HDX3 : Hid (Done t s c) := Lib.hid (HMD.out c HCC.out (leCB_iff.1 HC2.out).2 (leCB_iff.1 HC3.out).2)
    have HEY := Lib.hid (HX40.out.trans' (HXX41.out.trans' (HXX42.out.trans' HXX43.out)))
    have HR43 : Hid (Row w43 y2.heap.size 25 1 (.slice (some ⟨y2.heap.size, 0, none⟩) 2 2) 2 [.slice au tn cu, .slice ao tn co]) := Lib.hid ⟨rfl, .inr ⟨_, 0, 2, _, rfl, Nat.le_refl _, HB43.out, Nat.le_refl _, by decide, by simp, rfl⟩⟩
    have hsz43 : y2.heap.size ≤ w43.heap.size := HEY.out.sz
    go_wp2_with ((at_builtin; go_loud (refine wpList_append_one rfl _ _ 26 rfl y2.heap.size 25 i2 (.slice none 0 0) 1 24 Tryz.underlying26 hi2 iz0 iz1 iz2 rfl (by decide) _ 2 [.slice au tn cu, .slice ao tn co] rfl (HR43.out.al _) w43.heap.size 1 [.slice ca cl cc] rfl rfl ⟨_, heap_alloc_new _ _⟩ (by simp [Value.oneCell']) (by unfold maxLen; omega) (by omega) (by simp; omega) ?_; intro v44 w44 hown44 hgrow44 hblk44; have hown45 : Row w44 y2.heap.size 25 1 v44 3 [.slice au tn cu, .slice ao tn co, .slice ca cl cc] := hown44; clear hown44; obtain ⟨g8, o8, c8, rfl, hb8, hlt8, hmc8⟩ := hown45.shape (by omega); have hG8 : (w43.alloc (.cells #[.slice ca cl cc] 25)).grownBy w44 (Value.slice (some ⟨y2.heap.size, 0, none⟩) 2 2).ownBlock := hgrow44; have HEX := Lib.hid (show Ext y2 w44 from (HEY.out.al (.cells #[.slice ca cl cc] 25)).gr hG8 (fun q hq => (HR43.out.lt q hq).1)); have HE44 := Lib.hid (HT3.out.trans' HEX.out); have HY44 := Lib.hid (HEX.out.hp HY33.out); have t44 := cellOf HY44.out 0; simp only [List.getElem?_toArray, List.getElem?_cons_zero] at t44; have HXS := Lib.hid (rows3 hown45.cells (HIU3.out.ext HEX.out) (HOU.out.ext HEX.out) (HC.out.ext HE44.out)); clear hown45 hgrow44 hblk44 hG8 t43)))
    have HXD : Hid (∀ i, i < 3 → Done t s (([cj, oj, c] : List (List Int))[i]!)) := Lib.hid (done_three HLW.out HHW.out HDX3.out)
    have HXL : Hid (([cj, oj, c] : List (List Int)).length = 3) := Lib.hid rfl
    obtain ⟨xs, hxs⟩ : ∃ x : List (List Int), [cj, oj, c] = x := ⟨_, rfl⟩
    rw [hxs] at HXS HXD HXL
    clear hxs
    go_wp2
    clear t44
    go_loopg [218] 3 (fun g s218 wr => ∃ i : Nat, i ≤ 3 ∧ 3 - i ≤ g ∧ s218 = .int .i64 i ∧ Aside (Ext w44 wr))
    case atStart => exact ⟨0, Nat.zero_le _, by omega, rfl, Ext.rf _⟩
    case round =>
      obtain ⟨i, hi, hgi, rfl, HEK⟩ := hrel
      by_cases hlt : i < 3
      case neg =>
        have hltz : ¬ (i : Int) < 3 := by omega
        go_wp2
        go_ret
        exact ⟨rfl, HE44.out.trans' HEK.out⟩
      case pos =>
        have hltz : (i : Int) < 3 := by omega
        have hiz : (0 : Int) ≤ (i : Int) := by omega
        have HE50 := Lib.hid (HE44.out.trans' HEK.out)
        have HY50 := Lib.hid (HEK.out.hp HY44.out)
        have t50 := cellOf HY50.out 0
        simp only [List.getElem?_toArray, List.getElem?_cons_zero] at t50
        obtain ⟨gb5, go5, sv, sc, hrr, hr5, hi5⟩ := wave_at HXS.out i (by rw [HXL.out]; exact hlt)
        simp only [Option.some.injEq, Addr.mk.injEq, and_true] at hrr
        obtain ⟨rfl, rfl⟩ := hrr
        have r5 := HEK.out.cl hr5
        have r6 := r5
        try simp only [Nat.zero_add] at r6
        have HDX := Lib.hid (HXD.out i hlt)
        have HTJ := Lib.hid (HTU.out wr HE50.out HLO.out _ _ (hi5.ext HEK.out))
        rw [HDX.out.1, HDX.out.2] at HTJ
        generalize xs[i]!.length = xl at *
        clear hr5 hi5
        go_wp2_with fail
        refine (HTJ.out).mono ?_
        rintro e w51 ⟨rfl, hX51⟩
        have HE51 := Lib.hid (HE50.out.trans' hX51)
        have HY51 := Lib.hid (hX51.hp HY50.out)
        have t51 := cellOf HY51.out 0
        simp only [List.getElem?_toArray, List.getElem?_cons_zero] at t51
        have HXX51 := Lib.hid hX51
        clear hX51 t50
        go_wp2
        go_roundg (3 - (i + 1))
        case measure => omega
        case rel => exact ⟨i + 1, hlt, Nat.le_refl _, by go_num, (show Ext _ _ from HEK.out.trans' HXX51.out)⟩
  case pos =>
    subst hP
    go_upto_if 83 with (fail)
    go_cut [] (fun wx => Aside (Ext w8 wx))
    case first =>
      cases TB with
      | false =>
        go_wp2
        go_meet
        exact (show Ext _ _ from Ext.rf _)
      | true =>
      have HDO := Lib.hid (HDN.out (by trivial) (by trivial))
      have HCO := Lib.hid ((done_iff HVB.out HHB.out).1 HDO.out).1
      have HG0 := Lib.hid ((givenE_one t c).2 (consB_iff.2 ⟨HVB.out, HCO.out⟩))
      have HJD := Lib.hid (fun hj => join_done (d := d) HVB.out HHB.out HDT.out HDO.out hj)
      have HAV := Lib.hid (fun q hq => adv_done (q := q) HVB.out HHB.out HDT.out HDO.out hq)
      have HE2 := Lib.hid (HEN.out)
      obtain ⟨ge, hge⟩ : ∃ E, givenE t [c, d] [] = E := ⟨_, rfl⟩
      rw [hge] at HJC HJD
      generalize hJ : (if ge = 0 then joinC c d else []) = J at *
      have HJJ := Lib.hid hJ
      clear hge hJ
      go_wp2_with fail
      refine (HJC.out _ HE8.out HLO.out).mono ?_
      rintro e w9 ⟨u9, rfl, hR9, hX9⟩
      obtain ⟨ua9, uc9, hu9, _⟩ := hR9.any
      subst hu9
      have HI9 := Lib.hid hR9.ints
      clear hR9
      have HE9 := Lib.hid (HE8.out.trans' hX9)
      have HY9 := Lib.hid (hX9.hp HY8.out)
      have t9 := cellOf HY9.out 0
      simp only [List.getElem?_toArray, List.getElem?_cons_zero] at t9
      have HXX9 := Lib.hid hX9
      clear hX9 t8
      go_upto_if 92 with (fail)
      go_cut [] (fun wx => Aside (Ext w9 wx))
      case first =>
        by_cases hg : ge = 0
        case neg =>
          have dg : (ge == 0) = false := by simp [hg]
          clear hg
          go_wp2
          go_meet
          exact (show Ext _ _ from Ext.rf _)
        case pos =>
          subst hg
          have hJ2 : joinC c d = J := HJJ.out
          subst hJ2
          have HDJ := Lib.hid (HJD.out rfl)
          have HTJ := Lib.hid (HTU.out w9 HE9.out HLO.out _ _ HI9.out)
          rw [HDJ.out.1, HDJ.out.2] at HTJ
          generalize (joinC c d).length = jl at *
          go_wp2_with fail
          refine (HTJ.out).mono ?_
          rintro e w10 ⟨rfl, hX10⟩
          have HE10 := Lib.hid (HE9.out.trans' hX10)
          have HY10 := Lib.hid (hX10.hp HY9.out)
          have t10 := cellOf HY10.out 0
          simp only [List.getElem?_toArray, List.getElem?_cons_zero] at t10
          have HXX10 := Lib.hid hX10
          clear hX10 t9
          go_wp2
          go_meet
          exact (show Ext _ _ from HXX10.out)
      case rest =>
        have HXD := Lib.hid hcut
        have HE11 := Lib.hid (HE9.out.trans' HXD.out)
        have HY11 := Lib.hid (HXD.out.hp HY9.out)
        have t11 := cellOf HY11.out 0
        simp only [List.getElem?_toArray, List.getElem?_cons_zero] at t11
        have HEN2 := Lib.hid (fun W hW => HEN.out W hW HLO.out)
        rw [HG0.out, if_pos rfl] at HEN2
        have HMEM : Hid (∀ i, i < (enabledC t c).length → advE t c (enabledC t c)[i]! = 0 ∧ Done t s (withC c ((enabledC t c)[i]!).toNat)) := Lib.hid (fun i hi => HAV.out _ (mem_at _ i hi))
        have hel : (enabledC t c).length ≤ 1000000 := by have h1 := enTo_len t c c.length; have h2 := HCL.out; have h3 := HCN.out; unfold enabledC; omega
        generalize enabledC t c = el at *
        obtain ⟨en, hen⟩ : ∃ n, el.length = n := ⟨_, rfl⟩
        have HENL := Lib.hid hen
        rw [hen] at HMEM hel
        clear hen t9
        go_wp2_with fail
        refine (HEN2.out _ HE11.out).mono ?_
        rintro e w12 ⟨u12, rfl, hR12, hX12⟩
        obtain ⟨ua12, uc12, hu12, _⟩ := hR12.any
        subst hu12
        have HI12 := Lib.hid hR12.ints
        clear hR12
        have HE12 := Lib.hid (HE11.out.trans' hX12)
        have HY12 := Lib.hid (hX12.hp HY11.out)
        have t12 := cellOf HY12.out 0
        simp only [List.getElem?_toArray, List.getElem?_cons_zero] at t12
        have HXX12 := Lib.hid hX12
        clear hX12 t11
        (try rw [HENL.out] at HI12); (try rw [HENL.out])
        go_wp2
        clear t12
        go_loopg [116] en (fun g s116 wr => ∃ i : Nat, i ≤ en ∧ en - i ≤ g ∧ s116 = .int .i64 i ∧ Aside (Ext w12 wr))
        case atStart => exact ⟨0, Nat.zero_le _, by omega, rfl, Ext.rf _⟩
        case round =>
          obtain ⟨i, hi, hgi, rfl, HEK⟩ := hrel
          by_cases hlt : i < en
          case neg =>
            have hltz : ¬ (i : Int) < (en : Int) := by omega
            go_wp2
            go_meet
            exact (show Ext _ _ from HXX9.out.trans' (HXD.out.trans' (HXX12.out.trans' HEK.out)))
          case pos =>
            have hltz : (i : Int) < (en : Int) := by omega
            have hiz : (0 : Int) ≤ (i : Int) := by omega
            have HE13 := Lib.hid (HE12.out.trans' HEK.out)
            have HY13 := Lib.hid (HEK.out.hp HY12.out)
            have t13 := cellOf HY13.out 0
            simp only [List.getElem?_toArray, List.getElem?_cons_zero] at t13
            obtain ⟨cb, co, rfl, hcb, hcp⟩ := ints_at HI12.out i (by rw [HENL.out]; exact hlt)
            have c1 := HEK.out.cl hcp
            have HM2 := Lib.hid (HMEM.out i hlt)
            have HAQ := Lib.hid (fun W hW => HAD.out W hW HLO.out HCN.out el[i]!)
            rw [HM2.out.1, if_pos rfl] at HAQ
            generalize el[i]! = q at *
            obtain ⟨nx, hnx⟩ : ∃ x, withC c q.toNat = x := ⟨_, rfl⟩
            rw [hnx] at HAQ HM2
            obtain ⟨nl, hnl⟩ : ∃ n, nx.length = n := ⟨_, rfl⟩
            have HNL := Lib.hid hnl

            clear hcp hcb hnx hnl
            go_wp2_with fail
            refine (HAQ.out _ HE13.out).mono ?_
            rintro e w14 ⟨u14, rfl, hR14, hX14⟩
            obtain ⟨ua14, uc14, hu14, _⟩ := hR14.any
            subst hu14
            have HI14 := Lib.hid hR14.ints
            clear hR14
            have HE14 := Lib.hid (HE13.out.trans' hX14)
            have HY14 := Lib.hid (hX14.hp HY13.out)
            have t14 := cellOf HY14.out 0
            simp only [List.getElem?_toArray, List.getElem?_cons_zero] at t14
            have HXX14 := Lib.hid hX14
            clear hX14 t13
            (try rw [HNL.out] at HI14); (try rw [HNL.out])
            have HTJ := Lib.hid (HTU.out w14 HE14.out HLO.out _ _ HI14.out)
            rw [HM2.out.2.1, HM2.out.2.2] at HTJ
            clear c1
            go_wp2_with fail
            refine (HTJ.out).mono ?_
            rintro e w15 ⟨rfl, hX15⟩
            have HE15 := Lib.hid (HE14.out.trans' hX15)
            have HY15 := Lib.hid (hX15.hp HY14.out)
            have t15 := cellOf HY15.out 0
            simp only [List.getElem?_toArray, List.getElem?_cons_zero] at t15
            have HXX15 := Lib.hid hX15
            clear hX15 t14
            go_wp2
            go_roundg (en - (i + 1))
            case measure => exact Nat.lt_of_lt_of_le (Nat.sub_lt_sub_left hlt (Nat.lt_succ_self i)) hgi
            case rel => exact ⟨i + 1, hlt, Nat.le_refl _, by go_num, (show Ext _ _ from HEK.out.trans' (HXX14.out.trans' HXX15.out))⟩
    case rest =>
      have HXC := Lib.hid hcut
      have HE13 := Lib.hid (HE8.out.trans' HXC.out)
      have HY13 := Lib.hid (HXC.out.hp HY8.out)
      have t13 := cellOf HY13.out 0
      simp only [List.getElem?_toArray, List.getElem?_cons_zero] at t13
      go_wp2_with fail
      refine (HCP.out _ HE13.out HLO.out HWN.out).mono ?_
      rintro e w14 ⟨rfl, hX14⟩
      have HE14 := Lib.hid (HE13.out.trans' hX14)
      have HY14 := Lib.hid (hX14.hp HY13.out)
      have t14 := cellOf HY14.out 0
      simp only [List.getElem?_toArray, List.getElem?_cons_zero] at t14
      have HXX14 := Lib.hid hX14
      clear hX14 t13
      by_cases hE : E = 0
      case neg =>
        have hK : K = 0 := HKZ.out hE
        subst hK
        have dE : (E != 0) = true := by simp [hE]
        clear hE
        go_wp2
        go_ret
        exact ⟨rfl, HE14.out⟩
      case pos =>
      subst hE
      obtain ⟨k, hk, hwv⟩ := wave_of HHB.out HDT.out HCE.out
      have hKk : (k : Int) = K := hk.symm.trans HKK.out
      subst hKk
      have HWV := Lib.hid hwv
      have hk1 := hwv.one
      have hkl : k < wl := by have := hwv.lt; rw [HWL.out] at this; exact this
      have dk1 : decide ((k : Int) < 1) = false := decide_eq_false (by omega)
      have dk2 : decide ((wl : Int) ≤ (k : Int)) = false := decide_eq_false (by omega)
      have hk1p : ¬ (k : Int) < 1 := by omega
      have hk2p : ¬ (wl : Int) ≤ (k : Int) := by omega
      have hltz : (k : Int) < (wl : Int) := by omega
      have hkz : (0 : Int) ≤ (k : Int) := by omega
      obtain ⟨j, hj⟩ : ∃ j : Nat, k = j + 1 := ⟨k - 1, by omega⟩
      have e3 : (k : Int) - 1 = (j : Int) := by omega
      have hjz : (0 : Int) ≤ (j : Int) := by omega
      have hjm : (j : Int) < (wl : Int) := by omega
      have hwj : IntKind.i64.wrap (j : Int) = (j : Int) := IntWalk.i64_in _ (by omega)
      have hkj : k - 1 = j := by omega
      obtain ⟨rb, ro, a0, c0, rfl, hr0, hi0⟩ := wave_at HW.out j (by rw [HWL.out]; omega)
      obtain ⟨rb', ro', a1, c1, hre, hr1, hi1⟩ := wave_at HW.out k (by rw [HWL.out]; omega)
      simp only [Option.some.injEq, Addr.mk.injEq, and_true] at hre
      obtain ⟨rfl, rfl⟩ := hre
      have hR0 := hwv.r0
      have hLO := hwv.lo
      have hMD := hwv.mid
      rw [hkj] at hR0 hLO hMD
      have HR0 := Lib.hid hR0
      have HR1 := Lib.hid hwv.r1
      have HLW := Lib.hid hLO
      have HHW := Lib.hid hwv.hi
      have HMD := Lib.hid hMD
      have r0 := HE14.out.cl hr0
      have r1 := HE14.out.cl hr1
      have HI0 := Lib.hid hi0
      have HI1 := Lib.hid hi1
      rw [HR0.out.1, HTN.out] at r0
      rw [HR1.out.1, HTN.out] at r1
      rw [HR0.out.1, HTN.out] at HI0
      rw [HR1.out.1, HTN.out] at HI1
      have htn8 := HLO.out.1
      rw [HTN.out] at htn8
      have hP0 : repE t ws[j]! = 0 := by unfold repE; rw [HVB.out, show fitsB t ws[j]! = true from decide_eq_true HR0.out.1, HR0.out.2]; rfl
      have hP1 : repE t ws[k]! = 0 := by unfold repE; rw [HVB.out, show fitsB t ws[k]! = true from decide_eq_true HR1.out.1, HR1.out.2]; rfl
      have HCJ := Lib.hid (fun W (hW : Ext w W) => HCLO.out W hW HLO.out _ _ (HI0.out.ext hW) (by rw [HR0.out.1, HTN.out]; exact htn8))
      have HOK := Lib.hid (fun W (hW : Ext w W) => HOPN.out W hW HLO.out _ _ (HI1.out.ext hW) (by rw [HR1.out.1, HTN.out]; exact htn8))
      rw [hP0, if_pos rfl] at HCJ
      rw [hP1, if_pos rfl] at HOK
      have HCN2 : Hid ((closeC t ws[j]!).length = tn) := Lib.hid (by obtain ⟨_, hf⟩ := closeC_fix HR0.out; rw [(up_least hf HR0.out).1.1.1]; exact HTN.out)
      have HON2 : Hid ((openC t ws[k]!).length = tn) := Lib.hid (by obtain ⟨_, hf⟩ := openC_fix HR1.out; rw [(dn_greatest hf HR1.out).1.1.1]; exact HTN.out)
      generalize closeC t ws[j]! = cj at *
      generalize openC t ws[k]! = oj at *
      clear hr0 hr1 hi0 hi1 hj hkj hR0 hLO hMD hwv hk hP0 hP1
      go_wp2
      have HT0 := Lib.hid (show Ext w w14.drew from HE14.out.dr)
      have z0a := (show Ext w14 w14.drew from (Ext.rf w14).dr).cl t14
      have z0b := (show Ext w14 w14.drew from (Ext.rf w14).dr).cl r0
      have z0c := (show Ext w14 w14.drew from (Ext.rf w14).dr).cl r1
      have HY30 := Lib.hid ((show Ext w14 w14.drew from (Ext.rf w14).dr).hp HY14.out)
      refine wp_region_tails (fun w' => w'.cell? ⟨w.heap.size, 0, none⟩ = some (.slice ta tn tc) ∧ w'.cell? ⟨rb, ro + j, none⟩ = some (.slice a0 tn c0) ∧ w'.cell? ⟨rb, ro + k, none⟩ = some (.slice a1 tn c1)) [] (by kernel_rfl) ⟨z0a, z0b, z0c⟩ (fun hHeld => ?_)
      generalize w14.drew = wT at *
      refine wpAnyU_take (i := 0) (d := some 165) (v := ?_) rfl rfl (by kernel_rfl) (by kernel_rfl) (by kernel_rfl) (by kernel_rfl) (fun _ _ _ h => h) (Or.inl ⟨by rfl, ?_⟩) (by assumption) ?_
      rotate_left
      · (intro w hSw; (try dsimp only at hSw); go_simp; try (with_reducible rfl))
      try simp only [Act.put]
      try simp only [List.setIfInBounds_toArray]
      try simp only [List.set_cons_zero, List.set_cons_succ]
      refine wpAnyU_take (i := 1) (d := some 166) (v := ?_) rfl rfl (by kernel_rfl) (by kernel_rfl) (by kernel_rfl) (by kernel_rfl) (fun _ _ _ h => h) (Or.inl ⟨by rfl, ?_⟩) (by assumption) ?_
      rotate_left
      · (intro w hSw; (try dsimp only at hSw); go_simp; try (with_reducible rfl))
      try simp only [Act.put]
      try simp only [List.setIfInBounds_toArray]
      try simp only [List.set_cons_zero, List.set_cons_succ]
      refine wpAnyU_take (i := 2) (d := some 167) (v := ?_) rfl rfl (by kernel_rfl) (by kernel_rfl) (by kernel_rfl) (by kernel_rfl) (fun _ _ _ h => h) (Or.inl ⟨by rfl, ?_⟩) (by assumption) ?_
      rotate_left
      · (intro w hSw; (try dsimp only at hSw); go_simp; try (with_reducible rfl))
      try simp only [Act.put]
      try simp only [List.setIfInBounds_toArray]
      try simp only [List.set_cons_zero, List.set_cons_succ]
      refine wpAnyU_take (i := 3) (d := some 168) (v := ?_) rfl rfl (by kernel_rfl) (by kernel_rfl) (by kernel_rfl) (by kernel_rfl) (fun _ _ _ h => h) (Or.inl ⟨by rfl, ?_⟩) (by assumption) ?_
      rotate_left
      · (intro w hSw; (try dsimp only at hSw); go_simp; try (with_reducible rfl))
      try simp only [Act.put]
      try simp only [List.setIfInBounds_toArray]
      try simp only [List.set_cons_zero, List.set_cons_succ]
      refine wpAnyU_take (i := 4) (d := some 169) (v := ?_) rfl rfl (by kernel_rfl) (by kernel_rfl) (by kernel_rfl) (by kernel_rfl) (fun _ _ _ h => h) (Or.inl ⟨by rfl, ?_⟩) (by assumption) ?_
      rotate_left
      · (intro w hSw; (try dsimp only at hSw); go_simp; try (with_reducible rfl))
      try simp only [Act.put]
      try simp only [List.setIfInBounds_toArray]
      try simp only [List.set_cons_zero, List.set_cons_succ]
      refine wpAnyU_take (i := 5) (d := some 170) (v := ?_) rfl rfl (by kernel_rfl) (by kernel_rfl) (by kernel_rfl) (by kernel_rfl) (fun _ _ _ h => h) (Or.inl ⟨by rfl, ?_⟩) (by assumption) ?_
      rotate_left
      · (intro w hSw; (try dsimp only at hSw); go_simp; try (with_reducible rfl))
      try simp only [Act.put]
      try simp only [List.setIfInBounds_toArray]
      try simp only [List.set_cons_zero, List.set_cons_succ]
      refine wpAnyU_step (i := 6) (by kernel_rfl) rfl (fun K hK => ?_)
      refine step_callW (by kernel_rfl) 21 _ _ rfl enters_21 [.agg #[.slice ta tn tc], .slice a0 tn c0] (by first | rfl | kernel_rfl | go_simp) (HCJ.out _ HT0.out) ?_
      rintro e y1 ⟨u, rfl, hRU, hX⟩
      refine ⟨_, rfl, ?_⟩
      have HIU := Lib.hid hRU.ints
      rw [HCN2.out] at hRU
      obtain ⟨au, cu, rfl, _⟩ := hRU.any
      have HT1 := Lib.hid (HT0.out.trans' hX)
      have HY31 := Lib.hid (hX.hp HY30.out)
      have z1a := hX.cl z0a
      have z1b := hX.cl z0b
      have z1c := hX.cl z0c
      clear hX hRU z0a z0b z0c t14 r0 r1
      refine hK.out _ _ ?_ (fun hHeld => ?_)
      · (try dsimp only)
        exact ⟨z1a, z1b, z1c⟩
      clear hK K
      try simp only [List.getElem_toArray, List.getElem_cons_zero, List.getElem_cons_succ]
      try simp only [Act.put]
      try simp only [List.setIfInBounds_toArray]
      try simp only [List.set_cons_zero, List.set_cons_succ]
      refine wpAnyU_take (i := 7) (d := some 164) (v := ?_) rfl rfl (by kernel_rfl) (by kernel_rfl) (by kernel_rfl) (by kernel_rfl) (fun _ _ _ h => h) (Or.inl ⟨by rfl, ?_⟩) (by assumption) ?_
      rotate_left
      · (intro w hSw; (try dsimp only at hSw); go_simp; try (with_reducible rfl))
      try simp only [Act.put]
      try simp only [List.setIfInBounds_toArray]
      try simp only [List.set_cons_zero, List.set_cons_succ]
      refine wpAnyU_take (i := 8) (d := some 172) (v := ?_) rfl rfl (by kernel_rfl) (by kernel_rfl) (by kernel_rfl) (by kernel_rfl) (fun _ _ _ h => h) (Or.inl ⟨by rfl, ?_⟩) (by assumption) ?_
      rotate_left
      · (intro w hSw; (try dsimp only at hSw); go_simp; try (with_reducible rfl))
      try simp only [Act.put]
      try simp only [List.setIfInBounds_toArray]
      try simp only [List.set_cons_zero, List.set_cons_succ]
      refine wpAnyU_take (i := 9) (d := some 173) (v := ?_) rfl rfl (by kernel_rfl) (by kernel_rfl) (by kernel_rfl) (by kernel_rfl) (fun _ _ _ h => h) (Or.inl ⟨by rfl, ?_⟩) (by assumption) ?_
      rotate_left
      · (intro w hSw; (try dsimp only at hSw); go_simp; try (with_reducible rfl))
      try simp only [Act.put]
      try simp only [List.setIfInBounds_toArray]
      try simp only [List.set_cons_zero, List.set_cons_succ]
      refine wpAnyU_take (i := 10) (d := some 27) (v := ?_) rfl rfl (by kernel_rfl) (by kernel_rfl) (by kernel_rfl) (by kernel_rfl) (fun _ _ _ h => h) (Or.inl ⟨by rfl, ?_⟩) (by assumption) ?_
      rotate_left
      · (intro w hSw; (try dsimp only at hSw); go_simp; try (with_reducible rfl))
      try simp only [Act.put]
      try simp only [List.setIfInBounds_toArray]
      try simp only [List.set_cons_zero, List.set_cons_succ]
      refine wpAnyU_take (i := 11) (d := some 28) (v := ?_) rfl rfl (by kernel_rfl) (by kernel_rfl) (by kernel_rfl) (by kernel_rfl) (fun _ _ _ h => h) (Or.inl ⟨by rfl, ?_⟩) (by assumption) ?_
      rotate_left
      · (intro w hSw; (try dsimp only at hSw); go_simp; try (with_reducible rfl))
      try simp only [Act.put]
      try simp only [List.setIfInBounds_toArray]
      try simp only [List.set_cons_zero, List.set_cons_succ]
      refine wpAnyU_done (by kernel_rfl) ?_
      go_wp2
      have HT2 := Lib.hid (show Ext w y1.drew from HT1.out.dr)
      have HIU2 := Lib.hid (HIU.out.ext (show Ext y1 y1.drew from (Ext.rf y1).dr))
      have HY32 := Lib.hid ((show Ext y1 y1.drew from (Ext.rf y1).dr).hp HY31.out)
      have z2a := (show Ext y1 y1.drew from (Ext.rf y1).dr).cl z1a
      have z2b := (show Ext y1 y1.drew from (Ext.rf y1).dr).cl z1b
      have z2c := (show Ext y1 y1.drew from (Ext.rf y1).dr).cl z1c
      refine wp_region_tails (fun w' => w'.cell? ⟨w.heap.size, 0, none⟩ = some (.slice ta tn tc) ∧ w'.cell? ⟨rb, ro + j, none⟩ = some (.slice a0 tn c0) ∧ w'.cell? ⟨rb, ro + k, none⟩ = some (.slice a1 tn c1)) [] (by kernel_rfl) ⟨z2a, z2b, z2c⟩ (fun hHeld => ?_)
      generalize y1.drew = wT2 at *
      refine wpAnyU_take (i := 0) (d := some 175) (v := ?_) rfl rfl (by kernel_rfl) (by kernel_rfl) (by kernel_rfl) (by kernel_rfl) (fun _ _ _ h => h) (Or.inl ⟨by rfl, ?_⟩) (by assumption) ?_
      rotate_left
      · (intro w hSw; (try dsimp only at hSw); go_simp; try (with_reducible rfl))
      try simp only [Act.put]
      try simp only [List.setIfInBounds_toArray]
      try simp only [List.set_cons_zero, List.set_cons_succ]
      refine wpAnyU_take (i := 1) (d := some 176) (v := ?_) rfl rfl (by kernel_rfl) (by kernel_rfl) (by kernel_rfl) (by kernel_rfl) (fun _ _ _ h => h) (Or.inl ⟨by rfl, ?_⟩) (by assumption) ?_
      rotate_left
      · (intro w hSw; (try dsimp only at hSw); go_simp; try (with_reducible rfl))
      try simp only [Act.put]
      try simp only [List.setIfInBounds_toArray]
      try simp only [List.set_cons_zero, List.set_cons_succ]
      refine wpAnyU_take (i := 2) (d := some 177) (v := ?_) rfl rfl (by kernel_rfl) (by kernel_rfl) (by kernel_rfl) (by kernel_rfl) (fun _ _ _ h => h) (Or.inl ⟨by rfl, ?_⟩) (by assumption) ?_
      rotate_left
      · (intro w hSw; (try dsimp only at hSw); go_simp; try (with_reducible rfl))
      try simp only [Act.put]
      try simp only [List.setIfInBounds_toArray]
      try simp only [List.set_cons_zero, List.set_cons_succ]
      refine wpAnyU_take (i := 3) (d := some 178) (v := ?_) rfl rfl (by kernel_rfl) (by kernel_rfl) (by kernel_rfl) (by kernel_rfl) (fun _ _ _ h => h) (Or.inl ⟨by rfl, ?_⟩) (by assumption) ?_
      rotate_left
      · (intro w hSw; (try dsimp only at hSw); go_simp; try (with_reducible rfl))
      try simp only [Act.put]
      try simp only [List.setIfInBounds_toArray]
      try simp only [List.set_cons_zero, List.set_cons_succ]
      refine wpAnyU_take (i := 4) (d := some 179) (v := ?_) rfl rfl (by kernel_rfl) (by kernel_rfl) (by kernel_rfl) (by kernel_rfl) (fun _ _ _ h => h) (Or.inl ⟨by rfl, ?_⟩) (by assumption) ?_
      rotate_left
      · (intro w hSw; (try dsimp only at hSw); go_simp; try (with_reducible rfl))
      try simp only [Act.put]
      try simp only [List.setIfInBounds_toArray]
      try simp only [List.set_cons_zero, List.set_cons_succ]
      refine wpAnyU_step (i := 5) (by kernel_rfl) rfl (fun K hK => ?_)
      refine step_callW (by kernel_rfl) 22 _ _ rfl enters_22 [.agg #[.slice ta tn tc], .slice a1 tn c1] (by first | rfl | kernel_rfl | go_simp) (HOK.out _ HT2.out) ?_
      rintro e y2 ⟨u, rfl, hRU, hX⟩
      refine ⟨_, rfl, ?_⟩
      have HOU := Lib.hid hRU.ints
      rw [HON2.out] at hRU
      obtain ⟨ao, co, rfl, _⟩ := hRU.any
      have HT3 := Lib.hid (HT2.out.trans' hX)
      have HIU3 := Lib.hid (HIU2.out.ext hX)
      have HY33 := Lib.hid (hX.hp HY32.out)
      have z3a := hX.cl z2a
      have z3b := hX.cl z2b
      have z3c := hX.cl z2c
      clear hX hRU z1a z1b z1c z2a z2b z2c
      refine hK.out _ _ ?_ (fun hHeld => ?_)
      · (try dsimp only)
        exact ⟨z3a, z3b, z3c⟩
      clear hK K
      try simp only [List.getElem_toArray, List.getElem_cons_zero, List.getElem_cons_succ]
      try simp only [Act.put]
      try simp only [List.setIfInBounds_toArray]
      try simp only [List.set_cons_zero, List.set_cons_succ]
      refine wpAnyU_take (i := 6) (d := some 174) (v := ?_) rfl rfl (by kernel_rfl) (by kernel_rfl) (by kernel_rfl) (by kernel_rfl) (fun _ _ _ h => h) (Or.inl ⟨by rfl, ?_⟩) (by assumption) ?_
      rotate_left
      · (intro w hSw; (try dsimp only at hSw); go_simp; try (with_reducible rfl))
      try simp only [Act.put]
      try simp only [List.setIfInBounds_toArray]
      try simp only [List.set_cons_zero, List.set_cons_succ]
      refine wpAnyU_take (i := 7) (d := some 181) (v := ?_) rfl rfl (by kernel_rfl) (by kernel_rfl) (by kernel_rfl) (by kernel_rfl) (fun _ _ _ h => h) (Or.inl ⟨by rfl, ?_⟩) (by assumption) ?_
      rotate_left
      · (intro w hSw; (try dsimp only at hSw); go_simp; try (with_reducible rfl))
      try simp only [Act.put]
      try simp only [List.setIfInBounds_toArray]
      try simp only [List.set_cons_zero, List.set_cons_succ]
      refine wpAnyU_take (i := 8) (d := some 182) (v := ?_) rfl rfl (by kernel_rfl) (by kernel_rfl) (by kernel_rfl) (by kernel_rfl) (fun _ _ _ h => h) (Or.inl ⟨by rfl, ?_⟩) (by assumption) ?_
      rotate_left
      · (intro w hSw; (try dsimp only at hSw); go_simp; try (with_reducible rfl))
      try simp only [Act.put]
      try simp only [List.setIfInBounds_toArray]
      try simp only [List.set_cons_zero, List.set_cons_succ]
      refine wpAnyU_take (i := 9) (d := some 29) (v := ?_) rfl rfl (by kernel_rfl) (by kernel_rfl) (by kernel_rfl) (by kernel_rfl) (fun _ _ _ h => h) (Or.inl ⟨by rfl, ?_⟩) (by assumption) ?_
      rotate_left
      · (intro w hSw; (try dsimp only at hSw); go_simp; try (with_reducible rfl))
      try simp only [Act.put]
      try simp only [List.setIfInBounds_toArray]
      try simp only [List.set_cons_zero, List.set_cons_succ]
      refine wpAnyU_take (i := 10) (d := some 30) (v := ?_) rfl rfl (by kernel_rfl) (by kernel_rfl) (by kernel_rfl) (by kernel_rfl) (fun _ _ _ h => h) (Or.inl ⟨by rfl, ?_⟩) (by assumption) ?_
      rotate_left
      · (intro w hSw; (try dsimp only at hSw); go_simp; try (with_reducible rfl))
      try simp only [Act.put]
      try simp only [List.setIfInBounds_toArray]
      try simp only [List.set_cons_zero, List.set_cons_succ]
      refine wpAnyU_done (by kernel_rfl) ?_
      clear dk1 dk2 hk1p hk2p
      obtain ⟨i2, hi2, iz0, iz1, iz2⟩ := info_parts info_st51
      have HX40 := Lib.hid ((Ext.rf y2).al (.cells #[.slice au tn cu, .slice ao tn co] 25))
      have HB40 := Lib.hid (heap_alloc_new y2 (.cells #[.slice au tn cu, .slice ao tn co] 25))
      have HE40 := Lib.hid (HT3.out.trans' HX40.out)
      have HY40 := Lib.hid (HX40.out.hp HY33.out)
      have t40 := cellOf HY40.out 0
      simp only [List.getElem?_toArray, List.getElem?_cons_zero] at t40
      have HIL := Lib.hid (HIU3.out.ext HX40.out)
      have HIH := Lib.hid (HOU.out.ext HX40.out)
      have r40 := HX40.out.cl z3b
      have q40 := HX40.out.cl z3c
      have HIS2 := Lib.hid (fun W hW => HIS.out W hW (by trivial))
      obtain ⟨b1, hb1⟩ : ∃ b, consB t c = b := ⟨_, rfl⟩
      have HC1 := Lib.hid hb1
      rw [hb1] at HIS2
      clear hb1 z3a z3b z3c
      go_wp2_with fail
      refine (HIS2.out _ HE40.out).mono ?_
      rintro e w41 ⟨rfl, hX41⟩
      have HE41 := Lib.hid (HE40.out.trans' hX41)
      have HY41 := Lib.hid (hX41.hp HY40.out)
      have t41 := cellOf HY41.out 0
      simp only [List.getElem?_toArray, List.getElem?_cons_zero] at t41
      have HXX41 := Lib.hid hX41
      clear hX41 t40
      have r41 := HXX41.out.cl r40
      have q41 := HXX41.out.cl q40
      have HB41 := Lib.hid (HXX41.out.hp HB40.out)
      clear r40 q40
      cases b1 with
      | false =>
        clear r41 q41
        have HXS := Lib.hid (rows_two HB41.out (HIL.out.ext HXX41.out) (HIH.out.ext HXX41.out))
        have HXD : Hid (∀ i, i < 2 → Done t s (([cj, oj] : List (List Int))[i]!)) := Lib.hid (done_two HLW.out HHW.out)
        have HXL : Hid (([cj, oj] : List (List Int)).length = 2) := Lib.hid rfl
        obtain ⟨xs, hxs⟩ : ∃ x : List (List Int), [cj, oj] = x := ⟨_, rfl⟩
        rw [hxs] at HXS HXD HXL
        clear hxs
        go_wp2
        clear t41
        go_loopg [218] 2 (fun g s218 wr => ∃ i : Nat, i ≤ 2 ∧ 2 - i ≤ g ∧ s218 = .int .i64 i ∧ Aside (Ext w41 wr))
        case atStart => exact ⟨0, Nat.zero_le _, by omega, rfl, Ext.rf _⟩
        case round =>
          obtain ⟨i, hi, hgi, rfl, HEK⟩ := hrel
          by_cases hlt : i < 2
          case neg =>
            have hltz : ¬ (i : Int) < 2 := by omega
            go_wp2
            go_ret
            exact ⟨rfl, HE41.out.trans' HEK.out⟩
          case pos =>
            have hltz : (i : Int) < 2 := by omega
            have hiz : (0 : Int) ≤ (i : Int) := by omega
            have HE50 := Lib.hid (HE41.out.trans' HEK.out)
            have HY50 := Lib.hid (HEK.out.hp HY41.out)
            have t50 := cellOf HY50.out 0
            simp only [List.getElem?_toArray, List.getElem?_cons_zero] at t50
            obtain ⟨gb5, go5, sv, sc, hrr, hr5, hi5⟩ := wave_at HXS.out i (by rw [HXL.out]; exact hlt)
            simp only [Option.some.injEq, Addr.mk.injEq, and_true] at hrr
            obtain ⟨rfl, rfl⟩ := hrr
            have r5 := HEK.out.cl hr5
            have r6 := r5
            try simp only [Nat.zero_add] at r6
            have HDX := Lib.hid (HXD.out i hlt)
            have HTJ := Lib.hid (HTU.out wr HE50.out HLO.out _ _ (hi5.ext HEK.out))
            rw [HDX.out.1, HDX.out.2] at HTJ
            generalize xs[i]!.length = xl at *
            clear hr5 hi5
            go_wp2_with fail
            refine (HTJ.out).mono ?_
            rintro e w51 ⟨rfl, hX51⟩
            have HE51 := Lib.hid (HE50.out.trans' hX51)
            have HY51 := Lib.hid (hX51.hp HY50.out)
            have t51 := cellOf HY51.out 0
            simp only [List.getElem?_toArray, List.getElem?_cons_zero] at t51
            have HXX51 := Lib.hid hX51
            clear hX51 t50
            go_wp2
            go_roundg (2 - (i + 1))
            case measure => omega
            case rel => exact ⟨i + 1, hlt, Nat.le_refl _, by go_num, (show Ext _ _ from HEK.out.trans' HXX51.out)⟩
      | true =>
      have HCC := Lib.hid (consB_iff.1 HC1.out).2
      have HLN : Hid (c.length = t.length) := Lib.hid HCC.out.1.1
      have HQ0 := Lib.hid (fun W (hW : Ext w W) => leq15_calls (.slice a0 tn c0) (.slice ca cl cc) ws[j]! c W (HI0.out.ext hW) (HC.out.ext hW) (by rw [HR0.out.1, HLN.out]) (by rw [HR0.out.1, HTN.out]; omega))
      obtain ⟨b2, hb2⟩ : ∃ b, leCB ws[j]! c = b := ⟨_, rfl⟩
      have HC2 := Lib.hid hb2
      rw [hb2] at HQ0
      clear hb2
      go_wp2_with fail
      refine (HQ0.out _ HE41.out).mono ?_
      rintro e w42 ⟨rfl, hX42⟩
      have HE42 := Lib.hid (HE41.out.trans' hX42)
      have HY42 := Lib.hid (hX42.hp HY41.out)
      have t42 := cellOf HY42.out 0
      simp only [List.getElem?_toArray, List.getElem?_cons_zero] at t42
      have HXX42 := Lib.hid hX42
      clear hX42 t41
      have q42 := HXX42.out.cl q41
      have HB42 := Lib.hid (HXX42.out.hp HB41.out)
      clear r41 q41
      cases b2 with
      | false =>
        clear q42
        have HXS := Lib.hid (rows_two HB42.out (HIL.out.ext (HXX41.out.trans' HXX42.out)) (HIH.out.ext (HXX41.out.trans' HXX42.out)))
        have HXD : Hid (∀ i, i < 2 → Done t s (([cj, oj] : List (List Int))[i]!)) := Lib.hid (done_two HLW.out HHW.out)
        have HXL : Hid (([cj, oj] : List (List Int)).length = 2) := Lib.hid rfl
        obtain ⟨xs, hxs⟩ : ∃ x : List (List Int), [cj, oj] = x := ⟨_, rfl⟩
        rw [hxs] at HXS HXD HXL
        clear hxs
        go_wp2
        clear t42
        go_loopg [218] 2 (fun g s218 wr => ∃ i : Nat, i ≤ 2 ∧ 2 - i ≤ g ∧ s218 = .int .i64 i ∧ Aside (Ext w42 wr))
        case atStart => exact ⟨0, Nat.zero_le _, by omega, rfl, Ext.rf _⟩
        case round =>
          obtain ⟨i, hi, hgi, rfl, HEK⟩ := hrel
          by_cases hlt : i < 2
          case neg =>
            have hltz : ¬ (i : Int) < 2 := by omega
            go_wp2
            go_ret
            exact ⟨rfl, HE42.out.trans' HEK.out⟩
          case pos =>
            have hltz : (i : Int) < 2 := by omega
            have hiz : (0 : Int) ≤ (i : Int) := by omega
            have HE50 := Lib.hid (HE42.out.trans' HEK.out)
            have HY50 := Lib.hid (HEK.out.hp HY42.out)
            have t50 := cellOf HY50.out 0
            simp only [List.getElem?_toArray, List.getElem?_cons_zero] at t50
            obtain ⟨gb5, go5, sv, sc, hrr, hr5, hi5⟩ := wave_at HXS.out i (by rw [HXL.out]; exact hlt)
            simp only [Option.some.injEq, Addr.mk.injEq, and_true] at hrr
            obtain ⟨rfl, rfl⟩ := hrr
            have r5 := HEK.out.cl hr5
            have r6 := r5
            try simp only [Nat.zero_add] at r6
            have HDX := Lib.hid (HXD.out i hlt)
            have HTJ := Lib.hid (HTU.out wr HE50.out HLO.out _ _ (hi5.ext HEK.out))
            rw [HDX.out.1, HDX.out.2] at HTJ
            generalize xs[i]!.length = xl at *
            clear hr5 hi5
            go_wp2_with fail
            refine (HTJ.out).mono ?_
            rintro e w51 ⟨rfl, hX51⟩
            have HE51 := Lib.hid (HE50.out.trans' hX51)
            have HY51 := Lib.hid (hX51.hp HY50.out)
            have t51 := cellOf HY51.out 0
            simp only [List.getElem?_toArray, List.getElem?_cons_zero] at t51
            have HXX51 := Lib.hid hX51
            clear hX51 t50
            go_wp2
            go_roundg (2 - (i + 1))
            case measure => omega
            case rel => exact ⟨i + 1, hlt, Nat.le_refl _, by go_num, (show Ext _ _ from HEK.out.trans' HXX51.out)⟩
      | true =>
      have HQ1 := Lib.hid (fun W (hW : Ext w W) => leq15_calls (.slice ca cl cc) (.slice a1 tn c1) c ws[k]! W (HC.out.ext hW) (HI1.out.ext hW) (by rw [HR1.out.1, HLN.out]) (by rw [HLN.out, HTN.out]; omega))
      obtain ⟨b3, hb3⟩ : ∃ b, leCB c ws[k]! = b := ⟨_, rfl⟩
      have HC3 := Lib.hid hb3
      rw [hb3] at HQ1
      clear hb3
      go_wp2_with fail
      refine (HQ1.out _ HE42.out).mono ?_
      rintro e w43 ⟨rfl, hX43⟩
      have HE43 := Lib.hid (HE42.out.trans' hX43)
      have HY43 := Lib.hid (hX43.hp HY42.out)
      have t43 := cellOf HY43.out 0
      simp only [List.getElem?_toArray, List.getElem?_cons_zero] at t43
      have HXX43 := Lib.hid hX43
      clear hX43 t42
      have HB43 := Lib.hid (HXX43.out.hp HB42.out)
      clear q42
      cases b3 with
      | false =>
        have HXS := Lib.hid (rows_two HB43.out (HIL.out.ext (HXX41.out.trans' (HXX42.out.trans' HXX43.out))) (HIH.out.ext (HXX41.out.trans' (HXX42.out.trans' HXX43.out))))
        have HXD : Hid (∀ i, i < 2 → Done t s (([cj, oj] : List (List Int))[i]!)) := Lib.hid (done_two HLW.out HHW.out)
        have HXL : Hid (([cj, oj] : List (List Int)).length = 2) := Lib.hid rfl
        obtain ⟨xs, hxs⟩ : ∃ x : List (List Int), [cj, oj] = x := ⟨_, rfl⟩
        rw [hxs] at HXS HXD HXL
        clear hxs
        go_wp2
        clear t43
        go_loopg [218] 2 (fun g s218 wr => ∃ i : Nat, i ≤ 2 ∧ 2 - i ≤ g ∧ s218 = .int .i64 i ∧ Aside (Ext w43 wr))
        case atStart => exact ⟨0, Nat.zero_le _, by omega, rfl, Ext.rf _⟩
        case round =>
          obtain ⟨i, hi, hgi, rfl, HEK⟩ := hrel
          by_cases hlt : i < 2
          case neg =>
            have hltz : ¬ (i : Int) < 2 := by omega
            go_wp2
            go_ret
            exact ⟨rfl, HE43.out.trans' HEK.out⟩
          case pos =>
            have hltz : (i : Int) < 2 := by omega
            have hiz : (0 : Int) ≤ (i : Int) := by omega
            have HE50 := Lib.hid (HE43.out.trans' HEK.out)
            have HY50 := Lib.hid (HEK.out.hp HY43.out)
            have t50 := cellOf HY50.out 0
            simp only [List.getElem?_toArray, List.getElem?_cons_zero] at t50
            obtain ⟨gb5, go5, sv, sc, hrr, hr5, hi5⟩ := wave_at HXS.out i (by rw [HXL.out]; exact hlt)
            simp only [Option.some.injEq, Addr.mk.injEq, and_true] at hrr
            obtain ⟨rfl, rfl⟩ := hrr
            have r5 := HEK.out.cl hr5
            have r6 := r5
            try simp only [Nat.zero_add] at r6
            have HDX := Lib.hid (HXD.out i hlt)
            have HTJ := Lib.hid (HTU.out wr HE50.out HLO.out _ _ (hi5.ext HEK.out))
            rw [HDX.out.1, HDX.out.2] at HTJ
            generalize xs[i]!.length = xl at *
            clear hr5 hi5
            go_wp2_with fail
            refine (HTJ.out).mono ?_
            rintro e w51 ⟨rfl, hX51⟩
            have HE51 := Lib.hid (HE50.out.trans' hX51)
            have HY51 := Lib.hid (hX51.hp HY50.out)
            have t51 := cellOf HY51.out 0
            simp only [List.getElem?_toArray, List.getElem?_cons_zero] at t51
            have HXX51 := Lib.hid hX51
            clear hX51 t50
            go_wp2
            go_roundg (2 - (i + 1))
            case measure => omega
            case rel => exact ⟨i + 1, hlt, Nat.le_refl _, by go_num, (show Ext _ _ from HEK.out.trans' HXX51.out)⟩
      | true =>
      have HDX3 : Hid (Done t s c) := Lib.hid (HMD.out c HCC.out (leCB_iff.1 HC2.out).2 (leCB_iff.1 HC3.out).2)
      have HEY := Lib.hid (HX40.out.trans' (HXX41.out.trans' (HXX42.out.trans' HXX43.out)))
      have HR43 : Hid (Row w43 y2.heap.size 25 1 (.slice (some ⟨y2.heap.size, 0, none⟩) 2 2) 2 [.slice au tn cu, .slice ao tn co]) := Lib.hid ⟨rfl, .inr ⟨_, 0, 2, _, rfl, Nat.le_refl _, HB43.out, Nat.le_refl _, by decide, by simp, rfl⟩⟩
      have hsz43 : y2.heap.size ≤ w43.heap.size := HEY.out.sz
      go_wp2_with ((at_builtin; go_loud (refine wpList_append_one rfl _ _ 26 rfl y2.heap.size 25 i2 (.slice none 0 0) 1 24 Tryz.underlying26 hi2 iz0 iz1 iz2 rfl (by decide) _ 2 [.slice au tn cu, .slice ao tn co] rfl (HR43.out.al _) w43.heap.size 1 [.slice ca cl cc] rfl rfl ⟨_, heap_alloc_new _ _⟩ (by simp [Value.oneCell']) (by unfold maxLen; omega) (by omega) (by simp; omega) ?_; intro v44 w44 hown44 hgrow44 hblk44; have hown45 : Row w44 y2.heap.size 25 1 v44 3 [.slice au tn cu, .slice ao tn co, .slice ca cl cc] := hown44; clear hown44; obtain ⟨g8, o8, c8, rfl, hb8, hlt8, hmc8⟩ := hown45.shape (by omega); have hG8 : (w43.alloc (.cells #[.slice ca cl cc] 25)).grownBy w44 (Value.slice (some ⟨y2.heap.size, 0, none⟩) 2 2).ownBlock := hgrow44; have HEX := Lib.hid (show Ext y2 w44 from (HEY.out.al (.cells #[.slice ca cl cc] 25)).gr hG8 (fun q hq => (HR43.out.lt q hq).1)); have HE44 := Lib.hid (HT3.out.trans' HEX.out); have HY44 := Lib.hid (HEX.out.hp HY33.out); have t44 := cellOf HY44.out 0; simp only [List.getElem?_toArray, List.getElem?_cons_zero] at t44; have HXS := Lib.hid (rows3 hown45.cells (HIU3.out.ext HEX.out) (HOU.out.ext HEX.out) (HC.out.ext HE44.out)); clear hown45 hgrow44 hblk44 hG8 t43)))
      have HXD : Hid (∀ i, i < 3 → Done t s (([cj, oj, c] : List (List Int))[i]!)) := Lib.hid (done_three HLW.out HHW.out HDX3.out)
      have HXL : Hid (([cj, oj, c] : List (List Int)).length = 3) := Lib.hid rfl
      obtain ⟨xs, hxs⟩ : ∃ x : List (List Int), [cj, oj, c] = x := ⟨_, rfl⟩
      rw [hxs] at HXS HXD HXL
      clear hxs
      go_wp2
      clear t44
      go_loopg [218] 3 (fun g s218 wr => ∃ i : Nat, i ≤ 3 ∧ 3 - i ≤ g ∧ s218 = .int .i64 i ∧ Aside (Ext w44 wr))
      case atStart => exact ⟨0, Nat.zero_le _, by omega, rfl, Ext.rf _⟩
      case round =>
        obtain ⟨i, hi, hgi, rfl, HEK⟩ := hrel
        by_cases hlt : i < 3
        case neg =>
          have hltz : ¬ (i : Int) < 3 := by omega
          go_wp2
          go_ret
          exact ⟨rfl, HE44.out.trans' HEK.out⟩
        case pos =>
          have hltz : (i : Int) < 3 := by omega
          have hiz : (0 : Int) ≤ (i : Int) := by omega
          have HE50 := Lib.hid (HE44.out.trans' HEK.out)
          have HY50 := Lib.hid (HEK.out.hp HY44.out)
          have t50 := cellOf HY50.out 0
          simp only [List.getElem?_toArray, List.getElem?_cons_zero] at t50
          obtain ⟨gb5, go5, sv, sc, hrr, hr5, hi5⟩ := wave_at HXS.out i (by rw [HXL.out]; exact hlt)
          simp only [Option.some.injEq, Addr.mk.injEq, and_true] at hrr
          obtain ⟨rfl, rfl⟩ := hrr
          have r5 := HEK.out.cl hr5
          have r6 := r5
          try simp only [Nat.zero_add] at r6
          have HDX := Lib.hid (HXD.out i hlt)
          have HTJ := Lib.hid (HTU.out wr HE50.out HLO.out _ _ (hi5.ext HEK.out))
          rw [HDX.out.1, HDX.out.2] at HTJ
          generalize xs[i]!.length = xl at *
          clear hr5 hi5
          go_wp2_with fail
          refine (HTJ.out).mono ?_
          rintro e w51 ⟨rfl, hX51⟩
          have HE51 := Lib.hid (HE50.out.trans' hX51)
          have HY51 := Lib.hid (hX51.hp HY50.out)
          have t51 := cellOf HY51.out 0
          simp only [List.getElem?_toArray, List.getElem?_cons_zero] at t51
          have HXX51 := Lib.hid hX51
          clear hX51 t50
          go_wp2
          go_roundg (3 - (i + 1))
          case measure => omega
          case rel => exact ⟨i + 1, hlt, Nat.le_refl _, by go_num, (show Ext _ _ from HEK.out.trans' HXX51.out)⟩

end Go.Proofs.YtfcpnggdpaeldaaGreat
