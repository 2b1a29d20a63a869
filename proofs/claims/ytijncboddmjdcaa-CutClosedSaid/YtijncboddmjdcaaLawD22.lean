/-
  The statement CutClosed, walked.
-/
import Derived.Test.YtijncboddmjdcaaGa
import Derived.Test.YtijncboddmjdcaaProg
import Derived.BigQuiet
import Derived.Deep.QuietTactic
import Derived.Deep.LoopGhost
import Derived.Shelf.Abstract
import Derived.Test.YtijncboddmjdcaaGl
import Derived.Test.YtijncboddmjdcaaGm
namespace Go.Proofs.Ytijncboddmjdcaa
open Go.RowKit
set_option linter.unusedVariables false

theorem close_same {t : Tr} {k : List Int} (hv : validT t = true) (hr : RangeC t k) : (closeC t k == k) = consB t k := by
  obtain ⟨n, hn⟩ := closeC_fix hr
  have hl := up_least hn hr
  rw [Bool.eq_iff_iff, consB_iff, beq_iff_eq]
  constructor
  · intro h; rw [h] at hl; exact ⟨hv, hl.1⟩
  · rintro ⟨_, hc⟩
    exact LeC.antisymm (hl.2.2 k hc (LeC.refl k)) hl.2.1 (hl.1.1.1.trans hr.1.symm)
theorem open_same {t : Tr} {k : List Int} (hv : validT t = true) (hr : RangeC t k) : (openC t k == k) = consB t k := by
  obtain ⟨n, hn⟩ := openC_fix hr
  have hl := dn_greatest hn hr
  rw [Bool.eq_iff_iff, consB_iff, beq_iff_eq]
  constructor
  · intro h; rw [h] at hl; exact ⟨hv, hl.1⟩
  · rintro ⟨_, hc⟩
    exact LeC.antisymm hl.2.1 (hl.2.2 k hc (LeC.refl k)) (hl.1.1.1.trans hr.1.symm)

set_option maxHeartbeats 16000000 in
set_option maxRecDepth 100000 in
theorem cutClosed_calls (v vk vc : Value) (t : Tr) (k c : List Int) (w : World) (h : TrAt w v t) (htop : TopTr t) (hk : Ints w vk k) (hc : Ints w vc c) :
    Calls Try.prog 9 #[.agg #[v], vk, vc] w fun e w' => e = .returned (.bool true) ∧ Ext w w' := by
  have HK := Lib.hid hk
  obtain ⟨ka, kc, rfl, hack, _⟩ := hk
  obtain ⟨n, hnk⟩ : ∃ n, k.length = n := ⟨_, rfl⟩
  rw [hnk]
  rw [hnk] at HK
  have HNK := Lib.hid hnk
  clear hack hnk
  have HC := Lib.hid hc
  obtain ⟨ca, cc, rfl, hacc, _⟩ := hc
  obtain ⟨m, hnc⟩ : ∃ n, c.length = n := ⟨_, rfl⟩
  rw [hnc]
  rw [hnc] at HC
  have HNC := Lib.hid hnc
  clear hacc hnc
  have HT := Lib.hid h
  have HFC := Lib.hid (fun W (hW : Ext w W) => few22_calls v t W (h.ext hW) htop)
  obtain ⟨ta, tc, rfl, htc⟩ := h.sh
  obtain ⟨tn, htn⟩ : ∃ n, t.length = n := ⟨_, rfl⟩
  rw [htn] at HFC HT ⊢
  have HTN := Lib.hid htn
  have HX0 := Lib.hid (heap_alloc_new w (.cells #[.slice ta tn tc] 24))
  have HE1 := Lib.hid ((Ext.rf w).al (.cells #[.slice ta tn tc] 24))
  obtain ⟨fw, hfw⟩ : ∃ b, few22 t = b := ⟨_, rfl⟩
  rw [hfw] at HFC
  have HFW := Lib.hid hfw
  clear h htop hfw htc htn
  go_enter Try.func9, Try.ntmps9
  go_wp2_with fail
  refine (awake22_calls _).mono ?_
  rintro e w2 ⟨rfl, hX2⟩
  have HE2 := Lib.hid (HE1.out.trans' hX2)
  have HY2 := Lib.hid (hX2.hp HX0.out)
  have t2 := cellOf HY2.out 0
  simp only [List.getElem?_toArray, List.getElem?_cons_zero] at t2
  clear hX2
  go_wp2_with fail
  refine (HFC.out _ HE2.out).mono ?_
  rintro e w3 ⟨rfl, hX3⟩
  have HE3 := Lib.hid (HE2.out.trans' hX3)
  have HY3 := Lib.hid (hX3.hp HY2.out)
  have t3 := cellOf HY3.out 0
  simp only [List.getElem?_toArray, List.getElem?_cons_zero] at t3
  clear hX3 t2
  cases fw with
  | false =>
    go_wp2_with fail
    refine (awake22_calls _).mono ?_
    rintro e w4 ⟨rfl, hX4⟩
    go_wp2
    go_ret
    exact ⟨rfl, HE3.out.trans' hX4⟩
  | true =>
  have HLO := Lib.hid (few22_loose HFW.out).1
  have HC3 := Lib.hid (fun W (hW : Ext w W) => validR_calls _ t W (HT.out.ext hW) HLO.out)
  have HC4 := Lib.hid (fun W (hW : Ext w W) => fitsR_calls _ _ t k W (HT.out.ext hW) (HK.out.ext hW))
  have HC5 := Lib.hid (fun (hv : validT t = true) (hf : fitsB t k = true) W (hW : Ext w W) => rangeR_calls _ _ t k W (HT.out.ext hW) (valid_small hv) (HK.out.ext hW) (of_decide_eq_true hf))
  have HC6 := Lib.hid (fun W (hW : Ext w W) => consistentR_calls _ _ t c W (HT.out.ext hW) HLO.out (HC.out.ext hW))
  obtain ⟨vb, hvb⟩ : ∃ b, validT t = b := ⟨_, rfl⟩
  obtain ⟨fb, hfb⟩ : ∃ b, fitsB t k = b := ⟨_, rfl⟩
  obtain ⟨rb, hrb⟩ : ∃ b, rangeB t k = b := ⟨_, rfl⟩
  obtain ⟨cb, hcb⟩ : ∃ b, consB t c = b := ⟨_, rfl⟩
  rw [hvb] at HC3
  rw [hfb] at HC4
  rw [hrb] at HC5
  rw [hcb] at HC6
  have HVB := Lib.hid hvb
  have HFB := Lib.hid hfb
  have HRB := Lib.hid hrb
  have HCB := Lib.hid hcb
  clear hvb hfb hrb hcb
  go_wp2_with fail
  refine (HC3.out _ HE3.out).mono ?_
  rintro e w4 ⟨rfl, hX4⟩
  have HE4 := Lib.hid (HE3.out.trans' hX4)
  have HY4 := Lib.hid (hX4.hp HY3.out)
  have t4 := cellOf HY4.out 0
  simp only [List.getElem?_toArray, List.getElem?_cons_zero] at t4
  have HXX4 := Lib.hid hX4
  clear hX4 t3
  cases vb with
  | false =>
    go_wp2_with fail
    refine (awake22_calls _).mono ?_
    rintro e w99 ⟨rfl, hX99⟩
    go_wp2
    go_ret
    exact ⟨rfl, HE4.out.trans' hX99⟩
  | true =>
  go_wp2_with fail
  refine (HC4.out _ HE4.out).mono ?_
  rintro e w5 ⟨rfl, hX5⟩
  have HE5 := Lib.hid (HE4.out.trans' hX5)
  have HY5 := Lib.hid (hX5.hp HY4.out)
  have t5 := cellOf HY5.out 0
  simp only [List.getElem?_toArray, List.getElem?_cons_zero] at t5
  have HXX5 := Lib.hid hX5
  clear hX5 t4
  cases fb with
  | false =>
    go_wp2_with fail
    refine (awake22_calls _).mono ?_
    rintro e w99 ⟨rfl, hX99⟩
    go_wp2
    go_ret
    exact ⟨rfl, HE5.out.trans' hX99⟩
  | true =>
  go_wp2_with fail
  refine (HC5.out HVB.out HFB.out _ HE5.out).mono ?_
  rintro e w6 ⟨rfl, hX6⟩
  have HE6 := Lib.hid (HE5.out.trans' hX6)
  have HY6 := Lib.hid (hX6.hp HY5.out)
  have t6 := cellOf HY6.out 0
  simp only [List.getElem?_toArray, List.getElem?_cons_zero] at t6
  have HXX6 := Lib.hid hX6
  clear hX6 t5
  cases rb with
  | false =>
    go_wp2_with fail
    refine (awake22_calls _).mono ?_
    rintro e w99 ⟨rfl, hX99⟩
    go_wp2
    go_ret
    exact ⟨rfl, HE6.out.trans' hX99⟩
  | true =>
  go_wp2_with fail
  refine (HC6.out _ HE6.out).mono ?_
  rintro e w7 ⟨rfl, hX7⟩
  have HE7 := Lib.hid (HE6.out.trans' hX7)
  have HY7 := Lib.hid (hX7.hp HY6.out)
  have t7 := cellOf HY7.out 0
  simp only [List.getElem?_toArray, List.getElem?_cons_zero] at t7
  have HXX7 := Lib.hid hX7
  clear hX7 t6
  cases cb with
  | false =>
    go_wp2_with fail
    refine (awake22_calls _).mono ?_
    rintro e w99 ⟨rfl, hX99⟩
    go_wp2
    go_ret
    exact ⟨rfl, HE7.out.trans' hX99⟩
  | true =>
  have HRC := Lib.hid (show RangeC t k from ⟨of_decide_eq_true HFB.out, HRB.out⟩)
  have hcc := (consB_iff.1 HCB.out).2
  have h8 := (shapeB_parts2.1 (validT_parts2.1 HVB.out).1).2.1
  have hkl : k.length ≤ 8 := by have := HRC.out.1; omega
  have hcl : c.length ≤ 8 := by have := hcc.1.1; omega
  have HC7 := Lib.hid (fun W (hW : Ext w W) => closeP_calls _ _ t k W (HT.out.ext hW) HLO.out (HK.out.ext hW) (by omega))
  have HC8 := Lib.hid (fun W (hW : Ext w W) => openP_calls _ _ t k W (HT.out.ext hW) HLO.out (HK.out.ext hW) (by omega))
  have hre : repE t k = 0 := by unfold repE; rw [HVB.out, HFB.out, HRB.out]; rfl
  rw [hre, if_pos rfl] at HC7 HC8
  obtain ⟨N1, hN1⟩ := closeC_fix HRC.out
  obtain ⟨N2, hN2⟩ := openC_fix HRC.out
  have hU := up_least hN1 HRC.out
  have hD := dn_greatest hN2 HRC.out
  have hal : (closeC t k).length ≤ 8 := by have := hU.1.1.1; omega
  have hbl : (openC t k).length ≤ 8 := by have := hD.1.1.1; omega
  have HSA := Lib.hid (close_same HVB.out HRC.out)
  have HSB := Lib.hid (open_same HVB.out HRC.out)
  have HCA := Lib.hid (consB_iff.2 ⟨HVB.out, hU.1⟩)
  have HCO := Lib.hid (consB_iff.2 ⟨HVB.out, hD.1⟩)
  have HL1 := Lib.hid (leCB_iff.2 ⟨HRC.out.1.trans hU.1.1.1.symm, hU.2.1⟩)
  have HL2 := Lib.hid (leCB_iff.2 ⟨hD.1.1.1.trans HRC.out.1.symm, hD.2.1⟩)
  have HL3 : Hid (leCB k c = true → leCB (closeC t k) c = true) := Lib.hid (fun hl => leCB_iff.2 ⟨hU.1.1.1.trans hcc.1.1.symm, hU.2.2 c hcc (leCB_iff.1 hl).2⟩)
  have HL4 : Hid (leCB c k = true → leCB c (openC t k) = true) := Lib.hid (fun hl => leCB_iff.2 ⟨hcc.1.1.trans hD.1.1.1.symm, hD.2.2 c hcc (leCB_iff.1 hl).2⟩)
  generalize closeC t k = A at *
  generalize openC t k = B at *
  have HKL := Lib.hid (And.intro hkl (And.intro hcl (And.intro hal hbl)))
  clear hkl hcl hal hbl hU hD hN1 hN2 hre h8 hcc
  go_wp2_with fail
  refine (HC7.out _ HE7.out).mono ?_
  rintro e w8 ⟨u8, rfl, hR8, hX8⟩
  obtain ⟨ua8, uc8, hu8, _⟩ := hR8.any
  subst hu8
  have HI8 := Lib.hid hR8.ints
  clear hR8
  have HE8 := Lib.hid (HE7.out.trans' hX8)
  have HY8 := Lib.hid (hX8.hp HY7.out)
  have t8 := cellOf HY8.out 0
  simp only [List.getElem?_toArray, List.getElem?_cons_zero] at t8
  have HXX8 := Lib.hid hX8
  clear hX8 t7
  go_wp2_with fail
  refine (HC8.out _ HE8.out).mono ?_
  rintro e w9 ⟨u9, rfl, hR9, hX9⟩
  obtain ⟨ua9, uc9, hu9, _⟩ := hR9.any
  subst hu9
  have HI9 := Lib.hid hR9.ints
  clear hR9
  have HE9 := Lib.hid (HE8.out.trans' hX9)
  have HY9 := Lib.hid (hX9.hp HY8.out)
  have t9 := cellOf HY9.out 0
  simp only [List.getElem?_toArray, List.getElem?_cons_zero] at t9
  have HXX9 := Lib.hid hX9
  clear hX9 t8
  have HA := Lib.hid (HI8.out.ext HXX9.out)
  have HB := HI9
  have HCX := Lib.hid (fun W (hW : Ext w9 W) => consistentP_calls _ _ t A W (HT.out.ext (HE9.out.trans' hW)) HLO.out (HA.out.ext hW))
  rw [HCA.out] at HCX
  go_wp2_with fail
  refine (HCX.out _ (Ext.rf _)).mono ?_
  rintro e w10 ⟨rfl, hX10⟩
  have HE10 := Lib.hid (HE9.out.trans' hX10)
  have HY10 := Lib.hid (hX10.hp HY9.out)
  have t10 := cellOf HY10.out 0
  simp only [List.getElem?_toArray, List.getElem?_cons_zero] at t10
  have HXX10 := Lib.hid hX10
  clear hX10 t9
  have HA := Lib.hid (HA.out.ext HXX10.out)
  have HB := Lib.hid (HB.out.ext HXX10.out)
  have HCX := Lib.hid (consistentP_calls _ _ t B _ (HT.out.ext HE10.out) HLO.out HB.out)
  rw [HCO.out] at HCX
  go_wp2_with fail
  refine (HCX.out).mono ?_
  rintro e w11 ⟨rfl, hX11⟩
  have HE11 := Lib.hid (HE10.out.trans' hX11)
  have HY11 := Lib.hid (hX11.hp HY10.out)
  have t11 := cellOf HY11.out 0
  simp only [List.getElem?_toArray, List.getElem?_cons_zero] at t11
  have HXX11 := Lib.hid hX11
  clear hX11 t10
  have HA := Lib.hid (HA.out.ext HXX11.out)
  have HB := Lib.hid (HB.out.ext HXX11.out)
  have HCX := Lib.hid (leqP_calls _ _ k A _ (HK.out.ext HE11.out) HA.out (by have := HKL.out; omega) (by have := HKL.out; omega))
  rw [HL1.out] at HCX
  go_wp2_with fail
  refine (HCX.out).mono ?_
  rintro e w12 ⟨rfl, hX12⟩
  have HE12 := Lib.hid (HE11.out.trans' hX12)
  have HY12 := Lib.hid (hX12.hp HY11.out)
  have t12 := cellOf HY12.out 0
  simp only [List.getElem?_toArray, List.getElem?_cons_zero] at t12
  have HXX12 := Lib.hid hX12
  clear hX12 t11
  have HA := Lib.hid (HA.out.ext HXX12.out)
  have HB := Lib.hid (HB.out.ext HXX12.out)
  have HCX := Lib.hid (leqP_calls _ _ B k _ HB.out (HK.out.ext HE12.out) (by have := HKL.out; omega) (by have := HKL.out; omega))
  rw [HL2.out] at HCX
  go_wp2_with fail
  refine (HCX.out).mono ?_
  rintro e w13 ⟨rfl, hX13⟩
  have HE13 := Lib.hid (HE12.out.trans' hX13)
  have HY13 := Lib.hid (hX13.hp HY12.out)
  have t13 := cellOf HY13.out 0
  simp only [List.getElem?_toArray, List.getElem?_cons_zero] at t13
  have HXX13 := Lib.hid hX13
  clear hX13 t12
  have HA := Lib.hid (HA.out.ext HXX13.out)
  have HB := Lib.hid (HB.out.ext HXX13.out)
  have HQ1 := Lib.hid (leqP_calls _ _ k c _ (HK.out.ext HE13.out) (HC.out.ext HE13.out) (by have := HKL.out; omega) (by have := HKL.out; omega))
  go_upto_region 7 with (fail)
  go_cut [104] (fun s104 wx => s104 = .bool false ∧ Aside (Ext w13 wx))
  case first =>
    clear t13
    obtain ⟨l1, hl1⟩ : ∃ b, leCB k c = b := ⟨_, rfl⟩
    obtain ⟨l3, hl3⟩ : ∃ b, leCB c k = b := ⟨_, rfl⟩
    rw [hl1] at HQ1 HL3
    rw [hl3] at HL4
    clear hl1
    have HL33 := Lib.hid hl3
    clear hl3
    go_wp2_with fail
    refine (HQ1.out).mono ?_
    rintro e w14 ⟨rfl, hX14⟩
    have HE14 := Lib.hid (HE13.out.trans' hX14)
    have HXX14 := Lib.hid hX14
    clear hX14
    cases l1 with
    | true =>
      have HCX := Lib.hid (leqP_calls _ _ A c _ (HA.out.ext HXX14.out) (HC.out.ext HE14.out) (by have := HKL.out; omega) (by have := HKL.out; omega))
      rw [HL3.out (by first | rfl | trivial)] at HCX
      go_wp2_with fail
      refine (HCX.out).mono ?_
      rintro e w15 ⟨rfl, hX15⟩
      have HE15 := Lib.hid (HE14.out.trans' hX15)
      have HXX15 := Lib.hid hX15
      clear hX15
      have HX := Lib.hid (HXX14.out.trans' HXX15.out)
      have HCX := Lib.hid (leqP_calls _ _ c k _ (HC.out.ext HE15.out) (HK.out.ext HE15.out) (by have := HKL.out; omega) (by have := HKL.out; omega))
      rw [HL33.out] at HCX
      go_wp2_with fail
      refine (HCX.out).mono ?_
      rintro e w20 ⟨rfl, hX20⟩
      have HE20 := Lib.hid (HE15.out.trans' hX20)
      have HXX20 := Lib.hid hX20
      clear hX20
      cases l3 with
      | true =>
        have HCX := Lib.hid (leqP_calls _ _ c B _ (HC.out.ext HE20.out) (HB.out.ext (HX.out.trans' HXX20.out)) (by have := HKL.out; omega) (by have := HKL.out; omega))
        rw [HL4.out (by first | rfl | trivial)] at HCX
        go_wp2_with fail
        refine (HCX.out).mono ?_
        rintro e w21 ⟨rfl, hX21⟩
        have HE21 := Lib.hid (HE20.out.trans' hX21)
        have HXX21 := Lib.hid hX21
        clear hX21
        go_wp2
        go_meet
        exact ⟨rfl, (show Ext w13 _ from HX.out.trans' (HXX20.out.trans' HXX21.out))⟩
      | false =>
        go_wp2
        go_meet
        exact ⟨rfl, (show Ext w13 _ from HX.out.trans' HXX20.out)⟩
    | false =>
      have HX := HXX14
      have HCX := Lib.hid (leqP_calls _ _ c k _ (HC.out.ext HE14.out) (HK.out.ext HE14.out) (by have := HKL.out; omega) (by have := HKL.out; omega))
      rw [HL33.out] at HCX
      go_wp2_with fail
      refine (HCX.out).mono ?_
      rintro e w20 ⟨rfl, hX20⟩
      have HE20 := Lib.hid (HE14.out.trans' hX20)
      have HXX20 := Lib.hid hX20
      clear hX20
      cases l3 with
      | true =>
        have HCX := Lib.hid (leqP_calls _ _ c B _ (HC.out.ext HE20.out) (HB.out.ext (HX.out.trans' HXX20.out)) (by have := HKL.out; omega) (by have := HKL.out; omega))
        rw [HL4.out (by first | rfl | trivial)] at HCX
        go_wp2_with fail
        refine (HCX.out).mono ?_
        rintro e w21 ⟨rfl, hX21⟩
        have HE21 := Lib.hid (HE20.out.trans' hX21)
        have HXX21 := Lib.hid hX21
        clear hX21
        go_wp2
        go_meet
        exact ⟨rfl, (show Ext w13 _ from HX.out.trans' (HXX20.out.trans' HXX21.out))⟩
      | false =>
        go_wp2
        go_meet
        exact ⟨rfl, (show Ext w13 _ from HX.out.trans' HXX20.out)⟩
  case rest =>
    obtain ⟨rfl, HXW⟩ := hcut
    have HE16 := Lib.hid (HE13.out.trans' HXW.out)
    have HY16 := Lib.hid (HXW.out.hp HY13.out)
    have t16 := cellOf HY16.out 0
    simp only [List.getElem?_toArray, List.getElem?_cons_zero] at t16
    have HA := Lib.hid (HA.out.ext HXW.out)
    have HB := Lib.hid (HB.out.ext HXW.out)
    clear t13 HQ1
    obtain ⟨sm, hsm⟩ : ∃ b, consB t k = b := ⟨_, rfl⟩
    rw [hsm] at HSA HSB
    have HCX := Lib.hid (consistentP_calls _ _ t k _ (HT.out.ext HE16.out) HLO.out (HK.out.ext HE16.out))
    rw [hsm] at HCX
    clear hsm
    go_wp2_with fail
    refine (HCX.out).mono ?_
    rintro e w17 ⟨rfl, hX17⟩
    have HE17 := Lib.hid (HE16.out.trans' hX17)
    have HY17 := Lib.hid (hX17.hp HY16.out)
    have t17 := cellOf HY17.out 0
    simp only [List.getElem?_toArray, List.getElem?_cons_zero] at t17
    have HXX17 := Lib.hid hX17
    clear hX17 t16
    have HA := Lib.hid (HA.out.ext HXX17.out)
    have HB := Lib.hid (HB.out.ext HXX17.out)
    clear t17
    have HCX := Lib.hid (equal_int _ _ A k _ HA.out (HK.out.ext HE17.out) (by have := HKL.out; omega) (by have := HKL.out; omega))
    rw [HSA.out] at HCX
    go_wp2_with fail
    refine (HCX.out).mono ?_
    rintro e w18 ⟨rfl, hX18⟩
    have HE18 := Lib.hid (HE17.out.trans' hX18)
    have HXX18 := Lib.hid hX18
    clear hX18
    have HCX := Lib.hid (equal_int _ _ B k _ (HB.out.ext HXX18.out) (HK.out.ext HE18.out) (by have := HKL.out; omega) (by have := HKL.out; omega))
    rw [HSB.out] at HCX
    go_wp2_with fail
    refine (HCX.out).mono ?_
    rintro e w19 ⟨rfl, hX19⟩
    have HE19 := Lib.hid (HE18.out.trans' hX19)
    have HXX19 := Lib.hid hX19
    clear hX19
    go_wp2
    go_ret
    exact ⟨by simp, HE19.out⟩

end Go.Proofs.Ytijncboddmjdcaa
