/-
  The statement CutLattice, walked.
-/
import Derived.Test.YtijncboddmjdcaaGa
import Derived.Test.YtijncboddmjdcaaProg
import Derived.BigQuiet
import Derived.Deep.QuietTactic
import Derived.Deep.LoopGhost
import Derived.Shelf.Abstract
import Derived.Test.YtijncboddmjdcaaGl
import Derived.Test.YtijncboddmjdcaaLatL
import Derived.Test.YtijncboddmjdcaaGm
namespace Go.Proofs.Ytijncboddmjdcaa
open Go.RowKit
set_option linter.unusedVariables false

set_option maxHeartbeats 16000000 in
set_option maxRecDepth 100000 in
theorem cutLattice_calls (v va vb vc : Value) (t : Tr) (a b c : List Int) (w : World) (h : TrAt w v t) (htop : TopTr t) (ha : Ints w va a) (hb : Ints w vb b) (hc : Ints w vc c) :
    Calls Try.prog 10 #[.agg #[v], va, vb, vc] w fun e w' => e = .returned (.bool true) ∧ Ext w w' := by
  have HA := Lib.hid ha
  obtain ⟨aa, ac, rfl, haca, _⟩ := ha
  obtain ⟨n, hna⟩ : ∃ n, a.length = n := ⟨_, rfl⟩
  rw [hna]
  rw [hna] at HA
  have HNA := Lib.hid hna
  clear haca hna
  have HB := Lib.hid hb
  obtain ⟨ba, bc, rfl, hacb, _⟩ := hb
  obtain ⟨m, hnb⟩ : ∃ n, b.length = n := ⟨_, rfl⟩
  rw [hnb]
  rw [hnb] at HB
  have HNB := Lib.hid hnb
  clear hacb hnb
  have HC := Lib.hid hc
  obtain ⟨ca, cc, rfl, hacc, _⟩ := hc
  obtain ⟨l, hnc⟩ : ∃ n, c.length = n := ⟨_, rfl⟩
  rw [hnc]
  rw [hnc] at HC
  have HNC := Lib.hid hnc
  clear hacc hnc
  have HT := Lib.hid h
  have HFC := Lib.hid (fun W (hW : Ext w W) => few22_calls v t W (h.ext hW) htop)
  obtain ⟨ta, tc, rfl, htc⟩ := h.sh
  obtain ⟨tn, htn⟩ : ∃ n, t.length = n := ⟨_, rfl⟩
  rw [htn] at HFC HT ⊢
  have HTN := Lib.hid htn
  have HX0 := Lib.hid (heap_alloc_new w (.cells #[.slice ta tn tc] 24))
  have HE1 := Lib.hid ((Ext.rf w).al (.cells #[.slice ta tn tc] 24))
  obtain ⟨fw, hfw⟩ : ∃ b, few22 t = b := ⟨_, rfl⟩
  rw [hfw] at HFC
  have HFW := Lib.hid hfw
  clear h htop hfw htc htn
  go_enter Try.func10, Try.ntmps10
  go_wp2_with fail
  refine (awake22_calls _).mono ?_
  rintro e w2 ⟨rfl, hX2⟩
  have HE2 := Lib.hid (HE1.out.trans' hX2)
  have HY2 := Lib.hid (hX2.hp HX0.out)
  have t2 := cellOf HY2.out 0
  simp only [List.getElem?_toArray, List.getElem?_cons_zero] at t2
  clear hX2
  go_wp2_with fail
  refine (HFC.out _ HE2.out).mono ?_
  rintro e w3 ⟨rfl, hX3⟩
  have HE3 := Lib.hid (HE2.out.trans' hX3)
  have HY3 := Lib.hid (hX3.hp HY2.out)
  have t3 := cellOf HY3.out 0
  simp only [List.getElem?_toArray, List.getElem?_cons_zero] at t3
  clear hX3 t2
  cases fw with
  | false =>
    go_wp2_with fail
    refine (awake22_calls _).mono ?_
    rintro e w4 ⟨rfl, hX4⟩
    go_wp2
    go_ret
    exact ⟨rfl, HE3.out.trans' hX4⟩
  | true =>
  have HLO := Lib.hid (few22_loose HFW.out).1
  have HC1 := Lib.hid (fun W (hW : Ext w W) => consistentR_calls _ _ t a W (HT.out.ext hW) HLO.out (HA.out.ext hW))
  have HC2 := Lib.hid (fun W (hW : Ext w W) => consistentR_calls _ _ t b W (HT.out.ext hW) HLO.out (HB.out.ext hW))
  have HC3 := Lib.hid (fun W (hW : Ext w W) => consistentR_calls _ _ t c W (HT.out.ext hW) HLO.out (HC.out.ext hW))
  obtain ⟨ab1, hab1⟩ : ∃ b, consB t a = b := ⟨_, rfl⟩
  obtain ⟨bb1, hbb1⟩ : ∃ z, consB t b = z := ⟨_, rfl⟩
  obtain ⟨cb1, hcb1⟩ : ∃ b, consB t c = b := ⟨_, rfl⟩
  rw [hab1] at HC1
  rw [hbb1] at HC2
  rw [hcb1] at HC3
  have HAB1 := Lib.hid hab1
  have HBB1 := Lib.hid hbb1
  have HCB1 := Lib.hid hcb1
  clear hab1 hbb1 hcb1
  go_wp2_with fail
  refine (HC1.out _ HE3.out).mono ?_
  rintro e w4 ⟨rfl, hX4⟩
  have HE4 := Lib.hid (HE3.out.trans' hX4)
  have HY4 := Lib.hid (hX4.hp HY3.out)
  have t4 := cellOf HY4.out 0
  simp only [List.getElem?_toArray, List.getElem?_cons_zero] at t4
  have HXX4 := Lib.hid hX4
  clear hX4 t3
  cases ab1 with
  | false =>
    go_wp2_with fail
    refine (awake22_calls _).mono ?_
    rintro e w99 ⟨rfl, hX99⟩
    go_wp2
    go_ret
    exact ⟨rfl, HE4.out.trans' hX99⟩
  | true =>
  go_wp2_with fail
  refine (HC2.out _ HE4.out).mono ?_
  rintro e w5 ⟨rfl, hX5⟩
  have HE5 := Lib.hid (HE4.out.trans' hX5)
  have HY5 := Lib.hid (hX5.hp HY4.out)
  have t5 := cellOf HY5.out 0
  simp only [List.getElem?_toArray, List.getElem?_cons_zero] at t5
  have HXX5 := Lib.hid hX5
  clear hX5 t4
  cases bb1 with
  | false =>
    go_wp2_with fail
    refine (awake22_calls _).mono ?_
    rintro e w99 ⟨rfl, hX99⟩
    go_wp2
    go_ret
    exact ⟨rfl, HE5.out.trans' hX99⟩
  | true =>
  go_wp2_with fail
  refine (HC3.out _ HE5.out).mono ?_
  rintro e w6 ⟨rfl, hX6⟩
  have HE6 := Lib.hid (HE5.out.trans' hX6)
  have HY6 := Lib.hid (hX6.hp HY5.out)
  have t6 := cellOf HY6.out 0
  simp only [List.getElem?_toArray, List.getElem?_cons_zero] at t6
  have HXX6 := Lib.hid hX6
  clear hX6 t5
  cases cb1 with
  | false =>
    go_wp2_with fail
    refine (awake22_calls _).mono ?_
    rintro e w99 ⟨rfl, hX99⟩
    go_wp2
    go_ret
    exact ⟨rfl, HE6.out.trans' hX99⟩
  | true =>
  have HVB := Lib.hid (consB_iff.1 HAB1.out).1
  have HOA := Lib.hid (consB_iff.1 HAB1.out).2
  have HOB := Lib.hid (consB_iff.1 HBB1.out).2
  have HOC := Lib.hid (consB_iff.1 HCB1.out).2
  have HN8 := Lib.hid (shapeB_parts2.1 (validT_parts2.1 HVB.out).1).2.1
  obtain ⟨BC, hdefBC⟩ : ∃ z, joinC b c = z := ⟨_, rfl⟩
  have HDEF_join_b_c := Lib.hid hdefBC
  have HOBC := Lib.hid (hdefBC ▸ join_cons HOB.out HOC.out : ConsC t BC)
  obtain ⟨U, hdefU⟩ : ∃ z, meetC a BC = z := ⟨_, rfl⟩
  have HDEF_meet_a_BC := Lib.hid hdefU
  have HOU := Lib.hid (hdefU ▸ meet_cons HOA.out HOBC.out : ConsC t U)
  obtain ⟨AB, hdefAB⟩ : ∃ z, meetC a b = z := ⟨_, rfl⟩
  have HDEF_meet_a_b := Lib.hid hdefAB
  have HOAB := Lib.hid (hdefAB ▸ meet_cons HOA.out HOB.out : ConsC t AB)
  obtain ⟨AC, hdefAC⟩ : ∃ z, meetC a c = z := ⟨_, rfl⟩
  have HDEF_meet_a_c := Lib.hid hdefAC
  have HOAC := Lib.hid (hdefAC ▸ meet_cons HOA.out HOC.out : ConsC t AC)
  have HDEF_join_AB_AC : Hid (joinC AB AC = U) := Lib.hid (by rw [← hdefU]; first | exact (meet_join HOA.out.1.1 HOB.out.1.1 HOC.out.1.1 hdefBC hdefAB hdefAC).symm | skip)
  obtain ⟨MC, hdefMC⟩ : ∃ z, meetC b c = z := ⟨_, rfl⟩
  have HDEF_meet_b_c := Lib.hid hdefMC
  have HOMC := Lib.hid (hdefMC ▸ meet_cons HOB.out HOC.out : ConsC t MC)
  obtain ⟨V, hdefV⟩ : ∃ z, joinC a MC = z := ⟨_, rfl⟩
  have HDEF_join_a_MC := Lib.hid hdefV
  have HOV := Lib.hid (hdefV ▸ join_cons HOA.out HOMC.out : ConsC t V)
  obtain ⟨JB, hdefJB⟩ : ∃ z, joinC a b = z := ⟨_, rfl⟩
  have HDEF_join_a_b := Lib.hid hdefJB
  have HOJB := Lib.hid (hdefJB ▸ join_cons HOA.out HOB.out : ConsC t JB)
  obtain ⟨JC, hdefJC⟩ : ∃ z, joinC a c = z := ⟨_, rfl⟩
  have HDEF_join_a_c := Lib.hid hdefJC
  have HOJC := Lib.hid (hdefJC ▸ join_cons HOA.out HOC.out : ConsC t JC)
  have HDEF_meet_JB_JC : Hid (meetC JB JC = V) := Lib.hid (by rw [← hdefV]; first | exact (join_meet HOA.out.1.1 HOB.out.1.1 HOC.out.1.1 hdefMC hdefJB hdefJC).symm | skip)
  have HLN : Hid (∀ l, ConsC t l → l.length ≤ 1000000) := Lib.hid (fun l hl => by have := hl.1.1; have := HN8.out; omega)
  have HF1 := Lib.hid (hdefBC ▸ le_join HOB.out.1.1 HOC.out.1.1 : leCB b BC = true ∧ leCB c BC = true)
  have HF2 := Lib.hid (hdefAB ▸ meet_le HOA.out.1.1 HOB.out.1.1 : leCB AB a = true ∧ leCB AB b = true)
  have HF3 := Lib.hid (hdefJB ▸ join_eq HOA.out.1.1 HOB.out.1.1 : (JB == b) = leCB a b)
  have HF4 := Lib.hid (hdefAB ▸ meet_eq HOA.out.1.1 HOB.out.1.1 : (AB == a) = leCB a b)
  have HG1 := Lib.hid (consB_iff.2 ⟨HVB.out, HOBC.out⟩)
  have HG2 := Lib.hid (consB_iff.2 ⟨HVB.out, HOAB.out⟩)
  clear hdefBC hdefU hdefAB hdefAC hdefMC hdefV hdefJB hdefJC
  have HCX := Lib.hid (joinP_calls _ _ _ t b c _ (HT.out.ext HE6.out) HLO.out (HB.out.ext HE6.out) (HC.out.ext HE6.out))
  rw [given_two HVB.out HOB.out HOC.out, if_pos rfl, HDEF_join_b_c.out] at HCX
  go_wp2_with fail
  refine (HCX.out).mono ?_
  rintro e w7 ⟨u7, rfl, hR7, hX7⟩
  obtain ⟨ua7, uc7, hu7, _⟩ := hR7.any
  subst hu7
  have HI7 := Lib.hid hR7.ints
  clear hR7
  have HE7 := Lib.hid (HE6.out.trans' hX7)
  have HY7 := Lib.hid (hX7.hp HY6.out)
  have t7 := cellOf HY7.out 0
  simp only [List.getElem?_toArray, List.getElem?_cons_zero] at t7
  have HXX7 := Lib.hid hX7
  clear hX7 t6
  have HCX := Lib.hid (meetP_calls _ _ _ t a BC _ (HT.out.ext HE7.out) HLO.out (HA.out.ext HE7.out) (HI7.out.ext (Ext.rf _)))
  rw [given_two HVB.out HOA.out HOBC.out, if_pos rfl, HDEF_meet_a_BC.out] at HCX
  go_wp2_with fail
  refine (HCX.out).mono ?_
  rintro e w8 ⟨u8, rfl, hR8, hX8⟩
  obtain ⟨ua8, uc8, hu8, _⟩ := hR8.any
  subst hu8
  have HI8 := Lib.hid hR8.ints
  clear hR8
  have HE8 := Lib.hid (HE7.out.trans' hX8)
  have HY8 := Lib.hid (hX8.hp HY7.out)
  have t8 := cellOf HY8.out 0
  simp only [List.getElem?_toArray, List.getElem?_cons_zero] at t8
  have HXX8 := Lib.hid hX8
  clear hX8 t7
  have HCX := Lib.hid (meetP_calls _ _ _ t a b _ (HT.out.ext HE8.out) HLO.out (HA.out.ext HE8.out) (HB.out.ext HE8.out))
  rw [given_two HVB.out HOA.out HOB.out, if_pos rfl, HDEF_meet_a_b.out] at HCX
  go_wp2_with fail
  refine (HCX.out).mono ?_
  rintro e w9 ⟨u9, rfl, hR9, hX9⟩
  obtain ⟨ua9, uc9, hu9, _⟩ := hR9.any
  subst hu9
  have HI9 := Lib.hid hR9.ints
  clear hR9
  have HE9 := Lib.hid (HE8.out.trans' hX9)
  have HY9 := Lib.hid (hX9.hp HY8.out)
  have t9 := cellOf HY9.out 0
  simp only [List.getElem?_toArray, List.getElem?_cons_zero] at t9
  have HXX9 := Lib.hid hX9
  clear hX9 t8
  have HCX := Lib.hid (meetP_calls _ _ _ t a c _ (HT.out.ext HE9.out) HLO.out (HA.out.ext HE9.out) (HC.out.ext HE9.out))
  rw [given_two HVB.out HOA.out HOC.out, if_pos rfl, HDEF_meet_a_c.out] at HCX
  go_wp2_with fail
  refine (HCX.out).mono ?_
  rintro e w10 ⟨u10, rfl, hR10, hX10⟩
  obtain ⟨ua10, uc10, hu10, _⟩ := hR10.any
  subst hu10
  have HI10 := Lib.hid hR10.ints
  clear hR10
  have HE10 := Lib.hid (HE9.out.trans' hX10)
  have HY10 := Lib.hid (hX10.hp HY9.out)
  have t10 := cellOf HY10.out 0
  simp only [List.getElem?_toArray, List.getElem?_cons_zero] at t10
  have HXX10 := Lib.hid hX10
  clear hX10 t9
  have HCX := Lib.hid (joinP_calls _ _ _ t AB AC _ (HT.out.ext HE10.out) HLO.out (HI9.out.ext HXX10.out) (HI10.out.ext (Ext.rf _)))
  rw [given_two HVB.out HOAB.out HOAC.out, if_pos rfl, HDEF_join_AB_AC.out] at HCX
  go_wp2_with fail
  refine (HCX.out).mono ?_
  rintro e w11 ⟨u11, rfl, hR11, hX11⟩
  obtain ⟨ua11, uc11, hu11, _⟩ := hR11.any
  subst hu11
  have HI11 := Lib.hid hR11.ints
  clear hR11
  have HE11 := Lib.hid (HE10.out.trans' hX11)
  have HY11 := Lib.hid (hX11.hp HY10.out)
  have t11 := cellOf HY11.out 0
  simp only [List.getElem?_toArray, List.getElem?_cons_zero] at t11
  have HXX11 := Lib.hid hX11
  clear hX11 t10
  have HCX := Lib.hid (eqT _ _ U _ (HI8.out.ext (HXX9.out.trans' (HXX10.out.trans' HXX11.out))) (HI11.out.ext (Ext.rf _)) (HLN.out _ HOU.out))
  go_wp2_with fail
  refine (HCX.out).mono ?_
  rintro e w12 ⟨rfl, hX12⟩
  have HE12 := Lib.hid (HE11.out.trans' hX12)
  have HY12 := Lib.hid (hX12.hp HY11.out)
  have t12 := cellOf HY12.out 0
  simp only [List.getElem?_toArray, List.getElem?_cons_zero] at t12
  have HXX12 := Lib.hid hX12
  clear hX12 t11
  have HCX := Lib.hid (meetP_calls _ _ _ t b c _ (HT.out.ext HE12.out) HLO.out (HB.out.ext HE12.out) (HC.out.ext HE12.out))
  rw [given_two HVB.out HOB.out HOC.out, if_pos rfl, HDEF_meet_b_c.out] at HCX
  go_wp2_with fail
  refine (HCX.out).mono ?_
  rintro e w13 ⟨u13, rfl, hR13, hX13⟩
  obtain ⟨ua13, uc13, hu13, _⟩ := hR13.any
  subst hu13
  have HI13 := Lib.hid hR13.ints
  clear hR13
  have HE13 := Lib.hid (HE12.out.trans' hX13)
  have HY13 := Lib.hid (hX13.hp HY12.out)
  have t13 := cellOf HY13.out 0
  simp only [List.getElem?_toArray, List.getElem?_cons_zero] at t13
  have HXX13 := Lib.hid hX13
  clear hX13 t12
  have HCX := Lib.hid (joinP_calls _ _ _ t a MC _ (HT.out.ext HE13.out) HLO.out (HA.out.ext HE13.out) (HI13.out.ext (Ext.rf _)))
  rw [given_two HVB.out HOA.out HOMC.out, if_pos rfl, HDEF_join_a_MC.out] at HCX
  go_wp2_with fail
  refine (HCX.out).mono ?_
  rintro e w14 ⟨u14, rfl, hR14, hX14⟩
  obtain ⟨ua14, uc14, hu14, _⟩ := hR14.any
  subst hu14
  have HI14 := Lib.hid hR14.ints
  clear hR14
  have HE14 := Lib.hid (HE13.out.trans' hX14)
  have HY14 := Lib.hid (hX14.hp HY13.out)
  have t14 := cellOf HY14.out 0
  simp only [List.getElem?_toArray, List.getElem?_cons_zero] at t14
  have HXX14 := Lib.hid hX14
  clear hX14 t13
  have HCX := Lib.hid (joinP_calls _ _ _ t a b _ (HT.out.ext HE14.out) HLO.out (HA.out.ext HE14.out) (HB.out.ext HE14.out))
  rw [given_two HVB.out HOA.out HOB.out, if_pos rfl, HDEF_join_a_b.out] at HCX
  go_wp2_with fail
  refine (HCX.out).mono ?_
  rintro e w15 ⟨u15, rfl, hR15, hX15⟩
  obtain ⟨ua15, uc15, hu15, _⟩ := hR15.any
  subst hu15
  have HI15 := Lib.hid hR15.ints
  clear hR15
  have HE15 := Lib.hid (HE14.out.trans' hX15)
  have HY15 := Lib.hid (hX15.hp HY14.out)
  have t15 := cellOf HY15.out 0
  simp only [List.getElem?_toArray, List.getElem?_cons_zero] at t15
  have HXX15 := Lib.hid hX15
  clear hX15 t14
  have HCX := Lib.hid (joinP_calls _ _ _ t a c _ (HT.out.ext HE15.out) HLO.out (HA.out.ext HE15.out) (HC.out.ext HE15.out))
  rw [given_two HVB.out HOA.out HOC.out, if_pos rfl, HDEF_join_a_c.out] at HCX
  go_wp2_with fail
  refine (HCX.out).mono ?_
  rintro e w16 ⟨u16, rfl, hR16, hX16⟩
  obtain ⟨ua16, uc16, hu16, _⟩ := hR16.any
  subst hu16
  have HI16 := Lib.hid hR16.ints
  clear hR16
  have HE16 := Lib.hid (HE15.out.trans' hX16)
  have HY16 := Lib.hid (hX16.hp HY15.out)
  have t16 := cellOf HY16.out 0
  simp only [List.getElem?_toArray, List.getElem?_cons_zero] at t16
  have HXX16 := Lib.hid hX16
  clear hX16 t15
  have HCX := Lib.hid (meetP_calls _ _ _ t JB JC _ (HT.out.ext HE16.out) HLO.out (HI15.out.ext HXX16.out) (HI16.out.ext (Ext.rf _)))
  rw [given_two HVB.out HOJB.out HOJC.out, if_pos rfl, HDEF_meet_JB_JC.out] at HCX
  go_wp2_with fail
  refine (HCX.out).mono ?_
  rintro e w17 ⟨u17, rfl, hR17, hX17⟩
  obtain ⟨ua17, uc17, hu17, _⟩ := hR17.any
  subst hu17
  have HI17 := Lib.hid hR17.ints
  clear hR17
  have HE17 := Lib.hid (HE16.out.trans' hX17)
  have HY17 := Lib.hid (hX17.hp HY16.out)
  have t17 := cellOf HY17.out 0
  simp only [List.getElem?_toArray, List.getElem?_cons_zero] at t17
  have HXX17 := Lib.hid hX17
  clear hX17 t16
  have HCX := Lib.hid (eqT _ _ V _ (HI14.out.ext (HXX15.out.trans' (HXX16.out.trans' HXX17.out))) (HI17.out.ext (Ext.rf _)) (HLN.out _ HOV.out))
  go_wp2_with fail
  refine (HCX.out).mono ?_
  rintro e w18 ⟨rfl, hX18⟩
  have HE18 := Lib.hid (HE17.out.trans' hX18)
  have HY18 := Lib.hid (hX18.hp HY17.out)
  have t18 := cellOf HY18.out 0
  simp only [List.getElem?_toArray, List.getElem?_cons_zero] at t18
  have HXX18 := Lib.hid hX18
  clear hX18 t17
  have HCX := Lib.hid (consistentP_calls _ _ t BC _ (HT.out.ext HE18.out) HLO.out (HI7.out.ext (HXX8.out.trans' (HXX9.out.trans' (HXX10.out.trans' (HXX11.out.trans' (HXX12.out.trans' (HXX13.out.trans' (HXX14.out.trans' (HXX15.out.trans' (HXX16.out.trans' (HXX17.out.trans' HXX18.out))))))))))))
  rw [HG1.out] at HCX
  go_wp2_with fail
  refine (HCX.out).mono ?_
  rintro e w19 ⟨rfl, hX19⟩
  have HE19 := Lib.hid (HE18.out.trans' hX19)
  have HY19 := Lib.hid (hX19.hp HY18.out)
  have t19 := cellOf HY19.out 0
  simp only [List.getElem?_toArray, List.getElem?_cons_zero] at t19
  have HXX19 := Lib.hid hX19
  clear hX19 t18
  have HCX := Lib.hid (consistentP_calls _ _ t AB _ (HT.out.ext HE19.out) HLO.out (HI9.out.ext (HXX10.out.trans' (HXX11.out.trans' (HXX12.out.trans' (HXX13.out.trans' (HXX14.out.trans' (HXX15.out.trans' (HXX16.out.trans' (HXX17.out.trans' (HXX18.out.trans' HXX19.out)))))))))))
  rw [HG2.out] at HCX
  go_wp2_with fail
  refine (HCX.out).mono ?_
  rintro e w20 ⟨rfl, hX20⟩
  have HE20 := Lib.hid (HE19.out.trans' hX20)
  have HY20 := Lib.hid (hX20.hp HY19.out)
  have t20 := cellOf HY20.out 0
  simp only [List.getElem?_toArray, List.getElem?_cons_zero] at t20
  have HXX20 := Lib.hid hX20
  clear hX20 t19
  have HCX := Lib.hid (leqP_calls _ _ b BC _ (HB.out.ext HE20.out) (HI7.out.ext (HXX8.out.trans' (HXX9.out.trans' (HXX10.out.trans' (HXX11.out.trans' (HXX12.out.trans' (HXX13.out.trans' (HXX14.out.trans' (HXX15.out.trans' (HXX16.out.trans' (HXX17.out.trans' (HXX18.out.trans' (HXX19.out.trans' HXX20.out))))))))))))) (HLN.out _ HOB.out) (HLN.out _ HOBC.out))
  rw [HF1.out.1] at HCX
  go_wp2_with fail
  refine (HCX.out).mono ?_
  rintro e w21 ⟨rfl, hX21⟩
  have HE21 := Lib.hid (HE20.out.trans' hX21)
  have HY21 := Lib.hid (hX21.hp HY20.out)
  have t21 := cellOf HY21.out 0
  simp only [List.getElem?_toArray, List.getElem?_cons_zero] at t21
  have HXX21 := Lib.hid hX21
  clear hX21 t20
  have HCX := Lib.hid (leqP_calls _ _ c BC _ (HC.out.ext HE21.out) (HI7.out.ext (HXX8.out.trans' (HXX9.out.trans' (HXX10.out.trans' (HXX11.out.trans' (HXX12.out.trans' (HXX13.out.trans' (HXX14.out.trans' (HXX15.out.trans' (HXX16.out.trans' (HXX17.out.trans' (HXX18.out.trans' (HXX19.out.trans' (HXX20.out.trans' HXX21.out)))))))))))))) (HLN.out _ HOC.out) (HLN.out _ HOBC.out))
  rw [HF1.out.2] at HCX
  go_wp2_with fail
  refine (HCX.out).mono ?_
  rintro e w22 ⟨rfl, hX22⟩
  have HE22 := Lib.hid (HE21.out.trans' hX22)
  have HY22 := Lib.hid (hX22.hp HY21.out)
  have t22 := cellOf HY22.out 0
  simp only [List.getElem?_toArray, List.getElem?_cons_zero] at t22
  have HXX22 := Lib.hid hX22
  clear hX22 t21
  have HCX := Lib.hid (leqP_calls _ _ AB a _ (HI9.out.ext (HXX10.out.trans' (HXX11.out.trans' (HXX12.out.trans' (HXX13.out.trans' (HXX14.out.trans' (HXX15.out.trans' (HXX16.out.trans' (HXX17.out.trans' (HXX18.out.trans' (HXX19.out.trans' (HXX20.out.trans' (HXX21.out.trans' HXX22.out))))))))))))) (HA.out.ext HE22.out) (HLN.out _ HOAB.out) (HLN.out _ HOA.out))
  rw [HF2.out.1] at HCX
  go_wp2_with fail
  refine (HCX.out).mono ?_
  rintro e w23 ⟨rfl, hX23⟩
  have HE23 := Lib.hid (HE22.out.trans' hX23)
  have HY23 := Lib.hid (hX23.hp HY22.out)
  have t23 := cellOf HY23.out 0
  simp only [List.getElem?_toArray, List.getElem?_cons_zero] at t23
  have HXX23 := Lib.hid hX23
  clear hX23 t22
  have HCX := Lib.hid (leqP_calls _ _ AB b _ (HI9.out.ext (HXX10.out.trans' (HXX11.out.trans' (HXX12.out.trans' (HXX13.out.trans' (HXX14.out.trans' (HXX15.out.trans' (HXX16.out.trans' (HXX17.out.trans' (HXX18.out.trans' (HXX19.out.trans' (HXX20.out.trans' (HXX21.out.trans' (HXX22.out.trans' HXX23.out)))))))))))))) (HB.out.ext HE23.out) (HLN.out _ HOAB.out) (HLN.out _ HOB.out))
  rw [HF2.out.2] at HCX
  go_wp2_with fail
  refine (HCX.out).mono ?_
  rintro e w24 ⟨rfl, hX24⟩
  have HE24 := Lib.hid (HE23.out.trans' hX24)
  have HY24 := Lib.hid (hX24.hp HY23.out)
  have t24 := cellOf HY24.out 0
  simp only [List.getElem?_toArray, List.getElem?_cons_zero] at t24
  have HXX24 := Lib.hid hX24
  clear hX24 t23
  obtain ⟨lb, hlb⟩ : ∃ z, leCB a b = z := ⟨_, rfl⟩
  have HLB := Lib.hid hlb
  rw [hlb] at HF3 HF4
  clear hlb
  have HCX := Lib.hid (leqP_calls _ _ a b _ (HA.out.ext HE24.out) (HB.out.ext HE24.out) (HLN.out _ HOA.out) (HLN.out _ HOB.out))
  rw [HLB.out] at HCX
  go_wp2_with fail
  refine (HCX.out).mono ?_
  rintro e w25 ⟨rfl, hX25⟩
  have HE25 := Lib.hid (HE24.out.trans' hX25)
  have HY25 := Lib.hid (hX25.hp HY24.out)
  have t25 := cellOf HY25.out 0
  simp only [List.getElem?_toArray, List.getElem?_cons_zero] at t25
  have HXX25 := Lib.hid hX25
  clear hX25 t24
  have HCX := Lib.hid (equal_int _ _ JB b _ (HI15.out.ext (HXX16.out.trans' (HXX17.out.trans' (HXX18.out.trans' (HXX19.out.trans' (HXX20.out.trans' (HXX21.out.trans' (HXX22.out.trans' (HXX23.out.trans' (HXX24.out.trans' HXX25.out)))))))))) (HB.out.ext HE25.out) (HLN.out _ HOJB.out) (HLN.out _ HOB.out))
  rw [HF3.out] at HCX
  go_wp2_with fail
  refine (HCX.out).mono ?_
  rintro e w26 ⟨rfl, hX26⟩
  have HE26 := Lib.hid (HE25.out.trans' hX26)
  have HY26 := Lib.hid (hX26.hp HY25.out)
  have t26 := cellOf HY26.out 0
  simp only [List.getElem?_toArray, List.getElem?_cons_zero] at t26
  have HXX26 := Lib.hid hX26
  clear hX26 t25
  have HCX := Lib.hid (leqP_calls _ _ a b _ (HA.out.ext HE26.out) (HB.out.ext HE26.out) (HLN.out _ HOA.out) (HLN.out _ HOB.out))
  rw [HLB.out] at HCX
  go_wp2_with fail
  refine (HCX.out).mono ?_
  rintro e w27 ⟨rfl, hX27⟩
  have HE27 := Lib.hid (HE26.out.trans' hX27)
  have HY27 := Lib.hid (hX27.hp HY26.out)
  have t27 := cellOf HY27.out 0
  simp only [List.getElem?_toArray, List.getElem?_cons_zero] at t27
  have HXX27 := Lib.hid hX27
  clear hX27 t26
  have HCX := Lib.hid (equal_int _ _ AB a _ (HI9.out.ext (HXX10.out.trans' (HXX11.out.trans' (HXX12.out.trans' (HXX13.out.trans' (HXX14.out.trans' (HXX15.out.trans' (HXX16.out.trans' (HXX17.out.trans' (HXX18.out.trans' (HXX19.out.trans' (HXX20.out.trans' (HXX21.out.trans' (HXX22.out.trans' (HXX23.out.trans' (HXX24.out.trans' (HXX25.out.trans' (HXX26.out.trans' HXX27.out)))))))))))))))))) (HA.out.ext HE27.out) (HLN.out _ HOAB.out) (HLN.out _ HOA.out))
  rw [HF4.out] at HCX
  go_wp2_with fail
  refine (HCX.out).mono ?_
  rintro e w28 ⟨rfl, hX28⟩
  have HE28 := Lib.hid (HE27.out.trans' hX28)
  have HY28 := Lib.hid (hX28.hp HY27.out)
  have t28 := cellOf HY28.out 0
  simp only [List.getElem?_toArray, List.getElem?_cons_zero] at t28
  have HXX28 := Lib.hid hX28
  clear hX28 t27
  go_wp2
  go_ret
  exact ⟨by simp, HE28.out⟩

end Go.Proofs.Ytijncboddmjdcaa
