/-
  The statement CutGrows, walked.
-/
import Derived.Test.YtijncboddmjdcaaGa
import Derived.Test.YtijncboddmjdcaaProg
import Derived.BigQuiet
import Derived.Deep.QuietTactic
import Derived.Deep.LoopGhost
import Derived.Shelf.Abstract
import Derived.Test.YtijncboddmjdcaaGl
import Derived.Test.YtijncboddmjdcaaGm
import Derived.Test.YtijncboddmjdcaaGn
import Derived.Test.YtijncboddmjdcaaGrowL
import Derived.Test.YtijncboddmjdcaaConE
import Derived.Test.YtijncboddmjdcaaSoI
namespace Go.Proofs.Ytijncboddmjdcaa
open Go.RowKit
set_option linter.unusedVariables false

theorem up_enabled (t : Tr) (c : List Int) : upB (enabledC t c) = true := by
  have key : ∀ p, upB (enTo t c p) = true := by
    intro p
    induction p with
    | zero => rfl
    | succ p ih =>
      cases h : enC t c p with
      | true => rw [enTo_yes h]; exact upB_snoc _ _ ih fun y hy => by have := (enTo_sorted t c p).2 y hy; omega
      | false => rw [enTo_no h]; exact ih
  exact key c.length

set_option maxHeartbeats 16000000 in
set_option maxRecDepth 100000 in
theorem cutGrows_calls (v vc : Value) (t : Tr) (c : List Int) (w : World) (h : TrAt w v t) (htop : TopTr t) (hc : Ints w vc c) :
    Calls Try.prog 11 #[.agg #[v], vc] w fun e w' => e = .returned (.bool true) ∧ Ext w w' := by
  have HC := Lib.hid hc
  obtain ⟨ca, cc, rfl, hacc, _⟩ := hc
  obtain ⟨m, hnc⟩ : ∃ n, c.length = n := ⟨_, rfl⟩
  rw [hnc]
  rw [hnc] at HC
  have HNC := Lib.hid hnc
  clear hacc hnc
  have HT := Lib.hid h
  have HFC := Lib.hid (fun W (hW : Ext w W) => few22_calls v t W (h.ext hW) htop)
  obtain ⟨ta, tc, rfl, htc⟩ := h.sh
  obtain ⟨tn, htn⟩ : ∃ n, t.length = n := ⟨_, rfl⟩
  rw [htn] at HFC HT ⊢
  have HTN := Lib.hid htn
  have HX0 := Lib.hid (heap_alloc_new w (.cells #[.slice ta tn tc] 24))
  have HE1 := Lib.hid ((Ext.rf w).al (.cells #[.slice ta tn tc] 24))
  obtain ⟨fw, hfw⟩ : ∃ b, few22 t = b := ⟨_, rfl⟩
  rw [hfw] at HFC
  have HFW := Lib.hid hfw
  clear h htop hfw htc htn
  go_enter Try.func11, Try.ntmps11
  go_wp2_with fail
  refine (awake22_calls _).mono ?_
  rintro e w2 ⟨rfl, hX2⟩
  have HE2 := Lib.hid (HE1.out.trans' hX2)
  have HY2 := Lib.hid (hX2.hp HX0.out)
  have t2 := cellOf HY2.out 0
  simp only [List.getElem?_toArray, List.getElem?_cons_zero] at t2
  clear hX2
  go_wp2_with fail
  refine (HFC.out _ HE2.out).mono ?_
  rintro e w3 ⟨rfl, hX3⟩
  have HE3 := Lib.hid (HE2.out.trans' hX3)
  have HY3 := Lib.hid (hX3.hp HY2.out)
  have t3 := cellOf HY3.out 0
  simp only [List.getElem?_toArray, List.getElem?_cons_zero] at t3
  clear hX3 t2
  cases fw with
  | false =>
    go_wp2_with fail
    refine (awake22_calls _).mono ?_
    rintro e w4 ⟨rfl, hX4⟩
    go_wp2
    go_ret
    exact ⟨rfl, HE3.out.trans' hX4⟩
  | true =>
  have HLO := Lib.hid (few22_loose HFW.out).1
  have HC6 := Lib.hid (fun W (hW : Ext w W) => consistentR_calls _ _ t c W (HT.out.ext hW) HLO.out (HC.out.ext hW))
  obtain ⟨cb, hcb⟩ : ∃ b, consB t c = b := ⟨_, rfl⟩
  rw [hcb] at HC6
  have HCB := Lib.hid hcb
  clear hcb
  go_wp2_with fail
  refine (HC6.out _ HE3.out).mono ?_
  rintro e w4 ⟨rfl, hX4⟩
  have HE4 := Lib.hid (HE3.out.trans' hX4)
  have HY4 := Lib.hid (hX4.hp HY3.out)
  have t4 := cellOf HY4.out 0
  simp only [List.getElem?_toArray, List.getElem?_cons_zero] at t4
  have HXX4 := Lib.hid hX4
  clear hX4 t3
  cases cb with
  | false =>
    go_wp2_with fail
    refine (awake22_calls _).mono ?_
    rintro e w99 ⟨rfl, hX99⟩
    go_wp2
    go_ret
    exact ⟨rfl, HE4.out.trans' hX99⟩
  | true =>
  have HV := Lib.hid (consB_iff.1 HCB.out).1
  have HCO := Lib.hid (consB_iff.1 HCB.out).2
  have HSM := Lib.hid (valid_small HV.out)
  have H0 := Lib.hid ((givenE_one t c).2 HCB.out)
  have h8 := (shapeB_parts2.1 (validT_parts2.1 HV.out).1).2.1
  have hm8 : m ≤ 8 := by rw [← HNC.out]; have := HCO.out.1.1; omega
  have HC1 := Lib.hid (fun W (hW : Ext w W) => enabledP_calls _ _ t c W (HT.out.ext hW) HLO.out (HC.out.ext hW))
  rw [H0.out, if_pos rfl] at HC1
  have HC2 := Lib.hid (fun W (hW : Ext w W) => lengthsR_calls _ t W (HT.out.ext hW) HSM.out)
  have HEN := Lib.hid (enabled_end HV.out HCO.out)
  have HUP := Lib.hid (up_enabled t c)
  have HMEM := Lib.hid (fun p hp => @enabled_mem t c p hp)
  have HGL : Hid ((enabledC t c).length ≤ 8) := Lib.hid (by have := enTo_len t c c.length; unfold enabledC; rw [HNC.out] at this ⊢; omega)
  have HLL : Hid ((lensC t).length ≤ 8) := Lib.hid (by unfold lensC; rw [lensTo_len]; exact h8)
  generalize enabledC t c = G at *
  generalize lensC t = LN at *
  clear h8
  go_wp2_with fail
  refine (HC1.out _ HE4.out).mono ?_
  rintro e w5 ⟨u5, rfl, hR5, hX5⟩
  obtain ⟨ua5, uc5, hu5, _⟩ := hR5.any
  subst hu5
  have HI5 := Lib.hid hR5.ints
  clear hR5
  have HE5 := Lib.hid (HE4.out.trans' hX5)
  have HY5 := Lib.hid (hX5.hp HY4.out)
  have t5 := cellOf HY5.out 0
  simp only [List.getElem?_toArray, List.getElem?_cons_zero] at t5
  have HXX5 := Lib.hid hX5
  clear hX5 t4
  obtain ⟨gl, hgl⟩ : ∃ n, G.length = n := ⟨_, rfl⟩
  rw [hgl] at HI5 HGL ⊢
  have HGN := Lib.hid hgl
  obtain ⟨ez, hez⟩ : ∃ b, ((gl : Int) == 0) = b := ⟨_, rfl⟩
  have HEZ : Hid ((c == LN) = ez) := Lib.hid (by
    rw [Bool.eq_iff_iff, beq_iff_eq, ← hez, beq_iff_eq, ← HEN.out, ← List.length_eq_zero_iff, hgl]; omega)
  clear hgl
  go_wp2_with fail
  refine (HC2.out _ HE5.out).mono ?_
  rintro e w6 ⟨u6, rfl, hR6, hX6⟩
  obtain ⟨ua6, uc6, hu6, _⟩ := hR6.any
  subst hu6
  have HI6 := Lib.hid hR6.ints
  have HI5 := Lib.hid (HI5.out.ext hX6)
  have HE6 := Lib.hid (HE5.out.trans' hX6)
  have HY6 := Lib.hid (hX6.hp HY5.out)
  have t6 := cellOf HY6.out 0
  simp only [List.getElem?_toArray, List.getElem?_cons_zero] at t6
  have HXX6 := Lib.hid hX6
  clear hX6 t5
  clear hR6
  have HCX := Lib.hid (equal_int _ _ c LN _ (HC.out.ext HE6.out) HI6.out (by rw [HNC.out]; omega) (by have := HLL.out; omega))
  rw [HEZ.out] at HCX
  go_wp2_with fail
  refine (HCX.out).mono ?_
  rintro e w7 ⟨rfl, hX7⟩
  have HE7 := Lib.hid (HE6.out.trans' hX7)
  have HY7 := Lib.hid (hX7.hp HY6.out)
  have t7 := cellOf HY7.out 0
  simp only [List.getElem?_toArray, List.getElem?_cons_zero] at t7
  have HXX7 := Lib.hid hX7
  clear hX7 t6
  have HI5 := Lib.hid (HI5.out.ext HXX7.out)
  have HCX := Lib.hid (isSorted_int _ G _ HI5.out (by rw [HGN.out]; have := HGL.out; omega))
  rw [HUP.out] at HCX
  go_wp2_with fail
  refine (HCX.out).mono ?_
  rintro e w8 ⟨rfl, hX8⟩
  have HE8 := Lib.hid (HE7.out.trans' hX8)
  have HY8 := Lib.hid (hX8.hp HY7.out)
  have t8 := cellOf HY8.out 0
  simp only [List.getElem?_toArray, List.getElem?_cons_zero] at t8
  have HXX8 := Lib.hid hX8
  clear hX8 t7
  have HI5 := Lib.hid (HI5.out.ext HXX8.out)
  clear hez t8
  go_wp2
  go_loopg [51] m (fun g s51 wr => ∃ p : Nat, p ≤ m ∧ m - p ≤ g ∧ s51 = .int .i64 p ∧ Aside (Ext w8 wr))
  case atStart => exact ⟨0, Nat.zero_le _, by omega, rfl, Ext.rf _⟩
  case round =>
    obtain ⟨p, hp, hg, rfl, HEK⟩ := hrel
    have HEW := Lib.hid (HE8.out.trans' HEK.out)
    have HYW := Lib.hid (HEK.out.hp HY8.out)
    have t0 := cellOf HYW.out 0
    simp only [List.getElem?_toArray, List.getElem?_cons_zero] at t0
    by_cases hlt : p < m
    · have hltz : (p : Int) < (m : Int) := by omega
      have hpz : (0 : Int) ≤ (p : Int) := by omega
      have HPC := Lib.hid (show p < c.length from by rw [HNC.out]; exact hlt)
      have HPL := Lib.hid (show p < t.length from by rw [← HCO.out.1.1]; exact HPC.out)
      have HCA := Lib.hid (advanceP_calls _ _ t c (p : Int) _ (HT.out.ext HEW.out) HLO.out (HC.out.ext HEW.out) (by rw [HNC.out]; omega))
      rw [Int.toNat_natCast] at HCA
      have hae := advE_en H0.out HPL.out
      obtain ⟨ae, hae0⟩ : ∃ E, advE t c (p : Int) = E := ⟨_, rfl⟩
      rw [hae0] at HCA hae
      have HAO := Lib.hid (advE_ok H0.out HPL.out)
      rw [hae0] at HAO
      have HCC := Lib.hid (fun W (hW : Ext w8 W) => contains_int (p : Int) _ G W (HI5.out.ext hW) (by rw [HGN.out]; have := HGL.out; omega))
      rw [HMEM.out p HPC.out, ← hae] at HCC
      have HAE := Lib.hid hae
      clear hae hae0
      by_cases h0 : ae = 0
      case neg =>
        have c9 : (ae == 0) = false := by simp [h0]
        have c9n : (ae != 0) = true := by simp [h0]
        rw [if_neg h0] at HCA
        rw [c9] at HCC
        clear h0
        go_wp2_with fail
        refine HCA.out.mono ?_
        rintro e wa ⟨ua, rfl, hRa, hXa⟩
        obtain ⟨uaa, uac, hua, _⟩ := hRa.any
        subst hua
        have HXA := Lib.hid (HEK.out.trans' hXa)
        clear hRa hXa t0
        go_wp2_with fail
        refine (HCC.out _ HXA.out).mono ?_
        rintro e wb ⟨rfl, rfl⟩
        go_wp2
        go_roundg (m - (p + 1))
        case measure => omega
        case rel => exact ⟨p + 1, by omega, by omega, by go_num, (show Ext _ _ from HXA.out)⟩
      case pos =>
        subst h0
        rw [if_pos rfl] at HCA
        have hao := HAO.out
        by_cases hk : c[p]! < (t[p]!.events.length : Int)
        case neg => rw [if_neg hk] at hao; exact absurd hao (by decide)
        rw [if_pos hk] at hao
        have hsb : sentB t c (p, c[p]!.toNat) = true := by
          cases hs : sentB t c (p, c[p]!.toNat) with
          | true => rfl
          | false => rw [hs, if_neg (by decide)] at hao; exact absurd hao (by decide)
        have HWC := Lib.hid (show consB t (withC c p) = true from by rw [with_cons HV.out HCO.out HPL.out hk]; exact hsb)
        have HWE := Lib.hid ((givenE_one t (withC c p)).2 HWC.out)
        have HWL := Lib.hid (show leCB c (withC c p) = true from leCB_iff.2 ⟨(withC_len c p).symm, withC_le HCO.out.1 HPL.out⟩)
        have hkr := HCO.out.1.at HPL.out
        have hen := (HSM.out.2 p HPL.out).2.1
        have HWA : Hid ((withC c p)[p]! = c[p]! + 1) := Lib.hid (by unfold withC; exact setC_at HPC.out)
        have HWN : Hid ((withC c p).length = m) := Lib.hid (by rw [withC_len]; exact HNC.out)
        have HFM := Lib.hid (show ((p : Int), c[p]! + 1) ∈ frontC (withC c p) from by
          have := front_mem (c := withC c p) (p := p) (by rw [withC_len]; exact HPC.out) (by rw [HWA.out]; omega)
          rwa [HWA.out] at this)
        have HFL : Hid ((frontC (withC c p)).length ≤ 1000000) := Lib.hid (by have := frTo_len (withC c p) (withC c p).length; unfold frontC; rw [HWN.out] at this ⊢; omega)
        have HK := Lib.hid (show ∃ k, c[p]! = k from ⟨_, rfl⟩)
        generalize hkk : c[p]! = k at *
        have HKK := Lib.hid hkk
        generalize withC c p = D at *
        have hk0 := hkr.1
        have hkb : k ≤ 1000000 := by omega
        have c9 : (((0 : Int) == 0)) = true := rfl
        rw [c9] at HCC
        clear hk hao hsb hkr hen hkk c9
        go_wp2_with fail
        refine HCA.out.mono ?_
        rintro e wa ⟨ua, rfl, hRa, hXa⟩
        rw [HWN.out] at hRa
        obtain ⟨dg, dof, dcap, hua, hdg1, hdg2, _⟩ := hRa.shape (by omega)
        subst hua
        have HRA := Lib.hid hRa
        have HXA := Lib.hid (HEK.out.trans' hXa)
        have HYA := Lib.hid (hXa.hp HYW.out)
        clear hRa hXa t0 hdg1 hdg2
        have ta0 := cellOf HYA.out 0
        simp only [List.getElem?_toArray, List.getElem?_cons_zero] at ta0
        go_wp2_with fail
        refine (HCC.out _ HXA.out).mono ?_
        rintro e wb ⟨rfl, rfl⟩
        have HDI := Lib.hid (show Ints wa (.slice (some ⟨dg, dof, none⟩) m dcap) D from by have := HRA.out.ints; exact this)
        have HEA := Lib.hid (HE8.out.trans' HXA.out)
        have HCF := Lib.hid (frontierP_calls _ _ t D _ (HT.out.ext HEA.out) HLO.out HDI.out)
        rw [HWE.out, if_pos rfl] at HCF
        go_wp2_with fail
        refine HCF.out.mono ?_
        rintro e wf ⟨uf, rfl, hRf, hXf⟩
        obtain ⟨ufa, ufc, huf, _⟩ := hRf.any
        subst huf
        have HFC := Lib.hid hRf.cells
        have HE := Lib.hid (Ext.rf wf)
        have HEF := Lib.hid (HEA.out.trans' hXf)
        have HXF := Lib.hid (HXA.out.trans' hXf)
        have HDF := Lib.hid (HDI.out.ext hXf)
        have HRF := Lib.hid (HRA.out.ext hXf)
        have HYF := Lib.hid (hXf.hp HYA.out)
        clear hRf hXf ta0
        have tf0 := cellOf HYF.out 0
        simp only [List.getElem?_toArray, List.getElem?_cons_zero] at tf0
        have HCX1 := Lib.hid (fun W (hW : Ext wf W) => consistentP_calls _ _ t D W (HT.out.ext (HEF.out.trans' hW)) HLO.out (HDF.out.ext hW))
        rw [HWC.out] at HCX1
        have HCX2 := Lib.hid (fun W (hW : Ext wf W) => leqP_calls _ _ c D W (HC.out.ext (HEF.out.trans' hW)) (HDF.out.ext hW) (by rw [HNC.out]; omega) (by rw [HWN.out]; omega))
        rw [HWL.out] at HCX2
        have HCX3 := Lib.hid (fun W (hW : Ext wf W) => containsE_calls _ (frontC D) (p : Int) (k + 1) W (HFC.out.ext hW) HFL.out HFM.out)
        obtain ⟨fl, hfl⟩ : ∃ n, (frontC D).length = n := ⟨_, rfl⟩
        rw [hfl] at HCX3 ⊢
        clear hfl
        have dcell := HRF.out.cell p (by omega)
        rw [List.getElem?_map, List.getElem?_eq_getElem (by rw [HWN.out]; exact hlt), Option.map_some, ← getElem!_pos D p (by rw [HWN.out]; exact hlt), HWA.out] at dcell
        obtain ⟨cg, cof, rfl, hcg, hccell⟩ := ints_at HC.out p HPC.out
        have ccell := HEF.out.cl hccell
        rw [HKK.out] at ccell
        clear hccell hcg
        have hwk : IntKind.i64.wrap (k + 1) = k + 1 := IntWalk.i64_in _ (by omega)
        go_upto_region 14 with (fail)
        go_cut [119] (fun s119 wx => s119 = .bool false ∧ Aside (Ext wf wx))
        case first =>
          go_wp2
          refine wp_region_any (by kernel_rfl) ?_
          try (change wpAny _ _ _ _ _ _ _ (World.drew _))
          refine ry_take (i := 0) (d := 75) (v := ?_) rfl rfl (by kernel_rfl) (by kernel_rfl) (by kernel_rfl) (fun _ _ _ h => h) (Or.inl ⟨by kernel_rfl, ?_⟩) ?_
          rotate_left
          · (intro w; go_simp; try (with_reducible rfl))
          try simp only [Act.put]
          try simp only [List.setIfInBounds_toArray]
          try simp only [List.set_cons_zero, List.set_cons_succ]
          refine ry_take (i := 1) (d := 76) (v := ?_) rfl rfl (by kernel_rfl) (by kernel_rfl) (by kernel_rfl) (fun _ _ _ h => h) (Or.inl ⟨by kernel_rfl, ?_⟩) ?_
          rotate_left
          · (intro w; go_simp; try (with_reducible rfl))
          try simp only [Act.put]
          try simp only [List.setIfInBounds_toArray]
          try simp only [List.set_cons_zero, List.set_cons_succ]
          refine ry_take (i := 2) (d := 77) (v := ?_) rfl rfl (by kernel_rfl) (by kernel_rfl) (by kernel_rfl) (fun _ _ _ h => h) (Or.inl ⟨by kernel_rfl, ?_⟩) ?_
          rotate_left
          · (intro w; go_simp; try (with_reducible rfl))
          try simp only [Act.put]
          try simp only [List.setIfInBounds_toArray]
          try simp only [List.set_cons_zero, List.set_cons_succ]
          refine ry_take (i := 4) (d := 79) (v := ?_) rfl rfl (by kernel_rfl) (by kernel_rfl) (by kernel_rfl) (fun _ _ _ h => h) (Or.inl ⟨by kernel_rfl, ?_⟩) ?_
          rotate_left
          · (intro w; go_simp; try (with_reducible rfl))
          try simp only [Act.put]
          try simp only [List.setIfInBounds_toArray]
          try simp only [List.set_cons_zero, List.set_cons_succ]
          refine wpAny_ready (rs := [3]) (by kernel_rfl) (by simp) ?_
          refine AllReady.cons rfl (fun K hK => ?_) AllReady.nil
          go_simp
          (refine hK _ _ ?_; clear hK K)
          try simp only [Act.put]
          try simp only [List.setIfInBounds_toArray]
          try simp only [List.set_cons_zero, List.set_cons_succ]
          refine wpAny_ready (rs := [5]) (by kernel_rfl) (by simp) ?_
          refine AllReady.cons rfl (fun K hK => ?_) AllReady.nil
          go_simp
          go_wp2_with ((go_at_call 14; refine (HCX1.out _ (by first | exact HE.out | exact HE.out.dr | exact HE.out.dr.dr)).mono ?_; rintro e x1 ⟨rfl, hX1⟩; have d1 : x1.cell? ⟨dg, dof + p, none⟩ = some (.int .i64 (k + 1)) := hX1.cl dcell; have q1 : x1.cell? ⟨cg, cof + p, none⟩ = some (.int .i64 k) := hX1.cl ccell; have HX1 := Lib.hid (show Ext wf x1 from by first | exact hX1 | exact (Ext.rf wf).dr.trans' hX1 | exact (Ext.rf wf).dr.dr.trans' hX1); clear hX1))
          try (refine hK _ _ ?_; clear hK K)
          try simp only [Act.put]
          try simp only [List.setIfInBounds_toArray]
          try simp only [List.set_cons_zero, List.set_cons_succ]
          refine ry_take (i := 6) (d := 81) (v := ?_) rfl rfl (by kernel_rfl) (by kernel_rfl) (by kernel_rfl) (fun _ _ _ h => h) (Or.inl ⟨by kernel_rfl, ?_⟩) ?_
          rotate_left
          · (intro w; go_simp; try (with_reducible rfl))
          try simp only [Act.put]
          try simp only [List.setIfInBounds_toArray]
          try simp only [List.set_cons_zero, List.set_cons_succ]
          refine ry_take (i := 7) (d := 82) (v := ?_) rfl rfl (by kernel_rfl) (by kernel_rfl) (by kernel_rfl) (fun _ _ _ h => h) (Or.inl ⟨by kernel_rfl, ?_⟩) ?_
          rotate_left
          · (intro w; go_simp; try (with_reducible rfl))
          try simp only [Act.put]
          try simp only [List.setIfInBounds_toArray]
          try simp only [List.set_cons_zero, List.set_cons_succ]
          refine ry_take (i := 8) (d := 83) (v := ?_) rfl rfl (by kernel_rfl) (by kernel_rfl) (by kernel_rfl) (fun _ _ _ h => h) (Or.inl ⟨by kernel_rfl, ?_⟩) ?_
          rotate_left
          · (intro w; go_simp; try (with_reducible rfl))
          try simp only [Act.put]
          try simp only [List.setIfInBounds_toArray]
          try simp only [List.set_cons_zero, List.set_cons_succ]
          refine ry_take (i := 9) (d := 84) (v := ?_) rfl rfl (by kernel_rfl) (by kernel_rfl) (by kernel_rfl) (fun _ _ _ h => h) (Or.inl ⟨by kernel_rfl, ?_⟩) ?_
          rotate_left
          · (intro w; go_simp; try (with_reducible rfl))
          try simp only [Act.put]
          try simp only [List.setIfInBounds_toArray]
          try simp only [List.set_cons_zero, List.set_cons_succ]
          refine ry_take (i := 10) (d := 85) (v := ?_) rfl rfl (by kernel_rfl) (by kernel_rfl) (by kernel_rfl) (fun _ _ _ h => h) (Or.inl ⟨by kernel_rfl, ?_⟩) ?_
          rotate_left
          · (intro w; go_simp; try (with_reducible rfl))
          try simp only [Act.put]
          try simp only [List.setIfInBounds_toArray]
          try simp only [List.set_cons_zero, List.set_cons_succ]
          refine wpAny_ready (rs := [11]) (by kernel_rfl) (by simp) ?_
          refine AllReady.cons rfl (fun K hK => ?_) AllReady.nil
          go_simp
          go_wp2_with ((go_at_call 16; refine (HCX2.out _ (by first | exact HX1.out | exact HX1.out.dr)).mono ?_; rintro e x2 ⟨rfl, hX2⟩; have d2 : x2.cell? ⟨dg, dof + p, none⟩ = some (.int .i64 (k + 1)) := hX2.cl d1; have q2 : x2.cell? ⟨cg, cof + p, none⟩ = some (.int .i64 k) := hX2.cl q1; have HX2 := Lib.hid (show Ext wf x2 from by first | exact HX1.out.trans' hX2 | exact HX1.out.dr.trans' hX2); clear hX2))
          try (refine hK _ _ ?_; clear hK K)
          try simp only [Act.put]
          try simp only [List.setIfInBounds_toArray]
          try simp only [List.set_cons_zero, List.set_cons_succ]
          refine ry_take (i := 12) (d := 87) (v := ?_) rfl rfl (by kernel_rfl) (by kernel_rfl) (by kernel_rfl) (fun _ _ _ h => h) (Or.inl ⟨by kernel_rfl, ?_⟩) ?_
          rotate_left
          · (intro w; go_simp; try (with_reducible rfl))
          try simp only [Act.put]
          try simp only [List.setIfInBounds_toArray]
          try simp only [List.set_cons_zero, List.set_cons_succ]
          refine ry_take (i := 13) (d := 88) (v := ?_) rfl rfl (by kernel_rfl) (by kernel_rfl) (by kernel_rfl) (fun _ _ _ h => h) (Or.inl ⟨by kernel_rfl, ?_⟩) ?_
          rotate_left
          · (intro w; go_simp; try (with_reducible rfl))
          try simp only [Act.put]
          try simp only [List.setIfInBounds_toArray]
          try simp only [List.set_cons_zero, List.set_cons_succ]
          refine ry_take (i := 14) (d := 89) (v := ?_) rfl rfl (by kernel_rfl) (by kernel_rfl) (by kernel_rfl) (fun _ _ _ h => h) (Or.inl ⟨by kernel_rfl, ?_⟩) ?_
          rotate_left
          · (intro w; go_simp; try (with_reducible rfl))
          try simp only [Act.put]
          try simp only [List.setIfInBounds_toArray]
          try simp only [List.set_cons_zero, List.set_cons_succ]
          refine ry_take (i := 15) (d := 90) (v := ?_) rfl rfl (by kernel_rfl) (by kernel_rfl) (by kernel_rfl) (fun _ _ _ h => h) (Or.inl ⟨by kernel_rfl, ?_⟩) ?_
          rotate_left
          · (intro w; go_simp; try (with_reducible rfl))
          try simp only [Act.put]
          try simp only [List.setIfInBounds_toArray]
          try simp only [List.set_cons_zero, List.set_cons_succ]
          refine ry_take (i := 17) (d := 92) (v := ?_) rfl rfl (by kernel_rfl) (by kernel_rfl) (by kernel_rfl) (fun _ _ _ h => h) (Or.inl ⟨by kernel_rfl, ?_⟩) ?_
          rotate_left
          · (intro w; go_simp; try (with_reducible rfl))
          try simp only [Act.put]
          try simp only [List.setIfInBounds_toArray]
          try simp only [List.set_cons_zero, List.set_cons_succ]
          refine ry_take (i := 16) (d := 91) (v := ?_) rfl rfl (by kernel_rfl) (by kernel_rfl) (by kernel_rfl) (fun _ _ _ h => h) (Or.inl ⟨by kernel_rfl, ?_⟩) ?_
          rotate_left
          · (intro w; go_simp; try (with_reducible rfl))
          try simp only [Act.put]
          try simp only [List.setIfInBounds_toArray]
          try simp only [List.set_cons_zero, List.set_cons_succ]
          refine ry_take (i := 18) (d := 93) (v := ?_) rfl rfl (by kernel_rfl) (by kernel_rfl) (by kernel_rfl) (fun _ _ _ h => h) (Or.inl ⟨by kernel_rfl, ?_⟩) ?_
          rotate_left
          · (intro w; go_simp; try (with_reducible rfl))
          try simp only [Act.put]
          try simp only [List.setIfInBounds_toArray]
          try simp only [List.set_cons_zero, List.set_cons_succ]
          refine ry_take (i := 19) (d := 94) (v := ?_) rfl rfl (by kernel_rfl) (by kernel_rfl) (by kernel_rfl) (fun _ _ _ h => h) (Or.inl ⟨by kernel_rfl, ?_⟩) ?_
          rotate_left
          · (intro w; go_simp; try (with_reducible rfl))
          try simp only [Act.put]
          try simp only [List.setIfInBounds_toArray]
          try simp only [List.set_cons_zero, List.set_cons_succ]
          refine ry_take (i := 20) (d := 95) (v := ?_) rfl rfl (by kernel_rfl) (by kernel_rfl) (by kernel_rfl) (fun _ _ _ h => h) (Or.inl ⟨by kernel_rfl, ?_⟩) ?_
          rotate_left
          · (intro w; go_simp; try (with_reducible rfl))
          try simp only [Act.put]
          try simp only [List.setIfInBounds_toArray]
          try simp only [List.set_cons_zero, List.set_cons_succ]
          refine ry_take (i := 21) (d := 96) (v := ?_) rfl rfl (by kernel_rfl) (by kernel_rfl) (by kernel_rfl) (fun _ _ _ h => h) (Or.inl ⟨by kernel_rfl, ?_⟩) ?_
          rotate_left
          · (intro w; go_simp; try (with_reducible rfl))
          try simp only [Act.put]
          try simp only [List.setIfInBounds_toArray]
          try simp only [List.set_cons_zero, List.set_cons_succ]
          refine ry_take (i := 22) (d := 97) (v := ?_) rfl rfl (by kernel_rfl) (by kernel_rfl) (by kernel_rfl) (fun _ _ _ h => h) (Or.inl ⟨by kernel_rfl, ?_⟩) ?_
          rotate_left
          · (intro w; go_simp; try (with_reducible rfl))
          try simp only [Act.put]
          try simp only [List.setIfInBounds_toArray]
          try simp only [List.set_cons_zero, List.set_cons_succ]
          refine ry_take (i := 23) (d := 98) (v := ?_) rfl rfl (by kernel_rfl) (by kernel_rfl) (by kernel_rfl) (fun _ _ _ h => h) (Or.inl ⟨by kernel_rfl, ?_⟩) ?_
          rotate_left
          · (intro w; go_simp; try (with_reducible rfl))
          try simp only [Act.put]
          try simp only [List.setIfInBounds_toArray]
          try simp only [List.set_cons_zero, List.set_cons_succ]
          refine ry_take (i := 26) (d := 101) (v := ?_) rfl rfl (by kernel_rfl) (by kernel_rfl) (by kernel_rfl) (fun _ _ _ h => h) (Or.inl ⟨by kernel_rfl, ?_⟩) ?_
          rotate_left
          · (intro w; go_simp; try (with_reducible rfl))
          try simp only [Act.put]
          try simp only [List.setIfInBounds_toArray]
          try simp only [List.set_cons_zero, List.set_cons_succ]
          refine ry_take (i := 27) (d := 102) (v := ?_) rfl rfl (by kernel_rfl) (by kernel_rfl) (by kernel_rfl) (fun _ _ _ h => h) (Or.inl ⟨by kernel_rfl, ?_⟩) ?_
          rotate_left
          · (intro w; go_simp; try (with_reducible rfl))
          try simp only [Act.put]
          try simp only [List.setIfInBounds_toArray]
          try simp only [List.set_cons_zero, List.set_cons_succ]
          refine ry_take (i := 24) (d := 99) (v := ?_) rfl rfl (by kernel_rfl) (by kernel_rfl) (by kernel_rfl) (fun _ _ _ h => h) (Or.inl ⟨by kernel_rfl, ?_⟩) ?_
          rotate_left
          · (intro w; go_simp; try (with_reducible rfl))
          try simp only [Act.put]
          try simp only [List.setIfInBounds_toArray]
          try simp only [List.set_cons_zero, List.set_cons_succ]
          refine ry_take (i := 28) (d := 103) (v := ?_) rfl rfl (by kernel_rfl) (by kernel_rfl) (by kernel_rfl) (fun _ _ _ h => h) (Or.inl ⟨by kernel_rfl, ?_⟩) ?_
          rotate_left
          · (intro w; go_simp; try (with_reducible rfl))
          try simp only [Act.put]
          try simp only [List.setIfInBounds_toArray]
          try simp only [List.set_cons_zero, List.set_cons_succ]
          refine wpAny_ready (rs := [25, 29]) (by kernel_rfl) (by simp) ?_
          refine AllReady.cons rfl (fun K hK => ?_) (AllReady.cons rfl (fun K hK => ?_) AllReady.nil)
          all_goals
            go_simp
            (refine hK _ _ ?_; clear hK K)
            try simp only [Act.put]
            try simp only [List.setIfInBounds_toArray]
            try simp only [List.set_cons_zero, List.set_cons_succ]
          · skip
            refine wpAny_ready (rs := [29]) (by kernel_rfl) (by simp) ?_
            refine AllReady.cons rfl (fun K hK => ?_) AllReady.nil
            go_simp
            (refine hK _ _ ?_; clear hK K)
            try simp only [Act.put]
            try simp only [List.setIfInBounds_toArray]
            try simp only [List.set_cons_zero, List.set_cons_succ]
            refine ry_take (i := 30) (d := 105) (v := ?_) rfl rfl (by kernel_rfl) (by kernel_rfl) (by kernel_rfl) (fun _ _ _ h => h) (Or.inl ⟨by kernel_rfl, ?_⟩) ?_
            rotate_left
            · (intro w; go_simp; try (with_reducible rfl))
            try simp only [Act.put]
            try simp only [List.setIfInBounds_toArray]
            try simp only [List.set_cons_zero, List.set_cons_succ]
            refine ry_take (i := 31) (d := 106) (v := ?_) rfl rfl (by kernel_rfl) (by kernel_rfl) (by kernel_rfl) (fun _ _ _ h => h) (Or.inl ⟨by kernel_rfl, ?_⟩) ?_
            rotate_left
            · (intro w; go_simp; try (with_reducible rfl))
            try simp only [Act.put]
            try simp only [List.setIfInBounds_toArray]
            try simp only [List.set_cons_zero, List.set_cons_succ]
            refine ry_take (i := 32) (d := 107) (v := ?_) rfl rfl (by kernel_rfl) (by kernel_rfl) (by kernel_rfl) (fun _ _ _ h => h) (Or.inl ⟨by kernel_rfl, ?_⟩) ?_
            rotate_left
            · (intro w; go_simp; try (with_reducible rfl))
            try simp only [Act.put]
            try simp only [List.setIfInBounds_toArray]
            try simp only [List.set_cons_zero, List.set_cons_succ]
            refine ry_take (i := 33) (d := 108) (v := ?_) rfl rfl (by kernel_rfl) (by kernel_rfl) (by kernel_rfl) (fun _ _ _ h => h) (Or.inl ⟨by kernel_rfl, ?_⟩) ?_
            rotate_left
            · (intro w; go_simp; try (with_reducible rfl))
            try simp only [Act.put]
            try simp only [List.setIfInBounds_toArray]
            try simp only [List.set_cons_zero, List.set_cons_succ]
            refine ry_take (i := 34) (d := 109) (v := ?_) rfl rfl (by kernel_rfl) (by kernel_rfl) (by kernel_rfl) (fun _ _ _ h => h) (Or.inl ⟨by kernel_rfl, ?_⟩) ?_
            rotate_left
            · (intro w; go_simp; try (with_reducible rfl))
            try simp only [Act.put]
            try simp only [List.setIfInBounds_toArray]
            try simp only [List.set_cons_zero, List.set_cons_succ]
            refine ry_take (i := 35) (d := 110) (v := ?_) rfl rfl (by kernel_rfl) (by kernel_rfl) (by kernel_rfl) (fun _ _ _ h => h) (Or.inl ⟨by kernel_rfl, ?_⟩) ?_
            rotate_left
            · (intro w; go_simp; try (with_reducible rfl))
            try simp only [Act.put]
            try simp only [List.setIfInBounds_toArray]
            try simp only [List.set_cons_zero, List.set_cons_succ]
            refine ry_take (i := 36) (d := 111) (v := ?_) rfl rfl (by kernel_rfl) (by kernel_rfl) (by kernel_rfl) (fun _ _ _ h => h) (Or.inl ⟨by kernel_rfl, ?_⟩) ?_
            rotate_left
            · (intro w; go_simp; try (with_reducible rfl))
            try simp only [Act.put]
            try simp only [List.setIfInBounds_toArray]
            try simp only [List.set_cons_zero, List.set_cons_succ]
            refine ry_take (i := 37) (d := 112) (v := ?_) rfl rfl (by kernel_rfl) (by kernel_rfl) (by kernel_rfl) (fun _ _ _ h => h) (Or.inl ⟨by kernel_rfl, ?_⟩) ?_
            rotate_left
            · (intro w; go_simp; try (with_reducible rfl))
            try simp only [Act.put]
            try simp only [List.setIfInBounds_toArray]
            try simp only [List.set_cons_zero, List.set_cons_succ]
            refine ry_take (i := 38) (d := 113) (v := ?_) rfl rfl (by kernel_rfl) (by kernel_rfl) (by kernel_rfl) (fun _ _ _ h => h) (Or.inl ⟨by kernel_rfl, ?_⟩) ?_
            rotate_left
            · (intro w; go_simp; try (with_reducible rfl))
            try simp only [Act.put]
            try simp only [List.setIfInBounds_toArray]
            try simp only [List.set_cons_zero, List.set_cons_succ]
            refine wpAny_ready (rs := [39]) (by kernel_rfl) (by simp) ?_
            refine AllReady.cons rfl (fun K hK => ?_) AllReady.nil
            go_simp
            (refine hK _ _ ?_; clear hK K)
            try simp only [Act.put]
            try simp only [List.setIfInBounds_toArray]
            try simp only [List.set_cons_zero, List.set_cons_succ]
            refine ry_take (i := 40) (d := 115) (v := ?_) rfl rfl (by kernel_rfl) (by kernel_rfl) (by kernel_rfl) (fun _ _ _ h => h) (Or.inl ⟨by kernel_rfl, ?_⟩) ?_
            rotate_left
            · (intro w; go_simp; try (with_reducible rfl))
            try simp only [Act.put]
            try simp only [List.setIfInBounds_toArray]
            try simp only [List.set_cons_zero, List.set_cons_succ]
            refine ry_take (i := 41) (d := 116) (v := ?_) rfl rfl (by kernel_rfl) (by kernel_rfl) (by kernel_rfl) (fun _ _ _ h => h) (Or.inl ⟨by kernel_rfl, ?_⟩) ?_
            rotate_left
            · (intro w; go_simp; try (with_reducible rfl))
            try simp only [Act.put]
            try simp only [List.setIfInBounds_toArray]
            try simp only [List.set_cons_zero, List.set_cons_succ]
            refine wpAny_ready (rs := [42]) (by kernel_rfl) (by simp) ?_
            refine AllReady.cons rfl (fun K hK => ?_) AllReady.nil
            go_simp
            go_wp2_with ((go_at_call 45; refine (HCX3.out _ (by first | exact HX2.out | exact HX2.out.dr)).mono ?_; rintro e x3 ⟨rfl, hX3⟩; have HX3 := Lib.hid (show Ext wf x3 from by first | exact HX2.out.trans' hX3 | exact HX2.out.dr.trans' hX3); clear hX3))
            try (refine hK _ _ ?_; clear hK K)
            try simp only [Act.put]
            try simp only [List.setIfInBounds_toArray]
            try simp only [List.set_cons_zero, List.set_cons_succ]
            refine ry_take (i := 43) (d := 118) (v := ?_) rfl rfl (by kernel_rfl) (by kernel_rfl) (by kernel_rfl) (fun _ _ _ h => h) (Or.inl ⟨by kernel_rfl, ?_⟩) ?_
            rotate_left
            · (intro w; go_simp; try (with_reducible rfl))
            try simp only [Act.put]
            try simp only [List.setIfInBounds_toArray]
            try simp only [List.set_cons_zero, List.set_cons_succ]
            refine ry_take (i := 44) (d := 119) (v := ?_) rfl rfl (by kernel_rfl) (by kernel_rfl) (by kernel_rfl) (fun _ _ _ h => h) (Or.inl ⟨by kernel_rfl, ?_⟩) ?_
            rotate_left
            · (intro w; go_simp; try (with_reducible rfl))
            try simp only [Act.put]
            try simp only [List.setIfInBounds_toArray]
            try simp only [List.set_cons_zero, List.set_cons_succ]
            refine wpAny_done (by kernel_rfl) ?_ _
            go_wp2
            go_meet
            exact ⟨rfl, (show Ext wf _ from by first | exact HX3.out | exact HX3.out.dr)⟩
          · skip
            refine ry_take (i := 30) (d := 105) (v := ?_) rfl rfl (by kernel_rfl) (by kernel_rfl) (by kernel_rfl) (fun _ _ _ h => h) (Or.inl ⟨by kernel_rfl, ?_⟩) ?_
            rotate_left
            · (intro w; go_simp; try (with_reducible rfl))
            try simp only [Act.put]
            try simp only [List.setIfInBounds_toArray]
            try simp only [List.set_cons_zero, List.set_cons_succ]
            refine wpAny_ready (rs := [25]) (by kernel_rfl) (by simp) ?_
            refine AllReady.cons rfl (fun K hK => ?_) AllReady.nil
            go_simp
            (refine hK _ _ ?_; clear hK K)
            try simp only [Act.put]
            try simp only [List.setIfInBounds_toArray]
            try simp only [List.set_cons_zero, List.set_cons_succ]
            refine ry_take (i := 31) (d := 106) (v := ?_) rfl rfl (by kernel_rfl) (by kernel_rfl) (by kernel_rfl) (fun _ _ _ h => h) (Or.inl ⟨by kernel_rfl, ?_⟩) ?_
            rotate_left
            · (intro w; go_simp; try (with_reducible rfl))
            try simp only [Act.put]
            try simp only [List.setIfInBounds_toArray]
            try simp only [List.set_cons_zero, List.set_cons_succ]
            refine ry_take (i := 32) (d := 107) (v := ?_) rfl rfl (by kernel_rfl) (by kernel_rfl) (by kernel_rfl) (fun _ _ _ h => h) (Or.inl ⟨by kernel_rfl, ?_⟩) ?_
            rotate_left
            · (intro w; go_simp; try (with_reducible rfl))
            try simp only [Act.put]
            try simp only [List.setIfInBounds_toArray]
            try simp only [List.set_cons_zero, List.set_cons_succ]
            refine ry_take (i := 33) (d := 108) (v := ?_) rfl rfl (by kernel_rfl) (by kernel_rfl) (by kernel_rfl) (fun _ _ _ h => h) (Or.inl ⟨by kernel_rfl, ?_⟩) ?_
            rotate_left
            · (intro w; go_simp; try (with_reducible rfl))
            try simp only [Act.put]
            try simp only [List.setIfInBounds_toArray]
            try simp only [List.set_cons_zero, List.set_cons_succ]
            refine ry_take (i := 34) (d := 109) (v := ?_) rfl rfl (by kernel_rfl) (by kernel_rfl) (by kernel_rfl) (fun _ _ _ h => h) (Or.inl ⟨by kernel_rfl, ?_⟩) ?_
            rotate_left
            · (intro w; go_simp; try (with_reducible rfl))
            try simp only [Act.put]
            try simp only [List.setIfInBounds_toArray]
            try simp only [List.set_cons_zero, List.set_cons_succ]
            refine ry_take (i := 35) (d := 110) (v := ?_) rfl rfl (by kernel_rfl) (by kernel_rfl) (by kernel_rfl) (fun _ _ _ h => h) (Or.inl ⟨by kernel_rfl, ?_⟩) ?_
            rotate_left
            · (intro w; go_simp; try (with_reducible rfl))
            try simp only [Act.put]
            try simp only [List.setIfInBounds_toArray]
            try simp only [List.set_cons_zero, List.set_cons_succ]
            refine ry_take (i := 36) (d := 111) (v := ?_) rfl rfl (by kernel_rfl) (by kernel_rfl) (by kernel_rfl) (fun _ _ _ h => h) (Or.inl ⟨by kernel_rfl, ?_⟩) ?_
            rotate_left
            · (intro w; go_simp; try (with_reducible rfl))
            try simp only [Act.put]
            try simp only [List.setIfInBounds_toArray]
            try simp only [List.set_cons_zero, List.set_cons_succ]
            refine ry_take (i := 37) (d := 112) (v := ?_) rfl rfl (by kernel_rfl) (by kernel_rfl) (by kernel_rfl) (fun _ _ _ h => h) (Or.inl ⟨by kernel_rfl, ?_⟩) ?_
            rotate_left
            · (intro w; go_simp; try (with_reducible rfl))
            try simp only [Act.put]
            try simp only [List.setIfInBounds_toArray]
            try simp only [List.set_cons_zero, List.set_cons_succ]
            refine ry_take (i := 38) (d := 113) (v := ?_) rfl rfl (by kernel_rfl) (by kernel_rfl) (by kernel_rfl) (fun _ _ _ h => h) (Or.inl ⟨by kernel_rfl, ?_⟩) ?_
            rotate_left
            · (intro w; go_simp; try (with_reducible rfl))
            try simp only [Act.put]
            try simp only [List.setIfInBounds_toArray]
            try simp only [List.set_cons_zero, List.set_cons_succ]
            refine wpAny_ready (rs := [39]) (by kernel_rfl) (by simp) ?_
            refine AllReady.cons rfl (fun K hK => ?_) AllReady.nil
            go_simp
            (refine hK _ _ ?_; clear hK K)
            try simp only [Act.put]
            try simp only [List.setIfInBounds_toArray]
            try simp only [List.set_cons_zero, List.set_cons_succ]
            refine ry_take (i := 40) (d := 115) (v := ?_) rfl rfl (by kernel_rfl) (by kernel_rfl) (by kernel_rfl) (fun _ _ _ h => h) (Or.inl ⟨by kernel_rfl, ?_⟩) ?_
            rotate_left
            · (intro w; go_simp; try (with_reducible rfl))
            try simp only [Act.put]
            try simp only [List.setIfInBounds_toArray]
            try simp only [List.set_cons_zero, List.set_cons_succ]
            refine ry_take (i := 41) (d := 116) (v := ?_) rfl rfl (by kernel_rfl) (by kernel_rfl) (by kernel_rfl) (fun _ _ _ h => h) (Or.inl ⟨by kernel_rfl, ?_⟩) ?_
            rotate_left
            · (intro w; go_simp; try (with_reducible rfl))
            try simp only [Act.put]
            try simp only [List.setIfInBounds_toArray]
            try simp only [List.set_cons_zero, List.set_cons_succ]
            refine wpAny_ready (rs := [42]) (by kernel_rfl) (by simp) ?_
            refine AllReady.cons rfl (fun K hK => ?_) AllReady.nil
            go_simp
            go_wp2_with ((go_at_call 45; refine (HCX3.out _ (by first | exact HX2.out | exact HX2.out.dr)).mono ?_; rintro e x3 ⟨rfl, hX3⟩; have HX3 := Lib.hid (show Ext wf x3 from by first | exact HX2.out.trans' hX3 | exact HX2.out.dr.trans' hX3); clear hX3))
            try (refine hK _ _ ?_; clear hK K)
            try simp only [Act.put]
            try simp only [List.setIfInBounds_toArray]
            try simp only [List.set_cons_zero, List.set_cons_succ]
            refine ry_take (i := 43) (d := 118) (v := ?_) rfl rfl (by kernel_rfl) (by kernel_rfl) (by kernel_rfl) (fun _ _ _ h => h) (Or.inl ⟨by kernel_rfl, ?_⟩) ?_
            rotate_left
            · (intro w; go_simp; try (with_reducible rfl))
            try simp only [Act.put]
            try simp only [List.setIfInBounds_toArray]
            try simp only [List.set_cons_zero, List.set_cons_succ]
            refine ry_take (i := 44) (d := 119) (v := ?_) rfl rfl (by kernel_rfl) (by kernel_rfl) (by kernel_rfl) (fun _ _ _ h => h) (Or.inl ⟨by kernel_rfl, ?_⟩) ?_
            rotate_left
            · (intro w; go_simp; try (with_reducible rfl))
            try simp only [Act.put]
            try simp only [List.setIfInBounds_toArray]
            try simp only [List.set_cons_zero, List.set_cons_succ]
            refine wpAny_done (by kernel_rfl) ?_ _
            go_wp2
            go_meet
            exact ⟨rfl, (show Ext wf _ from by first | exact HX3.out | exact HX3.out.dr)⟩
        case rest =>
          obtain ⟨rfl, HXW⟩ := hcut
          clear tf0 dcell ccell
          go_wp2
          go_roundg (m - (p + 1))
          case measure => omega
          case rel => exact ⟨p + 1, by omega, by omega, by go_num, (show Ext _ _ from HXF.out.trans' HXW.out)⟩
    · have hltz : ¬ (p : Int) < (m : Int) := by omega
      obtain rfl : m = p := by omega
      go_wp2
      go_ret
      exact ⟨rfl, HEW.out⟩

end Go.Proofs.Ytijncboddmjdcaa
