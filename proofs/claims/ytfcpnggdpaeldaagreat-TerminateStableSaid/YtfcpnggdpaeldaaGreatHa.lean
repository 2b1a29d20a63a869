import Derived.Test.YtfcpnggdpaeldaaGreatJa
import Derived.Test.YtfcpnggdpaeldaaGreatProg
import Derived.Test.YtfcpnggdpaeldaaGreatGz
import Derived.Test.YtfcpnggdpaeldaaGreatGy
import Derived.Test.YtfcpnggdpaeldaaGreatGp
import Derived.BigQuiet
import Derived.Deep.QuietTactic
import Derived.Deep.LoopGhost
import Derived.Shelf.Abstract
import Derived.Deep.DeepCutAuto
/-
  Termination: the program's Counting.
-/
namespace Go.Proofs.YtfcpnggdpaeldaaGreat
open Go.RowKit
set_option linter.unusedVariables false
attribute [local go_sem ↓] Go.wp_at_zero Go.wp_at_succ

theorem enters_21 : ∀ args w, (callFunc 21 args).run Tryz.prog w = .ok (.enter 21 args) w := enters_of Tryz.func21 (by kernel_rfl) rfl

set_option maxHeartbeats 16000000 in
set_option maxRecDepth 100000 in
theorem countingP_calls (v vw : Value) (t : Tr) (s : ByteArray) (ws : List (List Int)) (w : World) (h : TrAt w v t) (hs : LooseTr t) (hw : Sl RInts 1 w vw ws) (hn : ws.length ≤ 1000000) :
    Calls Tryz.prog 10 #[.agg #[v], .string s, vw] w fun e w' => e = .returned (.tuple #[.int .i64 (cgK t s ws), .int .i64 (cgE t s ws)]) ∧ Ext w w' := by
  have HT := Lib.hid h
  have HW := Lib.hid hw
  have HKC := Lib.hid (fun W (hW : Ext w W) => checkedP_calls v t s W (h.ext hW) hs)
  obtain ⟨ta, tc, rfl, htc⟩ := h.sh
  obtain ⟨wa, wc, rfl, hwc⟩ := hw.shape
  have HCF := Lib.hid (fun (hv : validT t = true) W (hW : Ext w W) (hc : W.cell? ⟨w.heap.size, 0, none⟩ = some (.slice ta t.length tc)) =>
    containsFunc_rows RInts rints_lasts 37 #[.pointer (some ⟨w.heap.size, 0, none⟩)] enters_37 (fun x => !rngB t x) _ ws W (HW.out.ext rints_lasts hW) hn
      (fun y hy W2 vs hW2 hR => counting1_calls vs y _ _ _ _ t W2 (HT.out.ext (hW.trans' hW2)) (valid_small hv) hR (hW2.cl hc)))
  have HAL : Hid (ws.all (rngB t) = !ws.any fun x => !rngB t x) := Lib.hid (all_any_not ws _)
  have HCO : Hid (chkE t s = 0 → validT t = true ∧ hasT t s = true) := Lib.hid (fun h => chkE_ok.1 h)
  obtain ⟨K, hK⟩ : ∃ K, cgK t s ws = K := ⟨_, rfl⟩
  obtain ⟨E, hE⟩ : ∃ E, cgE t s ws = E := ⟨_, rfl⟩
  rw [hK, hE]
  have HR1 : Hid (chkE t s ≠ 0 → E = chkE t s ∧ K = 0) := Lib.hid (fun h => by rw [← hK, ← hE]; exact cgE_chk h)
  have HR2 : Hid (chkE t s = 0 → 100 < ws.length → E = 5 ∧ K = 0) := Lib.hid (fun h h2 => by rw [← hK, ← hE]; exact cgE_full h h2)
  have HR3 : Hid (chkE t s = 0 → ¬ 100 < ws.length → (ws.any fun x => !rngB t x) = true → E = 2 ∧ K = 0) := Lib.hid (fun h h2 h3 => by rw [← hK, ← hE]; exact cgE_rng h h2 (by rw [HAL.out, h3]; rfl))
  have HR4 : Hid (chkE t s = 0 → ¬ 100 < ws.length → (ws.any fun x => !rngB t x) = false → ∀ k, 1 ≤ k → k < ws.length → leqW t ws k = false → E = 11 ∧ K = 0) := Lib.hid (fun h h2 h3 k k1 k2 k3 => by
    rw [← hK, ← hE]
    refine cgE_ord h h2 (by rw [HAL.out, h3]; rfl) ?_
    rw [Bool.eq_false_iff]; intro ho; have := ordB_iff.1 ho k k1 k2; rw [k3] at this; cases this)
  have HR5 : Hid (chkE t s = 0 → ¬ 100 < ws.length → (ws.any fun x => !rngB t x) = false → (∀ k, 1 ≤ k → k < ws.length → leqW t ws k = true) → (∀ k, 1 ≤ k → k < ws.length → annB t s ws k = false) → E = 7 ∧ K = 0) := Lib.hid (fun h h2 h3 h4 h5 => by
    rw [← hK, ← hE]
    exact cgE_none h h2 (by rw [HAL.out, h3]; rfl) (ordB_iff.2 h4) (annI_none.2 h5))
  have HR6 : Hid (chkE t s = 0 → ¬ 100 < ws.length → (ws.any fun x => !rngB t x) = false → (∀ k, 1 ≤ k → k < ws.length → leqW t ws k = true) → ∀ k, 1 ≤ k → k < ws.length → annB t s ws k = true → (∀ j, 1 ≤ j → j < k → annB t s ws j = false) → E = 0 ∧ K = (k : Int)) := Lib.hid (fun h h2 h3 h4 k k1 k2 k3 k4 => by
    rw [← hK, ← hE]
    exact cgE_some h h2 (by rw [HAL.out, h3]; rfl) (ordB_iff.2 h4) (annI_hit k1 k2 k3 k4))
  have HRG : Hid ((ws.any fun x => !rngB t x) = false → ∀ k, k < ws.length → RangeC t ws[k]!) := Lib.hid (fun h k hk => rngB_iff.1 (all_at (by rw [HAL.out, h]; rfl) hk))
  generalize (ws.any fun x => !rngB t x) = ab at *
  obtain ⟨CE, hCE⟩ : ∃ CE, chkE t s = CE := ⟨_, rfl⟩
  rw [hCE] at HKC HCO HR1 HR2 HR3 HR4 HR5 HR6
  generalize hwl : ws.length = m at *
  have HWL := Lib.hid hwl
  obtain ⟨tn, htn⟩ : ∃ n, t.length = n := ⟨_, rfl⟩
  have HTN := Lib.hid htn
  rw [htn] at HCF HKC HT ⊢
  have HY1 := Lib.hid (heap_alloc_new w (.cells #[.slice ta tn tc] 24))
  have HE1 := Lib.hid ((Ext.rf w).al (.cells #[.slice ta tn tc] 24))
  clear h hs hw hK hE hCE htc htn hwl HAL
  go_enter Tryz.func10, Tryz.ntmps10
  go_wp2_with fail
  refine (HKC.out _ HE1.out).mono ?_
  rintro e w2 ⟨rfl, hX⟩
  have HE2 := Lib.hid (HE1.out.trans' hX)
  have HY2 := Lib.hid (hX.hp HY1.out)
  have t2 := cellOf HY2.out 0
  simp only [List.getElem?_toArray, List.getElem?_cons_zero] at t2
  clear hX
  by_cases h0 : CE = 0
  case neg =>
    obtain ⟨rfl, rfl⟩ := HR1.out h0
    have d1 : (E != 0) = true := by simp [h0]
    clear h0
    go_wp2
    go_ret2
    exact ⟨rfl, HE2.out⟩
  case pos =>
  subst h0
  obtain ⟨hv, hh⟩ := HCO.out (by trivial)
  have HV := Lib.hid hv
  have HH := Lib.hid hh
  clear hv hh
  by_cases hf : 100 < m
  case pos =>
    obtain ⟨rfl, rfl⟩ := HR2.out (by trivial) hf
    have d1 : decide (100 < (m : Int)) = true := decide_eq_true (by omega)
    clear hf
    go_wp2
    go_ret2
    exact ⟨rfl, HE2.out⟩
  case neg =>
  have d1 : decide (100 < (m : Int)) = false := decide_eq_false (by omega)
  have HM := Lib.hid hf
  have hm100 : m ≤ 100 := by omega
  clear hf
  go_wp2_with fail
  refine (HCF.out HV.out _ HE2.out t2).mono ?_
  rintro e w3 ⟨rfl, hX⟩
  have HE3 := Lib.hid (HE2.out.trans' hX)
  have HY3 := Lib.hid (hX.hp HY2.out)
  have t3 := cellOf HY3.out 0
  simp only [List.getElem?_toArray, List.getElem?_cons_zero] at t3
  clear hX
  clear d1 t2
  cases ab with
  | true =>
    obtain ⟨rfl, rfl⟩ := HR3.out (by trivial) HM.out (by trivial)
    go_wp2
    go_ret2
    exact ⟨rfl, HE3.out⟩
  | false =>
  have HSM := Lib.hid (valid_small HV.out).loose
  have HRN := Lib.hid (HRG.out (by trivial))
  have HS4 := Lib.hid (HR4.out (by trivial) HM.out (by trivial))
  have HS5 := Lib.hid (HR5.out (by trivial) HM.out (by trivial))
  have HS6 := Lib.hid (HR6.out (by trivial) HM.out (by trivial))
  have htn8 : tn ≤ 1000000 := by rw [← HTN.out]; exact HSM.out.1
  clear HR1 HR2 HR3 HR4 HR5 HR6 HRG HKC HCF t3
  go_wp2
  go_loopg [9] m (fun g s9 wr => ∃ k : Nat, 1 ≤ k ∧ (k ≤ m ∨ k = 1) ∧ m - k ≤ g ∧ s9 = .int .i64 k ∧ Aside (∀ j, 1 ≤ j → j < k → leqW t ws j = true) ∧ Aside (Ext w3 wr))
  case atStart => exact ⟨1, by omega, by omega, by omega, rfl, (fun j h1 h2 => absurd h2 (by omega)), Ext.rf _⟩
  case round =>
    obtain ⟨k, hk1, hkm, hg, rfl, A, HEK⟩ := hrel
    have HEW := Lib.hid (HE3.out.trans' HEK.out)
    have HY4 := Lib.hid (HEK.out.hp HY3.out)
    have t0 := cellOf HY4.out 0
    simp only [List.getElem?_toArray, List.getElem?_cons_zero] at t0
    by_cases hlt : k < m
    · have hltz : (k : Int) < (m : Int) := by omega
      have hkz : (0 : Int) ≤ (k : Int) := by omega
      obtain ⟨j, hj⟩ : ∃ j : Nat, k = j + 1 := ⟨k - 1, by omega⟩
      have e3 : (k : Int) - 1 = (j : Int) := by omega
      have hjz : (0 : Int) ≤ (j : Int) := by omega
      have hjm : (j : Int) < (m : Int) := by omega
      have hwj : IntKind.i64.wrap (j : Int) = (j : Int) := IntWalk.i64_in _ (by omega)
      obtain ⟨rb, ro, a0, c0, rfl, hr0, hi0⟩ := wave_at HW.out j (by rw [HWL.out]; omega)
      obtain ⟨rb', ro', a1, c1, hre, hr1, hi1⟩ := wave_at HW.out k (by rw [HWL.out]; omega)
      simp only [Option.some.injEq, Addr.mk.injEq, and_true] at hre
      obtain ⟨rfl, rfl⟩ := hre
      have HI0 := Lib.hid hi0
      have HI1 := Lib.hid hi1
      have HLQ : Hid (leqW t ws k = leCB (closeC t ws[j]!) ws[k]!) := Lib.hid (by unfold leqW; rw [show k - 1 = j by omega])
      have HRJ := Lib.hid (HRN.out j (by omega))
      have HRK := Lib.hid (HRN.out k (by omega))
      have HRP : Hid (repE t ws[j]! = 0) := Lib.hid (by unfold repE; rw [HV.out, show fitsB t ws[j]! = true from decide_eq_true HRJ.out.1, HRJ.out.2]; rfl)
      have r0 := HEW.out.cl hr0
      have r1 := HEW.out.cl hr1
      rw [HRJ.out.1, HTN.out] at r0
      rw [HRK.out.1, HTN.out] at r1
      rw [HRJ.out.1, HTN.out] at HI0
      rw [HRK.out.1, HTN.out] at HI1
      have HCL := Lib.hid (fun W (hW : Ext w W) => closeP_calls _ _ t ws[j]! W (HT.out.ext hW) HSM.out (HI0.out.ext hW) (by rw [HRJ.out.1, HTN.out]; exact htn8))
      rw [HRP.out, if_pos rfl] at HCL
      have HCN : Hid ((closeC t ws[j]!).length = tn) := Lib.hid (by obtain ⟨_, hf⟩ := closeC_fix HRJ.out; rw [(up_least hf HRJ.out).1.1.1]; exact HTN.out)
      have HKL := Lib.hid HRK.out.1
      generalize closeC t ws[j]! = cj at *
      generalize ws[k]! = wk at *
      clear hr0 hr1 hi0 hi1 hj
      go_wp2
      have HT0 := Lib.hid (show Ext w wr.drew from HEW.out.dr)
      have z0a := (show Ext wr wr.drew from (Ext.rf wr).dr).cl t0
      have z0b := (show Ext wr wr.drew from (Ext.rf wr).dr).cl r0
      have z0c := (show Ext wr wr.drew from (Ext.rf wr).dr).cl r1
      have HXT := Lib.hid (show Ext wr wr.drew from (Ext.rf wr).dr)
      refine wp_region_tails (fun w' => w'.cell? ⟨w.heap.size, 0, none⟩ = some (.slice ta tn tc) ∧ w'.cell? ⟨rb, ro + j, none⟩ = some (.slice a0 tn c0) ∧ w'.cell? ⟨rb, ro + k, none⟩ = some (.slice a1 tn c1)) [] (by kernel_rfl) ⟨z0a, z0b, z0c⟩ (fun hHeld => ?_)
      generalize wr.drew = wT at *
      refine wpAnyU_take (i := 0) (d := some 34) (v := ?_) rfl rfl (by kernel_rfl) (by kernel_rfl) (by kernel_rfl) (by kernel_rfl) (fun _ _ _ h => h) (Or.inl ⟨by rfl, ?_⟩) (by assumption) ?_
      rotate_left
      · (intro w hSw; (try dsimp only at hSw); go_simp; try (with_reducible rfl))
      try simp only [Act.put]
      try simp only [List.setIfInBounds_toArray]
      try simp only [List.set_cons_zero, List.set_cons_succ]
      refine wpAnyU_take (i := 1) (d := some 35) (v := ?_) rfl rfl (by kernel_rfl) (by kernel_rfl) (by kernel_rfl) (by kernel_rfl) (fun _ _ _ h => h) (Or.inl ⟨by rfl, ?_⟩) (by assumption) ?_
      rotate_left
      · (intro w hSw; (try dsimp only at hSw); go_simp; try (with_reducible rfl))
      try simp only [Act.put]
      try simp only [List.setIfInBounds_toArray]
      try simp only [List.set_cons_zero, List.set_cons_succ]
      refine wpAnyU_take (i := 2) (d := some 36) (v := ?_) rfl rfl (by kernel_rfl) (by kernel_rfl) (by kernel_rfl) (by kernel_rfl) (fun _ _ _ h => h) (Or.inl ⟨by rfl, ?_⟩) (by assumption) ?_
      rotate_left
      · (intro w hSw; (try dsimp only at hSw); go_simp; try (with_reducible rfl))
      try simp only [Act.put]
      try simp only [List.setIfInBounds_toArray]
      try simp only [List.set_cons_zero, List.set_cons_succ]
      refine wpAnyU_take (i := 3) (d := some 37) (v := ?_) rfl rfl (by kernel_rfl) (by kernel_rfl) (by kernel_rfl) (by kernel_rfl) (fun _ _ _ h => h) (Or.inl ⟨by rfl, ?_⟩) (by assumption) ?_
      rotate_left
      · (intro w hSw; (try dsimp only at hSw); go_simp; try (with_reducible rfl))
      try simp only [Act.put]
      try simp only [List.setIfInBounds_toArray]
      try simp only [List.set_cons_zero, List.set_cons_succ]
      refine wpAnyU_take (i := 4) (d := some 38) (v := ?_) rfl rfl (by kernel_rfl) (by kernel_rfl) (by kernel_rfl) (by kernel_rfl) (fun _ _ _ h => h) (Or.inl ⟨by rfl, ?_⟩) (by assumption) ?_
      rotate_left
      · (intro w hSw; (try dsimp only at hSw); go_simp; try (with_reducible rfl))
      try simp only [Act.put]
      try simp only [List.setIfInBounds_toArray]
      try simp only [List.set_cons_zero, List.set_cons_succ]
      refine wpAnyU_take (i := 5) (d := some 39) (v := ?_) rfl rfl (by kernel_rfl) (by kernel_rfl) (by kernel_rfl) (by kernel_rfl) (fun _ _ _ h => h) (Or.inl ⟨by rfl, ?_⟩) (by assumption) ?_
      rotate_left
      · (intro w hSw; (try dsimp only at hSw); go_simp; try (with_reducible rfl))
      try simp only [Act.put]
      try simp only [List.setIfInBounds_toArray]
      try simp only [List.set_cons_zero, List.set_cons_succ]
      refine wpAnyU_step (i := 6) (by kernel_rfl) rfl (fun K hK => ?_)
      refine step_callW (by kernel_rfl) 21 _ _ rfl enters_21 [.agg #[.slice ta tn tc], .slice a0 tn c0] (by first | rfl | kernel_rfl | go_simp) (HCL.out _ HT0.out) ?_
      rintro e y1 ⟨u, rfl, hRU, hX⟩
      refine ⟨_, rfl, ?_⟩
      rw [HCN.out] at hRU
      obtain ⟨au, cu, rfl, _⟩ := hRU.any
      have HIU : Hid (Ints y1 (.slice au tn cu) cj) := Lib.hid (by have := hRU; rw [← HCN.out] at this; rw [← HCN.out]; exact this.ints)
      have HT1 := Lib.hid (HT0.out.trans' hX)
      have HX1 := Lib.hid (HXT.out.trans' hX)
      have z1a := hX.cl z0a
      have z1b := hX.cl z0b
      have z1c := hX.cl z0c
      clear hX hRU z0a z0b z0c t0 r0 r1
      refine hK.out _ _ ?_ (fun hHeld => ?_)
      · (try dsimp only)
        exact ⟨z1a, z1b, z1c⟩
      clear hK K
      try simp only [List.getElem_toArray, List.getElem_cons_zero, List.getElem_cons_succ]
      try simp only [Act.put]
      try simp only [List.setIfInBounds_toArray]
      try simp only [List.set_cons_zero, List.set_cons_succ]
      refine wpAnyU_take (i := 7) (d := some 33) (v := ?_) rfl rfl (by kernel_rfl) (by kernel_rfl) (by kernel_rfl) (by kernel_rfl) (fun _ _ _ h => h) (Or.inl ⟨by rfl, ?_⟩) (by assumption) ?_
      rotate_left
      · (intro w hSw; (try dsimp only at hSw); go_simp; try (with_reducible rfl))
      try simp only [Act.put]
      try simp only [List.setIfInBounds_toArray]
      try simp only [List.set_cons_zero, List.set_cons_succ]
      refine wpAnyU_take (i := 8) (d := some 41) (v := ?_) rfl rfl (by kernel_rfl) (by kernel_rfl) (by kernel_rfl) (by kernel_rfl) (fun _ _ _ h => h) (Or.inl ⟨by rfl, ?_⟩) (by assumption) ?_
      rotate_left
      · (intro w hSw; (try dsimp only at hSw); go_simp; try (with_reducible rfl))
      try simp only [Act.put]
      try simp only [List.setIfInBounds_toArray]
      try simp only [List.set_cons_zero, List.set_cons_succ]
      refine wpAnyU_take (i := 9) (d := some 42) (v := ?_) rfl rfl (by kernel_rfl) (by kernel_rfl) (by kernel_rfl) (by kernel_rfl) (fun _ _ _ h => h) (Or.inl ⟨by rfl, ?_⟩) (by assumption) ?_
      rotate_left
      · (intro w hSw; (try dsimp only at hSw); go_simp; try (with_reducible rfl))
      try simp only [Act.put]
      try simp only [List.setIfInBounds_toArray]
      try simp only [List.set_cons_zero, List.set_cons_succ]
      refine wpAnyU_take (i := 10) (d := some 10) (v := ?_) rfl rfl (by kernel_rfl) (by kernel_rfl) (by kernel_rfl) (by kernel_rfl) (fun _ _ _ h => h) (Or.inl ⟨by rfl, ?_⟩) (by assumption) ?_
      rotate_left
      · (intro w hSw; (try dsimp only at hSw); go_simp; try (with_reducible rfl))
      try simp only [Act.put]
      try simp only [List.setIfInBounds_toArray]
      try simp only [List.set_cons_zero, List.set_cons_succ]
      refine wpAnyU_take (i := 11) (d := some 11) (v := ?_) rfl rfl (by kernel_rfl) (by kernel_rfl) (by kernel_rfl) (by kernel_rfl) (fun _ _ _ h => h) (Or.inl ⟨by rfl, ?_⟩) (by assumption) ?_
      rotate_left
      · (intro w hSw; (try dsimp only at hSw); go_simp; try (with_reducible rfl))
      try simp only [Act.put]
      try simp only [List.setIfInBounds_toArray]
      try simp only [List.set_cons_zero, List.set_cons_succ]
      refine wpAnyU_done (by kernel_rfl) ?_
      have HLC := Lib.hid (fun W (hW : Ext y1 W) => leqP_calls _ _ cj wk W (HIU.out.ext hW) (HI1.out.ext (HT1.out.trans' hW)) (by rw [HCN.out]; exact htn8) (by rw [HKL.out, HTN.out]; exact htn8))
      rw [← HLQ.out] at HLC
      obtain ⟨lq, hlq⟩ : ∃ b, leqW t ws k = b := ⟨_, rfl⟩
      rw [hlq] at HLC
      have HLB := Lib.hid hlq
      clear hlq
      go_wp2_with fail
      refine (HLC.out _ (Ext.rf _)).mono ?_
      rintro e y2 ⟨rfl, hX⟩
      have HT2 := Lib.hid (HT1.out.trans' hX)
      have HX2 := Lib.hid ((HEK.out.trans' HX1.out).trans' hX)
      clear hX z1a z1b z1c
      cases lq with
      | false =>
        obtain ⟨rfl, rfl⟩ := HS4.out k hk1 hlt HLB.out
        go_wp2
        go_ret2
        exact ⟨rfl, HT2.out⟩
      | true =>
        go_wp2
        go_roundg (m - (k + 1))
        case measure => omega
        case rel =>
          refine ⟨k + 1, by omega, by omega, by omega, by go_num, (show Aside _ from fun i h1 h2 => ?_), (show Ext _ _ from HX2.out)⟩
          by_cases e : i = k
          · subst e; exact HLB.out
          · exact A.out i h1 (by omega)
    · have hltz : ¬ (k : Int) < (m : Int) := by omega
      have HOR := Lib.hid (fun i h1 (h2 : i < m) => A.out i h1 (by omega))
      have HU5 := Lib.hid (HS5.out HOR.out)
      have HU6 := Lib.hid (HS6.out HOR.out)
      clear t0 hlt
      go_wp2
      clear hltz
      obtain ⟨wo, rfl⟩ : ∃ x, x = wr := ⟨_, rfl⟩
      go_loopg [12] m (fun g2 s12 wr => ∃ k : Nat, 1 ≤ k ∧ (k ≤ m ∨ k = 1) ∧ m - k ≤ g2 ∧ s12 = .int .i64 k ∧ Aside (∀ j, 1 ≤ j → j < k → annB t s ws j = false) ∧ Aside (Ext wo wr))
      case atStart => exact ⟨1, by omega, by omega, by omega, rfl, (fun j h1 h2 => absurd h2 (by omega)), Ext.rf _⟩
      case round =>
        rename_i k0 _ _
        obtain ⟨k, hk1, hkm, hg, rfl, A2, HEK2⟩ := hrel
        have HEW := Lib.hid (HEW.out.trans' HEK2.out)
        have HY5 := Lib.hid (HEK2.out.hp HY4.out)
        have t0 := cellOf HY5.out 0
        simp only [List.getElem?_toArray, List.getElem?_cons_zero] at t0
        by_cases hlt : k < m
        · have hltz : (k : Int) < (m : Int) := by omega
          have hkz : (0 : Int) ≤ (k : Int) := by omega
          obtain ⟨j, hj⟩ : ∃ j : Nat, k = j + 1 := ⟨k - 1, by omega⟩
          have e3 : (k : Int) - 1 = (j : Int) := by omega
          have hjz : (0 : Int) ≤ (j : Int) := by omega
          have hjm : (j : Int) < (m : Int) := by omega
          have hwj : IntKind.i64.wrap (j : Int) = (j : Int) := IntWalk.i64_in _ (by omega)
          obtain ⟨rb, ro, a0, c0, rfl, hr0, hi0⟩ := wave_at HW.out j (by rw [HWL.out]; omega)
          obtain ⟨rb', ro', a1, c1, hre, hr1, hi1⟩ := wave_at HW.out k (by rw [HWL.out]; omega)
          simp only [Option.some.injEq, Addr.mk.injEq, and_true] at hre
          obtain ⟨rfl, rfl⟩ := hre
          have HRJ := Lib.hid (HRN.out j (by omega))
          have HRK := Lib.hid (HRN.out k (by omega))
          have r0 := HEW.out.cl hr0
          have r1 := HEW.out.cl hr1
          have HI0 := Lib.hid hi0
          have HI1 := Lib.hid hi1
          have HP0 := Lib.hid (fun W (hW : Ext w W) => passiveP_calls _ _ t s ws[j]! W (HT.out.ext hW) HV.out HH.out (HI0.out.ext hW) HRJ.out)
          have HP1 := Lib.hid (fun W (hW : Ext w W) => passiveP_calls _ _ t s ws[k]! W (HT.out.ext hW) HV.out HH.out (HI1.out.ext hW) HRK.out)
          have HC0 := Lib.hid (fun W (hW : Ext w W) => countP_calls _ _ t ws[j]! 3 W (HT.out.ext hW) HV.out (HI0.out.ext hW) HRJ.out)
          have HC1 := Lib.hid (fun W (hW : Ext w W) => countP_calls _ _ t ws[k]! 2 W (HT.out.ext hW) HV.out (HI1.out.ext hW) HRK.out)
          have HAN : Hid (annB t s ws k = (passB t s ws[j]! && (passB t s ws[k]! && decide (cntE t 3 ws[j]! = cntE t 2 ws[k]!)))) := Lib.hid (by unfold annB; rw [show k - 1 = j by omega])
          generalize hv0 : Value.slice a0 ws[j]!.length c0 = v0 at *
          generalize hv1 : Value.slice a1 ws[k]!.length c1 = v1 at *
          generalize passB t s ws[j]! = b0 at *
          generalize passB t s ws[k]! = b1 at *
          generalize cntE t 3 ws[j]! = q0 at *
          generalize cntE t 2 ws[k]! = q1 at *
          have HUN := Lib.hid (HU6.out k hk1 hlt)
          clear hr0 hr1 hi0 hi1 hv0 hv1 hj
          cases b0 with
          | false =>
            have HNO : Hid (annB t s ws k = false) := Lib.hid HAN.out
            go_wp2
            have HT0 := Lib.hid (show Ext w wr.drew from HEW.out.dr)
            have HX0 := Lib.hid (show Ext wr wr.drew from (Ext.rf wr).dr)
            have z0a := (show Ext wr wr.drew from (Ext.rf wr).dr).cl t0
            have z0b := (show Ext wr wr.drew from (Ext.rf wr).dr).cl r0
            have z0c := (show Ext wr wr.drew from (Ext.rf wr).dr).cl r1
            refine wp_region_tails (fun w' => w'.cell? ⟨w.heap.size, 0, none⟩ = some (.slice ta tn tc) ∧ w'.cell? ⟨rb, ro + j, none⟩ = some v0 ∧ w'.cell? ⟨rb, ro + k, none⟩ = some v1) [] (by kernel_rfl) ⟨z0a, z0b, z0c⟩ (fun hHeld => ?_)
            generalize wr.drew = wT at *
            refine wpAnyU_take (i := 0) (d := some 60) (v := ?_) rfl rfl (by kernel_rfl) (by kernel_rfl) (by kernel_rfl) (by kernel_rfl) (fun _ _ _ h => h) (Or.inl ⟨by rfl, ?_⟩) (by assumption) ?_
            rotate_left
            · (intro w hSw; (try dsimp only at hSw); go_simp; try (with_reducible rfl))
            try simp only [Act.put]
            try simp only [List.setIfInBounds_toArray]
            try simp only [List.set_cons_zero, List.set_cons_succ]
            refine wpAnyU_take (i := 1) (d := some 61) (v := ?_) rfl rfl (by kernel_rfl) (by kernel_rfl) (by kernel_rfl) (by kernel_rfl) (fun _ _ _ h => h) (Or.inl ⟨by rfl, ?_⟩) (by assumption) ?_
            rotate_left
            · (intro w hSw; (try dsimp only at hSw); go_simp; try (with_reducible rfl))
            try simp only [Act.put]
            try simp only [List.setIfInBounds_toArray]
            try simp only [List.set_cons_zero, List.set_cons_succ]
            refine wpAnyU_take (i := 2) (d := some 62) (v := ?_) rfl rfl (by kernel_rfl) (by kernel_rfl) (by kernel_rfl) (by kernel_rfl) (fun _ _ _ h => h) (Or.inl ⟨by rfl, ?_⟩) (by assumption) ?_
            rotate_left
            · (intro w hSw; (try dsimp only at hSw); go_simp; try (with_reducible rfl))
            try simp only [Act.put]
            try simp only [List.setIfInBounds_toArray]
            try simp only [List.set_cons_zero, List.set_cons_succ]
            refine wpAnyU_take (i := 3) (d := some 63) (v := ?_) rfl rfl (by kernel_rfl) (by kernel_rfl) (by kernel_rfl) (by kernel_rfl) (fun _ _ _ h => h) (Or.inl ⟨by rfl, ?_⟩) (by assumption) ?_
            rotate_left
            · (intro w hSw; (try dsimp only at hSw); go_simp; try (with_reducible rfl))
            try simp only [Act.put]
            try simp only [List.setIfInBounds_toArray]
            try simp only [List.set_cons_zero, List.set_cons_succ]
            refine wpAnyU_take (i := 4) (d := some 64) (v := ?_) rfl rfl (by kernel_rfl) (by kernel_rfl) (by kernel_rfl) (by kernel_rfl) (fun _ _ _ h => h) (Or.inl ⟨by rfl, ?_⟩) (by assumption) ?_
            rotate_left
            · (intro w hSw; (try dsimp only at hSw); go_simp; try (with_reducible rfl))
            try simp only [Act.put]
            try simp only [List.setIfInBounds_toArray]
            try simp only [List.set_cons_zero, List.set_cons_succ]
            refine wpAnyU_take (i := 5) (d := some 65) (v := ?_) rfl rfl (by kernel_rfl) (by kernel_rfl) (by kernel_rfl) (by kernel_rfl) (fun _ _ _ h => h) (Or.inl ⟨by rfl, ?_⟩) (by assumption) ?_
            rotate_left
            · (intro w hSw; (try dsimp only at hSw); go_simp; try (with_reducible rfl))
            try simp only [Act.put]
            try simp only [List.setIfInBounds_toArray]
            try simp only [List.set_cons_zero, List.set_cons_succ]
            refine wpAnyU_take (i := 6) (d := some 66) (v := ?_) rfl rfl (by kernel_rfl) (by kernel_rfl) (by kernel_rfl) (by kernel_rfl) (fun _ _ _ h => h) (Or.inl ⟨by rfl, ?_⟩) (by assumption) ?_
            rotate_left
            · (intro w hSw; (try dsimp only at hSw); go_simp; try (with_reducible rfl))
            try simp only [Act.put]
            try simp only [List.setIfInBounds_toArray]
            try simp only [List.set_cons_zero, List.set_cons_succ]
            refine wpAnyU_step (i := 7) (by kernel_rfl) rfl (fun K hK => ?_)
            refine step_callW (by kernel_rfl) 35 _ _ rfl enters_35 [.agg #[.slice ta tn tc], .string s, v0] (by first | rfl | kernel_rfl | go_simp) (HP0.out _ HT0.out) ?_
            rintro e y1 ⟨rfl, hX⟩
            refine ⟨_, rfl, ?_⟩
            have HT1 := Lib.hid (HT0.out.trans' hX)
            have HX1 := Lib.hid (HX0.out.trans' hX)
            have z1a := hX.cl z0a
            have z1b := hX.cl z0b
            have z1c := hX.cl z0c
            clear hX z0a z0b z0c
            refine hK.out _ _ ?_ (fun hHeld => ?_)
            · (try dsimp only)
              exact ⟨z1a, z1b, z1c⟩
            clear hK K
            try simp only [List.getElem_toArray, List.getElem_cons_zero, List.getElem_cons_succ]
            try simp only [Act.put]
            try simp only [List.setIfInBounds_toArray]
            try simp only [List.set_cons_zero, List.set_cons_succ]
            refine wpAnyU_take (i := 8) (d := some 68) (v := ?_) rfl rfl (by kernel_rfl) (by kernel_rfl) (by kernel_rfl) (by kernel_rfl) (fun _ _ _ h => h) (Or.inl ⟨by rfl, ?_⟩) (by assumption) ?_
            rotate_left
            · (intro w hSw; (try dsimp only at hSw); go_simp; try (with_reducible rfl))
            try simp only [Act.put]
            try simp only [List.setIfInBounds_toArray]
            try simp only [List.set_cons_zero, List.set_cons_succ]
            refine wpAnyU_take (i := 9) (d := some 69) (v := undef) rfl rfl (by kernel_rfl) (by kernel_rfl) (by kernel_rfl) (by kernel_rfl) (fun _ _ _ h => h) (Or.inr ⟨by rfl, rfl⟩) (by assumption) ?_
            try simp only [Act.put]
            try simp only [List.setIfInBounds_toArray]
            try simp only [List.set_cons_zero, List.set_cons_succ]
            refine wpAnyU_take (i := 10) (d := some 70) (v := undef) rfl rfl (by kernel_rfl) (by kernel_rfl) (by kernel_rfl) (by kernel_rfl) (fun _ _ _ h => h) (Or.inr ⟨by rfl, rfl⟩) (by assumption) ?_
            try simp only [Act.put]
            try simp only [List.setIfInBounds_toArray]
            try simp only [List.set_cons_zero, List.set_cons_succ]
            refine wpAnyU_take (i := 11) (d := some 71) (v := undef) rfl rfl (by kernel_rfl) (by kernel_rfl) (by kernel_rfl) (by kernel_rfl) (fun _ _ _ h => h) (Or.inr ⟨by rfl, rfl⟩) (by assumption) ?_
            try simp only [Act.put]
            try simp only [List.setIfInBounds_toArray]
            try simp only [List.set_cons_zero, List.set_cons_succ]
            refine wpAnyU_take (i := 12) (d := some 72) (v := undef) rfl rfl (by kernel_rfl) (by kernel_rfl) (by kernel_rfl) (by kernel_rfl) (fun _ _ _ h => h) (Or.inr ⟨by rfl, rfl⟩) (by assumption) ?_
            try simp only [Act.put]
            try simp only [List.setIfInBounds_toArray]
            try simp only [List.set_cons_zero, List.set_cons_succ]
            refine wpAnyU_take (i := 13) (d := some 73) (v := undef) rfl rfl (by kernel_rfl) (by kernel_rfl) (by kernel_rfl) (by kernel_rfl) (fun _ _ _ h => h) (Or.inr ⟨by rfl, rfl⟩) (by assumption) ?_
            try simp only [Act.put]
            try simp only [List.setIfInBounds_toArray]
            try simp only [List.set_cons_zero, List.set_cons_succ]
            refine wpAnyU_take (i := 14) (d := some 74) (v := undef) rfl rfl (by kernel_rfl) (by kernel_rfl) (by kernel_rfl) (by kernel_rfl) (fun _ _ _ h => h) (Or.inr ⟨by rfl, rfl⟩) (by assumption) ?_
            try simp only [Act.put]
            try simp only [List.setIfInBounds_toArray]
            try simp only [List.set_cons_zero, List.set_cons_succ]
            refine wpAnyU_take (i := 15) (d := some 75) (v := undef) rfl rfl (by kernel_rfl) (by kernel_rfl) (by kernel_rfl) (by kernel_rfl) (fun _ _ _ h => h) (Or.inr ⟨by rfl, rfl⟩) (by assumption) ?_
            try simp only [Act.put]
            try simp only [List.setIfInBounds_toArray]
            try simp only [List.set_cons_zero, List.set_cons_succ]
            refine wpAnyU_take (i := 16) (d := some 76) (v := ?_) rfl rfl (by kernel_rfl) (by kernel_rfl) (by kernel_rfl) (by kernel_rfl) (fun _ _ _ h => h) (Or.inl ⟨by rfl, ?_⟩) (by assumption) ?_
            rotate_left
            · (intro w hSw; (try dsimp only at hSw); go_simp; try (with_reducible rfl))
            try simp only [Act.put]
            try simp only [List.setIfInBounds_toArray]
            try simp only [List.set_cons_zero, List.set_cons_succ]
            refine wpAnyU_take (i := 17) (d := some 77) (v := ?_) rfl rfl (by kernel_rfl) (by kernel_rfl) (by kernel_rfl) (by kernel_rfl) (fun _ _ _ h => h) (Or.inl ⟨by rfl, ?_⟩) (by assumption) ?_
            rotate_left
            · (intro w hSw; (try dsimp only at hSw); go_simp; try (with_reducible rfl))
            try simp only [Act.put]
            try simp only [List.setIfInBounds_toArray]
            try simp only [List.set_cons_zero, List.set_cons_succ]
            refine wpAnyU_take (i := 18) (d := some 78) (v := undef) rfl rfl (by kernel_rfl) (by kernel_rfl) (by kernel_rfl) (by kernel_rfl) (fun _ _ _ h => h) (Or.inr ⟨by rfl, rfl⟩) (by assumption) ?_
            try simp only [Act.put]
            try simp only [List.setIfInBounds_toArray]
            try simp only [List.set_cons_zero, List.set_cons_succ]
            refine wpAnyU_take (i := 19) (d := some 79) (v := undef) rfl rfl (by kernel_rfl) (by kernel_rfl) (by kernel_rfl) (by kernel_rfl) (fun _ _ _ h => h) (Or.inr ⟨by rfl, rfl⟩) (by assumption) ?_
            try simp only [Act.put]
            try simp only [List.setIfInBounds_toArray]
            try simp only [List.set_cons_zero, List.set_cons_succ]
            refine wpAnyU_take (i := 20) (d := some 80) (v := undef) rfl rfl (by kernel_rfl) (by kernel_rfl) (by kernel_rfl) (by kernel_rfl) (fun _ _ _ h => h) (Or.inr ⟨by rfl, rfl⟩) (by assumption) ?_
            try simp only [Act.put]
            try simp only [List.setIfInBounds_toArray]
            try simp only [List.set_cons_zero, List.set_cons_succ]
            refine wpAnyU_take (i := 21) (d := some 81) (v := undef) rfl rfl (by kernel_rfl) (by kernel_rfl) (by kernel_rfl) (by kernel_rfl) (fun _ _ _ h => h) (Or.inr ⟨by rfl, rfl⟩) (by assumption) ?_
            try simp only [Act.put]
            try simp only [List.setIfInBounds_toArray]
            try simp only [List.set_cons_zero, List.set_cons_succ]
            refine wpAnyU_take (i := 22) (d := some 82) (v := undef) rfl rfl (by kernel_rfl) (by kernel_rfl) (by kernel_rfl) (by kernel_rfl) (fun _ _ _ h => h) (Or.inr ⟨by rfl, rfl⟩) (by assumption) ?_
            try simp only [Act.put]
            try simp only [List.setIfInBounds_toArray]
            try simp only [List.set_cons_zero, List.set_cons_succ]
            refine wpAnyU_take (i := 23) (d := some 83) (v := undef) rfl rfl (by kernel_rfl) (by kernel_rfl) (by kernel_rfl) (by kernel_rfl) (fun _ _ _ h => h) (Or.inr ⟨by rfl, rfl⟩) (by assumption) ?_
            try simp only [Act.put]
            try simp only [List.setIfInBounds_toArray]
            try simp only [List.set_cons_zero, List.set_cons_succ]
            refine wpAnyU_take (i := 24) (d := some 84) (v := undef) rfl rfl (by kernel_rfl) (by kernel_rfl) (by kernel_rfl) (by kernel_rfl) (fun _ _ _ h => h) (Or.inr ⟨by rfl, rfl⟩) (by assumption) ?_
            try simp only [Act.put]
            try simp only [List.setIfInBounds_toArray]
            try simp only [List.set_cons_zero, List.set_cons_succ]
            refine wpAnyU_take (i := 25) (d := some 85) (v := undef) rfl rfl (by kernel_rfl) (by kernel_rfl) (by kernel_rfl) (by kernel_rfl) (fun _ _ _ h => h) (Or.inr ⟨by rfl, rfl⟩) (by assumption) ?_
            try simp only [Act.put]
            try simp only [List.setIfInBounds_toArray]
            try simp only [List.set_cons_zero, List.set_cons_succ]
            refine wpAnyU_take (i := 26) (d := some 86) (v := undef) rfl rfl (by kernel_rfl) (by kernel_rfl) (by kernel_rfl) (by kernel_rfl) (fun _ _ _ h => h) (Or.inr ⟨by rfl, rfl⟩) (by assumption) ?_
            try simp only [Act.put]
            try simp only [List.setIfInBounds_toArray]
            try simp only [List.set_cons_zero, List.set_cons_succ]
            refine wpAnyU_take (i := 27) (d := some 87) (v := undef) rfl rfl (by kernel_rfl) (by kernel_rfl) (by kernel_rfl) (by kernel_rfl) (fun _ _ _ h => h) (Or.inr ⟨by rfl, rfl⟩) (by assumption) ?_
            try simp only [Act.put]
            try simp only [List.setIfInBounds_toArray]
            try simp only [List.set_cons_zero, List.set_cons_succ]
            refine wpAnyU_take (i := 28) (d := some 88) (v := undef) rfl rfl (by kernel_rfl) (by kernel_rfl) (by kernel_rfl) (by kernel_rfl) (fun _ _ _ h => h) (Or.inr ⟨by rfl, rfl⟩) (by assumption) ?_
            try simp only [Act.put]
            try simp only [List.setIfInBounds_toArray]
            try simp only [List.set_cons_zero, List.set_cons_succ]
            refine wpAnyU_take (i := 29) (d := some 89) (v := undef) rfl rfl (by kernel_rfl) (by kernel_rfl) (by kernel_rfl) (by kernel_rfl) (fun _ _ _ h => h) (Or.inr ⟨by rfl, rfl⟩) (by assumption) ?_
            try simp only [Act.put]
            try simp only [List.setIfInBounds_toArray]
            try simp only [List.set_cons_zero, List.set_cons_succ]
            refine wpAnyU_take (i := 30) (d := some 90) (v := undef) rfl rfl (by kernel_rfl) (by kernel_rfl) (by kernel_rfl) (by kernel_rfl) (fun _ _ _ h => h) (Or.inr ⟨by rfl, rfl⟩) (by assumption) ?_
            try simp only [Act.put]
            try simp only [List.setIfInBounds_toArray]
            try simp only [List.set_cons_zero, List.set_cons_succ]
            refine wpAnyU_take (i := 31) (d := some 91) (v := undef) rfl rfl (by kernel_rfl) (by kernel_rfl) (by kernel_rfl) (by kernel_rfl) (fun _ _ _ h => h) (Or.inr ⟨by rfl, rfl⟩) (by assumption) ?_
            try simp only [Act.put]
            try simp only [List.setIfInBounds_toArray]
            try simp only [List.set_cons_zero, List.set_cons_succ]
            refine wpAnyU_take (i := 32) (d := some 92) (v := ?_) rfl rfl (by kernel_rfl) (by kernel_rfl) (by kernel_rfl) (by kernel_rfl) (fun _ _ _ h => h) (Or.inl ⟨by rfl, ?_⟩) (by assumption) ?_
            rotate_left
            · (intro w hSw; (try dsimp only at hSw); go_simp; try (with_reducible rfl))
            try simp only [Act.put]
            try simp only [List.setIfInBounds_toArray]
            try simp only [List.set_cons_zero, List.set_cons_succ]
            refine wpAnyU_done (by kernel_rfl) ?_
            have HE9 := Lib.hid (HT1.out)
            have HX9 := Lib.hid (HEK2.out.trans' HX1.out)
            have t9 := z1a
            clear z1a z1b z1c
            go_wp2
            go_roundg (m - (k + 1))
            case measure => omega
            case rel =>
              refine ⟨k + 1, by omega, by omega, by omega, by go_num, (show Aside _ from fun i h1 h2 => ?_), (show Ext _ _ from HX9.out)⟩
              by_cases e : i = k
              · subst e; exact HNO.out
              · exact A2.out i h1 (by omega)
          | true =>
          cases b1 with
          | false =>
            have HNO : Hid (annB t s ws k = false) := Lib.hid HAN.out
            go_wp2
            have HT0 := Lib.hid (show Ext w wr.drew from HEW.out.dr)
            have HX0 := Lib.hid (show Ext wr wr.drew from (Ext.rf wr).dr)
            have z0a := (show Ext wr wr.drew from (Ext.rf wr).dr).cl t0
            have z0b := (show Ext wr wr.drew from (Ext.rf wr).dr).cl r0
            have z0c := (show Ext wr wr.drew from (Ext.rf wr).dr).cl r1
            refine wp_region_tails (fun w' => w'.cell? ⟨w.heap.size, 0, none⟩ = some (.slice ta tn tc) ∧ w'.cell? ⟨rb, ro + j, none⟩ = some v0 ∧ w'.cell? ⟨rb, ro + k, none⟩ = some v1) [] (by kernel_rfl) ⟨z0a, z0b, z0c⟩ (fun hHeld => ?_)
            generalize wr.drew = wT at *
            refine wpAnyU_take (i := 0) (d := some 60) (v := ?_) rfl rfl (by kernel_rfl) (by kernel_rfl) (by kernel_rfl) (by kernel_rfl) (fun _ _ _ h => h) (Or.inl ⟨by rfl, ?_⟩) (by assumption) ?_
            rotate_left
            · (intro w hSw; (try dsimp only at hSw); go_simp; try (with_reducible rfl))
            try simp only [Act.put]
            try simp only [List.setIfInBounds_toArray]
            try simp only [List.set_cons_zero, List.set_cons_succ]
            refine wpAnyU_take (i := 1) (d := some 61) (v := ?_) rfl rfl (by kernel_rfl) (by kernel_rfl) (by kernel_rfl) (by kernel_rfl) (fun _ _ _ h => h) (Or.inl ⟨by rfl, ?_⟩) (by assumption) ?_
            rotate_left
            · (intro w hSw; (try dsimp only at hSw); go_simp; try (with_reducible rfl))
            try simp only [Act.put]
            try simp only [List.setIfInBounds_toArray]
            try simp only [List.set_cons_zero, List.set_cons_succ]
            refine wpAnyU_take (i := 2) (d := some 62) (v := ?_) rfl rfl (by kernel_rfl) (by kernel_rfl) (by kernel_rfl) (by kernel_rfl) (fun _ _ _ h => h) (Or.inl ⟨by rfl, ?_⟩) (by assumption) ?_
            rotate_left
            · (intro w hSw; (try dsimp only at hSw); go_simp; try (with_reducible rfl))
            try simp only [Act.put]
            try simp only [List.setIfInBounds_toArray]
            try simp only [List.set_cons_zero, List.set_cons_succ]
            refine wpAnyU_take (i := 3) (d := some 63) (v := ?_) rfl rfl (by kernel_rfl) (by kernel_rfl) (by kernel_rfl) (by kernel_rfl) (fun _ _ _ h => h) (Or.inl ⟨by rfl, ?_⟩) (by assumption) ?_
            rotate_left
            · (intro w hSw; (try dsimp only at hSw); go_simp; try (with_reducible rfl))
            try simp only [Act.put]
            try simp only [List.setIfInBounds_toArray]
            try simp only [List.set_cons_zero, List.set_cons_succ]
            refine wpAnyU_take (i := 4) (d := some 64) (v := ?_) rfl rfl (by kernel_rfl) (by kernel_rfl) (by kernel_rfl) (by kernel_rfl) (fun _ _ _ h => h) (Or.inl ⟨by rfl, ?_⟩) (by assumption) ?_
            rotate_left
            · (intro w hSw; (try dsimp only at hSw); go_simp; try (with_reducible rfl))
            try simp only [Act.put]
            try simp only [List.setIfInBounds_toArray]
            try simp only [List.set_cons_zero, List.set_cons_succ]
            refine wpAnyU_take (i := 5) (d := some 65) (v := ?_) rfl rfl (by kernel_rfl) (by kernel_rfl) (by kernel_rfl) (by kernel_rfl) (fun _ _ _ h => h) (Or.inl ⟨by rfl, ?_⟩) (by assumption) ?_
            rotate_left
            · (intro w hSw; (try dsimp only at hSw); go_simp; try (with_reducible rfl))
            try simp only [Act.put]
            try simp only [List.setIfInBounds_toArray]
            try simp only [List.set_cons_zero, List.set_cons_succ]
            refine wpAnyU_take (i := 6) (d := some 66) (v := ?_) rfl rfl (by kernel_rfl) (by kernel_rfl) (by kernel_rfl) (by kernel_rfl) (fun _ _ _ h => h) (Or.inl ⟨by rfl, ?_⟩) (by assumption) ?_
            rotate_left
            · (intro w hSw; (try dsimp only at hSw); go_simp; try (with_reducible rfl))
            try simp only [Act.put]
            try simp only [List.setIfInBounds_toArray]
            try simp only [List.set_cons_zero, List.set_cons_succ]
            refine wpAnyU_step (i := 7) (by kernel_rfl) rfl (fun K hK => ?_)
            refine step_callW (by kernel_rfl) 35 _ _ rfl enters_35 [.agg #[.slice ta tn tc], .string s, v0] (by first | rfl | kernel_rfl | go_simp) (HP0.out _ HT0.out) ?_
            rintro e y1 ⟨rfl, hX⟩
            refine ⟨_, rfl, ?_⟩
            have HT1 := Lib.hid (HT0.out.trans' hX)
            have HX1 := Lib.hid (HX0.out.trans' hX)
            have z1a := hX.cl z0a
            have z1b := hX.cl z0b
            have z1c := hX.cl z0c
            clear hX z0a z0b z0c
            refine hK.out _ _ ?_ (fun hHeld => ?_)
            · (try dsimp only)
              exact ⟨z1a, z1b, z1c⟩
            clear hK K
            try simp only [List.getElem_toArray, List.getElem_cons_zero, List.getElem_cons_succ]
            try simp only [Act.put]
            try simp only [List.setIfInBounds_toArray]
            try simp only [List.set_cons_zero, List.set_cons_succ]
            refine wpAnyU_take (i := 8) (d := some 68) (v := ?_) rfl rfl (by kernel_rfl) (by kernel_rfl) (by kernel_rfl) (by kernel_rfl) (fun _ _ _ h => h) (Or.inl ⟨by rfl, ?_⟩) (by assumption) ?_
            rotate_left
            · (intro w hSw; (try dsimp only at hSw); go_simp; try (with_reducible rfl))
            try simp only [Act.put]
            try simp only [List.setIfInBounds_toArray]
            try simp only [List.set_cons_zero, List.set_cons_succ]
            refine wpAnyU_take (i := 9) (d := some 69) (v := ?_) rfl rfl (by kernel_rfl) (by kernel_rfl) (by kernel_rfl) (by kernel_rfl) (fun _ _ _ h => h) (Or.inl ⟨by rfl, ?_⟩) (by assumption) ?_
            rotate_left
            · (intro w hSw; (try dsimp only at hSw); go_simp; try (with_reducible rfl))
            try simp only [Act.put]
            try simp only [List.setIfInBounds_toArray]
            try simp only [List.set_cons_zero, List.set_cons_succ]
            refine wpAnyU_take (i := 10) (d := some 70) (v := ?_) rfl rfl (by kernel_rfl) (by kernel_rfl) (by kernel_rfl) (by kernel_rfl) (fun _ _ _ h => h) (Or.inl ⟨by rfl, ?_⟩) (by assumption) ?_
            rotate_left
            · (intro w hSw; (try dsimp only at hSw); go_simp; try (with_reducible rfl))
            try simp only [Act.put]
            try simp only [List.setIfInBounds_toArray]
            try simp only [List.set_cons_zero, List.set_cons_succ]
            refine wpAnyU_take (i := 11) (d := some 71) (v := ?_) rfl rfl (by kernel_rfl) (by kernel_rfl) (by kernel_rfl) (by kernel_rfl) (fun _ _ _ h => h) (Or.inl ⟨by rfl, ?_⟩) (by assumption) ?_
            rotate_left
            · (intro w hSw; (try dsimp only at hSw); go_simp; try (with_reducible rfl))
            try simp only [Act.put]
            try simp only [List.setIfInBounds_toArray]
            try simp only [List.set_cons_zero, List.set_cons_succ]
            refine wpAnyU_take (i := 12) (d := some 72) (v := ?_) rfl rfl (by kernel_rfl) (by kernel_rfl) (by kernel_rfl) (by kernel_rfl) (fun _ _ _ h => h) (Or.inl ⟨by rfl, ?_⟩) (by assumption) ?_
            rotate_left
            · (intro w hSw; (try dsimp only at hSw); go_simp; try (with_reducible rfl))
            try simp only [Act.put]
            try simp only [List.setIfInBounds_toArray]
            try simp only [List.set_cons_zero, List.set_cons_succ]
            refine wpAnyU_take (i := 13) (d := some 73) (v := ?_) rfl rfl (by kernel_rfl) (by kernel_rfl) (by kernel_rfl) (by kernel_rfl) (fun _ _ _ h => h) (Or.inl ⟨by rfl, ?_⟩) (by assumption) ?_
            rotate_left
            · (intro w hSw; (try dsimp only at hSw); go_simp; try (with_reducible rfl))
            try simp only [Act.put]
            try simp only [List.setIfInBounds_toArray]
            try simp only [List.set_cons_zero, List.set_cons_succ]
            refine wpAnyU_take (i := 14) (d := some 74) (v := ?_) rfl rfl (by kernel_rfl) (by kernel_rfl) (by kernel_rfl) (by kernel_rfl) (fun _ _ _ h => h) (Or.inl ⟨by rfl, ?_⟩) (by assumption) ?_
            rotate_left
            · (intro w hSw; (try dsimp only at hSw); go_simp; try (with_reducible rfl))
            try simp only [Act.put]
            try simp only [List.setIfInBounds_toArray]
            try simp only [List.set_cons_zero, List.set_cons_succ]
            refine wpAnyU_step (i := 15) (by kernel_rfl) rfl (fun K hK => ?_)
            refine step_callW (by kernel_rfl) 35 _ _ rfl enters_35 [.agg #[.slice ta tn tc], .string s, v1] (by first | rfl | kernel_rfl | go_simp) (HP1.out _ HT1.out) ?_
            rintro e y2 ⟨rfl, hX⟩
            refine ⟨_, rfl, ?_⟩
            have HT2 := Lib.hid (HT1.out.trans' hX)
            have HX2 := Lib.hid (HX1.out.trans' hX)
            have z2a := hX.cl z1a
            have z2b := hX.cl z1b
            have z2c := hX.cl z1c
            clear hX z1a z1b z1c
            refine hK.out _ _ ?_ (fun hHeld => ?_)
            · (try dsimp only)
              exact ⟨z2a, z2b, z2c⟩
            clear hK K
            try simp only [List.getElem_toArray, List.getElem_cons_zero, List.getElem_cons_succ]
            try simp only [Act.put]
            try simp only [List.setIfInBounds_toArray]
            try simp only [List.set_cons_zero, List.set_cons_succ]
            refine wpAnyU_take (i := 16) (d := some 76) (v := ?_) rfl rfl (by kernel_rfl) (by kernel_rfl) (by kernel_rfl) (by kernel_rfl) (fun _ _ _ h => h) (Or.inl ⟨by rfl, ?_⟩) (by assumption) ?_
            rotate_left
            · (intro w hSw; (try dsimp only at hSw); go_simp; try (with_reducible rfl))
            try simp only [Act.put]
            try simp only [List.setIfInBounds_toArray]
            try simp only [List.set_cons_zero, List.set_cons_succ]
            refine wpAnyU_take (i := 17) (d := some 77) (v := ?_) rfl rfl (by kernel_rfl) (by kernel_rfl) (by kernel_rfl) (by kernel_rfl) (fun _ _ _ h => h) (Or.inl ⟨by rfl, ?_⟩) (by assumption) ?_
            rotate_left
            · (intro w hSw; (try dsimp only at hSw); go_simp; try (with_reducible rfl))
            try simp only [Act.put]
            try simp only [List.setIfInBounds_toArray]
            try simp only [List.set_cons_zero, List.set_cons_succ]
            refine wpAnyU_take (i := 18) (d := some 78) (v := undef) rfl rfl (by kernel_rfl) (by kernel_rfl) (by kernel_rfl) (by kernel_rfl) (fun _ _ _ h => h) (Or.inr ⟨by rfl, rfl⟩) (by assumption) ?_
            try simp only [Act.put]
            try simp only [List.setIfInBounds_toArray]
            try simp only [List.set_cons_zero, List.set_cons_succ]
            refine wpAnyU_take (i := 19) (d := some 79) (v := undef) rfl rfl (by kernel_rfl) (by kernel_rfl) (by kernel_rfl) (by kernel_rfl) (fun _ _ _ h => h) (Or.inr ⟨by rfl, rfl⟩) (by assumption) ?_
            try simp only [Act.put]
            try simp only [List.setIfInBounds_toArray]
            try simp only [List.set_cons_zero, List.set_cons_succ]
            refine wpAnyU_take (i := 20) (d := some 80) (v := undef) rfl rfl (by kernel_rfl) (by kernel_rfl) (by kernel_rfl) (by kernel_rfl) (fun _ _ _ h => h) (Or.inr ⟨by rfl, rfl⟩) (by assumption) ?_
            try simp only [Act.put]
            try simp only [List.setIfInBounds_toArray]
            try simp only [List.set_cons_zero, List.set_cons_succ]
            refine wpAnyU_take (i := 21) (d := some 81) (v := undef) rfl rfl (by kernel_rfl) (by kernel_rfl) (by kernel_rfl) (by kernel_rfl) (fun _ _ _ h => h) (Or.inr ⟨by rfl, rfl⟩) (by assumption) ?_
            try simp only [Act.put]
            try simp only [List.setIfInBounds_toArray]
            try simp only [List.set_cons_zero, List.set_cons_succ]
            refine wpAnyU_take (i := 22) (d := some 82) (v := undef) rfl rfl (by kernel_rfl) (by kernel_rfl) (by kernel_rfl) (by kernel_rfl) (fun _ _ _ h => h) (Or.inr ⟨by rfl, rfl⟩) (by assumption) ?_
            try simp only [Act.put]
            try simp only [List.setIfInBounds_toArray]
            try simp only [List.set_cons_zero, List.set_cons_succ]
            refine wpAnyU_take (i := 23) (d := some 83) (v := undef) rfl rfl (by kernel_rfl) (by kernel_rfl) (by kernel_rfl) (by kernel_rfl) (fun _ _ _ h => h) (Or.inr ⟨by rfl, rfl⟩) (by assumption) ?_
            try simp only [Act.put]
            try simp only [List.setIfInBounds_toArray]
            try simp only [List.set_cons_zero, List.set_cons_succ]
            refine wpAnyU_take (i := 24) (d := some 84) (v := undef) rfl rfl (by kernel_rfl) (by kernel_rfl) (by kernel_rfl) (by kernel_rfl) (fun _ _ _ h => h) (Or.inr ⟨by rfl, rfl⟩) (by assumption) ?_
            try simp only [Act.put]
            try simp only [List.setIfInBounds_toArray]
            try simp only [List.set_cons_zero, List.set_cons_succ]
            refine wpAnyU_take (i := 25) (d := some 85) (v := undef) rfl rfl (by kernel_rfl) (by kernel_rfl) (by kernel_rfl) (by kernel_rfl) (fun _ _ _ h => h) (Or.inr ⟨by rfl, rfl⟩) (by assumption) ?_
            try simp only [Act.put]
            try simp only [List.setIfInBounds_toArray]
            try simp only [List.set_cons_zero, List.set_cons_succ]
            refine wpAnyU_take (i := 26) (d := some 86) (v := undef) rfl rfl (by kernel_rfl) (by kernel_rfl) (by kernel_rfl) (by kernel_rfl) (fun _ _ _ h => h) (Or.inr ⟨by rfl, rfl⟩) (by assumption) ?_
            try simp only [Act.put]
            try simp only [List.setIfInBounds_toArray]
            try simp only [List.set_cons_zero, List.set_cons_succ]
            refine wpAnyU_take (i := 27) (d := some 87) (v := undef) rfl rfl (by kernel_rfl) (by kernel_rfl) (by kernel_rfl) (by kernel_rfl) (fun _ _ _ h => h) (Or.inr ⟨by rfl, rfl⟩) (by assumption) ?_
            try simp only [Act.put]
            try simp only [List.setIfInBounds_toArray]
            try simp only [List.set_cons_zero, List.set_cons_succ]
            refine wpAnyU_take (i := 28) (d := some 88) (v := undef) rfl rfl (by kernel_rfl) (by kernel_rfl) (by kernel_rfl) (by kernel_rfl) (fun _ _ _ h => h) (Or.inr ⟨by rfl, rfl⟩) (by assumption) ?_
            try simp only [Act.put]
            try simp only [List.setIfInBounds_toArray]
            try simp only [List.set_cons_zero, List.set_cons_succ]
            refine wpAnyU_take (i := 29) (d := some 89) (v := undef) rfl rfl (by kernel_rfl) (by kernel_rfl) (by kernel_rfl) (by kernel_rfl) (fun _ _ _ h => h) (Or.inr ⟨by rfl, rfl⟩) (by assumption) ?_
            try simp only [Act.put]
            try simp only [List.setIfInBounds_toArray]
            try simp only [List.set_cons_zero, List.set_cons_succ]
            refine wpAnyU_take (i := 30) (d := some 90) (v := undef) rfl rfl (by kernel_rfl) (by kernel_rfl) (by kernel_rfl) (by kernel_rfl) (fun _ _ _ h => h) (Or.inr ⟨by rfl, rfl⟩) (by assumption) ?_
            try simp only [Act.put]
            try simp only [List.setIfInBounds_toArray]
            try simp only [List.set_cons_zero, List.set_cons_succ]
            refine wpAnyU_take (i := 31) (d := some 91) (v := undef) rfl rfl (by kernel_rfl) (by kernel_rfl) (by kernel_rfl) (by kernel_rfl) (fun _ _ _ h => h) (Or.inr ⟨by rfl, rfl⟩) (by assumption) ?_
            try simp only [Act.put]
            try simp only [List.setIfInBounds_toArray]
            try simp only [List.set_cons_zero, List.set_cons_succ]
            refine wpAnyU_take (i := 32) (d := some 92) (v := ?_) rfl rfl (by kernel_rfl) (by kernel_rfl) (by kernel_rfl) (by kernel_rfl) (fun _ _ _ h => h) (Or.inl ⟨by rfl, ?_⟩) (by assumption) ?_
            rotate_left
            · (intro w hSw; (try dsimp only at hSw); go_simp; try (with_reducible rfl))
            try simp only [Act.put]
            try simp only [List.setIfInBounds_toArray]
            try simp only [List.set_cons_zero, List.set_cons_succ]
            refine wpAnyU_done (by kernel_rfl) ?_
            have HE9 := Lib.hid (HT2.out)
            have HX9 := Lib.hid (HEK2.out.trans' HX2.out)
            have t9 := z2a
            clear z2a z2b z2c
            go_wp2
            go_roundg (m - (k + 1))
            case measure => omega
            case rel =>
              refine ⟨k + 1, by omega, by omega, by omega, by go_num, (show Aside _ from fun i h1 h2 => ?_), (show Ext _ _ from HX9.out)⟩
              by_cases e : i = k
              · subst e; exact HNO.out
              · exact A2.out i h1 (by omega)
          | true =>
            go_wp2
            have HT0 := Lib.hid (show Ext w wr.drew from HEW.out.dr)
            have HX0 := Lib.hid (show Ext wr wr.drew from (Ext.rf wr).dr)
            have z0a := (show Ext wr wr.drew from (Ext.rf wr).dr).cl t0
            have z0b := (show Ext wr wr.drew from (Ext.rf wr).dr).cl r0
            have z0c := (show Ext wr wr.drew from (Ext.rf wr).dr).cl r1
            refine wp_region_tails (fun w' => w'.cell? ⟨w.heap.size, 0, none⟩ = some (.slice ta tn tc) ∧ w'.cell? ⟨rb, ro + j, none⟩ = some v0 ∧ w'.cell? ⟨rb, ro + k, none⟩ = some v1) [] (by kernel_rfl) ⟨z0a, z0b, z0c⟩ (fun hHeld => ?_)
            generalize wr.drew = wT at *
            refine wpAnyU_take (i := 0) (d := some 60) (v := ?_) rfl rfl (by kernel_rfl) (by kernel_rfl) (by kernel_rfl) (by kernel_rfl) (fun _ _ _ h => h) (Or.inl ⟨by rfl, ?_⟩) (by assumption) ?_
            rotate_left
            · (intro w hSw; (try dsimp only at hSw); go_simp; try (with_reducible rfl))
            try simp only [Act.put]
            try simp only [List.setIfInBounds_toArray]
            try simp only [List.set_cons_zero, List.set_cons_succ]
            refine wpAnyU_take (i := 1) (d := some 61) (v := ?_) rfl rfl (by kernel_rfl) (by kernel_rfl) (by kernel_rfl) (by kernel_rfl) (fun _ _ _ h => h) (Or.inl ⟨by rfl, ?_⟩) (by assumption) ?_
            rotate_left
            · (intro w hSw; (try dsimp only at hSw); go_simp; try (with_reducible rfl))
            try simp only [Act.put]
            try simp only [List.setIfInBounds_toArray]
            try simp only [List.set_cons_zero, List.set_cons_succ]
            refine wpAnyU_take (i := 2) (d := some 62) (v := ?_) rfl rfl (by kernel_rfl) (by kernel_rfl) (by kernel_rfl) (by kernel_rfl) (fun _ _ _ h => h) (Or.inl ⟨by rfl, ?_⟩) (by assumption) ?_
            rotate_left
            · (intro w hSw; (try dsimp only at hSw); go_simp; try (with_reducible rfl))
            try simp only [Act.put]
            try simp only [List.setIfInBounds_toArray]
            try simp only [List.set_cons_zero, List.set_cons_succ]
            refine wpAnyU_take (i := 3) (d := some 63) (v := ?_) rfl rfl (by kernel_rfl) (by kernel_rfl) (by kernel_rfl) (by kernel_rfl) (fun _ _ _ h => h) (Or.inl ⟨by rfl, ?_⟩) (by assumption) ?_
            rotate_left
            · (intro w hSw; (try dsimp only at hSw); go_simp; try (with_reducible rfl))
            try simp only [Act.put]
            try simp only [List.setIfInBounds_toArray]
            try simp only [List.set_cons_zero, List.set_cons_succ]
            refine wpAnyU_take (i := 4) (d := some 64) (v := ?_) rfl rfl (by kernel_rfl) (by kernel_rfl) (by kernel_rfl) (by kernel_rfl) (fun _ _ _ h => h) (Or.inl ⟨by rfl, ?_⟩) (by assumption) ?_
            rotate_left
            · (intro w hSw; (try dsimp only at hSw); go_simp; try (with_reducible rfl))
            try simp only [Act.put]
            try simp only [List.setIfInBounds_toArray]
            try simp only [List.set_cons_zero, List.set_cons_succ]
            refine wpAnyU_take (i := 5) (d := some 65) (v := ?_) rfl rfl (by kernel_rfl) (by kernel_rfl) (by kernel_rfl) (by kernel_rfl) (fun _ _ _ h => h) (Or.inl ⟨by rfl, ?_⟩) (by assumption) ?_
            rotate_left
            · (intro w hSw; (try dsimp only at hSw); go_simp; try (with_reducible rfl))
            try simp only [Act.put]
            try simp only [List.setIfInBounds_toArray]
            try simp only [List.set_cons_zero, List.set_cons_succ]
            refine wpAnyU_take (i := 6) (d := some 66) (v := ?_) rfl rfl (by kernel_rfl) (by kernel_rfl) (by kernel_rfl) (by kernel_rfl) (fun _ _ _ h => h) (Or.inl ⟨by rfl, ?_⟩) (by assumption) ?_
            rotate_left
            · (intro w hSw; (try dsimp only at hSw); go_simp; try (with_reducible rfl))
            try simp only [Act.put]
            try simp only [List.setIfInBounds_toArray]
            try simp only [List.set_cons_zero, List.set_cons_succ]
            refine wpAnyU_step (i := 7) (by kernel_rfl) rfl (fun K hK => ?_)
            refine step_callW (by kernel_rfl) 35 _ _ rfl enters_35 [.agg #[.slice ta tn tc], .string s, v0] (by first | rfl | kernel_rfl | go_simp) (HP0.out _ HT0.out) ?_
            rintro e y1 ⟨rfl, hX⟩
            refine ⟨_, rfl, ?_⟩
            have HT1 := Lib.hid (HT0.out.trans' hX)
            have HX1 := Lib.hid (HX0.out.trans' hX)
            have z1a := hX.cl z0a
            have z1b := hX.cl z0b
            have z1c := hX.cl z0c
            clear hX z0a z0b z0c
            refine hK.out _ _ ?_ (fun hHeld => ?_)
            · (try dsimp only)
              exact ⟨z1a, z1b, z1c⟩
            clear hK K
            try simp only [List.getElem_toArray, List.getElem_cons_zero, List.getElem_cons_succ]
            try simp only [Act.put]
            try simp only [List.setIfInBounds_toArray]
            try simp only [List.set_cons_zero, List.set_cons_succ]
            refine wpAnyU_take (i := 8) (d := some 68) (v := ?_) rfl rfl (by kernel_rfl) (by kernel_rfl) (by kernel_rfl) (by kernel_rfl) (fun _ _ _ h => h) (Or.inl ⟨by rfl, ?_⟩) (by assumption) ?_
            rotate_left
            · (intro w hSw; (try dsimp only at hSw); go_simp; try (with_reducible rfl))
            try simp only [Act.put]
            try simp only [List.setIfInBounds_toArray]
            try simp only [List.set_cons_zero, List.set_cons_succ]
            refine wpAnyU_take (i := 9) (d := some 69) (v := ?_) rfl rfl (by kernel_rfl) (by kernel_rfl) (by kernel_rfl) (by kernel_rfl) (fun _ _ _ h => h) (Or.inl ⟨by rfl, ?_⟩) (by assumption) ?_
            rotate_left
            · (intro w hSw; (try dsimp only at hSw); go_simp; try (with_reducible rfl))
            try simp only [Act.put]
            try simp only [List.setIfInBounds_toArray]
            try simp only [List.set_cons_zero, List.set_cons_succ]
            refine wpAnyU_take (i := 10) (d := some 70) (v := ?_) rfl rfl (by kernel_rfl) (by kernel_rfl) (by kernel_rfl) (by kernel_rfl) (fun _ _ _ h => h) (Or.inl ⟨by rfl, ?_⟩) (by assumption) ?_
            rotate_left
            · (intro w hSw; (try dsimp only at hSw); go_simp; try (with_reducible rfl))
            try simp only [Act.put]
            try simp only [List.setIfInBounds_toArray]
            try simp only [List.set_cons_zero, List.set_cons_succ]
            refine wpAnyU_take (i := 11) (d := some 71) (v := ?_) rfl rfl (by kernel_rfl) (by kernel_rfl) (by kernel_rfl) (by kernel_rfl) (fun _ _ _ h => h) (Or.inl ⟨by rfl, ?_⟩) (by assumption) ?_
            rotate_left
            · (intro w hSw; (try dsimp only at hSw); go_simp; try (with_reducible rfl))
            try simp only [Act.put]
            try simp only [List.setIfInBounds_toArray]
            try simp only [List.set_cons_zero, List.set_cons_succ]
            refine wpAnyU_take (i := 12) (d := some 72) (v := ?_) rfl rfl (by kernel_rfl) (by kernel_rfl) (by kernel_rfl) (by kernel_rfl) (fun _ _ _ h => h) (Or.inl ⟨by rfl, ?_⟩) (by assumption) ?_
            rotate_left
            · (intro w hSw; (try dsimp only at hSw); go_simp; try (with_reducible rfl))
            try simp only [Act.put]
            try simp only [List.setIfInBounds_toArray]
            try simp only [List.set_cons_zero, List.set_cons_succ]
            refine wpAnyU_take (i := 13) (d := some 73) (v := ?_) rfl rfl (by kernel_rfl) (by kernel_rfl) (by kernel_rfl) (by kernel_rfl) (fun _ _ _ h => h) (Or.inl ⟨by rfl, ?_⟩) (by assumption) ?_
            rotate_left
            · (intro w hSw; (try dsimp only at hSw); go_simp; try (with_reducible rfl))
            try simp only [Act.put]
            try simp only [List.setIfInBounds_toArray]
            try simp only [List.set_cons_zero, List.set_cons_succ]
            refine wpAnyU_take (i := 14) (d := some 74) (v := ?_) rfl rfl (by kernel_rfl) (by kernel_rfl) (by kernel_rfl) (by kernel_rfl) (fun _ _ _ h => h) (Or.inl ⟨by rfl, ?_⟩) (by assumption) ?_
            rotate_left
            · (intro w hSw; (try dsimp only at hSw); go_simp; try (with_reducible rfl))
            try simp only [Act.put]
            try simp only [List.setIfInBounds_toArray]
            try simp only [List.set_cons_zero, List.set_cons_succ]
            refine wpAnyU_step (i := 15) (by kernel_rfl) rfl (fun K hK => ?_)
            refine step_callW (by kernel_rfl) 35 _ _ rfl enters_35 [.agg #[.slice ta tn tc], .string s, v1] (by first | rfl | kernel_rfl | go_simp) (HP1.out _ HT1.out) ?_
            rintro e y2 ⟨rfl, hX⟩
            refine ⟨_, rfl, ?_⟩
            have HT2 := Lib.hid (HT1.out.trans' hX)
            have HX2 := Lib.hid (HX1.out.trans' hX)
            have z2a := hX.cl z1a
            have z2b := hX.cl z1b
            have z2c := hX.cl z1c
            clear hX z1a z1b z1c
            refine hK.out _ _ ?_ (fun hHeld => ?_)
            · (try dsimp only)
              exact ⟨z2a, z2b, z2c⟩
            clear hK K
            try simp only [List.getElem_toArray, List.getElem_cons_zero, List.getElem_cons_succ]
            try simp only [Act.put]
            try simp only [List.setIfInBounds_toArray]
            try simp only [List.set_cons_zero, List.set_cons_succ]
            refine wpAnyU_take (i := 16) (d := some 76) (v := ?_) rfl rfl (by kernel_rfl) (by kernel_rfl) (by kernel_rfl) (by kernel_rfl) (fun _ _ _ h => h) (Or.inl ⟨by rfl, ?_⟩) (by assumption) ?_
            rotate_left
            · (intro w hSw; (try dsimp only at hSw); go_simp; try (with_reducible rfl))
            try simp only [Act.put]
            try simp only [List.setIfInBounds_toArray]
            try simp only [List.set_cons_zero, List.set_cons_succ]
            refine wpAnyU_take (i := 17) (d := some 77) (v := ?_) rfl rfl (by kernel_rfl) (by kernel_rfl) (by kernel_rfl) (by kernel_rfl) (fun _ _ _ h => h) (Or.inl ⟨by rfl, ?_⟩) (by assumption) ?_
            rotate_left
            · (intro w hSw; (try dsimp only at hSw); go_simp; try (with_reducible rfl))
            try simp only [Act.put]
            try simp only [List.setIfInBounds_toArray]
            try simp only [List.set_cons_zero, List.set_cons_succ]
            refine wpAnyU_take (i := 18) (d := some 78) (v := ?_) rfl rfl (by kernel_rfl) (by kernel_rfl) (by kernel_rfl) (by kernel_rfl) (fun _ _ _ h => h) (Or.inl ⟨by rfl, ?_⟩) (by assumption) ?_
            rotate_left
            · (intro w hSw; (try dsimp only at hSw); go_simp; try (with_reducible rfl))
            try simp only [Act.put]
            try simp only [List.setIfInBounds_toArray]
            try simp only [List.set_cons_zero, List.set_cons_succ]
            refine wpAnyU_take (i := 19) (d := some 79) (v := ?_) rfl rfl (by kernel_rfl) (by kernel_rfl) (by kernel_rfl) (by kernel_rfl) (fun _ _ _ h => h) (Or.inl ⟨by rfl, ?_⟩) (by assumption) ?_
            rotate_left
            · (intro w hSw; (try dsimp only at hSw); go_simp; try (with_reducible rfl))
            try simp only [Act.put]
            try simp only [List.setIfInBounds_toArray]
            try simp only [List.set_cons_zero, List.set_cons_succ]
            refine wpAnyU_take (i := 20) (d := some 80) (v := ?_) rfl rfl (by kernel_rfl) (by kernel_rfl) (by kernel_rfl) (by kernel_rfl) (fun _ _ _ h => h) (Or.inl ⟨by rfl, ?_⟩) (by assumption) ?_
            rotate_left
            · (intro w hSw; (try dsimp only at hSw); go_simp; try (with_reducible rfl))
            try simp only [Act.put]
            try simp only [List.setIfInBounds_toArray]
            try simp only [List.set_cons_zero, List.set_cons_succ]
            refine wpAnyU_take (i := 21) (d := some 81) (v := ?_) rfl rfl (by kernel_rfl) (by kernel_rfl) (by kernel_rfl) (by kernel_rfl) (fun _ _ _ h => h) (Or.inl ⟨by rfl, ?_⟩) (by assumption) ?_
            rotate_left
            · (intro w hSw; (try dsimp only at hSw); go_simp; try (with_reducible rfl))
            try simp only [Act.put]
            try simp only [List.setIfInBounds_toArray]
            try simp only [List.set_cons_zero, List.set_cons_succ]
            refine wpAnyU_take (i := 22) (d := some 82) (v := ?_) rfl rfl (by kernel_rfl) (by kernel_rfl) (by kernel_rfl) (by kernel_rfl) (fun _ _ _ h => h) (Or.inl ⟨by rfl, ?_⟩) (by assumption) ?_
            rotate_left
            · (intro w hSw; (try dsimp only at hSw); go_simp; try (with_reducible rfl))
            try simp only [Act.put]
            try simp only [List.setIfInBounds_toArray]
            try simp only [List.set_cons_zero, List.set_cons_succ]
            refine wpAnyU_take (i := 23) (d := some 83) (v := ?_) rfl rfl (by kernel_rfl) (by kernel_rfl) (by kernel_rfl) (by kernel_rfl) (fun _ _ _ h => h) (Or.inl ⟨by rfl, ?_⟩) (by assumption) ?_
            rotate_left
            · (intro w hSw; (try dsimp only at hSw); go_simp; try (with_reducible rfl))
            try simp only [Act.put]
            try simp only [List.setIfInBounds_toArray]
            try simp only [List.set_cons_zero, List.set_cons_succ]
            refine wpAnyU_take (i := 25) (d := some 85) (v := ?_) rfl rfl (by kernel_rfl) (by kernel_rfl) (by kernel_rfl) (by kernel_rfl) (fun _ _ _ h => h) (Or.inl ⟨by rfl, ?_⟩) (by assumption) ?_
            rotate_left
            · (intro w hSw; (try dsimp only at hSw); go_simp; try (with_reducible rfl))
            try simp only [Act.put]
            try simp only [List.setIfInBounds_toArray]
            try simp only [List.set_cons_zero, List.set_cons_succ]
            refine wpAnyU_take (i := 26) (d := some 86) (v := ?_) rfl rfl (by kernel_rfl) (by kernel_rfl) (by kernel_rfl) (by kernel_rfl) (fun _ _ _ h => h) (Or.inl ⟨by rfl, ?_⟩) (by assumption) ?_
            rotate_left
            · (intro w hSw; (try dsimp only at hSw); go_simp; try (with_reducible rfl))
            try simp only [Act.put]
            try simp only [List.setIfInBounds_toArray]
            try simp only [List.set_cons_zero, List.set_cons_succ]
            refine wpAnyU_take (i := 27) (d := some 87) (v := ?_) rfl rfl (by kernel_rfl) (by kernel_rfl) (by kernel_rfl) (by kernel_rfl) (fun _ _ _ h => h) (Or.inl ⟨by rfl, ?_⟩) (by assumption) ?_
            rotate_left
            · (intro w hSw; (try dsimp only at hSw); go_simp; try (with_reducible rfl))
            try simp only [Act.put]
            try simp only [List.setIfInBounds_toArray]
            try simp only [List.set_cons_zero, List.set_cons_succ]
            refine wpAnyU_take (i := 28) (d := some 88) (v := ?_) rfl rfl (by kernel_rfl) (by kernel_rfl) (by kernel_rfl) (by kernel_rfl) (fun _ _ _ h => h) (Or.inl ⟨by rfl, ?_⟩) (by assumption) ?_
            rotate_left
            · (intro w hSw; (try dsimp only at hSw); go_simp; try (with_reducible rfl))
            try simp only [Act.put]
            try simp only [List.setIfInBounds_toArray]
            try simp only [List.set_cons_zero, List.set_cons_succ]
            refine wpAnyU_take (i := 29) (d := some 89) (v := ?_) rfl rfl (by kernel_rfl) (by kernel_rfl) (by kernel_rfl) (by kernel_rfl) (fun _ _ _ h => h) (Or.inl ⟨by rfl, ?_⟩) (by assumption) ?_
            rotate_left
            · (intro w hSw; (try dsimp only at hSw); go_simp; try (with_reducible rfl))
            try simp only [Act.put]
            try simp only [List.setIfInBounds_toArray]
            try simp only [List.set_cons_zero, List.set_cons_succ]
            refine wpAnyU_step (i := 24) (by kernel_rfl) rfl (fun K hK => ?_)
            refine step_callW (by kernel_rfl) 36 _ _ rfl enters_36 [.agg #[.slice ta tn tc], v0, .int .i64 3] (by first | rfl | kernel_rfl | go_simp) (HC0.out _ HT2.out) ?_
            rintro e y3 ⟨rfl, hX⟩
            refine ⟨_, rfl, ?_⟩
            have HT3 := Lib.hid (HT2.out.trans' hX)
            have HX3 := Lib.hid (HX2.out.trans' hX)
            have z3a := hX.cl z2a
            have z3b := hX.cl z2b
            have z3c := hX.cl z2c
            clear hX z2a z2b z2c
            refine hK.out _ _ ?_ (fun hHeld => ?_)
            · (try dsimp only)
              exact ⟨z3a, z3b, z3c⟩
            clear hK K
            try simp only [List.getElem_toArray, List.getElem_cons_zero, List.getElem_cons_succ]
            try simp only [Act.put]
            try simp only [List.setIfInBounds_toArray]
            try simp only [List.set_cons_zero, List.set_cons_succ]
            refine wpAnyU_step (i := 30) (by kernel_rfl) rfl (fun K hK => ?_)
            refine step_callW (by kernel_rfl) 36 _ _ rfl enters_36 [.agg #[.slice ta tn tc], v1, .int .i64 2] (by first | rfl | kernel_rfl | go_simp) (HC1.out _ HT3.out) ?_
            rintro e y4 ⟨rfl, hX⟩
            refine ⟨_, rfl, ?_⟩
            have HT4 := Lib.hid (HT3.out.trans' hX)
            have HX4 := Lib.hid (HX3.out.trans' hX)
            have z4a := hX.cl z3a
            have z4b := hX.cl z3b
            have z4c := hX.cl z3c
            clear hX z3a z3b z3c
            refine hK.out _ _ ?_ (fun hHeld => ?_)
            · (try dsimp only)
              exact ⟨z4a, z4b, z4c⟩
            clear hK K
            try simp only [List.getElem_toArray, List.getElem_cons_zero, List.getElem_cons_succ]
            try simp only [Act.put]
            try simp only [List.setIfInBounds_toArray]
            try simp only [List.set_cons_zero, List.set_cons_succ]
            refine wpAnyU_take (i := 31) (d := some 91) (v := ?_) rfl rfl (by kernel_rfl) (by kernel_rfl) (by kernel_rfl) (by kernel_rfl) (fun _ _ _ h => h) (Or.inl ⟨by rfl, ?_⟩) (by assumption) ?_
            rotate_left
            · (intro w hSw; (try dsimp only at hSw); go_simp; try (with_reducible rfl))
            try simp only [Act.put]
            try simp only [List.setIfInBounds_toArray]
            try simp only [List.set_cons_zero, List.set_cons_succ]
            refine wpAnyU_take (i := 32) (d := some 92) (v := ?_) rfl rfl (by kernel_rfl) (by kernel_rfl) (by kernel_rfl) (by kernel_rfl) (fun _ _ _ h => h) (Or.inl ⟨by rfl, ?_⟩) (by assumption) ?_
            rotate_left
            · (intro w hSw; (try dsimp only at hSw); go_simp; try (with_reducible rfl))
            try simp only [Act.put]
            try simp only [List.setIfInBounds_toArray]
            try simp only [List.set_cons_zero, List.set_cons_succ]
            refine wpAnyU_done (by kernel_rfl) ?_
            have HE9 := Lib.hid (HT4.out)
            have HX9 := Lib.hid (HEK2.out.trans' HX4.out)
            have t9 := z4a
            clear z4a z4b z4c
            by_cases hq : q0 = q1
            · have dq : (q0 == q1) = true := by simp [hq]
              obtain ⟨rfl, rfl⟩ := HUN.out (HAN.out.trans (by rw [decide_eq_true hq]; rfl)) A2.out
              clear hq
              go_wp2
              go_ret2
              exact ⟨rfl, HE9.out⟩
            · have dq : (q0 == q1) = false := by simp [hq]
              have HNO : Hid (annB t s ws k = false) := Lib.hid (HAN.out.trans (by rw [decide_eq_false hq]; rfl))
              clear hq
              go_wp2
              go_roundg (m - (k + 1))
              case measure => omega
              case rel =>
                refine ⟨k + 1, by omega, by omega, by omega, by go_num, (show Aside _ from fun i h1 h2 => ?_), (show Ext _ _ from HX9.out)⟩
                by_cases e : i = k
                · subst e; exact HNO.out
                · exact A2.out i h1 (by omega)
        · have hltz : ¬ (k : Int) < (m : Int) := by omega
          obtain ⟨rfl, rfl⟩ := HU5.out (fun i h1 h2 => A2.out i h1 (by omega))
          go_wp2
          go_ret2
          exact ⟨rfl, HEW.out⟩

end Go.Proofs.YtfcpnggdpaeldaaGreat
