import Derived.Test.YtfcpnggdpaeldaaGreatJa
import Derived.Test.YtfcpnggdpaeldaaGreatProg
import Derived.Test.YtfcpnggdpaeldaaGreatHe
import Derived.BigQuiet
import Derived.Deep.QuietTactic
import Derived.Deep.LoopGhost
import Derived.Shelf.Abstract
import Derived.Deep.DeepCutAuto
/-
  Termination in the reference: Counting and Driven.
-/
namespace Go.Proofs.YtfcpnggdpaeldaaGreat
open Go.RowKit
set_option linter.unusedVariables false
attribute [local go_sem ↓] Go.wp_at_zero Go.wp_at_succ


set_option maxHeartbeats 16000000 in
set_option maxRecDepth 100000 in
theorem countingR_calls (v vw : Value) (t : Tr) (s : ByteArray) (ws : List (List Int)) (w : World) (h : TrAt w v t) (hs : LooseTr t) (hw : Sl RInts 1 w vw ws) (hn : ws.length ≤ 1000000) :
    Calls Tryz.prog 11 #[.agg #[v], .string s, vw] w fun e w' => e = .returned (.tuple #[.int .i64 (cgK t s ws), .int .i64 (cgE t s ws)]) ∧ Ext w w' := by
  have HT := Lib.hid h
  have HW := Lib.hid hw
  have HVC := Lib.hid (fun W (hW : Ext w W) => validR_calls v t W (h.ext hW) hs)
  have HHC := Lib.hid (fun W (hW : Ext w W) (hv : validT t = true) => hasR_calls v t s W (h.ext hW) hv)
  have HOC := Lib.hid (fun W (hW : Ext w W) (hv : validT t = true) h100 hr => orderedR_calls v vw t ws W (h.ext hW) hv (hw.ext rints_lasts hW) h100 hr)
  obtain ⟨ta, tc, rfl, htc⟩ := h.sh
  obtain ⟨wa, wc, rfl, hwc⟩ := hw.shape
  obtain ⟨K, hK⟩ : ∃ K, cgK t s ws = K := ⟨_, rfl⟩
  obtain ⟨E, hE⟩ : ∃ E, cgE t s ws = E := ⟨_, rfl⟩
  rw [hK, hE]
  have HR0 : Hid (validT t = false → E = 1 ∧ K = 0) := Lib.hid (fun h => by
    have hc : chkE t s = 1 := by unfold chkE; rw [h]; rfl
    rw [← hK, ← hE, ← hc]; exact cgE_chk (by rw [hc]; decide))
  have HR1 : Hid (validT t = true → hasT t s = false → E = 13 ∧ K = 0) := Lib.hid (fun h h' => by
    have hc : chkE t s = 13 := by unfold chkE; rw [if_pos h, h']; rfl
    rw [← hK, ← hE, ← hc]; exact cgE_chk (by rw [hc]; decide))
  have HR2 : Hid (validT t = true → hasT t s = true → 100 < ws.length → E = 5 ∧ K = 0) := Lib.hid (fun h h' h2 => by rw [← hK, ← hE]; exact cgE_full (chkE_ok.2 ⟨h, h'⟩) h2)
  have HR3 : Hid (validT t = true → hasT t s = true → ¬ 100 < ws.length → ∀ k, k < ws.length → rngB t ws[k]! = false → E = 2 ∧ K = 0) := Lib.hid (fun h h' h2 k hk h3 => by rw [← hK, ← hE]; exact cgE_rng (chkE_ok.2 ⟨h, h'⟩) h2 (all_not hk h3))
  have HR4 : Hid (validT t = true → hasT t s = true → ¬ 100 < ws.length → (∀ k, k < ws.length → rngB t ws[k]! = true) → ordB t ws = false → E = 11 ∧ K = 0) := Lib.hid (fun h h' h2 h3 h4 => by rw [← hK, ← hE]; exact cgE_ord (chkE_ok.2 ⟨h, h'⟩) h2 (all_of h3) h4)
  have HR5 : Hid (validT t = true → hasT t s = true → ¬ 100 < ws.length → (∀ k, k < ws.length → rngB t ws[k]! = true) → ordB t ws = true → (∀ k, 1 ≤ k → k < ws.length → annB t s ws k = false) → E = 7 ∧ K = 0) := Lib.hid (fun h h' h2 h3 h4 h5 => by rw [← hK, ← hE]; exact cgE_none (chkE_ok.2 ⟨h, h'⟩) h2 (all_of h3) h4 (annI_none.2 h5))
  have HR6 : Hid (validT t = true → hasT t s = true → ¬ 100 < ws.length → (∀ k, k < ws.length → rngB t ws[k]! = true) → ordB t ws = true → ∀ k, 1 ≤ k → k < ws.length → annB t s ws k = true → (∀ j, 1 ≤ j → j < k → annB t s ws j = false) → E = 0 ∧ K = (k : Int)) := Lib.hid (fun h h' h2 h3 h4 k k1 k2 k3 k4 => by rw [← hK, ← hE]; exact cgE_some (chkE_ok.2 ⟨h, h'⟩) h2 (all_of h3) h4 (annI_hit k1 k2 k3 k4))
  have HRG : Hid ((∀ k, k < ws.length → rngB t ws[k]! = true) → ∀ k, k < ws.length → RangeC t ws[k]!) := Lib.hid (fun h k hk => rngB_iff.1 (h k hk))
  generalize hwl : ws.length = m at *
  have HWL := Lib.hid hwl
  obtain ⟨tn, htn⟩ : ∃ n, t.length = n := ⟨_, rfl⟩
  have HTN := Lib.hid htn
  rw [htn] at HVC HHC HOC HT ⊢
  obtain ⟨vb, hvb⟩ : ∃ b, validT t = b := ⟨_, rfl⟩
  rw [hvb] at HVC HHC HOC HR0 HR1 HR2 HR3 HR4 HR5 HR6
  have HV := Lib.hid hvb
  obtain ⟨hb, hhb⟩ : ∃ b, hasT t s = b := ⟨_, rfl⟩
  rw [hhb] at HHC HR1 HR2 HR3 HR4 HR5 HR6
  have HH := Lib.hid hhb
  obtain ⟨ob, hob⟩ : ∃ b, ordB t ws = b := ⟨_, rfl⟩
  rw [hob] at HOC HR4 HR5 HR6
  have HY1 := Lib.hid (heap_alloc_new w (.cells #[.slice ta tn tc] 24))
  have HE1 := Lib.hid ((Ext.rf w).al (.cells #[.slice ta tn tc] 24))
  clear h hs hw hK hE htc htn hwl hvb hhb hob
  go_enter Tryz.func11, Tryz.ntmps11
  go_wp2_with fail
  refine (HVC.out _ HE1.out).mono ?_
  rintro e w2 ⟨rfl, hX⟩
  have HE2 := Lib.hid (HE1.out.trans' hX)
  have HY2 := Lib.hid (hX.hp HY1.out)
  have t2 := cellOf HY2.out 0
  simp only [List.getElem?_toArray, List.getElem?_cons_zero] at t2
  clear hX
  cases vb with
  | false =>
    obtain ⟨rfl, rfl⟩ := HR0.out (by trivial)
    go_wp2
    go_ret2
    exact ⟨rfl, HE2.out⟩
  | true =>
  have HHC2 := Lib.hid (fun W hW => HHC.out W hW (by trivial))
  clear HHC
  go_wp2_with fail
  refine (HHC2.out _ HE2.out).mono ?_
  rintro e w3 ⟨rfl, hX⟩
  have HE3 := Lib.hid (HE2.out.trans' hX)
  have HY3 := Lib.hid (hX.hp HY2.out)
  have t3 := cellOf HY3.out 0
  simp only [List.getElem?_toArray, List.getElem?_cons_zero] at t3
  clear hX
  cases hb with
  | false =>
    obtain ⟨rfl, rfl⟩ := HR1.out (by trivial) (by trivial)
    go_wp2
    go_ret2
    exact ⟨rfl, HE3.out⟩
  | true =>
  by_cases hf : 100 < m
  case pos =>
    obtain ⟨rfl, rfl⟩ := HR2.out (by trivial) (by trivial) hf
    have d1 : decide (100 < (m : Int)) = true := decide_eq_true (by omega)
    clear hf
    go_wp2
    go_ret2
    exact ⟨rfl, HE3.out⟩
  case neg =>
  have d1 : decide (100 < (m : Int)) = false := decide_eq_false (by omega)
  have HS3 := Lib.hid (HR3.out (by trivial) (by trivial) hf)
  have HS4 := Lib.hid (HR4.out (by trivial) (by trivial) hf)
  have HS5 := Lib.hid (HR5.out (by trivial) (by trivial) hf)
  have HS6 := Lib.hid (HR6.out (by trivial) (by trivial) hf)
  have HSM := Lib.hid (valid_small HV.out)
  have hm100 : m ≤ 100 := by omega
  clear hf t2 t3 HR0 HR1 HR2 HR3 HR4 HR5 HR6 HVC HHC2
  go_wp2
  clear d1
  go_loopg [8] m (fun g s8 wr => ∃ k : Nat, k ≤ m ∧ m - k ≤ g ∧ s8 = .int .i64 k ∧ Aside (∀ j, j < k → rngB t ws[j]! = true) ∧ Aside (Ext w3 wr))
  case atStart => exact ⟨0, by omega, by omega, rfl, (fun j h2 => absurd h2 (by omega)), Ext.rf _⟩
  case round =>
    obtain ⟨k, hkm, hg, rfl, A, HEK⟩ := hrel
    have HEW := Lib.hid (HE3.out.trans' HEK.out)
    have HY4 := Lib.hid (HEK.out.hp HY3.out)
    have t0 := cellOf HY4.out 0
    simp only [List.getElem?_toArray, List.getElem?_cons_zero] at t0
    by_cases hlt : k < m
    · have hltz : (k : Int) < (m : Int) := by omega
      have hkz : (0 : Int) ≤ (k : Int) := by omega
      obtain ⟨rb, ro, a0, c0, rfl, hr0, hi0⟩ := wave_at HW.out k (by rw [HWL.out]; omega)
      have r0 := HEW.out.cl hr0
      have HI0 := Lib.hid hi0
      have HCU := Lib.hid (fun W (hW : Ext w W) => cutR_calls _ _ t ws[k]! W (HT.out.ext hW) HSM.out (HI0.out.ext hW))
      have HRB : Hid (rngB t ws[k]! = (fitsB t ws[k]! && rangeB t ws[k]!)) := Lib.hid rfl
      rw [← HRB.out] at HCU
      have HNK := Lib.hid (HS3.out k hlt)
      have HP : Hid (rngB t ws[k]! = true → ∀ q, q < k + 1 → rngB t ws[q]! = true) := Lib.hid (fun h q hq => by
        by_cases e : q = k
        · subst e; exact h
        · exact A.out q (by omega))
      generalize hv0 : Value.slice a0 ws[k]!.length c0 = v0 at *
      generalize rngB t ws[k]! = b at *
      clear hr0 hi0 hv0
      go_wp2
      have HE4 := Lib.hid (show Ext w wr.drew from HEW.out.dr)
      have HX4 := Lib.hid (show Ext w3 wr.drew from HEK.out.dr)
      have z0a := (show Ext wr wr.drew from (Ext.rf wr).dr).cl t0
      have z0b := (show Ext wr wr.drew from (Ext.rf wr).dr).cl r0
      refine wp_region_tails (fun w' => w'.cell? ⟨w.heap.size, 0, none⟩ = some (.slice ta tn tc) ∧ w'.cell? ⟨rb, ro + k, none⟩ = some v0) [] (by kernel_rfl) ⟨z0a, z0b⟩ (fun hHeld => ?_)
      generalize wr.drew = wT at *
      refine wpAnyU_take (i := 0) (d := some 26) (v := ?_) rfl rfl (by kernel_rfl) (by kernel_rfl) (by kernel_rfl) (by kernel_rfl) (fun _ _ _ h => h) (Or.inl ⟨by rfl, ?_⟩) (by assumption) ?_
      rotate_left
      · (intro w hSw; (try dsimp only at hSw); go_simp; try (with_reducible rfl))
      try simp only [Act.put]
      try simp only [List.setIfInBounds_toArray]
      try simp only [List.set_cons_zero, List.set_cons_succ]
      refine wpAnyU_take (i := 1) (d := some 27) (v := ?_) rfl rfl (by kernel_rfl) (by kernel_rfl) (by kernel_rfl) (by kernel_rfl) (fun _ _ _ h => h) (Or.inl ⟨by rfl, ?_⟩) (by assumption) ?_
      rotate_left
      · (intro w hSw; (try dsimp only at hSw); go_simp; try (with_reducible rfl))
      try simp only [Act.put]
      try simp only [List.setIfInBounds_toArray]
      try simp only [List.set_cons_zero, List.set_cons_succ]
      refine wpAnyU_take (i := 2) (d := some 28) (v := ?_) rfl rfl (by kernel_rfl) (by kernel_rfl) (by kernel_rfl) (by kernel_rfl) (fun _ _ _ h => h) (Or.inl ⟨by rfl, ?_⟩) (by assumption) ?_
      rotate_left
      · (intro w hSw; (try dsimp only at hSw); go_simp; try (with_reducible rfl))
      try simp only [Act.put]
      try simp only [List.setIfInBounds_toArray]
      try simp only [List.set_cons_zero, List.set_cons_succ]
      refine wpAnyU_take (i := 3) (d := some 29) (v := ?_) rfl rfl (by kernel_rfl) (by kernel_rfl) (by kernel_rfl) (by kernel_rfl) (fun _ _ _ h => h) (Or.inl ⟨by rfl, ?_⟩) (by assumption) ?_
      rotate_left
      · (intro w hSw; (try dsimp only at hSw); go_simp; try (with_reducible rfl))
      try simp only [Act.put]
      try simp only [List.setIfInBounds_toArray]
      try simp only [List.set_cons_zero, List.set_cons_succ]
      refine wpAnyU_take (i := 4) (d := some 30) (v := ?_) rfl rfl (by kernel_rfl) (by kernel_rfl) (by kernel_rfl) (by kernel_rfl) (fun _ _ _ h => h) (Or.inl ⟨by rfl, ?_⟩) (by assumption) ?_
      rotate_left
      · (intro w hSw; (try dsimp only at hSw); go_simp; try (with_reducible rfl))
      try simp only [Act.put]
      try simp only [List.setIfInBounds_toArray]
      try simp only [List.set_cons_zero, List.set_cons_succ]
      refine wpAnyU_step (i := 5) (by kernel_rfl) rfl (fun K hK => ?_)
      refine step_callW (by kernel_rfl) 40 _ _ rfl enters_40 [.agg #[.slice ta tn tc], v0] (by first | rfl | kernel_rfl | go_simp) (HCU.out _ HE4.out) ?_
      rintro e y1 ⟨rfl, hX⟩
      refine ⟨_, rfl, ?_⟩
      have HE5 := Lib.hid (HE4.out.trans' hX)
      have HX5 := Lib.hid (HX4.out.trans' hX)
      have z1a := hX.cl z0a
      have z1b := hX.cl z0b
      clear hX z0a z0b t0 r0
      refine hK.out _ _ ?_ (fun hHeld => ?_)
      · (try dsimp only)
        exact ⟨z1a, z1b⟩
      clear hK K
      try simp only [List.getElem_toArray, List.getElem_cons_zero, List.getElem_cons_succ]
      try simp only [Act.put]
      try simp only [List.setIfInBounds_toArray]
      try simp only [List.set_cons_zero, List.set_cons_succ]
      refine wpAnyU_take (i := 6) (d := some 32) (v := ?_) rfl rfl (by kernel_rfl) (by kernel_rfl) (by kernel_rfl) (by kernel_rfl) (fun _ _ _ h => h) (Or.inl ⟨by rfl, ?_⟩) (by assumption) ?_
      rotate_left
      · (intro w hSw; (try dsimp only at hSw); go_simp; try (with_reducible rfl))
      try simp only [Act.put]
      try simp only [List.setIfInBounds_toArray]
      try simp only [List.set_cons_zero, List.set_cons_succ]
      refine wpAnyU_done (by kernel_rfl) ?_
      clear z1a z1b
      cases b with
      | false =>
        obtain ⟨rfl, rfl⟩ := HNK.out (by trivial)
        go_wp2
        go_ret2
        exact ⟨rfl, HE5.out⟩
      | true =>
        have HPP := Lib.hid (HP.out (by trivial))
        go_wp2
        go_roundg (m - (k + 1))
        case measure => omega
        case rel => exact ⟨k + 1, by omega, by omega, by go_num, (show Aside _ from HPP.out), (show Ext _ _ from HX5.out)⟩
    · have hltz : ¬ (k : Int) < (m : Int) := by omega
      have HALL : Hid (∀ j, j < m → rngB t ws[j]! = true) := Lib.hid (fun j hj => A.out j (by omega))
      have HU4 := Lib.hid (HS4.out HALL.out)
      have HU5 := Lib.hid (HS5.out HALL.out)
      have HU6 := Lib.hid (HS6.out HALL.out)
      have HRN := Lib.hid (HRG.out HALL.out)
      have HOO := Lib.hid (fun W hW => HOC.out W hW (by trivial) hm100 HRN.out)
      clear HS3 HS4 HS5 HS6 HRG HOC hlt
      obtain ⟨wo, rfl⟩ : ∃ x, x = wr := ⟨_, rfl⟩
      go_wp2_with fail
      refine (HOO.out _ HEW.out).mono ?_
      rintro e w5 ⟨rfl, hX⟩
      have HE5 := Lib.hid (HEW.out.trans' hX)
      have HY5 := Lib.hid (hX.hp HY4.out)
      clear hX t0 hltz
      cases ob with
      | false =>
        obtain ⟨rfl, rfl⟩ := HU4.out (by trivial)
        go_wp2
        go_ret2
        exact ⟨rfl, HE5.out⟩
      | true =>
      have HV5 := Lib.hid (HU5.out (by trivial))
      have HV6 := Lib.hid (HU6.out (by trivial))
      clear HU4 HU5 HU6
      go_wp2
      go_loopg [9] m (fun g2 s9 wr => ∃ k : Nat, 1 ≤ k ∧ (k ≤ m ∨ k = 1) ∧ m - k ≤ g2 ∧ s9 = .int .i64 k ∧ Aside (∀ j, 1 ≤ j → j < k → annB t s ws j = false) ∧ Aside (Ext w5 wr))
      case atStart => exact ⟨1, by omega, by omega, by omega, rfl, (fun j h1 h2 => absurd h2 (by omega)), Ext.rf _⟩
      case round =>
        obtain ⟨k, hk1, hkm, hg, rfl, A2, HEK2⟩ := hrel
        have HEW := Lib.hid (HE5.out.trans' HEK2.out)
        have HY6 := Lib.hid (HEK2.out.hp HY5.out)
        have t0 := cellOf HY6.out 0
        simp only [List.getElem?_toArray, List.getElem?_cons_zero] at t0
        by_cases hlt : k < m
        · have hltz : (k : Int) < (m : Int) := by omega
          have hkz : (0 : Int) ≤ (k : Int) := by omega
          obtain ⟨j, hj⟩ : ∃ j : Nat, k = j + 1 := ⟨k - 1, by omega⟩
          have e3 : (k : Int) - 1 = (j : Int) := by omega
          have hjz : (0 : Int) ≤ (j : Int) := by omega
          have hjm : (j : Int) < (m : Int) := by omega
          have hwj : IntKind.i64.wrap (j : Int) = (j : Int) := IntWalk.i64_in _ (by omega)
          obtain ⟨rb, ro, a0, c0, rfl, hr0, hi0⟩ := wave_at HW.out j (by rw [HWL.out]; omega)
          obtain ⟨rb', ro', a1, c1, hre, hr1, hi1⟩ := wave_at HW.out k (by rw [HWL.out]; omega)
          simp only [Option.some.injEq, Addr.mk.injEq, and_true] at hre
          obtain ⟨rfl, rfl⟩ := hre
          have HRJ := Lib.hid (HRN.out j (by omega))
          have HRK := Lib.hid (HRN.out k (by omega))
          have r0 := HEW.out.cl hr0
          have r1 := HEW.out.cl hr1
          have HI0 := Lib.hid hi0
          have HI1 := Lib.hid hi1
          have HP0 := Lib.hid (fun W (hW : Ext w W) => passR_calls _ _ t s ws[j]! W (HT.out.ext hW) HV.out HH.out (HI0.out.ext hW) HRJ.out)
          have HP1 := Lib.hid (fun W (hW : Ext w W) => passR_calls _ _ t s ws[k]! W (HT.out.ext hW) HV.out HH.out (HI1.out.ext hW) HRK.out)
          have HC0 := Lib.hid (fun W (hW : Ext w W) => eventsR_calls _ _ t ws[j]! 3 W (HT.out.ext hW) HV.out (HI0.out.ext hW) HRJ.out)
          have HC1 := Lib.hid (fun W (hW : Ext w W) => eventsR_calls _ _ t ws[k]! 2 W (HT.out.ext hW) HV.out (HI1.out.ext hW) HRK.out)
          have HAN : Hid (annB t s ws k = (passB t s ws[j]! && (passB t s ws[k]! && decide (cntE t 3 ws[j]! = cntE t 2 ws[k]!)))) := Lib.hid (by unfold annB; rw [show k - 1 = j by omega])
          generalize hv0 : Value.slice a0 ws[j]!.length c0 = v0 at *
          generalize hv1 : Value.slice a1 ws[k]!.length c1 = v1 at *
          generalize passB t s ws[j]! = b0 at *
          generalize passB t s ws[k]! = b1 at *
          generalize cntE t 3 ws[j]! = q0 at *
          generalize cntE t 2 ws[k]! = q1 at *
          have HUN := Lib.hid (HV6.out k hk1 hlt)
          clear hr0 hr1 hi0 hi1 hv0 hv1 hj
          cases b0 with
          | false =>
            have HNO : Hid (annB t s ws k = false) := Lib.hid HAN.out
            go_wp2
            have HT0 := Lib.hid (show Ext w wr.drew from HEW.out.dr)
            have HX0 := Lib.hid (show Ext wr wr.drew from (Ext.rf wr).dr)
            have z0a := (show Ext wr wr.drew from (Ext.rf wr).dr).cl t0
            have z0b := (show Ext wr wr.drew from (Ext.rf wr).dr).cl r0
            have z0c := (show Ext wr wr.drew from (Ext.rf wr).dr).cl r1
            refine wp_region_tails (fun w' => w'.cell? ⟨w.heap.size, 0, none⟩ = some (.slice ta tn tc) ∧ w'.cell? ⟨rb, ro + j, none⟩ = some v0 ∧ w'.cell? ⟨rb, ro + k, none⟩ = some v1) [] (by kernel_rfl) ⟨z0a, z0b, z0c⟩ (fun hHeld => ?_)
            generalize wr.drew = wT at *
            refine wpAnyU_take (i := 0) (d := some 43) (v := ?_) rfl rfl (by kernel_rfl) (by kernel_rfl) (by kernel_rfl) (by kernel_rfl) (fun _ _ _ h => h) (Or.inl ⟨by rfl, ?_⟩) (by assumption) ?_
            rotate_left
            · (intro w hSw; (try dsimp only at hSw); go_simp; try (with_reducible rfl))
            try simp only [Act.put]
            try simp only [List.setIfInBounds_toArray]
            try simp only [List.set_cons_zero, List.set_cons_succ]
            refine wpAnyU_take (i := 1) (d := some 44) (v := ?_) rfl rfl (by kernel_rfl) (by kernel_rfl) (by kernel_rfl) (by kernel_rfl) (fun _ _ _ h => h) (Or.inl ⟨by rfl, ?_⟩) (by assumption) ?_
            rotate_left
            · (intro w hSw; (try dsimp only at hSw); go_simp; try (with_reducible rfl))
            try simp only [Act.put]
            try simp only [List.setIfInBounds_toArray]
            try simp only [List.set_cons_zero, List.set_cons_succ]
            refine wpAnyU_take (i := 2) (d := some 45) (v := ?_) rfl rfl (by kernel_rfl) (by kernel_rfl) (by kernel_rfl) (by kernel_rfl) (fun _ _ _ h => h) (Or.inl ⟨by rfl, ?_⟩) (by assumption) ?_
            rotate_left
            · (intro w hSw; (try dsimp only at hSw); go_simp; try (with_reducible rfl))
            try simp only [Act.put]
            try simp only [List.setIfInBounds_toArray]
            try simp only [List.set_cons_zero, List.set_cons_succ]
            refine wpAnyU_take (i := 3) (d := some 46) (v := ?_) rfl rfl (by kernel_rfl) (by kernel_rfl) (by kernel_rfl) (by kernel_rfl) (fun _ _ _ h => h) (Or.inl ⟨by rfl, ?_⟩) (by assumption) ?_
            rotate_left
            · (intro w hSw; (try dsimp only at hSw); go_simp; try (with_reducible rfl))
            try simp only [Act.put]
            try simp only [List.setIfInBounds_toArray]
            try simp only [List.set_cons_zero, List.set_cons_succ]
            refine wpAnyU_take (i := 4) (d := some 47) (v := ?_) rfl rfl (by kernel_rfl) (by kernel_rfl) (by kernel_rfl) (by kernel_rfl) (fun _ _ _ h => h) (Or.inl ⟨by rfl, ?_⟩) (by assumption) ?_
            rotate_left
            · (intro w hSw; (try dsimp only at hSw); go_simp; try (with_reducible rfl))
            try simp only [Act.put]
            try simp only [List.setIfInBounds_toArray]
            try simp only [List.set_cons_zero, List.set_cons_succ]
            refine wpAnyU_take (i := 5) (d := some 48) (v := ?_) rfl rfl (by kernel_rfl) (by kernel_rfl) (by kernel_rfl) (by kernel_rfl) (fun _ _ _ h => h) (Or.inl ⟨by rfl, ?_⟩) (by assumption) ?_
            rotate_left
            · (intro w hSw; (try dsimp only at hSw); go_simp; try (with_reducible rfl))
            try simp only [Act.put]
            try simp only [List.setIfInBounds_toArray]
            try simp only [List.set_cons_zero, List.set_cons_succ]
            refine wpAnyU_take (i := 6) (d := some 49) (v := ?_) rfl rfl (by kernel_rfl) (by kernel_rfl) (by kernel_rfl) (by kernel_rfl) (fun _ _ _ h => h) (Or.inl ⟨by rfl, ?_⟩) (by assumption) ?_
            rotate_left
            · (intro w hSw; (try dsimp only at hSw); go_simp; try (with_reducible rfl))
            try simp only [Act.put]
            try simp only [List.setIfInBounds_toArray]
            try simp only [List.set_cons_zero, List.set_cons_succ]
            refine wpAnyU_step (i := 7) (by kernel_rfl) rfl (fun K hK => ?_)
            refine step_callW (by kernel_rfl) 15 _ _ rfl enters_15 [.agg #[.slice ta tn tc], .string s, v0] (by first | rfl | kernel_rfl | go_simp) (HP0.out _ HT0.out) ?_
            rintro e y1 ⟨rfl, hX⟩
            refine ⟨_, rfl, ?_⟩
            have HT1 := Lib.hid (HT0.out.trans' hX)
            have HX1 := Lib.hid (HX0.out.trans' hX)
            have z1a := hX.cl z0a
            have z1b := hX.cl z0b
            have z1c := hX.cl z0c
            clear hX z0a z0b z0c
            refine hK.out _ _ ?_ (fun hHeld => ?_)
            · (try dsimp only)
              exact ⟨z1a, z1b, z1c⟩
            clear hK K
            try simp only [List.getElem_toArray, List.getElem_cons_zero, List.getElem_cons_succ]
            try simp only [Act.put]
            try simp only [List.setIfInBounds_toArray]
            try simp only [List.set_cons_zero, List.set_cons_succ]
            refine wpAnyU_take (i := 8) (d := some 51) (v := ?_) rfl rfl (by kernel_rfl) (by kernel_rfl) (by kernel_rfl) (by kernel_rfl) (fun _ _ _ h => h) (Or.inl ⟨by rfl, ?_⟩) (by assumption) ?_
            rotate_left
            · (intro w hSw; (try dsimp only at hSw); go_simp; try (with_reducible rfl))
            try simp only [Act.put]
            try simp only [List.setIfInBounds_toArray]
            try simp only [List.set_cons_zero, List.set_cons_succ]
            refine wpAnyU_take (i := 9) (d := some 52) (v := undef) rfl rfl (by kernel_rfl) (by kernel_rfl) (by kernel_rfl) (by kernel_rfl) (fun _ _ _ h => h) (Or.inr ⟨by rfl, rfl⟩) (by assumption) ?_
            try simp only [Act.put]
            try simp only [List.setIfInBounds_toArray]
            try simp only [List.set_cons_zero, List.set_cons_succ]
            refine wpAnyU_take (i := 10) (d := some 53) (v := undef) rfl rfl (by kernel_rfl) (by kernel_rfl) (by kernel_rfl) (by kernel_rfl) (fun _ _ _ h => h) (Or.inr ⟨by rfl, rfl⟩) (by assumption) ?_
            try simp only [Act.put]
            try simp only [List.setIfInBounds_toArray]
            try simp only [List.set_cons_zero, List.set_cons_succ]
            refine wpAnyU_take (i := 11) (d := some 54) (v := undef) rfl rfl (by kernel_rfl) (by kernel_rfl) (by kernel_rfl) (by kernel_rfl) (fun _ _ _ h => h) (Or.inr ⟨by rfl, rfl⟩) (by assumption) ?_
            try simp only [Act.put]
            try simp only [List.setIfInBounds_toArray]
            try simp only [List.set_cons_zero, List.set_cons_succ]
            refine wpAnyU_take (i := 12) (d := some 55) (v := undef) rfl rfl (by kernel_rfl) (by kernel_rfl) (by kernel_rfl) (by kernel_rfl) (fun _ _ _ h => h) (Or.inr ⟨by rfl, rfl⟩) (by assumption) ?_
            try simp only [Act.put]
            try simp only [List.setIfInBounds_toArray]
            try simp only [List.set_cons_zero, List.set_cons_succ]
            refine wpAnyU_take (i := 13) (d := some 56) (v := undef) rfl rfl (by kernel_rfl) (by kernel_rfl) (by kernel_rfl) (by kernel_rfl) (fun _ _ _ h => h) (Or.inr ⟨by rfl, rfl⟩) (by assumption) ?_
            try simp only [Act.put]
            try simp only [List.setIfInBounds_toArray]
            try simp only [List.set_cons_zero, List.set_cons_succ]
            refine wpAnyU_take (i := 14) (d := some 57) (v := undef) rfl rfl (by kernel_rfl) (by kernel_rfl) (by kernel_rfl) (by kernel_rfl) (fun _ _ _ h => h) (Or.inr ⟨by rfl, rfl⟩) (by assumption) ?_
            try simp only [Act.put]
            try simp only [List.setIfInBounds_toArray]
            try simp only [List.set_cons_zero, List.set_cons_succ]
            refine wpAnyU_take (i := 15) (d := some 58) (v := undef) rfl rfl (by kernel_rfl) (by kernel_rfl) (by kernel_rfl) (by kernel_rfl) (fun _ _ _ h => h) (Or.inr ⟨by rfl, rfl⟩) (by assumption) ?_
            try simp only [Act.put]
            try simp only [List.setIfInBounds_toArray]
            try simp only [List.set_cons_zero, List.set_cons_succ]
            refine wpAnyU_take (i := 16) (d := some 59) (v := ?_) rfl rfl (by kernel_rfl) (by kernel_rfl) (by kernel_rfl) (by kernel_rfl) (fun _ _ _ h => h) (Or.inl ⟨by rfl, ?_⟩) (by assumption) ?_
            rotate_left
            · (intro w hSw; (try dsimp only at hSw); go_simp; try (with_reducible rfl))
            try simp only [Act.put]
            try simp only [List.setIfInBounds_toArray]
            try simp only [List.set_cons_zero, List.set_cons_succ]
            refine wpAnyU_take (i := 17) (d := some 60) (v := ?_) rfl rfl (by kernel_rfl) (by kernel_rfl) (by kernel_rfl) (by kernel_rfl) (fun _ _ _ h => h) (Or.inl ⟨by rfl, ?_⟩) (by assumption) ?_
            rotate_left
            · (intro w hSw; (try dsimp only at hSw); go_simp; try (with_reducible rfl))
            try simp only [Act.put]
            try simp only [List.setIfInBounds_toArray]
            try simp only [List.set_cons_zero, List.set_cons_succ]
            refine wpAnyU_take (i := 18) (d := some 61) (v := undef) rfl rfl (by kernel_rfl) (by kernel_rfl) (by kernel_rfl) (by kernel_rfl) (fun _ _ _ h => h) (Or.inr ⟨by rfl, rfl⟩) (by assumption) ?_
            try simp only [Act.put]
            try simp only [List.setIfInBounds_toArray]
            try simp only [List.set_cons_zero, List.set_cons_succ]
            refine wpAnyU_take (i := 19) (d := some 62) (v := undef) rfl rfl (by kernel_rfl) (by kernel_rfl) (by kernel_rfl) (by kernel_rfl) (fun _ _ _ h => h) (Or.inr ⟨by rfl, rfl⟩) (by assumption) ?_
            try simp only [Act.put]
            try simp only [List.setIfInBounds_toArray]
            try simp only [List.set_cons_zero, List.set_cons_succ]
            refine wpAnyU_take (i := 20) (d := some 63) (v := undef) rfl rfl (by kernel_rfl) (by kernel_rfl) (by kernel_rfl) (by kernel_rfl) (fun _ _ _ h => h) (Or.inr ⟨by rfl, rfl⟩) (by assumption) ?_
            try simp only [Act.put]
            try simp only [List.setIfInBounds_toArray]
            try simp only [List.set_cons_zero, List.set_cons_succ]
            refine wpAnyU_take (i := 21) (d := some 64) (v := undef) rfl rfl (by kernel_rfl) (by kernel_rfl) (by kernel_rfl) (by kernel_rfl) (fun _ _ _ h => h) (Or.inr ⟨by rfl, rfl⟩) (by assumption) ?_
            try simp only [Act.put]
            try simp only [List.setIfInBounds_toArray]
            try simp only [List.set_cons_zero, List.set_cons_succ]
            refine wpAnyU_take (i := 22) (d := some 65) (v := undef) rfl rfl (by kernel_rfl) (by kernel_rfl) (by kernel_rfl) (by kernel_rfl) (fun _ _ _ h => h) (Or.inr ⟨by rfl, rfl⟩) (by assumption) ?_
            try simp only [Act.put]
            try simp only [List.setIfInBounds_toArray]
            try simp only [List.set_cons_zero, List.set_cons_succ]
            refine wpAnyU_take (i := 23) (d := some 66) (v := undef) rfl rfl (by kernel_rfl) (by kernel_rfl) (by kernel_rfl) (by kernel_rfl) (fun _ _ _ h => h) (Or.inr ⟨by rfl, rfl⟩) (by assumption) ?_
            try simp only [Act.put]
            try simp only [List.setIfInBounds_toArray]
            try simp only [List.set_cons_zero, List.set_cons_succ]
            refine wpAnyU_take (i := 24) (d := some 67) (v := undef) rfl rfl (by kernel_rfl) (by kernel_rfl) (by kernel_rfl) (by kernel_rfl) (fun _ _ _ h => h) (Or.inr ⟨by rfl, rfl⟩) (by assumption) ?_
            try simp only [Act.put]
            try simp only [List.setIfInBounds_toArray]
            try simp only [List.set_cons_zero, List.set_cons_succ]
            refine wpAnyU_take (i := 25) (d := some 68) (v := undef) rfl rfl (by kernel_rfl) (by kernel_rfl) (by kernel_rfl) (by kernel_rfl) (fun _ _ _ h => h) (Or.inr ⟨by rfl, rfl⟩) (by assumption) ?_
            try simp only [Act.put]
            try simp only [List.setIfInBounds_toArray]
            try simp only [List.set_cons_zero, List.set_cons_succ]
            refine wpAnyU_take (i := 26) (d := some 69) (v := undef) rfl rfl (by kernel_rfl) (by kernel_rfl) (by kernel_rfl) (by kernel_rfl) (fun _ _ _ h => h) (Or.inr ⟨by rfl, rfl⟩) (by assumption) ?_
            try simp only [Act.put]
            try simp only [List.setIfInBounds_toArray]
            try simp only [List.set_cons_zero, List.set_cons_succ]
            refine wpAnyU_take (i := 27) (d := some 70) (v := undef) rfl rfl (by kernel_rfl) (by kernel_rfl) (by kernel_rfl) (by kernel_rfl) (fun _ _ _ h => h) (Or.inr ⟨by rfl, rfl⟩) (by assumption) ?_
            try simp only [Act.put]
            try simp only [List.setIfInBounds_toArray]
            try simp only [List.set_cons_zero, List.set_cons_succ]
            refine wpAnyU_take (i := 28) (d := some 71) (v := undef) rfl rfl (by kernel_rfl) (by kernel_rfl) (by kernel_rfl) (by kernel_rfl) (fun _ _ _ h => h) (Or.inr ⟨by rfl, rfl⟩) (by assumption) ?_
            try simp only [Act.put]
            try simp only [List.setIfInBounds_toArray]
            try simp only [List.set_cons_zero, List.set_cons_succ]
            refine wpAnyU_take (i := 29) (d := some 72) (v := undef) rfl rfl (by kernel_rfl) (by kernel_rfl) (by kernel_rfl) (by kernel_rfl) (fun _ _ _ h => h) (Or.inr ⟨by rfl, rfl⟩) (by assumption) ?_
            try simp only [Act.put]
            try simp only [List.setIfInBounds_toArray]
            try simp only [List.set_cons_zero, List.set_cons_succ]
            refine wpAnyU_take (i := 30) (d := some 73) (v := undef) rfl rfl (by kernel_rfl) (by kernel_rfl) (by kernel_rfl) (by kernel_rfl) (fun _ _ _ h => h) (Or.inr ⟨by rfl, rfl⟩) (by assumption) ?_
            try simp only [Act.put]
            try simp only [List.setIfInBounds_toArray]
            try simp only [List.set_cons_zero, List.set_cons_succ]
            refine wpAnyU_take (i := 31) (d := some 74) (v := undef) rfl rfl (by kernel_rfl) (by kernel_rfl) (by kernel_rfl) (by kernel_rfl) (fun _ _ _ h => h) (Or.inr ⟨by rfl, rfl⟩) (by assumption) ?_
            try simp only [Act.put]
            try simp only [List.setIfInBounds_toArray]
            try simp only [List.set_cons_zero, List.set_cons_succ]
            refine wpAnyU_take (i := 32) (d := some 75) (v := ?_) rfl rfl (by kernel_rfl) (by kernel_rfl) (by kernel_rfl) (by kernel_rfl) (fun _ _ _ h => h) (Or.inl ⟨by rfl, ?_⟩) (by assumption) ?_
            rotate_left
            · (intro w hSw; (try dsimp only at hSw); go_simp; try (with_reducible rfl))
            try simp only [Act.put]
            try simp only [List.setIfInBounds_toArray]
            try simp only [List.set_cons_zero, List.set_cons_succ]
            refine wpAnyU_done (by kernel_rfl) ?_
            have HE9 := Lib.hid (HT1.out)
            have HX9 := Lib.hid (HEK2.out.trans' HX1.out)
            have t9 := z1a
            clear z1a z1b z1c
            go_wp2
            go_roundg (m - (k + 1))
            case measure => omega
            case rel =>
              refine ⟨k + 1, by omega, by omega, by omega, by go_num, (show Aside _ from fun i h1 h2 => ?_), (show Ext _ _ from HX9.out)⟩
              by_cases e : i = k
              · subst e; exact HNO.out
              · exact A2.out i h1 (by omega)
          | true =>
          cases b1 with
          | false =>
            have HNO : Hid (annB t s ws k = false) := Lib.hid HAN.out
            go_wp2
            have HT0 := Lib.hid (show Ext w wr.drew from HEW.out.dr)
            have HX0 := Lib.hid (show Ext wr wr.drew from (Ext.rf wr).dr)
            have z0a := (show Ext wr wr.drew from (Ext.rf wr).dr).cl t0
            have z0b := (show Ext wr wr.drew from (Ext.rf wr).dr).cl r0
            have z0c := (show Ext wr wr.drew from (Ext.rf wr).dr).cl r1
            refine wp_region_tails (fun w' => w'.cell? ⟨w.heap.size, 0, none⟩ = some (.slice ta tn tc) ∧ w'.cell? ⟨rb, ro + j, none⟩ = some v0 ∧ w'.cell? ⟨rb, ro + k, none⟩ = some v1) [] (by kernel_rfl) ⟨z0a, z0b, z0c⟩ (fun hHeld => ?_)
            generalize wr.drew = wT at *
            refine wpAnyU_take (i := 0) (d := some 43) (v := ?_) rfl rfl (by kernel_rfl) (by kernel_rfl) (by kernel_rfl) (by kernel_rfl) (fun _ _ _ h => h) (Or.inl ⟨by rfl, ?_⟩) (by assumption) ?_
            rotate_left
            · (intro w hSw; (try dsimp only at hSw); go_simp; try (with_reducible rfl))
            try simp only [Act.put]
            try simp only [List.setIfInBounds_toArray]
            try simp only [List.set_cons_zero, List.set_cons_succ]
            refine wpAnyU_take (i := 1) (d := some 44) (v := ?_) rfl rfl (by kernel_rfl) (by kernel_rfl) (by kernel_rfl) (by kernel_rfl) (fun _ _ _ h => h) (Or.inl ⟨by rfl, ?_⟩) (by assumption) ?_
            rotate_left
            · (intro w hSw; (try dsimp only at hSw); go_simp; try (with_reducible rfl))
            try simp only [Act.put]
            try simp only [List.setIfInBounds_toArray]
            try simp only [List.set_cons_zero, List.set_cons_succ]
            refine wpAnyU_take (i := 2) (d := some 45) (v := ?_) rfl rfl (by kernel_rfl) (by kernel_rfl) (by kernel_rfl) (by kernel_rfl) (fun _ _ _ h => h) (Or.inl ⟨by rfl, ?_⟩) (by assumption) ?_
            rotate_left
            · (intro w hSw; (try dsimp only at hSw); go_simp; try (with_reducible rfl))
            try simp only [Act.put]
            try simp only [List.setIfInBounds_toArray]
            try simp only [List.set_cons_zero, List.set_cons_succ]
            refine wpAnyU_take (i := 3) (d := some 46) (v := ?_) rfl rfl (by kernel_rfl) (by kernel_rfl) (by kernel_rfl) (by kernel_rfl) (fun _ _ _ h => h) (Or.inl ⟨by rfl, ?_⟩) (by assumption) ?_
            rotate_left
            · (intro w hSw; (try dsimp only at hSw); go_simp; try (with_reducible rfl))
            try simp only [Act.put]
            try simp only [List.setIfInBounds_toArray]
            try simp only [List.set_cons_zero, List.set_cons_succ]
            refine wpAnyU_take (i := 4) (d := some 47) (v := ?_) rfl rfl (by kernel_rfl) (by kernel_rfl) (by kernel_rfl) (by kernel_rfl) (fun _ _ _ h => h) (Or.inl ⟨by rfl, ?_⟩) (by assumption) ?_
            rotate_left
            · (intro w hSw; (try dsimp only at hSw); go_simp; try (with_reducible rfl))
            try simp only [Act.put]
            try simp only [List.setIfInBounds_toArray]
            try simp only [List.set_cons_zero, List.set_cons_succ]
            refine wpAnyU_take (i := 5) (d := some 48) (v := ?_) rfl rfl (by kernel_rfl) (by kernel_rfl) (by kernel_rfl) (by kernel_rfl) (fun _ _ _ h => h) (Or.inl ⟨by rfl, ?_⟩) (by assumption) ?_
            rotate_left
            · (intro w hSw; (try dsimp only at hSw); go_simp; try (with_reducible rfl))
            try simp only [Act.put]
            try simp only [List.setIfInBounds_toArray]
            try simp only [List.set_cons_zero, List.set_cons_succ]
            refine wpAnyU_take (i := 6) (d := some 49) (v := ?_) rfl rfl (by kernel_rfl) (by kernel_rfl) (by kernel_rfl) (by kernel_rfl) (fun _ _ _ h => h) (Or.inl ⟨by rfl, ?_⟩) (by assumption) ?_
            rotate_left
            · (intro w hSw; (try dsimp only at hSw); go_simp; try (with_reducible rfl))
            try simp only [Act.put]
            try simp only [List.setIfInBounds_toArray]
            try simp only [List.set_cons_zero, List.set_cons_succ]
            refine wpAnyU_step (i := 7) (by kernel_rfl) rfl (fun K hK => ?_)
            refine step_callW (by kernel_rfl) 15 _ _ rfl enters_15 [.agg #[.slice ta tn tc], .string s, v0] (by first | rfl | kernel_rfl | go_simp) (HP0.out _ HT0.out) ?_
            rintro e y1 ⟨rfl, hX⟩
            refine ⟨_, rfl, ?_⟩
            have HT1 := Lib.hid (HT0.out.trans' hX)
            have HX1 := Lib.hid (HX0.out.trans' hX)
            have z1a := hX.cl z0a
            have z1b := hX.cl z0b
            have z1c := hX.cl z0c
            clear hX z0a z0b z0c
            refine hK.out _ _ ?_ (fun hHeld => ?_)
            · (try dsimp only)
              exact ⟨z1a, z1b, z1c⟩
            clear hK K
            try simp only [List.getElem_toArray, List.getElem_cons_zero, List.getElem_cons_succ]
            try simp only [Act.put]
            try simp only [List.setIfInBounds_toArray]
            try simp only [List.set_cons_zero, List.set_cons_succ]
            refine wpAnyU_take (i := 8) (d := some 51) (v := ?_) rfl rfl (by kernel_rfl) (by kernel_rfl) (by kernel_rfl) (by kernel_rfl) (fun _ _ _ h => h) (Or.inl ⟨by rfl, ?_⟩) (by assumption) ?_
            rotate_left
            · (intro w hSw; (try dsimp only at hSw); go_simp; try (with_reducible rfl))
            try simp only [Act.put]
            try simp only [List.setIfInBounds_toArray]
            try simp only [List.set_cons_zero, List.set_cons_succ]
            refine wpAnyU_take (i := 9) (d := some 52) (v := ?_) rfl rfl (by kernel_rfl) (by kernel_rfl) (by kernel_rfl) (by kernel_rfl) (fun _ _ _ h => h) (Or.inl ⟨by rfl, ?_⟩) (by assumption) ?_
            rotate_left
            · (intro w hSw; (try dsimp only at hSw); go_simp; try (with_reducible rfl))
            try simp only [Act.put]
            try simp only [List.setIfInBounds_toArray]
            try simp only [List.set_cons_zero, List.set_cons_succ]
            refine wpAnyU_take (i := 10) (d := some 53) (v := ?_) rfl rfl (by kernel_rfl) (by kernel_rfl) (by kernel_rfl) (by kernel_rfl) (fun _ _ _ h => h) (Or.inl ⟨by rfl, ?_⟩) (by assumption) ?_
            rotate_left
            · (intro w hSw; (try dsimp only at hSw); go_simp; try (with_reducible rfl))
            try simp only [Act.put]
            try simp only [List.setIfInBounds_toArray]
            try simp only [List.set_cons_zero, List.set_cons_succ]
            refine wpAnyU_take (i := 11) (d := some 54) (v := ?_) rfl rfl (by kernel_rfl) (by kernel_rfl) (by kernel_rfl) (by kernel_rfl) (fun _ _ _ h => h) (Or.inl ⟨by rfl, ?_⟩) (by assumption) ?_
            rotate_left
            · (intro w hSw; (try dsimp only at hSw); go_simp; try (with_reducible rfl))
            try simp only [Act.put]
            try simp only [List.setIfInBounds_toArray]
            try simp only [List.set_cons_zero, List.set_cons_succ]
            refine wpAnyU_take (i := 12) (d := some 55) (v := ?_) rfl rfl (by kernel_rfl) (by kernel_rfl) (by kernel_rfl) (by kernel_rfl) (fun _ _ _ h => h) (Or.inl ⟨by rfl, ?_⟩) (by assumption) ?_
            rotate_left
            · (intro w hSw; (try dsimp only at hSw); go_simp; try (with_reducible rfl))
            try simp only [Act.put]
            try simp only [List.setIfInBounds_toArray]
            try simp only [List.set_cons_zero, List.set_cons_succ]
            refine wpAnyU_take (i := 13) (d := some 56) (v := ?_) rfl rfl (by kernel_rfl) (by kernel_rfl) (by kernel_rfl) (by kernel_rfl) (fun _ _ _ h => h) (Or.inl ⟨by rfl, ?_⟩) (by assumption) ?_
            rotate_left
            · (intro w hSw; (try dsimp only at hSw); go_simp; try (with_reducible rfl))
            try simp only [Act.put]
            try simp only [List.setIfInBounds_toArray]
            try simp only [List.set_cons_zero, List.set_cons_succ]
            refine wpAnyU_take (i := 14) (d := some 57) (v := ?_) rfl rfl (by kernel_rfl) (by kernel_rfl) (by kernel_rfl) (by kernel_rfl) (fun _ _ _ h => h) (Or.inl ⟨by rfl, ?_⟩) (by assumption) ?_
            rotate_left
            · (intro w hSw; (try dsimp only at hSw); go_simp; try (with_reducible rfl))
            try simp only [Act.put]
            try simp only [List.setIfInBounds_toArray]
            try simp only [List.set_cons_zero, List.set_cons_succ]
            refine wpAnyU_step (i := 15) (by kernel_rfl) rfl (fun K hK => ?_)
            refine step_callW (by kernel_rfl) 15 _ _ rfl enters_15 [.agg #[.slice ta tn tc], .string s, v1] (by first | rfl | kernel_rfl | go_simp) (HP1.out _ HT1.out) ?_
            rintro e y2 ⟨rfl, hX⟩
            refine ⟨_, rfl, ?_⟩
            have HT2 := Lib.hid (HT1.out.trans' hX)
            have HX2 := Lib.hid (HX1.out.trans' hX)
            have z2a := hX.cl z1a
            have z2b := hX.cl z1b
            have z2c := hX.cl z1c
            clear hX z1a z1b z1c
            refine hK.out _ _ ?_ (fun hHeld => ?_)
            · (try dsimp only)
              exact ⟨z2a, z2b, z2c⟩
            clear hK K
            try simp only [List.getElem_toArray, List.getElem_cons_zero, List.getElem_cons_succ]
            try simp only [Act.put]
            try simp only [List.setIfInBounds_toArray]
            try simp only [List.set_cons_zero, List.set_cons_succ]
            refine wpAnyU_take (i := 16) (d := some 59) (v := ?_) rfl rfl (by kernel_rfl) (by kernel_rfl) (by kernel_rfl) (by kernel_rfl) (fun _ _ _ h => h) (Or.inl ⟨by rfl, ?_⟩) (by assumption) ?_
            rotate_left
            · (intro w hSw; (try dsimp only at hSw); go_simp; try (with_reducible rfl))
            try simp only [Act.put]
            try simp only [List.setIfInBounds_toArray]
            try simp only [List.set_cons_zero, List.set_cons_succ]
            refine wpAnyU_take (i := 17) (d := some 60) (v := ?_) rfl rfl (by kernel_rfl) (by kernel_rfl) (by kernel_rfl) (by kernel_rfl) (fun _ _ _ h => h) (Or.inl ⟨by rfl, ?_⟩) (by assumption) ?_
            rotate_left
            · (intro w hSw; (try dsimp only at hSw); go_simp; try (with_reducible rfl))
            try simp only [Act.put]
            try simp only [List.setIfInBounds_toArray]
            try simp only [List.set_cons_zero, List.set_cons_succ]
            refine wpAnyU_take (i := 18) (d := some 61) (v := undef) rfl rfl (by kernel_rfl) (by kernel_rfl) (by kernel_rfl) (by kernel_rfl) (fun _ _ _ h => h) (Or.inr ⟨by rfl, rfl⟩) (by assumption) ?_
            try simp only [Act.put]
            try simp only [List.setIfInBounds_toArray]
            try simp only [List.set_cons_zero, List.set_cons_succ]
            refine wpAnyU_take (i := 19) (d := some 62) (v := undef) rfl rfl (by kernel_rfl) (by kernel_rfl) (by kernel_rfl) (by kernel_rfl) (fun _ _ _ h => h) (Or.inr ⟨by rfl, rfl⟩) (by assumption) ?_
            try simp only [Act.put]
            try simp only [List.setIfInBounds_toArray]
            try simp only [List.set_cons_zero, List.set_cons_succ]
            refine wpAnyU_take (i := 20) (d := some 63) (v := undef) rfl rfl (by kernel_rfl) (by kernel_rfl) (by kernel_rfl) (by kernel_rfl) (fun _ _ _ h => h) (Or.inr ⟨by rfl, rfl⟩) (by assumption) ?_
            try simp only [Act.put]
            try simp only [List.setIfInBounds_toArray]
            try simp only [List.set_cons_zero, List.set_cons_succ]
            refine wpAnyU_take (i := 21) (d := some 64) (v := undef) rfl rfl (by kernel_rfl) (by kernel_rfl) (by kernel_rfl) (by kernel_rfl) (fun _ _ _ h => h) (Or.inr ⟨by rfl, rfl⟩) (by assumption) ?_
            try simp only [Act.put]
            try simp only [List.setIfInBounds_toArray]
            try simp only [List.set_cons_zero, List.set_cons_succ]
            refine wpAnyU_take (i := 22) (d := some 65) (v := undef) rfl rfl (by kernel_rfl) (by kernel_rfl) (by kernel_rfl) (by kernel_rfl) (fun _ _ _ h => h) (Or.inr ⟨by rfl, rfl⟩) (by assumption) ?_
            try simp only [Act.put]
            try simp only [List.setIfInBounds_toArray]
            try simp only [List.set_cons_zero, List.set_cons_succ]
            refine wpAnyU_take (i := 23) (d := some 66) (v := undef) rfl rfl (by kernel_rfl) (by kernel_rfl) (by kernel_rfl) (by kernel_rfl) (fun _ _ _ h => h) (Or.inr ⟨by rfl, rfl⟩) (by assumption) ?_
            try simp only [Act.put]
            try simp only [List.setIfInBounds_toArray]
            try simp only [List.set_cons_zero, List.set_cons_succ]
            refine wpAnyU_take (i := 24) (d := some 67) (v := undef) rfl rfl (by kernel_rfl) (by kernel_rfl) (by kernel_rfl) (by kernel_rfl) (fun _ _ _ h => h) (Or.inr ⟨by rfl, rfl⟩) (by assumption) ?_
            try simp only [Act.put]
            try simp only [List.setIfInBounds_toArray]
            try simp only [List.set_cons_zero, List.set_cons_succ]
            refine wpAnyU_take (i := 25) (d := some 68) (v := undef) rfl rfl (by kernel_rfl) (by kernel_rfl) (by kernel_rfl) (by kernel_rfl) (fun _ _ _ h => h) (Or.inr ⟨by rfl, rfl⟩) (by assumption) ?_
            try simp only [Act.put]
            try simp only [List.setIfInBounds_toArray]
            try simp only [List.set_cons_zero, List.set_cons_succ]
            refine wpAnyU_take (i := 26) (d := some 69) (v := undef) rfl rfl (by kernel_rfl) (by kernel_rfl) (by kernel_rfl) (by kernel_rfl) (fun _ _ _ h => h) (Or.inr ⟨by rfl, rfl⟩) (by assumption) ?_
            try simp only [Act.put]
            try simp only [List.setIfInBounds_toArray]
            try simp only [List.set_cons_zero, List.set_cons_succ]
            refine wpAnyU_take (i := 27) (d := some 70) (v := undef) rfl rfl (by kernel_rfl) (by kernel_rfl) (by kernel_rfl) (by kernel_rfl) (fun _ _ _ h => h) (Or.inr ⟨by rfl, rfl⟩) (by assumption) ?_
            try simp only [Act.put]
            try simp only [List.setIfInBounds_toArray]
            try simp only [List.set_cons_zero, List.set_cons_succ]
            refine wpAnyU_take (i := 28) (d := some 71) (v := undef) rfl rfl (by kernel_rfl) (by kernel_rfl) (by kernel_rfl) (by kernel_rfl) (fun _ _ _ h => h) (Or.inr ⟨by rfl, rfl⟩) (by assumption) ?_
            try simp only [Act.put]
            try simp only [List.setIfInBounds_toArray]
            try simp only [List.set_cons_zero, List.set_cons_succ]
            refine wpAnyU_take (i := 29) (d := some 72) (v := undef) rfl rfl (by kernel_rfl) (by kernel_rfl) (by kernel_rfl) (by kernel_rfl) (fun _ _ _ h => h) (Or.inr ⟨by rfl, rfl⟩) (by assumption) ?_
            try simp only [Act.put]
            try simp only [List.setIfInBounds_toArray]
            try simp only [List.set_cons_zero, List.set_cons_succ]
            refine wpAnyU_take (i := 30) (d := some 73) (v := undef) rfl rfl (by kernel_rfl) (by kernel_rfl) (by kernel_rfl) (by kernel_rfl) (fun _ _ _ h => h) (Or.inr ⟨by rfl, rfl⟩) (by assumption) ?_
            try simp only [Act.put]
            try simp only [List.setIfInBounds_toArray]
            try simp only [List.set_cons_zero, List.set_cons_succ]
            refine wpAnyU_take (i := 31) (d := some 74) (v := undef) rfl rfl (by kernel_rfl) (by kernel_rfl) (by kernel_rfl) (by kernel_rfl) (fun _ _ _ h => h) (Or.inr ⟨by rfl, rfl⟩) (by assumption) ?_
            try simp only [Act.put]
            try simp only [List.setIfInBounds_toArray]
            try simp only [List.set_cons_zero, List.set_cons_succ]
            refine wpAnyU_take (i := 32) (d := some 75) (v := ?_) rfl rfl (by kernel_rfl) (by kernel_rfl) (by kernel_rfl) (by kernel_rfl) (fun _ _ _ h => h) (Or.inl ⟨by rfl, ?_⟩) (by assumption) ?_
            rotate_left
            · (intro w hSw; (try dsimp only at hSw); go_simp; try (with_reducible rfl))
            try simp only [Act.put]
            try simp only [List.setIfInBounds_toArray]
            try simp only [List.set_cons_zero, List.set_cons_succ]
            refine wpAnyU_done (by kernel_rfl) ?_
            have HE9 := Lib.hid (HT2.out)
            have HX9 := Lib.hid (HEK2.out.trans' HX2.out)
            have t9 := z2a
            clear z2a z2b z2c
            go_wp2
            go_roundg (m - (k + 1))
            case measure => omega
            case rel =>
              refine ⟨k + 1, by omega, by omega, by omega, by go_num, (show Aside _ from fun i h1 h2 => ?_), (show Ext _ _ from HX9.out)⟩
              by_cases e : i = k
              · subst e; exact HNO.out
              · exact A2.out i h1 (by omega)
          | true =>
            go_wp2
            have HT0 := Lib.hid (show Ext w wr.drew from HEW.out.dr)
            have HX0 := Lib.hid (show Ext wr wr.drew from (Ext.rf wr).dr)
            have z0a := (show Ext wr wr.drew from (Ext.rf wr).dr).cl t0
            have z0b := (show Ext wr wr.drew from (Ext.rf wr).dr).cl r0
            have z0c := (show Ext wr wr.drew from (Ext.rf wr).dr).cl r1
            refine wp_region_tails (fun w' => w'.cell? ⟨w.heap.size, 0, none⟩ = some (.slice ta tn tc) ∧ w'.cell? ⟨rb, ro + j, none⟩ = some v0 ∧ w'.cell? ⟨rb, ro + k, none⟩ = some v1) [] (by kernel_rfl) ⟨z0a, z0b, z0c⟩ (fun hHeld => ?_)
            generalize wr.drew = wT at *
            refine wpAnyU_take (i := 0) (d := some 43) (v := ?_) rfl rfl (by kernel_rfl) (by kernel_rfl) (by kernel_rfl) (by kernel_rfl) (fun _ _ _ h => h) (Or.inl ⟨by rfl, ?_⟩) (by assumption) ?_
            rotate_left
            · (intro w hSw; (try dsimp only at hSw); go_simp; try (with_reducible rfl))
            try simp only [Act.put]
            try simp only [List.setIfInBounds_toArray]
            try simp only [List.set_cons_zero, List.set_cons_succ]
            refine wpAnyU_take (i := 1) (d := some 44) (v := ?_) rfl rfl (by kernel_rfl) (by kernel_rfl) (by kernel_rfl) (by kernel_rfl) (fun _ _ _ h => h) (Or.inl ⟨by rfl, ?_⟩) (by assumption) ?_
            rotate_left
            · (intro w hSw; (try dsimp only at hSw); go_simp; try (with_reducible rfl))
            try simp only [Act.put]
            try simp only [List.setIfInBounds_toArray]
            try simp only [List.set_cons_zero, List.set_cons_succ]
            refine wpAnyU_take (i := 2) (d := some 45) (v := ?_) rfl rfl (by kernel_rfl) (by kernel_rfl) (by kernel_rfl) (by kernel_rfl) (fun _ _ _ h => h) (Or.inl ⟨by rfl, ?_⟩) (by assumption) ?_
            rotate_left
            · (intro w hSw; (try dsimp only at hSw); go_simp; try (with_reducible rfl))
            try simp only [Act.put]
            try simp only [List.setIfInBounds_toArray]
            try simp only [List.set_cons_zero, List.set_cons_succ]
            refine wpAnyU_take (i := 3) (d := some 46) (v := ?_) rfl rfl (by kernel_rfl) (by kernel_rfl) (by kernel_rfl) (by kernel_rfl) (fun _ _ _ h => h) (Or.inl ⟨by rfl, ?_⟩) (by assumption) ?_
            rotate_left
            · (intro w hSw; (try dsimp only at hSw); go_simp; try (with_reducible rfl))
            try simp only [Act.put]
            try simp only [List.setIfInBounds_toArray]
            try simp only [List.set_cons_zero, List.set_cons_succ]
            refine wpAnyU_take (i := 4) (d := some 47) (v := ?_) rfl rfl (by kernel_rfl) (by kernel_rfl) (by kernel_rfl) (by kernel_rfl) (fun _ _ _ h => h) (Or.inl ⟨by rfl, ?_⟩) (by assumption) ?_
            rotate_left
            · (intro w hSw; (try dsimp only at hSw); go_simp; try (with_reducible rfl))
            try simp only [Act.put]
            try simp only [List.setIfInBounds_toArray]
            try simp only [List.set_cons_zero, List.set_cons_succ]
            refine wpAnyU_take (i := 5) (d := some 48) (v := ?_) rfl rfl (by kernel_rfl) (by kernel_rfl) (by kernel_rfl) (by kernel_rfl) (fun _ _ _ h => h) (Or.inl ⟨by rfl, ?_⟩) (by assumption) ?_
            rotate_left
            · (intro w hSw; (try dsimp only at hSw); go_simp; try (with_reducible rfl))
            try simp only [Act.put]
            try simp only [List.setIfInBounds_toArray]
            try simp only [List.set_cons_zero, List.set_cons_succ]
            refine wpAnyU_take (i := 6) (d := some 49) (v := ?_) rfl rfl (by kernel_rfl) (by kernel_rfl) (by kernel_rfl) (by kernel_rfl) (fun _ _ _ h => h) (Or.inl ⟨by rfl, ?_⟩) (by assumption) ?_
            rotate_left
            · (intro w hSw; (try dsimp only at hSw); go_simp; try (with_reducible rfl))
            try simp only [Act.put]
            try simp only [List.setIfInBounds_toArray]
            try simp only [List.set_cons_zero, List.set_cons_succ]
            refine wpAnyU_step (i := 7) (by kernel_rfl) rfl (fun K hK => ?_)
            refine step_callW (by kernel_rfl) 15 _ _ rfl enters_15 [.agg #[.slice ta tn tc], .string s, v0] (by first | rfl | kernel_rfl | go_simp) (HP0.out _ HT0.out) ?_
            rintro e y1 ⟨rfl, hX⟩
            refine ⟨_, rfl, ?_⟩
            have HT1 := Lib.hid (HT0.out.trans' hX)
            have HX1 := Lib.hid (HX0.out.trans' hX)
            have z1a := hX.cl z0a
            have z1b := hX.cl z0b
            have z1c := hX.cl z0c
            clear hX z0a z0b z0c
            refine hK.out _ _ ?_ (fun hHeld => ?_)
            · (try dsimp only)
              exact ⟨z1a, z1b, z1c⟩
            clear hK K
            try simp only [List.getElem_toArray, List.getElem_cons_zero, List.getElem_cons_succ]
            try simp only [Act.put]
            try simp only [List.setIfInBounds_toArray]
            try simp only [List.set_cons_zero, List.set_cons_succ]
            refine wpAnyU_take (i := 8) (d := some 51) (v := ?_) rfl rfl (by kernel_rfl) (by kernel_rfl) (by kernel_rfl) (by kernel_rfl) (fun _ _ _ h => h) (Or.inl ⟨by rfl, ?_⟩) (by assumption) ?_
            rotate_left
            · (intro w hSw; (try dsimp only at hSw); go_simp; try (with_reducible rfl))
            try simp only [Act.put]
            try simp only [List.setIfInBounds_toArray]
            try simp only [List.set_cons_zero, List.set_cons_succ]
            refine wpAnyU_take (i := 9) (d := some 52) (v := ?_) rfl rfl (by kernel_rfl) (by kernel_rfl) (by kernel_rfl) (by kernel_rfl) (fun _ _ _ h => h) (Or.inl ⟨by rfl, ?_⟩) (by assumption) ?_
            rotate_left
            · (intro w hSw; (try dsimp only at hSw); go_simp; try (with_reducible rfl))
            try simp only [Act.put]
            try simp only [List.setIfInBounds_toArray]
            try simp only [List.set_cons_zero, List.set_cons_succ]
            refine wpAnyU_take (i := 10) (d := some 53) (v := ?_) rfl rfl (by kernel_rfl) (by kernel_rfl) (by kernel_rfl) (by kernel_rfl) (fun _ _ _ h => h) (Or.inl ⟨by rfl, ?_⟩) (by assumption) ?_
            rotate_left
            · (intro w hSw; (try dsimp only at hSw); go_simp; try (with_reducible rfl))
            try simp only [Act.put]
            try simp only [List.setIfInBounds_toArray]
            try simp only [List.set_cons_zero, List.set_cons_succ]
            refine wpAnyU_take (i := 11) (d := some 54) (v := ?_) rfl rfl (by kernel_rfl) (by kernel_rfl) (by kernel_rfl) (by kernel_rfl) (fun _ _ _ h => h) (Or.inl ⟨by rfl, ?_⟩) (by assumption) ?_
            rotate_left
            · (intro w hSw; (try dsimp only at hSw); go_simp; try (with_reducible rfl))
            try simp only [Act.put]
            try simp only [List.setIfInBounds_toArray]
            try simp only [List.set_cons_zero, List.set_cons_succ]
            refine wpAnyU_take (i := 12) (d := some 55) (v := ?_) rfl rfl (by kernel_rfl) (by kernel_rfl) (by kernel_rfl) (by kernel_rfl) (fun _ _ _ h => h) (Or.inl ⟨by rfl, ?_⟩) (by assumption) ?_
            rotate_left
            · (intro w hSw; (try dsimp only at hSw); go_simp; try (with_reducible rfl))
            try simp only [Act.put]
            try simp only [List.setIfInBounds_toArray]
            try simp only [List.set_cons_zero, List.set_cons_succ]
            refine wpAnyU_take (i := 13) (d := some 56) (v := ?_) rfl rfl (by kernel_rfl) (by kernel_rfl) (by kernel_rfl) (by kernel_rfl) (fun _ _ _ h => h) (Or.inl ⟨by rfl, ?_⟩) (by assumption) ?_
            rotate_left
            · (intro w hSw; (try dsimp only at hSw); go_simp; try (with_reducible rfl))
            try simp only [Act.put]
            try simp only [List.setIfInBounds_toArray]
            try simp only [List.set_cons_zero, List.set_cons_succ]
            refine wpAnyU_take (i := 14) (d := some 57) (v := ?_) rfl rfl (by kernel_rfl) (by kernel_rfl) (by kernel_rfl) (by kernel_rfl) (fun _ _ _ h => h) (Or.inl ⟨by rfl, ?_⟩) (by assumption) ?_
            rotate_left
            · (intro w hSw; (try dsimp only at hSw); go_simp; try (with_reducible rfl))
            try simp only [Act.put]
            try simp only [List.setIfInBounds_toArray]
            try simp only [List.set_cons_zero, List.set_cons_succ]
            refine wpAnyU_step (i := 15) (by kernel_rfl) rfl (fun K hK => ?_)
            refine step_callW (by kernel_rfl) 15 _ _ rfl enters_15 [.agg #[.slice ta tn tc], .string s, v1] (by first | rfl | kernel_rfl | go_simp) (HP1.out _ HT1.out) ?_
            rintro e y2 ⟨rfl, hX⟩
            refine ⟨_, rfl, ?_⟩
            have HT2 := Lib.hid (HT1.out.trans' hX)
            have HX2 := Lib.hid (HX1.out.trans' hX)
            have z2a := hX.cl z1a
            have z2b := hX.cl z1b
            have z2c := hX.cl z1c
            clear hX z1a z1b z1c
            refine hK.out _ _ ?_ (fun hHeld => ?_)
            · (try dsimp only)
              exact ⟨z2a, z2b, z2c⟩
            clear hK K
            try simp only [List.getElem_toArray, List.getElem_cons_zero, List.getElem_cons_succ]
            try simp only [Act.put]
            try simp only [List.setIfInBounds_toArray]
            try simp only [List.set_cons_zero, List.set_cons_succ]
            refine wpAnyU_take (i := 16) (d := some 59) (v := ?_) rfl rfl (by kernel_rfl) (by kernel_rfl) (by kernel_rfl) (by kernel_rfl) (fun _ _ _ h => h) (Or.inl ⟨by rfl, ?_⟩) (by assumption) ?_
            rotate_left
            · (intro w hSw; (try dsimp only at hSw); go_simp; try (with_reducible rfl))
            try simp only [Act.put]
            try simp only [List.setIfInBounds_toArray]
            try simp only [List.set_cons_zero, List.set_cons_succ]
            refine wpAnyU_take (i := 17) (d := some 60) (v := ?_) rfl rfl (by kernel_rfl) (by kernel_rfl) (by kernel_rfl) (by kernel_rfl) (fun _ _ _ h => h) (Or.inl ⟨by rfl, ?_⟩) (by assumption) ?_
            rotate_left
            · (intro w hSw; (try dsimp only at hSw); go_simp; try (with_reducible rfl))
            try simp only [Act.put]
            try simp only [List.setIfInBounds_toArray]
            try simp only [List.set_cons_zero, List.set_cons_succ]
            refine wpAnyU_take (i := 18) (d := some 61) (v := ?_) rfl rfl (by kernel_rfl) (by kernel_rfl) (by kernel_rfl) (by kernel_rfl) (fun _ _ _ h => h) (Or.inl ⟨by rfl, ?_⟩) (by assumption) ?_
            rotate_left
            · (intro w hSw; (try dsimp only at hSw); go_simp; try (with_reducible rfl))
            try simp only [Act.put]
            try simp only [List.setIfInBounds_toArray]
            try simp only [List.set_cons_zero, List.set_cons_succ]
            refine wpAnyU_take (i := 19) (d := some 62) (v := ?_) rfl rfl (by kernel_rfl) (by kernel_rfl) (by kernel_rfl) (by kernel_rfl) (fun _ _ _ h => h) (Or.inl ⟨by rfl, ?_⟩) (by assumption) ?_
            rotate_left
            · (intro w hSw; (try dsimp only at hSw); go_simp; try (with_reducible rfl))
            try simp only [Act.put]
            try simp only [List.setIfInBounds_toArray]
            try simp only [List.set_cons_zero, List.set_cons_succ]
            refine wpAnyU_take (i := 20) (d := some 63) (v := ?_) rfl rfl (by kernel_rfl) (by kernel_rfl) (by kernel_rfl) (by kernel_rfl) (fun _ _ _ h => h) (Or.inl ⟨by rfl, ?_⟩) (by assumption) ?_
            rotate_left
            · (intro w hSw; (try dsimp only at hSw); go_simp; try (with_reducible rfl))
            try simp only [Act.put]
            try simp only [List.setIfInBounds_toArray]
            try simp only [List.set_cons_zero, List.set_cons_succ]
            refine wpAnyU_take (i := 21) (d := some 64) (v := ?_) rfl rfl (by kernel_rfl) (by kernel_rfl) (by kernel_rfl) (by kernel_rfl) (fun _ _ _ h => h) (Or.inl ⟨by rfl, ?_⟩) (by assumption) ?_
            rotate_left
            · (intro w hSw; (try dsimp only at hSw); go_simp; try (with_reducible rfl))
            try simp only [Act.put]
            try simp only [List.setIfInBounds_toArray]
            try simp only [List.set_cons_zero, List.set_cons_succ]
            refine wpAnyU_take (i := 22) (d := some 65) (v := ?_) rfl rfl (by kernel_rfl) (by kernel_rfl) (by kernel_rfl) (by kernel_rfl) (fun _ _ _ h => h) (Or.inl ⟨by rfl, ?_⟩) (by assumption) ?_
            rotate_left
            · (intro w hSw; (try dsimp only at hSw); go_simp; try (with_reducible rfl))
            try simp only [Act.put]
            try simp only [List.setIfInBounds_toArray]
            try simp only [List.set_cons_zero, List.set_cons_succ]
            refine wpAnyU_take (i := 23) (d := some 66) (v := ?_) rfl rfl (by kernel_rfl) (by kernel_rfl) (by kernel_rfl) (by kernel_rfl) (fun _ _ _ h => h) (Or.inl ⟨by rfl, ?_⟩) (by assumption) ?_
            rotate_left
            · (intro w hSw; (try dsimp only at hSw); go_simp; try (with_reducible rfl))
            try simp only [Act.put]
            try simp only [List.setIfInBounds_toArray]
            try simp only [List.set_cons_zero, List.set_cons_succ]
            refine wpAnyU_take (i := 25) (d := some 68) (v := ?_) rfl rfl (by kernel_rfl) (by kernel_rfl) (by kernel_rfl) (by kernel_rfl) (fun _ _ _ h => h) (Or.inl ⟨by rfl, ?_⟩) (by assumption) ?_
            rotate_left
            · (intro w hSw; (try dsimp only at hSw); go_simp; try (with_reducible rfl))
            try simp only [Act.put]
            try simp only [List.setIfInBounds_toArray]
            try simp only [List.set_cons_zero, List.set_cons_succ]
            refine wpAnyU_take (i := 26) (d := some 69) (v := ?_) rfl rfl (by kernel_rfl) (by kernel_rfl) (by kernel_rfl) (by kernel_rfl) (fun _ _ _ h => h) (Or.inl ⟨by rfl, ?_⟩) (by assumption) ?_
            rotate_left
            · (intro w hSw; (try dsimp only at hSw); go_simp; try (with_reducible rfl))
            try simp only [Act.put]
            try simp only [List.setIfInBounds_toArray]
            try simp only [List.set_cons_zero, List.set_cons_succ]
            refine wpAnyU_take (i := 27) (d := some 70) (v := ?_) rfl rfl (by kernel_rfl) (by kernel_rfl) (by kernel_rfl) (by kernel_rfl) (fun _ _ _ h => h) (Or.inl ⟨by rfl, ?_⟩) (by assumption) ?_
            rotate_left
            · (intro w hSw; (try dsimp only at hSw); go_simp; try (with_reducible rfl))
            try simp only [Act.put]
            try simp only [List.setIfInBounds_toArray]
            try simp only [List.set_cons_zero, List.set_cons_succ]
            refine wpAnyU_take (i := 28) (d := some 71) (v := ?_) rfl rfl (by kernel_rfl) (by kernel_rfl) (by kernel_rfl) (by kernel_rfl) (fun _ _ _ h => h) (Or.inl ⟨by rfl, ?_⟩) (by assumption) ?_
            rotate_left
            · (intro w hSw; (try dsimp only at hSw); go_simp; try (with_reducible rfl))
            try simp only [Act.put]
            try simp only [List.setIfInBounds_toArray]
            try simp only [List.set_cons_zero, List.set_cons_succ]
            refine wpAnyU_take (i := 29) (d := some 72) (v := ?_) rfl rfl (by kernel_rfl) (by kernel_rfl) (by kernel_rfl) (by kernel_rfl) (fun _ _ _ h => h) (Or.inl ⟨by rfl, ?_⟩) (by assumption) ?_
            rotate_left
            · (intro w hSw; (try dsimp only at hSw); go_simp; try (with_reducible rfl))
            try simp only [Act.put]
            try simp only [List.setIfInBounds_toArray]
            try simp only [List.set_cons_zero, List.set_cons_succ]
            refine wpAnyU_step (i := 24) (by kernel_rfl) rfl (fun K hK => ?_)
            refine step_callW (by kernel_rfl) 42 _ _ rfl enters_42 [.agg #[.slice ta tn tc], .int .i64 3, v0] (by first | rfl | kernel_rfl | go_simp) (HC0.out _ HT2.out) ?_
            rintro e y3 ⟨rfl, hX⟩
            refine ⟨_, rfl, ?_⟩
            have HT3 := Lib.hid (HT2.out.trans' hX)
            have HX3 := Lib.hid (HX2.out.trans' hX)
            have z3a := hX.cl z2a
            have z3b := hX.cl z2b
            have z3c := hX.cl z2c
            clear hX z2a z2b z2c
            refine hK.out _ _ ?_ (fun hHeld => ?_)
            · (try dsimp only)
              exact ⟨z3a, z3b, z3c⟩
            clear hK K
            try simp only [List.getElem_toArray, List.getElem_cons_zero, List.getElem_cons_succ]
            try simp only [Act.put]
            try simp only [List.setIfInBounds_toArray]
            try simp only [List.set_cons_zero, List.set_cons_succ]
            refine wpAnyU_step (i := 30) (by kernel_rfl) rfl (fun K hK => ?_)
            refine step_callW (by kernel_rfl) 42 _ _ rfl enters_42 [.agg #[.slice ta tn tc], .int .i64 2, v1] (by first | rfl | kernel_rfl | go_simp) (HC1.out _ HT3.out) ?_
            rintro e y4 ⟨rfl, hX⟩
            refine ⟨_, rfl, ?_⟩
            have HT4 := Lib.hid (HT3.out.trans' hX)
            have HX4 := Lib.hid (HX3.out.trans' hX)
            have z4a := hX.cl z3a
            have z4b := hX.cl z3b
            have z4c := hX.cl z3c
            clear hX z3a z3b z3c
            refine hK.out _ _ ?_ (fun hHeld => ?_)
            · (try dsimp only)
              exact ⟨z4a, z4b, z4c⟩
            clear hK K
            try simp only [List.getElem_toArray, List.getElem_cons_zero, List.getElem_cons_succ]
            try simp only [Act.put]
            try simp only [List.setIfInBounds_toArray]
            try simp only [List.set_cons_zero, List.set_cons_succ]
            refine wpAnyU_take (i := 31) (d := some 74) (v := ?_) rfl rfl (by kernel_rfl) (by kernel_rfl) (by kernel_rfl) (by kernel_rfl) (fun _ _ _ h => h) (Or.inl ⟨by rfl, ?_⟩) (by assumption) ?_
            rotate_left
            · (intro w hSw; (try dsimp only at hSw); go_simp; try (with_reducible rfl))
            try simp only [Act.put]
            try simp only [List.setIfInBounds_toArray]
            try simp only [List.set_cons_zero, List.set_cons_succ]
            refine wpAnyU_take (i := 32) (d := some 75) (v := ?_) rfl rfl (by kernel_rfl) (by kernel_rfl) (by kernel_rfl) (by kernel_rfl) (fun _ _ _ h => h) (Or.inl ⟨by rfl, ?_⟩) (by assumption) ?_
            rotate_left
            · (intro w hSw; (try dsimp only at hSw); go_simp; try (with_reducible rfl))
            try simp only [Act.put]
            try simp only [List.setIfInBounds_toArray]
            try simp only [List.set_cons_zero, List.set_cons_succ]
            refine wpAnyU_done (by kernel_rfl) ?_
            have HE9 := Lib.hid (HT4.out)
            have HX9 := Lib.hid (HEK2.out.trans' HX4.out)
            have t9 := z4a
            clear z4a z4b z4c
            by_cases hq : q0 = q1
            · have dq : (q0 == q1) = true := by simp [hq]
              obtain ⟨rfl, rfl⟩ := HUN.out (HAN.out.trans (by rw [decide_eq_true hq]; rfl)) A2.out
              clear hq
              go_wp2
              go_ret2
              exact ⟨rfl, HE9.out⟩
            · have dq : (q0 == q1) = false := by simp [hq]
              have HNO : Hid (annB t s ws k = false) := Lib.hid (HAN.out.trans (by rw [decide_eq_false hq]; rfl))
              clear hq
              go_wp2
              go_roundg (m - (k + 1))
              case measure => omega
              case rel =>
                refine ⟨k + 1, by omega, by omega, by omega, by go_num, (show Aside _ from fun i h1 h2 => ?_), (show Ext _ _ from HX9.out)⟩
                by_cases e : i = k
                · subst e; exact HNO.out
                · exact A2.out i h1 (by omega)
        · have hltz : ¬ (k : Int) < (m : Int) := by omega
          obtain ⟨rfl, rfl⟩ := HV5.out (fun i h1 h2 => A2.out i h1 (by omega))
          go_wp2
          go_ret2
          exact ⟨rfl, HEW.out⟩

end Go.Proofs.YtfcpnggdpaeldaaGreat
