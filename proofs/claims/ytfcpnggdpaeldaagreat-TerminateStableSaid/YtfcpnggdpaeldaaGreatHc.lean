import Derived.Test.YtfcpnggdpaeldaaGreatJa
import Derived.Test.YtfcpnggdpaeldaaGreatProg
import Derived.Test.YtfcpnggdpaeldaaGreatGx
import Derived.Test.YtfcpnggdpaeldaaGreatHb
import Derived.Test.YtfcpnggdpaeldaaGreatGy
import Derived.Test.YtfcpnggdpaeldaaGreatGz
import Derived.Test.YtfcpnggdpaeldaaGreatGb
import Derived.BigQuiet
import Derived.Deep.QuietTactic
import Derived.Deep.LoopGhost
import Derived.Shelf.Abstract
import Derived.BigRegion
import Derived.Laws.EntriesVeiled
import Derived.Deep.DeepCutAuto
/-
  Termination in the reference: Has, Idle, Passive, Events, Terminated, Is; Leq of two lists; how many events there are.
-/
namespace Go.Proofs.YtfcpnggdpaeldaaGreat
open Go.RowKit
set_option linter.unusedVariables false
attribute [local go_sem ↓] Go.wp_at_zero Go.wp_at_succ

theorem enters_44 : ∀ args w, (callFunc 44 args).run Tryz.prog w = .ok (.enter 44 args) w := enters_of Tryz.func44 (by kernel_rfl) rfl
theorem enters_75 : ∀ args w, (callFunc 75 args).run Tryz.prog w = .ok (.enter 75 args) w := enters_of Tryz.func75 (by kernel_rfl) rfl
theorem enters_46 : ∀ args w, (callFunc 46 args).run Tryz.prog w = .ok (.enter 46 args) w := enters_of Tryz.func46 (by kernel_rfl) rfl
theorem enters_15 : ∀ args w, (callFunc 15 args).run Tryz.prog w = .ok (.enter 15 args) w := enters_of Tryz.func15 (by kernel_rfl) rfl
theorem enters_42 : ∀ args w, (callFunc 42 args).run Tryz.prog w = .ok (.enter 42 args) w := enters_of Tryz.func42 (by kernel_rfl) rfl


set_option maxHeartbeats 4000000 in
set_option maxRecDepth 100000 in
theorem leq15_calls (va vb : Value) (a b : List Int) (w : World) (ha : Ints w va a) (hb : Ints w vb b) (hl : a.length = b.length) (hn : a.length ≤ 1000000) :
    Calls Tryz.prog 23 #[va, vb] w fun e w' => e = .returned (.bool (leCB a b)) ∧ Ext w w' := by
  have HA := Lib.hid ha
  have HB := Lib.hid hb
  obtain ⟨aa, ac, rfl, hac, _⟩ := ha
  obtain ⟨ba, bc, rfl, hbc, _⟩ := hb
  obtain ⟨R, hR⟩ : ∃ R, leCB a b = R := ⟨_, rfl⟩
  rw [hR]
  have HNO : Hid (∀ p, p < a.length → ¬ a[p]! ≤ b[p]! → R = false) := Lib.hid (fun p hp h => by rw [← hR, Bool.eq_false_iff]; intro e; exact h ((leCB_iff.1 e).2 p hp))
  have HYES : Hid ((∀ p, p < a.length → a[p]! ≤ b[p]!) → R = true) := Lib.hid (fun h => by rw [← hR]; exact leCB_iff.2 ⟨hl, h⟩)
  rw [← hl] at hbc ⊢
  have HBL := Lib.hid hl
  generalize hln : a.length = n at *
  have HL := Lib.hid hln
  clear hR hln hl
  go_enter Tryz.func23, Tryz.ntmps23
  go_wp2
  go_loopg [5] n (fun g s5 wr => ∃ p : Nat, p ≤ n ∧ n - p ≤ g ∧ s5 = .int .i64 p ∧ Aside (∀ q, q < p → a[q]! ≤ b[q]!) ∧ Aside (Ext w wr))
  case atStart => exact ⟨0, Nat.zero_le _, by omega, rfl, (fun j hj => absurd hj (Nat.not_lt_zero _)), Ext.rf _⟩
  case round =>
    obtain ⟨p, hp, hg, rfl, A, HEK⟩ := hrel
    by_cases hlt : p < n
    · have hltz : (p : Int) < (n : Int) := by omega
      have hpz : (0 : Int) ≤ (p : Int) := by omega
      obtain ⟨cb, co, rfl, hcb, hcp⟩ := ints_at HA.out p (by rw [HL.out]; exact hlt)
      obtain ⟨db, dO, rfl, hdb, hdp⟩ := ints_at HB.out p (by rw [← HBL.out]; exact hlt)
      have c1 := HEK.out.cl hcp
      have c2 := HEK.out.cl hdp
      have HNP := Lib.hid (HNO.out p hlt)
      have HP : Hid (a[p]! ≤ b[p]! → ∀ q, q < p + 1 → a[q]! ≤ b[q]!) := Lib.hid (fun h q hq => by
        by_cases e : q = p
        · subst e; exact h
        · exact A.out q (by omega))
      generalize a[p]! = x at *
      generalize b[p]! = y at *
      clear hcp hdp hcb hdb
      by_cases h1 : y < x
      · have d1 : decide (y < x) = true := decide_eq_true h1
        obtain rfl : R = false := HNP.out (by omega)
        clear h1
        go_wp2
        go_quiet (fail)
        go_wp2
        go_ret
        exact ⟨rfl, HEK.out.drN _⟩
      · have d1 : decide (y < x) = false := decide_eq_false h1
        have HPP := Lib.hid (HP.out (by omega))
        clear h1
        go_wp2
        go_quiet (fail)
        go_wp2
        go_roundg (n - (p + 1))
        case measure => omega
        case rel => exact ⟨p + 1, by omega, by omega, by go_num, (show Aside _ from HPP.out), (show Ext _ _ from HEK.out.drN _)⟩
    · have hltz : ¬ (p : Int) < (n : Int) := by omega
      obtain rfl : n = p := by omega
      obtain rfl : R = true := HYES.out A.out
      go_wp2
      go_ret
      exact ⟨rfl, HEK.out⟩

set_option maxHeartbeats 4000000 in
set_option maxRecDepth 100000 in
theorem hasR_calls (v : Value) (t : Tr) (s : ByteArray) (w : World) (h : TrAt w v t) (hv : validT t = true) :
    Calls Tryz.prog 13 #[.agg #[v], .string s] w fun e w' => e = .returned (.bool (hasT t s)) ∧ Ext w w' := by
  have hs := valid_small hv
  have HI := Lib.hid (fun W (hW : Ext w W) p (hp : p < t.length) => indexR_calls v t p s W (h.ext hW) hs.loose hp (hs.2 p hp).1)
  obtain ⟨ta, tc, rfl, htc⟩ := h.sh
  have hn1 := hs.1
  obtain ⟨R, hR⟩ : ∃ R, hasT t s = R := ⟨_, rfl⟩
  rw [hR]
  have HNO : Hid (∀ p, p < t.length → idxV t[p]! s < 0 → R = false) := Lib.hid (fun p hp h => by rw [← hR, Bool.eq_false_iff]; intro e; have := hasT_iff.1 e p hp; omega)
  have HYES : Hid ((∀ p, p < t.length → 0 ≤ idxV t[p]! s) → R = true) := Lib.hid (fun h => by rw [← hR]; exact hasT_iff.2 h)
  generalize hln : t.length = n at *
  have HX0 := Lib.hid (heap_alloc_new w (.cells #[.slice ta n tc] 24))
  have HE1 := Lib.hid ((Ext.rf w).al (.cells #[.slice ta n tc] 24))
  clear h hs hv hR hln htc
  go_enter Tryz.func13, Tryz.ntmps13
  go_wp2
  generalize hw2 : w.alloc (.cells #[.slice ta n tc] 24) = w2 at *
  clear hw2
  go_loopg [5] n (fun g s5 wr => ∃ p : Nat, p ≤ n ∧ n - p ≤ g ∧ s5 = .int .i64 p ∧ Aside (∀ q, q < p → 0 ≤ idxV t[q]! s) ∧ Aside (Ext w2 wr))
  case atStart => exact ⟨0, Nat.zero_le _, by omega, rfl, (fun j hj => absurd hj (Nat.not_lt_zero _)), Ext.rf _⟩
  case round =>
    obtain ⟨p, hp, hg, rfl, A, HEK⟩ := hrel
    have HEW := Lib.hid (HE1.out.trans' HEK.out)
    have HY0 := Lib.hid (HEK.out.hp HX0.out)
    have t0 := cellOf HY0.out 0
    simp only [List.getElem?_toArray, List.getElem?_cons_zero] at t0
    by_cases hlt : p < n
    · have hltz : (p : Int) < (n : Int) := by omega
      have HIP := Lib.hid (HI.out _ HEW.out p hlt)
      have HNP := Lib.hid (HNO.out p hlt)
      have HP : Hid (0 ≤ idxV t[p]! s → ∀ q, q < p + 1 → 0 ≤ idxV t[q]! s) := Lib.hid (fun h q hq => by
        by_cases e : q = p
        · subst e; exact h
        · exact A.out q (by omega))
      generalize idxV t[p]! s = x at *
      go_wp2_with fail
      refine HIP.out.mono ?_
      rintro e w3 ⟨rfl, hX⟩
      have HX3 := Lib.hid (HEK.out.trans' hX)
      have HE3 := Lib.hid (HEW.out.trans' hX)
      clear hX t0
      by_cases h1 : x < 0
      · have d1 : decide (x < 0) = true := decide_eq_true h1
        obtain rfl : R = false := HNP.out h1
        clear h1
        go_wp2
        go_ret
        exact ⟨rfl, HE3.out⟩
      · have d1 : decide (x < 0) = false := decide_eq_false h1
        have HPP := Lib.hid (HP.out (by omega))
        clear h1
        go_wp2
        go_roundg (n - (p + 1))
        case measure => omega
        case rel => exact ⟨p + 1, by omega, by omega, by go_num, (show Aside _ from HPP.out), (show Ext _ _ from HX3.out)⟩
    · have hltz : ¬ (p : Int) < (n : Int) := by omega
      obtain rfl : n = p := by omega
      obtain rfl : R = true := HYES.out A.out
      go_wp2
      go_ret
      exact ⟨rfl, HEW.out⟩

set_option maxHeartbeats 4000000 in
set_option maxRecDepth 100000 in
theorem idleR_calls (v : Value) (t : Tr) (s : ByteArray) (p k : Nat) (w : World) (h : TrAt w v t) (hv : validT t = true) (hh : hasT t s = true) (hp : p < t.length) (hk : k ≤ t[p]!.events.length) :
    Calls Tryz.prog 46 #[.agg #[v], .string s, .int .i64 p, .int .i64 k] w fun e w' => e = .returned (.bool (idleB t s p k)) ∧ Ext w w' := by
  have hs := valid_small hv
  have hi0 := hasT_at hh hp
  have hi1 := (idxV_range t[p]! s).2
  have HI := Lib.hid (fun W (hW : Ext w W) => indexR_calls v t p s W (h.ext hW) hs.loose hp (hs.2 p hp).1)
  obtain ⟨i, hi⟩ : ∃ i : Nat, idxV t[p]! s = (i : Int) := ⟨(idxV t[p]! s).toNat, by omega⟩
  have HV := Lib.hid (fun W (hW : Ext w W) => valueF_calls v t p i k W (h.ext hW) hv hp (by omega) hk)
  have HD : Hid (idleB t s p k = decide (valF t p i k = 0)) := Lib.hid (by unfold idleB; rw [hi, Int.toNat_natCast])
  rw [hi] at HI
  rw [HD.out]
  obtain ⟨ta, tc, rfl, htc⟩ := h.sh
  generalize valF t p i k = x at *
  generalize t.length = n at *
  have HX0 := Lib.hid (heap_alloc_new w (.cells #[.slice ta n tc] 24))
  have HE1 := Lib.hid ((Ext.rf w).al (.cells #[.slice ta n tc] 24))
  have t1 := cellOf HX0.out 0
  simp only [List.getElem?_toArray, List.getElem?_cons_zero] at t1
  clear h hs hv hh hp hk hi hi0 hi1 HD htc
  go_enter Tryz.func46, Tryz.ntmps46
  go_wp2
  generalize hw2 : w.alloc (.cells #[.slice ta n tc] 24) = w2 at *
  clear hw2
  have HE2 := Lib.hid (show Ext w w2.drew from HE1.out.dr)
  have HXX2 := Lib.hid (show Ext w2 w2.drew from (Ext.rf w2).dr)
  have t2 := HXX2.out.cl t1
  refine wp_region_tails (fun w' => w'.cell? ⟨w.heap.size, 0, none⟩ = some (.slice ta n tc)) [] (by kernel_rfl) t2 (fun hHeld => ?_)
  generalize w2.drew = w3 at *
  refine wpAnyU_take (i := 0) (d := some 9) (v := ?_) rfl rfl (by kernel_rfl) (by kernel_rfl) (by kernel_rfl) (by kernel_rfl) (fun _ _ _ h => h) (Or.inl ⟨by rfl, ?_⟩) (by assumption) ?_
  rotate_left
  · (intro w hSw; (try dsimp only at hSw); go_simp; try (with_reducible rfl))
  try simp only [Act.put]
  try simp only [List.setIfInBounds_toArray]
  try simp only [List.set_cons_zero, List.set_cons_succ]
  refine wpAnyU_take (i := 1) (d := some 10) (v := ?_) rfl rfl (by kernel_rfl) (by kernel_rfl) (by kernel_rfl) (by kernel_rfl) (fun _ _ _ h => h) (Or.inl ⟨by rfl, ?_⟩) (by assumption) ?_
  rotate_left
  · (intro w hSw; (try dsimp only at hSw); go_simp; try (with_reducible rfl))
  try simp only [Act.put]
  try simp only [List.setIfInBounds_toArray]
  try simp only [List.set_cons_zero, List.set_cons_succ]
  refine wpAnyU_take (i := 2) (d := some 11) (v := ?_) rfl rfl (by kernel_rfl) (by kernel_rfl) (by kernel_rfl) (by kernel_rfl) (fun _ _ _ h => h) (Or.inl ⟨by rfl, ?_⟩) (by assumption) ?_
  rotate_left
  · (intro w hSw; (try dsimp only at hSw); go_simp; try (with_reducible rfl))
  try simp only [Act.put]
  try simp only [List.setIfInBounds_toArray]
  try simp only [List.set_cons_zero, List.set_cons_succ]
  refine wpAnyU_take (i := 3) (d := some 12) (v := ?_) rfl rfl (by kernel_rfl) (by kernel_rfl) (by kernel_rfl) (by kernel_rfl) (fun _ _ _ h => h) (Or.inl ⟨by rfl, ?_⟩) (by assumption) ?_
  rotate_left
  · (intro w hSw; (try dsimp only at hSw); go_simp; try (with_reducible rfl))
  try simp only [Act.put]
  try simp only [List.setIfInBounds_toArray]
  try simp only [List.set_cons_zero, List.set_cons_succ]
  refine wpAnyU_take (i := 4) (d := some 13) (v := ?_) rfl rfl (by kernel_rfl) (by kernel_rfl) (by kernel_rfl) (by kernel_rfl) (fun _ _ _ h => h) (Or.inl ⟨by rfl, ?_⟩) (by assumption) ?_
  rotate_left
  · (intro w hSw; (try dsimp only at hSw); go_simp; try (with_reducible rfl))
  try simp only [Act.put]
  try simp only [List.setIfInBounds_toArray]
  try simp only [List.set_cons_zero, List.set_cons_succ]
  refine wpAnyU_take (i := 6) (d := some 15) (v := ?_) rfl rfl (by kernel_rfl) (by kernel_rfl) (by kernel_rfl) (by kernel_rfl) (fun _ _ _ h => h) (Or.inl ⟨by rfl, ?_⟩) (by assumption) ?_
  rotate_left
  · (intro w hSw; (try dsimp only at hSw); go_simp; try (with_reducible rfl))
  try simp only [Act.put]
  try simp only [List.setIfInBounds_toArray]
  try simp only [List.set_cons_zero, List.set_cons_succ]
  refine wpAnyU_step (i := 5) (by kernel_rfl) rfl (fun K hK => ?_)
  refine step_callW (by kernel_rfl) 44 _ _ rfl enters_44 [.agg #[.slice ta n tc], .int .i64 p, .string s] (by first | rfl | kernel_rfl | go_simp) (HI.out _ HE2.out) ?_
  rintro e w4 ⟨rfl, hX⟩
  refine ⟨_, rfl, ?_⟩
  have HE4 := Lib.hid (HE2.out.trans' hX)
  have HXX4 := Lib.hid (HXX2.out.trans' hX)
  have t4 := hX.cl t2
  clear hX
  refine hK.out _ _ ?_ (fun hHeld => ?_)
  · (try dsimp only)
    exact t4
  clear hK K
  try simp only [List.getElem_toArray, List.getElem_cons_zero, List.getElem_cons_succ]
  try simp only [Act.put]
  try simp only [List.setIfInBounds_toArray]
  try simp only [List.set_cons_zero, List.set_cons_succ]
  refine wpAnyU_step (i := 7) (by kernel_rfl) rfl (fun K hK => ?_)
  refine step_callW (by kernel_rfl) 75 _ _ rfl enters_75 [.agg #[.slice ta n tc], .int .i64 p, .int .i64 i, .int .i64 k] (by first | rfl | kernel_rfl | go_simp) (HV.out _ HE4.out) ?_
  rintro e w5 ⟨rfl, hX⟩
  refine ⟨_, rfl, ?_⟩
  have HE5 := Lib.hid (HE4.out.trans' hX)
  have HXX5 := Lib.hid (HXX4.out.trans' hX)
  have t5 := hX.cl t4
  clear hX
  refine hK.out _ _ ?_ (fun hHeld => ?_)
  · (try dsimp only)
    exact t5
  clear hK K
  try simp only [List.getElem_toArray, List.getElem_cons_zero, List.getElem_cons_succ]
  try simp only [Act.put]
  try simp only [List.setIfInBounds_toArray]
  try simp only [List.set_cons_zero, List.set_cons_succ]
  obtain ⟨b, hb⟩ : ∃ b, (x == 0) = b := ⟨_, rfl⟩
  have HB : Hid (decide (x = 0) = b) := Lib.hid (by rw [← hb]; by_cases h : x = 0 <;> simp [h])
  refine wpAnyU_take (i := 8) (d := some 17) (v := ?_) rfl rfl (by kernel_rfl) (by kernel_rfl) (by kernel_rfl) (by kernel_rfl) (fun _ _ _ h => h) (Or.inl ⟨by rfl, ?_⟩) (by assumption) ?_
  rotate_left
  · (intro w hSw; (try dsimp only at hSw); go_simp; try (with_reducible rfl))
  try simp only [Act.put]
  try simp only [List.setIfInBounds_toArray]
  try simp only [List.set_cons_zero, List.set_cons_succ]
  refine wpAnyU_take (i := 9) (d := some 8) (v := ?_) rfl rfl (by kernel_rfl) (by kernel_rfl) (by kernel_rfl) (by kernel_rfl) (fun _ _ _ h => h) (Or.inl ⟨by rfl, ?_⟩) (by assumption) ?_
  rotate_left
  · (intro w hSw; (try dsimp only at hSw); go_simp; try (with_reducible rfl))
  try simp only [Act.put]
  try simp only [List.setIfInBounds_toArray]
  try simp only [List.set_cons_zero, List.set_cons_succ]
  refine wpAnyU_done (by kernel_rfl) ?_
  go_wp2
  go_ret
  exact ⟨by rw [HB.out, ← hb]; rfl, HE5.out⟩

set_option maxHeartbeats 4000000 in
set_option maxRecDepth 100000 in
theorem passR_calls (v vc : Value) (t : Tr) (s : ByteArray) (c : List Int) (w : World) (h : TrAt w v t) (hv : validT t = true) (hh : hasT t s = true) (hc : Ints w vc c) (hr : RangeC t c) :
    Calls Tryz.prog 15 #[.agg #[v], .string s, vc] w fun e w' => e = .returned (.bool (passB t s c)) ∧ Ext w w' := by
  have HC := Lib.hid hc
  have hs := valid_small hv
  have HIL := Lib.hid (fun W (hW : Ext w W) p k hp hk => idleR_calls v t s p k W (h.ext hW) hv hh hp hk)
  have HRG := Lib.hid hr
  obtain ⟨ta, tc, rfl, htc⟩ := h.sh
  obtain ⟨ca, cc, rfl, hlc, _⟩ := hc
  have hn1 := hs.1
  obtain ⟨R, hR⟩ : ∃ b, passB t s c = b := ⟨_, rfl⟩
  have HNO : Hid (∀ p, p < t.length → idleB t s p c[p]!.toNat = false → R = false) := Lib.hid (fun p hp hi => hR.symm.trans (passB_no (by rw [hr.1]; exact hp) hi))
  have HYES : Hid ((∀ p, p < t.length → idleB t s p c[p]!.toNat = true) → R = true) := Lib.hid (fun h => hR.symm.trans (passB_iff.2 (fun p hp => h p (by rw [← hr.1]; exact hp))))
  rw [hR]
  rw [hr.1] at hlc ⊢
  have HCL := Lib.hid hr.1
  generalize hln : t.length = n at *
  have HL := Lib.hid hln
  have HX0 := Lib.hid (heap_alloc_new w (.cells #[.slice ta n tc] 24))
  have HE1 := Lib.hid ((Ext.rf w).al (.cells #[.slice ta n tc] 24))
  clear h hs hv hh hR hr hln
  go_enter Tryz.func15, Tryz.ntmps15
  go_wp2
  generalize hw2 : w.alloc (.cells #[.slice ta n tc] 24) = w2 at *
  clear hw2
  go_loopg [7] n (fun g s7 wr => ∃ p : Nat, p ≤ n ∧ n - p ≤ g ∧ s7 = .int .i64 p ∧ Aside (∀ q, q < p → idleB t s q c[q]!.toNat = true) ∧ Aside (Ext w2 wr))
  case atStart => exact ⟨0, Nat.zero_le _, by omega, rfl, (fun j hj => absurd hj (Nat.not_lt_zero _)), Ext.rf _⟩
  case round =>
    obtain ⟨p, hp, hg, rfl, A, HEK⟩ := hrel
    have HEW := Lib.hid (HE1.out.trans' HEK.out)
    have HY0 := Lib.hid (HEK.out.hp HX0.out)
    have t0 := cellOf HY0.out 0
    simp only [List.getElem?_toArray, List.getElem?_cons_zero] at t0
    by_cases hlt : p < n
    · have hltz : (p : Int) < (n : Int) := by omega
      have hpz : (0 : Int) ≤ (p : Int) := by omega
      obtain ⟨cb, co, rfl, hcb, hcp⟩ := ints_at HC.out p (by rw [HCL.out]; exact hlt)
      have c0 := HEW.out.cl hcp
      have hkr := HRG.out.at (p := p) (by rw [HL.out]; exact hlt)
      obtain ⟨k, hk⟩ : ∃ k : Nat, c[p]! = (k : Int) := ⟨c[p]!.toNat, by omega⟩
      rw [hk] at c0 hkr
      have HIK := Lib.hid (fun W (hW : Ext w W) => HIL.out W hW p k hlt (by omega))
      have HNP := Lib.hid (HNO.out p hlt)
      have HP : Hid (idleB t s p c[p]!.toNat = true → ∀ q, q < p + 1 → idleB t s q c[q]!.toNat = true) := Lib.hid (fun h q hq => by
        by_cases e : q = p
        · subst e; exact h
        · exact A.out q (by omega))
      rw [hk, Int.toNat_natCast] at HNP HP
      generalize idleB t s p k = b at *
      clear hcp hkr hcb hk
      go_wp2
      have HE2 := Lib.hid (show Ext w wr.drew from HEW.out.dr)
      have HXX2 := Lib.hid (show Ext w2 wr.drew from HEK.out.dr)
      have t2 := (show Ext wr wr.drew from (Ext.rf wr).dr).cl t0
      have c2 := (show Ext wr wr.drew from (Ext.rf wr).dr).cl c0
      refine wp_region_tails (fun w' => w'.cell? ⟨w.heap.size, 0, none⟩ = some (.slice ta n tc) ∧ w'.cell? ⟨cb, co + p, none⟩ = some (.int .i64 k)) [] (by kernel_rfl) ⟨t2, c2⟩ (fun hHeld => ?_)
      generalize wr.drew = w3 at *
      refine wpAnyU_take (i := 0) (d := some 14) (v := ?_) rfl rfl (by kernel_rfl) (by kernel_rfl) (by kernel_rfl) (by kernel_rfl) (fun _ _ _ h => h) (Or.inl ⟨by rfl, ?_⟩) (by assumption) ?_
      rotate_left
      · (intro w hSw; (try dsimp only at hSw); go_simp; try (with_reducible rfl))
      try simp only [Act.put]
      try simp only [List.setIfInBounds_toArray]
      try simp only [List.set_cons_zero, List.set_cons_succ]
      refine wpAnyU_take (i := 1) (d := some 15) (v := ?_) rfl rfl (by kernel_rfl) (by kernel_rfl) (by kernel_rfl) (by kernel_rfl) (fun _ _ _ h => h) (Or.inl ⟨by rfl, ?_⟩) (by assumption) ?_
      rotate_left
      · (intro w hSw; (try dsimp only at hSw); go_simp; try (with_reducible rfl))
      try simp only [Act.put]
      try simp only [List.setIfInBounds_toArray]
      try simp only [List.set_cons_zero, List.set_cons_succ]
      refine wpAnyU_take (i := 2) (d := some 16) (v := ?_) rfl rfl (by kernel_rfl) (by kernel_rfl) (by kernel_rfl) (by kernel_rfl) (fun _ _ _ h => h) (Or.inl ⟨by rfl, ?_⟩) (by assumption) ?_
      rotate_left
      · (intro w hSw; (try dsimp only at hSw); go_simp; try (with_reducible rfl))
      try simp only [Act.put]
      try simp only [List.setIfInBounds_toArray]
      try simp only [List.set_cons_zero, List.set_cons_succ]
      refine wpAnyU_take (i := 3) (d := some 17) (v := ?_) rfl rfl (by kernel_rfl) (by kernel_rfl) (by kernel_rfl) (by kernel_rfl) (fun _ _ _ h => h) (Or.inl ⟨by rfl, ?_⟩) (by assumption) ?_
      rotate_left
      · (intro w hSw; (try dsimp only at hSw); go_simp; try (with_reducible rfl))
      try simp only [Act.put]
      try simp only [List.setIfInBounds_toArray]
      try simp only [List.set_cons_zero, List.set_cons_succ]
      refine wpAnyU_take (i := 4) (d := some 18) (v := ?_) rfl rfl (by kernel_rfl) (by kernel_rfl) (by kernel_rfl) (by kernel_rfl) (fun _ _ _ h => h) (Or.inl ⟨by rfl, ?_⟩) (by assumption) ?_
      rotate_left
      · (intro w hSw; (try dsimp only at hSw); go_simp; try (with_reducible rfl))
      try simp only [Act.put]
      try simp only [List.setIfInBounds_toArray]
      try simp only [List.set_cons_zero, List.set_cons_succ]
      refine wpAnyU_take (i := 5) (d := some 19) (v := ?_) rfl rfl (by kernel_rfl) (by kernel_rfl) (by kernel_rfl) (by kernel_rfl) (fun _ _ _ h => h) (Or.inl ⟨by rfl, ?_⟩) (by assumption) ?_
      rotate_left
      · (intro w hSw; (try dsimp only at hSw); go_simp; try (with_reducible rfl))
      try simp only [Act.put]
      try simp only [List.setIfInBounds_toArray]
      try simp only [List.set_cons_zero, List.set_cons_succ]
      refine wpAnyU_take (i := 6) (d := some 20) (v := ?_) rfl rfl (by kernel_rfl) (by kernel_rfl) (by kernel_rfl) (by kernel_rfl) (fun _ _ _ h => h) (Or.inl ⟨by rfl, ?_⟩) (by assumption) ?_
      rotate_left
      · (intro w hSw; (try dsimp only at hSw); go_simp; try (with_reducible rfl))
      try simp only [Act.put]
      try simp only [List.setIfInBounds_toArray]
      try simp only [List.set_cons_zero, List.set_cons_succ]
      refine wpAnyU_step (i := 7) (by kernel_rfl) rfl (fun K hK => ?_)
      refine step_callW (by kernel_rfl) 46 _ _ rfl enters_46 [.agg #[.slice ta n tc], .string s, .int .i64 p, .int .i64 k] (by first | rfl | kernel_rfl | go_simp) (HIK.out _ HE2.out) ?_
      rintro e w4 ⟨rfl, hX⟩
      refine ⟨_, rfl, ?_⟩
      have HE4 := Lib.hid (HE2.out.trans' hX)
      have HXX4 := Lib.hid (HXX2.out.trans' hX)
      have t4 := hX.cl t2
      have c4 := hX.cl c2
      clear hX
      refine hK.out _ _ ?_ (fun hHeld => ?_)
      · (try dsimp only)
        exact ⟨t4, c4⟩
      clear hK K
      try simp only [List.getElem_toArray, List.getElem_cons_zero, List.getElem_cons_succ]
      try simp only [Act.put]
      try simp only [List.setIfInBounds_toArray]
      try simp only [List.set_cons_zero, List.set_cons_succ]
      refine wpAnyU_take (i := 8) (d := some 22) (v := ?_) rfl rfl (by kernel_rfl) (by kernel_rfl) (by kernel_rfl) (by kernel_rfl) (fun _ _ _ h => h) (Or.inl ⟨by rfl, ?_⟩) (by assumption) ?_
      rotate_left
      · (intro w hSw; (try dsimp only at hSw); go_simp; try (with_reducible rfl))
      try simp only [Act.put]
      try simp only [List.setIfInBounds_toArray]
      try simp only [List.set_cons_zero, List.set_cons_succ]
      refine wpAnyU_done (by kernel_rfl) ?_
      clear t0 c0 t2 c2 t4 c4
      cases b with
      | false =>
        obtain rfl : R = false := HNP.out rfl
        go_wp2
        go_ret
        exact ⟨rfl, HE4.out⟩
      | true =>
        have HPP := Lib.hid (HP.out rfl)
        go_wp2
        go_roundg (n - (p + 1))
        case measure => omega
        case rel => exact ⟨p + 1, by omega, by omega, by go_num, (show Aside _ from HPP.out), (show Ext _ _ from HXX4.out)⟩
    · have hltz : ¬ (p : Int) < (n : Int) := by omega
      obtain rfl : n = p := by omega
      obtain rfl : R = true := HYES.out A.out
      go_wp2
      go_ret
      exact ⟨rfl, HEW.out⟩

set_option maxHeartbeats 8000000 in
set_option maxRecDepth 100000 in
theorem eventsR_calls (v vc : Value) (t : Tr) (c : List Int) (kd : Int) (w : World) (h : TrAt w v t) (hv : validT t = true) (hc : Ints w vc c) (hr : RangeC t c) :
    Calls Tryz.prog 42 #[.agg #[v], .int .i64 kd, vc] w fun e w' => e = .returned (.int .i64 (cntE t kd c)) ∧ Ext w w' := by
  have HT := Lib.hid h
  have HC := Lib.hid hc
  have hs := valid_small hv
  have HR := Lib.hid hr
  have hn8 := ((shapeB_parts2.1 (validT_parts2.1 hv).1).2.1)
  have HE64 : Hid (∀ p, p < t.length → t[p]!.events.length ≤ 64) := Lib.hid (fun p hp => (headB_parts.1 ((shapeB_parts2.1 (validT_parts2.1 hv).1).2.2.1 p hp)).2.2.2.2)
  obtain ⟨ta, tc, rfl, htc⟩ := h.sh
  obtain ⟨ca, cc, rfl, hlc, _⟩ := hc
  have HCE : Hid (cntE t kd c = ((cntTo t kd c t.length 0 : Nat) : Int)) := Lib.hid (by unfold cntE; rw [hr.1])
  obtain ⟨Z, hZ⟩ : ∃ Z, cntE t kd c = Z := ⟨_, rfl⟩
  rw [hZ] at HCE ⊢
  rw [hr.1] at hlc ⊢
  have HCL := Lib.hid hr.1
  generalize hln : t.length = n at *
  have HL := Lib.hid hln
  have HX0 := Lib.hid (heap_alloc_new w (.cells #[.slice ta n tc] 24))
  have HE1 := Lib.hid ((Ext.rf w).al (.cells #[.slice ta n tc] 24))
  clear h hs hln hr hv hZ
  go_enter Tryz.func42, Tryz.ntmps42
  go_wp2
  generalize hw3 : w.alloc (.cells #[.slice ta n tc] 24) = w3 at *
  clear hw3
  go_loopg [7, 8] n (fun g s7 s8 wr => ∃ p : Nat, p ≤ n ∧ n - p ≤ g ∧ s8 = .int .i64 p ∧ (∃ q : Nat, s7 = .int .i64 q ∧ q ≤ 64 * p ∧ Aside (cntTo t kd c p 0 = q)) ∧ wr = w3)
  case atStart => exact ⟨0, Nat.zero_le _, by omega, rfl, ⟨0, rfl, by omega, (show Aside _ from cntTo_zero t kd c)⟩, rfl⟩
  case round =>
    obtain ⟨p, hp, hg, rfl, ⟨q, rfl, hq, A⟩, rfl⟩ := hrel
    have t0 := cellOf HX0.out 0
    simp only [List.getElem?_toArray, List.getElem?_cons_zero] at t0
    by_cases hlt : p < n
    · have hltz : (p : Int) < (n : Int) := by omega
      have hpz : (0 : Int) ≤ (p : Int) := by omega
      obtain ⟨B, O, C, vv, ve, hve, hlC, hB, hn0, hv0, he0, hV, hE0⟩ := proc_at HT.out p (by rw [HL.out]; exact hlt)
      simp only [Value.slice.injEq] at hve
      obtain ⟨rfl, hzz, rfl⟩ := hve
      have HEV := Lib.hid hE0
      obtain ⟨ea, ec, rfl, hec⟩ := hE0.sh
      obtain ⟨cb, co, rfl, hcb, hcp⟩ := ints_at HC.out p (by rw [HCL.out]; exact hlt)
      have he1 := HE1.out.cl he0
      have hc1 := HE1.out.cl hcp
      have hkr := HR.out.at (by rw [HL.out]; exact hlt)
      have hen := HE64.out p hlt
      generalize hne : t[p]!.events.length = ne at *
      have HNE := Lib.hid hne
      obtain ⟨k, hk⟩ : ∃ k : Nat, c[p]! = (k : Int) := ⟨c[p]!.toNat, by omega⟩
      rw [hk] at hc1 hkr
      have HK := Lib.hid hk
      have hkm : k ≤ 64 := by omega
      have HKN := Lib.hid (show k ≤ ne from by omega)
      clear hn0 hv0 hV hE0 hzz hne he0 hk hcp hkr
      go_wp2
      go_loopg [7, 9] k (fun g2 s7 s9 wx => ∃ i : Nat, i ≤ k ∧ k - i ≤ g2 ∧ s9 = .int .i64 i ∧ (∃ q : Nat, s7 = .int .i64 q ∧ q ≤ 64 * p + i ∧ Aside (cntTo t kd c p i = q)) ∧ wx = wr)
      case atStart => exact ⟨0, Nat.zero_le _, by omega, rfl, ⟨q, rfl, by omega, A⟩, rfl⟩
      case round =>
        obtain ⟨i, hi, hg2, rfl, ⟨q2, rfl, hq2, A2⟩, rfl⟩ := hrel
        by_cases hli : i < k
        · have hliz : (i : Int) < (k : Int) := by omega
          have hiz : (0 : Int) ≤ (i : Int) := by omega
          have hqm : q2 ≤ 1000000 := by omega
          have hine : (i : Int) < (ne : Int) := by have := HKN.out; omega
          obtain ⟨EB, EO, EC, va, hee, hlE, hEB, k0, k1, k2, k3, k4, ha⟩ := event_at HEV.out i (by rw [HNE.out]; have := HKN.out; omega)
          simp only [Value.slice.injEq] at hee
          obtain ⟨rfl, hzz, rfl⟩ := hee
          have m0 := HE1.out.cl k0
          have HEVE : Hid (ev t (p, i) = t[p]!.events[i]!) := Lib.hid rfl
          generalize t[p]!.events[i]! = y at *
          clear k0 k1 k2 k3 k4 hzz ha
          obtain ⟨ck, hck⟩ : ∃ b, (y.kind == kd) = b := ⟨_, rfl⟩
          have HCK := Lib.hid hck
          cases ck with
          | false =>
            have HSB := Lib.hid (cntTo_miss (t := t) (kd := kd) (c := c) (p := p) (i := i) (by rw [HEVE.out]; have := HCK.out; simpa using this))
            go_wp2
            go_roundg (k - (i + 1))
            case measure => omega
            case rel => exact ⟨i + 1, by omega, by omega, by go_num, ⟨q2, rfl, by omega, (show Aside _ from HSB.out.trans A2.out)⟩, rfl⟩
          | true =>
            have HSB := Lib.hid (cntTo_hit (t := t) (kd := kd) (c := c) (p := p) (i := i) (by rw [HEVE.out]; have := HCK.out; simpa using this))
            go_wp2
            go_roundg (k - (i + 1))
            case measure => omega
            case rel => exact ⟨i + 1, by omega, by omega, by go_num, ⟨q2 + 1, by go_num, by omega, (show Aside _ from HSB.out.trans (congrArg (· + 1) A2.out))⟩, rfl⟩
        · have hliz : ¬ (i : Int) < (k : Int) := by omega
          obtain rfl : k = i := by omega
          go_wp2
          go_roundg (n - (p + 1))
          case measure => omega
          case rel =>
            exact ⟨p + 1, by omega, by omega, by go_num, ⟨q2, rfl, by omega, (show Aside _ from by rw [← A2.out]; exact (cntTo_next (by rw [HK.out]; simp)).symm)⟩, rfl⟩
    · have hltz : ¬ (p : Int) < (n : Int) := by omega
      obtain rfl : n = p := by omega
      obtain rfl : Z = (q : Int) := by rw [HCE.out, A.out]
      go_wp2
      go_ret
      exact ⟨rfl, HE1.out⟩

end Go.Proofs.YtfcpnggdpaeldaaGreat

/-
  An empty row, and a copy by append to it. No function is named here.
-/
namespace Go.Proofs.YtfcpnggdpaeldaaGreat
open Go.RowKit
set_option linter.unusedVariables false

/-! ### A copy by 'append([]int{}, c...)' -/
theorem row_empty (w : World) (e : TypeId) (size : Nat) : Row (w.alloc (.cells #[] e)) w.heap.size e size (.slice (some ⟨w.heap.size, 0, none⟩) 0 0) 0 [] :=
  ⟨by simp, .inr ⟨w.heap.size, 0, 0, #[], rfl, Nat.le_refl _, heap_alloc_new w _, Nat.le_refl _, Nat.zero_le _, by simp, by simp⟩⟩
theorem ints_news {w W : World} {a : Option Addr} {m c : Nat} {l : List Int} (h : Ints w (.slice a m c) l) (hX : Ext w W) : 0 < m → ∃ ad, a = some ad ∧ ∀ (j : Nat) u, (l.map (Value.int .i64))[j]? = some u → W.cell? (ad.add j) = some u := by
  intro hm
  obtain ⟨a', c', he, _, hh⟩ := h
  simp only [Value.slice.injEq] at he
  obtain ⟨rfl, rfl, rfl⟩ := he
  obtain ⟨b, off, rfl, hb, hc⟩ := hh (by rintro rfl; simp at hm)
  refine ⟨_, rfl, fun j u hj => ?_⟩
  rw [List.getElem?_map] at hj
  cases hl : l[j]? with
  | none => rw [hl] at hj; cases hj
  | some x =>
    rw [hl] at hj
    simp only [Option.map_some, Option.some.injEq] at hj
    obtain ⟨hlt, hx⟩ := List.getElem?_eq_some_iff.1 hl
    rw [Addr.add_lit]
    have := hX.cl (hc j hlt)
    rw [this, getElem!_pos l j hlt, hx, hj]

end Go.Proofs.YtfcpnggdpaeldaaGreat
