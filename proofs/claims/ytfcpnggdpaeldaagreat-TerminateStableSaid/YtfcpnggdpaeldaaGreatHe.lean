import Derived.Test.YtfcpnggdpaeldaaGreatJa
import Derived.Test.YtfcpnggdpaeldaaGreatProg
import Derived.Test.YtfcpnggdpaeldaaGreatHd
import Derived.Test.YtfcpnggdpaeldaaGreatGz
import Derived.Test.YtfcpnggdpaeldaaGreatGy
import Derived.BigQuiet
import Derived.Deep.QuietTactic
import Derived.Deep.LoopGhost
import Derived.Shelf.Abstract
import Derived.Deep.DeepCutAuto
/-
  Termination in the reference: Terminated, Is, Ordered and Driven.
-/
namespace Go.Proofs.YtfcpnggdpaeldaaGreat
open Go.RowKit
set_option linter.unusedVariables false
attribute [local go_sem ↓] Go.wp_at_zero Go.wp_at_succ

theorem enters_68 : ∀ args w, (callFunc 68 args).run Tryz.prog w = .ok (.enter 68 args) w := enters_of Tryz.func68 (by kernel_rfl) rfl
theorem enters_23 : ∀ args w, (callFunc 23 args).run Tryz.prog w = .ok (.enter 23 args) w := enters_of Tryz.func23 (by kernel_rfl) rfl
theorem enters_40 : ∀ args w, (callFunc 40 args).run Tryz.prog w = .ok (.enter 40 args) w := enters_of Tryz.func40 (by kernel_rfl) rfl


set_option maxHeartbeats 4000000 in
set_option maxRecDepth 100000 in
theorem termR_calls (v vc : Value) (t : Tr) (s : ByteArray) (c : List Int) (w : World) (h : TrAt w v t) (hv : validT t = true) (hh : hasT t s = true) (hc : Ints w vc c) (hr : RangeC t c) :
    Calls Tryz.prog 16 #[.agg #[v], .string s, vc] w fun e w' => e = .returned (.bool (termB t s c)) ∧ Ext w w' := by
  have HKC := Lib.hid (fun W (hW : Ext w W) => passR_calls v vc t s c W (h.ext hW) hv hh (hc.ext hW) hr)
  have HN2 := Lib.hid (fun W (hW : Ext w W) => eventsR_calls v vc t c 2 W (h.ext hW) hv (hc.ext hW) hr)
  have HN3 := Lib.hid (fun W (hW : Ext w W) => eventsR_calls v vc t c 3 W (h.ext hW) hv (hc.ext hW) hr)
  have HDB : Hid (termB t s c = (passB t s c && decide (cntE t 2 c = cntE t 3 c))) := Lib.hid rfl
  obtain ⟨ta, tc, rfl, htc⟩ := h.sh
  obtain ⟨ca, cc, rfl, hlc, _⟩ := hc
  obtain ⟨R, hR⟩ : ∃ R, termB t s c = R := ⟨_, rfl⟩
  rw [hR] at HDB ⊢
  generalize passB t s c = P at *
  generalize cntE t 2 c = z2 at *
  generalize cntE t 3 c = z3 at *
  generalize t.length = n at *
  generalize c.length = m at *
  have HY1 := Lib.hid (heap_alloc_new w (.cells #[.slice ta n tc] 24))
  have HE1 := Lib.hid ((Ext.rf w).al (.cells #[.slice ta n tc] 24))
  have t1 := cellOf HY1.out 0
  simp only [List.getElem?_toArray, List.getElem?_cons_zero] at t1
  clear h hR hlc htc hv hh hr
  go_enter Tryz.func16, Tryz.ntmps16
  go_wp2
  generalize hw1 : w.alloc (.cells #[.slice ta n tc] 24) = w1 at *
  clear hw1
  have HE2 := Lib.hid (show Ext w w1.drew from HE1.out.dr)
  have t2 := (show Ext w1 w1.drew from (Ext.rf w1).dr).cl t1
  refine wp_region_tails (fun w' => w'.cell? ⟨w.heap.size, 0, none⟩ = some (.slice ta n tc)) [] (by kernel_rfl) t2 (fun hHeld => ?_)
  generalize w1.drew = w2 at *
  refine wpAnyU_take (i := 0) (d := some 7) (v := ?_) rfl rfl (by kernel_rfl) (by kernel_rfl) (by kernel_rfl) (by kernel_rfl) (fun _ _ _ h => h) (Or.inl ⟨by rfl, ?_⟩) (by assumption) ?_
  rotate_left
  · (intro w hSw; (try dsimp only at hSw); go_simp; try (with_reducible rfl))
  try simp only [Act.put]
  try simp only [List.setIfInBounds_toArray]
  try simp only [List.set_cons_zero, List.set_cons_succ]
  refine wpAnyU_take (i := 1) (d := some 8) (v := ?_) rfl rfl (by kernel_rfl) (by kernel_rfl) (by kernel_rfl) (by kernel_rfl) (fun _ _ _ h => h) (Or.inl ⟨by rfl, ?_⟩) (by assumption) ?_
  rotate_left
  · (intro w hSw; (try dsimp only at hSw); go_simp; try (with_reducible rfl))
  try simp only [Act.put]
  try simp only [List.setIfInBounds_toArray]
  try simp only [List.set_cons_zero, List.set_cons_succ]
  refine wpAnyU_take (i := 2) (d := some 9) (v := ?_) rfl rfl (by kernel_rfl) (by kernel_rfl) (by kernel_rfl) (by kernel_rfl) (fun _ _ _ h => h) (Or.inl ⟨by rfl, ?_⟩) (by assumption) ?_
  rotate_left
  · (intro w hSw; (try dsimp only at hSw); go_simp; try (with_reducible rfl))
  try simp only [Act.put]
  try simp only [List.setIfInBounds_toArray]
  try simp only [List.set_cons_zero, List.set_cons_succ]
  refine wpAnyU_step (i := 3) (by kernel_rfl) rfl (fun K hK => ?_)
  refine step_callW (by kernel_rfl) 15 _ _ rfl enters_15 [.agg #[.slice ta n tc], .string s, .slice ca m cc] (by first | rfl | kernel_rfl | go_simp) (HKC.out _ HE2.out) ?_
  rintro e w3 ⟨rfl, hX⟩
  refine ⟨_, rfl, ?_⟩
  have HE3 := Lib.hid (HE2.out.trans' hX)
  have t3 := hX.cl t2
  clear hX
  refine hK.out _ _ ?_ (fun hHeld => ?_)
  · (try dsimp only)
    exact t3
  clear hK K
  try simp only [List.getElem_toArray, List.getElem_cons_zero, List.getElem_cons_succ]
  try simp only [Act.put]
  try simp only [List.setIfInBounds_toArray]
  try simp only [List.set_cons_zero, List.set_cons_succ]
  refine wpAnyU_take (i := 4) (d := some 11) (v := ?_) rfl rfl (by kernel_rfl) (by kernel_rfl) (by kernel_rfl) (by kernel_rfl) (fun _ _ _ h => h) (Or.inl ⟨by rfl, ?_⟩) (by assumption) ?_
  rotate_left
  · (intro w hSw; (try dsimp only at hSw); go_simp; try (with_reducible rfl))
  try simp only [Act.put]
  try simp only [List.setIfInBounds_toArray]
  try simp only [List.set_cons_zero, List.set_cons_succ]
  cases P with
  | false =>
    obtain rfl : R = false := HDB.out
    refine wpAnyU_take (i := 5) (d := some 12) (v := undef) rfl rfl (by kernel_rfl) (by kernel_rfl) (by kernel_rfl) (by kernel_rfl) (fun _ _ _ h => h) (Or.inr ⟨by rfl, rfl⟩) (by assumption) ?_
    try simp only [Act.put]
    try simp only [List.setIfInBounds_toArray]
    try simp only [List.set_cons_zero, List.set_cons_succ]
    refine wpAnyU_take (i := 6) (d := some 13) (v := undef) rfl rfl (by kernel_rfl) (by kernel_rfl) (by kernel_rfl) (by kernel_rfl) (fun _ _ _ h => h) (Or.inr ⟨by rfl, rfl⟩) (by assumption) ?_
    try simp only [Act.put]
    try simp only [List.setIfInBounds_toArray]
    try simp only [List.set_cons_zero, List.set_cons_succ]
    refine wpAnyU_take (i := 7) (d := some 14) (v := undef) rfl rfl (by kernel_rfl) (by kernel_rfl) (by kernel_rfl) (by kernel_rfl) (fun _ _ _ h => h) (Or.inr ⟨by rfl, rfl⟩) (by assumption) ?_
    try simp only [Act.put]
    try simp only [List.setIfInBounds_toArray]
    try simp only [List.set_cons_zero, List.set_cons_succ]
    refine wpAnyU_take (i := 8) (d := some 15) (v := undef) rfl rfl (by kernel_rfl) (by kernel_rfl) (by kernel_rfl) (by kernel_rfl) (fun _ _ _ h => h) (Or.inr ⟨by rfl, rfl⟩) (by assumption) ?_
    try simp only [Act.put]
    try simp only [List.setIfInBounds_toArray]
    try simp only [List.set_cons_zero, List.set_cons_succ]
    refine wpAnyU_take (i := 9) (d := some 16) (v := undef) rfl rfl (by kernel_rfl) (by kernel_rfl) (by kernel_rfl) (by kernel_rfl) (fun _ _ _ h => h) (Or.inr ⟨by rfl, rfl⟩) (by assumption) ?_
    try simp only [Act.put]
    try simp only [List.setIfInBounds_toArray]
    try simp only [List.set_cons_zero, List.set_cons_succ]
    refine wpAnyU_take (i := 10) (d := some 17) (v := undef) rfl rfl (by kernel_rfl) (by kernel_rfl) (by kernel_rfl) (by kernel_rfl) (fun _ _ _ h => h) (Or.inr ⟨by rfl, rfl⟩) (by assumption) ?_
    try simp only [Act.put]
    try simp only [List.setIfInBounds_toArray]
    try simp only [List.set_cons_zero, List.set_cons_succ]
    refine wpAnyU_take (i := 11) (d := some 18) (v := undef) rfl rfl (by kernel_rfl) (by kernel_rfl) (by kernel_rfl) (by kernel_rfl) (fun _ _ _ h => h) (Or.inr ⟨by rfl, rfl⟩) (by assumption) ?_
    try simp only [Act.put]
    try simp only [List.setIfInBounds_toArray]
    try simp only [List.set_cons_zero, List.set_cons_succ]
    refine wpAnyU_take (i := 12) (d := some 19) (v := ?_) rfl rfl (by kernel_rfl) (by kernel_rfl) (by kernel_rfl) (by kernel_rfl) (fun _ _ _ h => h) (Or.inl ⟨by rfl, ?_⟩) (by assumption) ?_
    rotate_left
    · (intro w hSw; (try dsimp only at hSw); go_simp; try (with_reducible rfl))
    try simp only [Act.put]
    try simp only [List.setIfInBounds_toArray]
    try simp only [List.set_cons_zero, List.set_cons_succ]
    refine wpAnyU_take (i := 13) (d := some 6) (v := ?_) rfl rfl (by kernel_rfl) (by kernel_rfl) (by kernel_rfl) (by kernel_rfl) (fun _ _ _ h => h) (Or.inl ⟨by rfl, ?_⟩) (by assumption) ?_
    rotate_left
    · (intro w hSw; (try dsimp only at hSw); go_simp; try (with_reducible rfl))
    try simp only [Act.put]
    try simp only [List.setIfInBounds_toArray]
    try simp only [List.set_cons_zero, List.set_cons_succ]
    refine wpAnyU_done (by kernel_rfl) ?_
    go_wp2
    go_ret
    exact ⟨rfl, HE3.out⟩
  | true =>
    refine wpAnyU_take (i := 5) (d := some 12) (v := ?_) rfl rfl (by kernel_rfl) (by kernel_rfl) (by kernel_rfl) (by kernel_rfl) (fun _ _ _ h => h) (Or.inl ⟨by rfl, ?_⟩) (by assumption) ?_
    rotate_left
    · (intro w hSw; (try dsimp only at hSw); go_simp; try (with_reducible rfl))
    try simp only [Act.put]
    try simp only [List.setIfInBounds_toArray]
    try simp only [List.set_cons_zero, List.set_cons_succ]
    refine wpAnyU_take (i := 6) (d := some 13) (v := ?_) rfl rfl (by kernel_rfl) (by kernel_rfl) (by kernel_rfl) (by kernel_rfl) (fun _ _ _ h => h) (Or.inl ⟨by rfl, ?_⟩) (by assumption) ?_
    rotate_left
    · (intro w hSw; (try dsimp only at hSw); go_simp; try (with_reducible rfl))
    try simp only [Act.put]
    try simp only [List.setIfInBounds_toArray]
    try simp only [List.set_cons_zero, List.set_cons_succ]
    refine wpAnyU_take (i := 8) (d := some 15) (v := ?_) rfl rfl (by kernel_rfl) (by kernel_rfl) (by kernel_rfl) (by kernel_rfl) (fun _ _ _ h => h) (Or.inl ⟨by rfl, ?_⟩) (by assumption) ?_
    rotate_left
    · (intro w hSw; (try dsimp only at hSw); go_simp; try (with_reducible rfl))
    try simp only [Act.put]
    try simp only [List.setIfInBounds_toArray]
    try simp only [List.set_cons_zero, List.set_cons_succ]
    refine wpAnyU_take (i := 9) (d := some 16) (v := ?_) rfl rfl (by kernel_rfl) (by kernel_rfl) (by kernel_rfl) (by kernel_rfl) (fun _ _ _ h => h) (Or.inl ⟨by rfl, ?_⟩) (by assumption) ?_
    rotate_left
    · (intro w hSw; (try dsimp only at hSw); go_simp; try (with_reducible rfl))
    try simp only [Act.put]
    try simp only [List.setIfInBounds_toArray]
    try simp only [List.set_cons_zero, List.set_cons_succ]
    refine wpAnyU_step (i := 7) (by kernel_rfl) rfl (fun K hK => ?_)
    refine step_callW (by kernel_rfl) 42 _ _ rfl enters_42 [.agg #[.slice ta n tc], .int .i64 2, .slice ca m cc] (by first | rfl | kernel_rfl | go_simp) (HN2.out _ HE3.out) ?_
    rintro e w4 ⟨rfl, hX⟩
    refine ⟨_, rfl, ?_⟩
    have HE4 := Lib.hid (HE3.out.trans' hX)
    have t4 := hX.cl t3
    clear hX
    refine hK.out _ _ ?_ (fun hHeld => ?_)
    · (try dsimp only)
      exact t4
    clear hK K
    try simp only [List.getElem_toArray, List.getElem_cons_zero, List.getElem_cons_succ]
    try simp only [Act.put]
    try simp only [List.setIfInBounds_toArray]
    try simp only [List.set_cons_zero, List.set_cons_succ]
    refine wpAnyU_step (i := 10) (by kernel_rfl) rfl (fun K hK => ?_)
    refine step_callW (by kernel_rfl) 42 _ _ rfl enters_42 [.agg #[.slice ta n tc], .int .i64 3, .slice ca m cc] (by first | rfl | kernel_rfl | go_simp) (HN3.out _ HE4.out) ?_
    rintro e w5 ⟨rfl, hX⟩
    refine ⟨_, rfl, ?_⟩
    have HE5 := Lib.hid (HE4.out.trans' hX)
    have t5 := hX.cl t4
    clear hX
    refine hK.out _ _ ?_ (fun hHeld => ?_)
    · (try dsimp only)
      exact t5
    clear hK K
    try simp only [List.getElem_toArray, List.getElem_cons_zero, List.getElem_cons_succ]
    try simp only [Act.put]
    try simp only [List.setIfInBounds_toArray]
    try simp only [List.set_cons_zero, List.set_cons_succ]
    refine wpAnyU_take (i := 11) (d := some 18) (v := ?_) rfl rfl (by kernel_rfl) (by kernel_rfl) (by kernel_rfl) (by kernel_rfl) (fun _ _ _ h => h) (Or.inl ⟨by rfl, ?_⟩) (by assumption) ?_
    rotate_left
    · (intro w hSw; (try dsimp only at hSw); go_simp; try (with_reducible rfl))
    try simp only [Act.put]
    try simp only [List.setIfInBounds_toArray]
    try simp only [List.set_cons_zero, List.set_cons_succ]
    refine wpAnyU_take (i := 12) (d := some 19) (v := ?_) rfl rfl (by kernel_rfl) (by kernel_rfl) (by kernel_rfl) (by kernel_rfl) (fun _ _ _ h => h) (Or.inl ⟨by rfl, ?_⟩) (by assumption) ?_
    rotate_left
    · (intro w hSw; (try dsimp only at hSw); go_simp; try (with_reducible rfl))
    try simp only [Act.put]
    try simp only [List.setIfInBounds_toArray]
    try simp only [List.set_cons_zero, List.set_cons_succ]
    refine wpAnyU_take (i := 13) (d := some 6) (v := ?_) rfl rfl (by kernel_rfl) (by kernel_rfl) (by kernel_rfl) (by kernel_rfl) (fun _ _ _ h => h) (Or.inl ⟨by rfl, ?_⟩) (by assumption) ?_
    rotate_left
    · (intro w hSw; (try dsimp only at hSw); go_simp; try (with_reducible rfl))
    try simp only [Act.put]
    try simp only [List.setIfInBounds_toArray]
    try simp only [List.set_cons_zero, List.set_cons_succ]
    refine wpAnyU_done (by kernel_rfl) ?_
    go_wp2
    go_ret
    refine ⟨?_, HE5.out⟩
    rw [HDB.out]
    by_cases h : z2 = z3 <;> simp [h]

set_option maxHeartbeats 4000000 in
set_option maxRecDepth 100000 in
theorem is23_calls (v vc : Value) (t : Tr) (c : List Int) (w : World) (h : TrAt w v t) (hv : validT t = true) (hc : Ints w vc c) :
    Calls Tryz.prog 45 #[.agg #[v], vc] w fun e w' => e = .returned (.bool (consB t c)) ∧ Ext w w' := by
  have hs := valid_small hv
  have HCC := Lib.hid (fun W (hW : Ext w W) => cutR_calls v vc t c W (h.ext hW) hs (hc.ext hW))
  have HKC := Lib.hid (fun W (hW : Ext w W) hr => consR_calls v vc t c W (h.ext hW) hv (hc.ext hW) hr)
  have HRG : Hid ((fitsB t c && rangeB t c) = true → RangeC t c) := Lib.hid (fun h => rngB_iff.1 h)
  have HDB : Hid (consB t c = ((fitsB t c && rangeB t c) && (missE t c).isNone)) := Lib.hid (by unfold consB; rw [hv, Bool.true_and, Bool.and_assoc])
  obtain ⟨ta, tc, rfl, htc⟩ := h.sh
  obtain ⟨ca, cc, rfl, hlc, _⟩ := hc
  obtain ⟨R, hR⟩ : ∃ R, consB t c = R := ⟨_, rfl⟩
  rw [hR] at HDB ⊢
  generalize (fitsB t c && rangeB t c) = a at *
  generalize (missE t c).isNone = b at *
  generalize t.length = n at *
  generalize c.length = m at *
  have HY1 := Lib.hid (heap_alloc_new w (.cells #[.slice ta n tc] 24))
  have HE1 := Lib.hid ((Ext.rf w).al (.cells #[.slice ta n tc] 24))
  clear h hs hR hlc htc hv
  go_enter Tryz.func45, Tryz.ntmps45
  go_wp2_with fail
  refine (HCC.out _ HE1.out).mono ?_
  rintro e w2 ⟨rfl, hX⟩
  have HE2 := Lib.hid (HE1.out.trans' hX)
  have HY2 := Lib.hid (hX.hp HY1.out)
  have t2 := cellOf HY2.out 0
  simp only [List.getElem?_toArray, List.getElem?_cons_zero] at t2
  clear hX
  cases a with
  | false =>
    obtain rfl : R = false := HDB.out
    go_wp2
    go_ret
    exact ⟨rfl, HE2.out⟩
  | true =>
    have HR2 := Lib.hid (HRG.out (by trivial))
    go_wp2_with fail
    refine (HKC.out _ HE2.out HR2.out).mono ?_
    rintro e w3 ⟨rfl, hX⟩
    have HE3 := Lib.hid (HE2.out.trans' hX)
    have HY3 := Lib.hid (hX.hp HY2.out)
    have t3 := cellOf HY3.out 0
    simp only [List.getElem?_toArray, List.getElem?_cons_zero] at t3
    clear hX
    obtain rfl : R = b := HDB.out
    go_wp2
    go_ret
    exact ⟨by simp, HE3.out⟩

set_option maxHeartbeats 4000000 in
theorem is51_calls (v vc : Value) (t : Tr) (c : List Int) (w : World) (h : TrAt w v t) (hv : validT t = true) (hc : Ints w vc c) :
    Calls Tryz.prog 14 #[.agg #[v], vc] w fun e w' => e = .returned (.bool (consB t c)) ∧ Ext w w' := by
  have HCC := Lib.hid (fun W (hW : Ext w W) => is23_calls v vc t c W (h.ext hW) hv (hc.ext hW))
  obtain ⟨ta, tc, rfl, htc⟩ := h.sh
  obtain ⟨ca, cc, rfl, hlc, _⟩ := hc
  generalize consB t c = R at *
  generalize t.length = n at *
  generalize c.length = m at *
  have HY1 := Lib.hid (heap_alloc_new w (.cells #[.slice ta n tc] 24))
  have HE1 := Lib.hid ((Ext.rf w).al (.cells #[.slice ta n tc] 24))
  clear h hlc htc hv
  go_enter Tryz.func14, Tryz.ntmps14
  go_wp2_with fail
  refine (HCC.out _ HE1.out).mono ?_
  rintro e w2 ⟨rfl, hX⟩
  have HE2 := Lib.hid (HE1.out.trans' hX)
  have HY2 := Lib.hid (hX.hp HY1.out)
  have t2 := cellOf HY2.out 0
  simp only [List.getElem?_toArray, List.getElem?_cons_zero] at t2
  clear hX
  go_wp2
  go_ret
  exact ⟨rfl, HE2.out⟩

set_option maxHeartbeats 8000000 in
set_option maxRecDepth 100000 in
theorem orderedR_calls (v vw : Value) (t : Tr) (ws : List (List Int)) (w : World) (h : TrAt w v t) (hv : validT t = true) (hw : Sl RInts 1 w vw ws) (hn : ws.length ≤ 100) (hr : ∀ k, k < ws.length → RangeC t ws[k]!) :
    Calls Tryz.prog 41 #[.agg #[v], vw] w fun e w' => e = .returned (.bool (ordB t ws)) ∧ Ext w w' := by
  have HT := Lib.hid h
  have HW := Lib.hid hw
  have HV := Lib.hid hv
  have HRN := Lib.hid hr
  have hs := valid_small hv
  have hn1 := hs.1
  obtain ⟨ta, tc, rfl, htc⟩ := h.sh
  obtain ⟨wa, wc, rfl, hwc⟩ := hw.shape
  obtain ⟨R, hR⟩ : ∃ R, ordB t ws = R := ⟨_, rfl⟩
  rw [hR]
  have HNO : Hid (∀ k, 1 ≤ k → k < ws.length → leqW t ws k = false → R = false) := Lib.hid (fun k h1 h2 h3 => by rw [← hR, Bool.eq_false_iff]; intro e; have := ordB_iff.1 e k h1 h2; rw [h3] at this; cases this)
  have HYES : Hid ((∀ k, 1 ≤ k → k < ws.length → leqW t ws k = true) → R = true) := Lib.hid (fun h => hR.symm.trans (ordB_iff.2 h))
  generalize hwl : ws.length = m at *
  have HWL := Lib.hid hwl
  obtain ⟨tn, htn⟩ : ∃ n, t.length = n := ⟨_, rfl⟩
  have HTN := Lib.hid htn
  rw [htn] at HT hn1 ⊢
  have HY1 := Lib.hid (heap_alloc_new w (.cells #[.slice ta tn tc] 24))
  have HE1 := Lib.hid ((Ext.rf w).al (.cells #[.slice ta tn tc] 24))
  clear h hs hw hR htc htn hwl hv hr
  go_enter Tryz.func41, Tryz.ntmps41
  go_wp2
  generalize hw2 : w.alloc (.cells #[.slice ta tn tc] 24) = w3 at *
  clear hw2
  go_loopg [5] m (fun g s5 wr => ∃ k : Nat, 1 ≤ k ∧ (k ≤ m ∨ k = 1) ∧ m - k ≤ g ∧ s5 = .int .i64 k ∧ Aside (∀ j, 1 ≤ j → j < k → leqW t ws j = true) ∧ Aside (Ext w3 wr))
  case atStart => exact ⟨1, by omega, by omega, by omega, rfl, (fun j h1 h2 => absurd h2 (by omega)), Ext.rf _⟩
  case round =>
    obtain ⟨k, hk1, hkm, hg, rfl, A, HEK⟩ := hrel
    have HEW := Lib.hid (HE1.out.trans' HEK.out)
    have HY4 := Lib.hid (HEK.out.hp HY1.out)
    have t0 := cellOf HY4.out 0
    simp only [List.getElem?_toArray, List.getElem?_cons_zero] at t0
    by_cases hlt : k < m
    · have hltz : (k : Int) < (m : Int) := by omega
      have hkz : (0 : Int) ≤ (k : Int) := by omega
      obtain ⟨j, hj⟩ : ∃ j : Nat, k = j + 1 := ⟨k - 1, by omega⟩
      have e3 : (k : Int) - 1 = (j : Int) := by omega
      have hjz : (0 : Int) ≤ (j : Int) := by omega
      have hjm : (j : Int) < (m : Int) := by omega
      have hwj : IntKind.i64.wrap (j : Int) = (j : Int) := IntWalk.i64_in _ (by omega)
      obtain ⟨rb, ro, a0, c0, rfl, hr0, hi0⟩ := wave_at HW.out j (by rw [HWL.out]; omega)
      obtain ⟨rb', ro', a1, c1, hre, hr1, hi1⟩ := wave_at HW.out k (by rw [HWL.out]; omega)
      simp only [Option.some.injEq, Addr.mk.injEq, and_true] at hre
      obtain ⟨rfl, rfl⟩ := hre
      have HI0 := Lib.hid hi0
      have HI1 := Lib.hid hi1
      have HLQ : Hid (leqW t ws k = leCB (closeC t ws[j]!) ws[k]!) := Lib.hid (by unfold leqW; rw [show k - 1 = j by omega])
      have HRJ := Lib.hid (HRN.out j (by omega))
      have HRK := Lib.hid (HRN.out k (by omega))
      have r0 := HEW.out.cl hr0
      have r1 := HEW.out.cl hr1
      rw [HRJ.out.1, HTN.out] at r0
      rw [HRK.out.1, HTN.out] at r1
      rw [HRJ.out.1, HTN.out] at HI0
      rw [HRK.out.1, HTN.out] at HI1
      have HCL := Lib.hid (fun W (hW : Ext w W) => closed51_calls _ _ t ws[j]! W (HT.out.ext hW) HV.out (HI0.out.ext hW) HRJ.out)
      have HCN : Hid ((closeC t ws[j]!).length = tn) := Lib.hid (by obtain ⟨_, hf⟩ := closeC_fix HRJ.out; rw [(up_least hf HRJ.out).1.1.1]; exact HTN.out)
      have HKL := Lib.hid HRK.out.1
      have HNJ := Lib.hid (HNO.out k hk1 hlt)
      generalize closeC t ws[j]! = cj at *
      generalize ws[k]! = wk at *
      clear hr0 hr1 hi0 hi1 hj
      go_wp2
      have HE2 := Lib.hid (show Ext w wr.drew from HEW.out.dr)
      have HX2 := Lib.hid (show Ext w3 wr.drew from HEK.out.dr)
      have z0a := (show Ext wr wr.drew from (Ext.rf wr).dr).cl t0
      have z0b := (show Ext wr wr.drew from (Ext.rf wr).dr).cl r0
      have z0c := (show Ext wr wr.drew from (Ext.rf wr).dr).cl r1
      refine wp_region_tails (fun w' => w'.cell? ⟨w.heap.size, 0, none⟩ = some (.slice ta tn tc) ∧ w'.cell? ⟨rb, ro + j, none⟩ = some (.slice a0 tn c0) ∧ w'.cell? ⟨rb, ro + k, none⟩ = some (.slice a1 tn c1)) [] (by kernel_rfl) ⟨z0a, z0b, z0c⟩ (fun hHeld => ?_)
      generalize wr.drew = wT at *
      refine wpAnyU_take (i := 0) (d := some 12) (v := ?_) rfl rfl (by kernel_rfl) (by kernel_rfl) (by kernel_rfl) (by kernel_rfl) (fun _ _ _ h => h) (Or.inl ⟨by rfl, ?_⟩) (by assumption) ?_
      rotate_left
      · (intro w hSw; (try dsimp only at hSw); go_simp; try (with_reducible rfl))
      try simp only [Act.put]
      try simp only [List.setIfInBounds_toArray]
      try simp only [List.set_cons_zero, List.set_cons_succ]
      refine wpAnyU_take (i := 1) (d := some 13) (v := ?_) rfl rfl (by kernel_rfl) (by kernel_rfl) (by kernel_rfl) (by kernel_rfl) (fun _ _ _ h => h) (Or.inl ⟨by rfl, ?_⟩) (by assumption) ?_
      rotate_left
      · (intro w hSw; (try dsimp only at hSw); go_simp; try (with_reducible rfl))
      try simp only [Act.put]
      try simp only [List.setIfInBounds_toArray]
      try simp only [List.set_cons_zero, List.set_cons_succ]
      refine wpAnyU_take (i := 2) (d := some 14) (v := ?_) rfl rfl (by kernel_rfl) (by kernel_rfl) (by kernel_rfl) (by kernel_rfl) (fun _ _ _ h => h) (Or.inl ⟨by rfl, ?_⟩) (by assumption) ?_
      rotate_left
      · (intro w hSw; (try dsimp only at hSw); go_simp; try (with_reducible rfl))
      try simp only [Act.put]
      try simp only [List.setIfInBounds_toArray]
      try simp only [List.set_cons_zero, List.set_cons_succ]
      refine wpAnyU_take (i := 3) (d := some 15) (v := ?_) rfl rfl (by kernel_rfl) (by kernel_rfl) (by kernel_rfl) (by kernel_rfl) (fun _ _ _ h => h) (Or.inl ⟨by rfl, ?_⟩) (by assumption) ?_
      rotate_left
      · (intro w hSw; (try dsimp only at hSw); go_simp; try (with_reducible rfl))
      try simp only [Act.put]
      try simp only [List.setIfInBounds_toArray]
      try simp only [List.set_cons_zero, List.set_cons_succ]
      refine wpAnyU_take (i := 4) (d := some 16) (v := ?_) rfl rfl (by kernel_rfl) (by kernel_rfl) (by kernel_rfl) (by kernel_rfl) (fun _ _ _ h => h) (Or.inl ⟨by rfl, ?_⟩) (by assumption) ?_
      rotate_left
      · (intro w hSw; (try dsimp only at hSw); go_simp; try (with_reducible rfl))
      try simp only [Act.put]
      try simp only [List.setIfInBounds_toArray]
      try simp only [List.set_cons_zero, List.set_cons_succ]
      refine wpAnyU_take (i := 5) (d := some 17) (v := ?_) rfl rfl (by kernel_rfl) (by kernel_rfl) (by kernel_rfl) (by kernel_rfl) (fun _ _ _ h => h) (Or.inl ⟨by rfl, ?_⟩) (by assumption) ?_
      rotate_left
      · (intro w hSw; (try dsimp only at hSw); go_simp; try (with_reducible rfl))
      try simp only [Act.put]
      try simp only [List.setIfInBounds_toArray]
      try simp only [List.set_cons_zero, List.set_cons_succ]
      refine wpAnyU_take (i := 7) (d := some 19) (v := ?_) rfl rfl (by kernel_rfl) (by kernel_rfl) (by kernel_rfl) (by kernel_rfl) (fun _ _ _ h => h) (Or.inl ⟨by rfl, ?_⟩) (by assumption) ?_
      rotate_left
      · (intro w hSw; (try dsimp only at hSw); go_simp; try (with_reducible rfl))
      try simp only [Act.put]
      try simp only [List.setIfInBounds_toArray]
      try simp only [List.set_cons_zero, List.set_cons_succ]
      refine wpAnyU_take (i := 8) (d := some 20) (v := ?_) rfl rfl (by kernel_rfl) (by kernel_rfl) (by kernel_rfl) (by kernel_rfl) (fun _ _ _ h => h) (Or.inl ⟨by rfl, ?_⟩) (by assumption) ?_
      rotate_left
      · (intro w hSw; (try dsimp only at hSw); go_simp; try (with_reducible rfl))
      try simp only [Act.put]
      try simp only [List.setIfInBounds_toArray]
      try simp only [List.set_cons_zero, List.set_cons_succ]
      refine wpAnyU_take (i := 9) (d := some 21) (v := ?_) rfl rfl (by kernel_rfl) (by kernel_rfl) (by kernel_rfl) (by kernel_rfl) (fun _ _ _ h => h) (Or.inl ⟨by rfl, ?_⟩) (by assumption) ?_
      rotate_left
      · (intro w hSw; (try dsimp only at hSw); go_simp; try (with_reducible rfl))
      try simp only [Act.put]
      try simp only [List.setIfInBounds_toArray]
      try simp only [List.set_cons_zero, List.set_cons_succ]
      refine wpAnyU_take (i := 10) (d := some 22) (v := ?_) rfl rfl (by kernel_rfl) (by kernel_rfl) (by kernel_rfl) (by kernel_rfl) (fun _ _ _ h => h) (Or.inl ⟨by rfl, ?_⟩) (by assumption) ?_
      rotate_left
      · (intro w hSw; (try dsimp only at hSw); go_simp; try (with_reducible rfl))
      try simp only [Act.put]
      try simp only [List.setIfInBounds_toArray]
      try simp only [List.set_cons_zero, List.set_cons_succ]
      refine wpAnyU_step (i := 6) (by kernel_rfl) rfl (fun K hK => ?_)
      refine step_callW (by kernel_rfl) 68 _ _ rfl enters_68 [.agg #[.slice ta tn tc], .slice a0 tn c0] (by first | rfl | kernel_rfl | go_simp) (HCL.out _ HE2.out) ?_
      rintro e y1 ⟨u, rfl, hRU, hX⟩
      refine ⟨_, rfl, ?_⟩
      have HIU := Lib.hid hRU.ints
      rw [HCN.out] at hRU
      obtain ⟨au, cu, rfl, _⟩ := hRU.any
      have HE3 := Lib.hid (HE2.out.trans' hX)
      have HX3 := Lib.hid (HX2.out.trans' hX)
      have z1a := hX.cl z0a
      have z1b := hX.cl z0b
      have z1c := hX.cl z0c
      clear hX hRU z0a z0b z0c t0 r0 r1
      refine hK.out _ _ ?_ (fun hHeld => ?_)
      · (try dsimp only)
        exact ⟨z1a, z1b, z1c⟩
      clear hK K
      try simp only [List.getElem_toArray, List.getElem_cons_zero, List.getElem_cons_succ]
      try simp only [Act.put]
      try simp only [List.setIfInBounds_toArray]
      try simp only [List.set_cons_zero, List.set_cons_succ]
      have HLC := Lib.hid (leq15_calls _ _ cj wk y1 HIU.out (HI1.out.ext HE3.out) (by rw [HCN.out, HKL.out, HTN.out]) (by rw [HCN.out]; exact hn1))
      rw [← HLQ.out] at HLC
      obtain ⟨lq, hlq⟩ : ∃ b, leqW t ws k = b := ⟨_, rfl⟩
      rw [hlq] at HLC HNJ
      have HLB := Lib.hid hlq
      clear hlq
      refine wpAnyU_step (i := 11) (by kernel_rfl) rfl (fun K hK => ?_)
      refine step_callW (by kernel_rfl) 23 _ _ rfl enters_23 [.slice au tn cu, .slice a1 tn c1] (by first | rfl | kernel_rfl | go_simp) HLC.out ?_
      rintro e y2 ⟨rfl, hX⟩
      refine ⟨_, rfl, ?_⟩
      have HE4 := Lib.hid (HE3.out.trans' hX)
      have HX4 := Lib.hid (HX3.out.trans' hX)
      have z2a := hX.cl z1a
      have z2b := hX.cl z1b
      have z2c := hX.cl z1c
      clear hX z1a z1b z1c
      refine hK.out _ _ ?_ (fun hHeld => ?_)
      · (try dsimp only)
        exact ⟨z2a, z2b, z2c⟩
      clear hK K
      try simp only [List.getElem_toArray, List.getElem_cons_zero, List.getElem_cons_succ]
      try simp only [Act.put]
      try simp only [List.setIfInBounds_toArray]
      try simp only [List.set_cons_zero, List.set_cons_succ]
      refine wpAnyU_take (i := 12) (d := some 24) (v := ?_) rfl rfl (by kernel_rfl) (by kernel_rfl) (by kernel_rfl) (by kernel_rfl) (fun _ _ _ h => h) (Or.inl ⟨by rfl, ?_⟩) (by assumption) ?_
      rotate_left
      · (intro w hSw; (try dsimp only at hSw); go_simp; try (with_reducible rfl))
      try simp only [Act.put]
      try simp only [List.setIfInBounds_toArray]
      try simp only [List.set_cons_zero, List.set_cons_succ]
      refine wpAnyU_done (by kernel_rfl) ?_
      clear z2a z2b z2c
      cases lq with
      | false =>
        obtain rfl : R = false := HNJ.out (by trivial)
        go_wp2
        go_ret
        exact ⟨rfl, HE4.out⟩
      | true =>
        go_wp2
        go_roundg (m - (k + 1))
        case measure => omega
        case rel =>
          refine ⟨k + 1, by omega, by omega, by omega, by go_num, (show Aside _ from fun i h1 h2 => ?_), (show Ext _ _ from HX4.out)⟩
          by_cases e : i = k
          · subst e; exact HLB.out
          · exact A.out i h1 (by omega)
    · have hltz : ¬ (k : Int) < (m : Int) := by omega
      obtain rfl : R = true := HYES.out (fun i h1 (h2 : i < m) => A.out i h1 (by omega))
      go_wp2
      go_ret
      exact ⟨rfl, HEW.out⟩

end Go.Proofs.YtfcpnggdpaeldaaGreat
