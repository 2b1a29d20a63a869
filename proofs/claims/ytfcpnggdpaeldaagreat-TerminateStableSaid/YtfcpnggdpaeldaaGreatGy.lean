import Derived.Test.YtfcpnggdpaeldaaGreatJa
import Derived.Test.YtfcpnggdpaeldaaGreatProg
import Derived.Test.YtfcpnggdpaeldaaGreatGx
import Derived.Test.YtfcpnggdpaeldaaGreatGk
import Derived.Test.YtfcpnggdpaeldaaGreatGj
import Derived.Test.YtfcpnggdpaeldaaGreatGp
import Derived.Test.YtfcpnggdpaeldaaGreatGv
import Derived.BigQuiet
import Derived.Deep.QuietTactic
import Derived.Deep.LoopGhost
import Derived.Shelf.Abstract
import Derived.BigRegion
import Derived.Laws.EntriesVeiled
import Derived.Deep.RegionHeld3
/-
  Termination: the program's checked, passive, count and counts.
-/
namespace Go.Proofs.YtfcpnggdpaeldaaGreat
open Go.RowKit
set_option linter.unusedVariables false
attribute [local go_sem ↓] Go.wp_at_zero Go.wp_at_succ

theorem enters_66 : ∀ args w, (callFunc 66 args).run Tryz.prog w = .ok (.enter 66 args) w := enters_of Tryz.func66 (by kernel_rfl) rfl
set_option maxHeartbeats 1000000 in
theorem checked1_calls (vs : List Value) (x : Vr) (b : Nat) (s : ByteArray) (w : World) (hx : RVr w vs x) (hc : w.cell? ⟨b, 0, none⟩ = some (.string s)) :
    Calls Tryz.prog 66 #[.agg vs.toArray, .pointer (some ⟨b, 0, none⟩)] w fun e w' => e = .returned (.bool (isV s x)) ∧ Ext w w' := by
  have e : vs = [.string x.name, .int .i64 x.init] := hx
  subst e
  have hbl := World.block_lt_of_cell? w _ hc
  have hbn : b ≠ w.heap.size := Nat.ne_of_lt hbl
  have hx0 := cell_new w #[.string x.name, .int .i64 x.init] 96 0 _ rfl
  unfold isV
  go_enter Tryz.func66, Tryz.ntmps66
  go_wp2
  go_ret
  exact ⟨rfl, (by repeat (first | refine Ext.st ?_ (by first | exact Nat.le_refl _ | exact Nat.le_succ _ | assumption | omega) _ | refine Ext.al ?_ _ | refine Ext.dr ?_ | refine Ext.drN ?_ _ | exact Ext.rf _))⟩

set_option maxHeartbeats 4000000 in
set_option maxRecDepth 100000 in
theorem checkedP_calls (v : Value) (t : Tr) (s : ByteArray) (w : World) (h : TrAt w v t) (hs : LooseTr t) :
    Calls Tryz.prog 33 #[.agg #[v], .string s] w fun e w' => e = .returned (.int .i64 (chkE t s)) ∧ Ext w w' := by
  have HT := Lib.hid h
  have HVC := Lib.hid (fun W (hW : Ext w W) => validP_calls v t W (h.ext hW) hs)
  have HLN := Lib.hid (fun p (hp : p < t.length) => (hs.2 p hp).1)
  obtain ⟨ta, tc, rfl, htc⟩ := h.sh
  have hn1 := hs.1
  obtain ⟨vt, hvt⟩ : ∃ b, validT t = b := ⟨_, rfl⟩
  obtain ⟨F, hF⟩ : ∃ F, chkE t s = F := ⟨_, rfl⟩
  rw [hF]
  have HF1 : Hid (vt = false → F = 1) := Lib.hid (fun h => by rw [← hF]; unfold chkE; rw [hvt, h]; rfl)
  have HF2 : Hid (vt = true → (∃ p, p < t.length ∧ hasV s t[p]! = false) → F = 13) := Lib.hid (fun h ⟨p, hp, hq⟩ => by rw [← hF]; unfold chkE; rw [hvt, if_pos h, if_neg (by rw [show hasT t s = false from all_not hp hq]; decide)])
  have HF3 : Hid (vt = true → (∀ p, p < t.length → hasV s t[p]! = true) → F = 0) := Lib.hid (fun h hq => by rw [← hF]; unfold chkE; rw [hvt, if_pos h, if_pos (show hasT t s = true from all_of hq)])
  rw [hvt] at HVC
  generalize hln : t.length = n at *
  have HL := Lib.hid hln
  have HX0 : Hid (((w.alloc (.cells #[.slice ta n tc] 24)).alloc (.cells #[.string s] 9)).heap[w.heap.size]? = some (.cells #[.slice ta n tc] 24)) := Lib.hid (allocs_at [.cells #[.slice ta n tc] 24, .cells #[.string s] 9] w 0 _ rfl)
  have HX1 : Hid (((w.alloc (.cells #[.slice ta n tc] 24)).alloc (.cells #[.string s] 9)).heap[w.heap.size + 1]? = some (.cells #[.string s] 9)) := Lib.hid (allocs_at [.cells #[.slice ta n tc] 24, .cells #[.string s] 9] w 1 _ rfl)
  have HE1 : Hid (Ext w ((w.alloc (.cells #[.slice ta n tc] 24)).alloc (.cells #[.string s] 9))) := Lib.hid (by repeat (first | refine Ext.st ?_ (by first | exact Nat.le_refl _ | exact Nat.le_succ _ | assumption | omega) _ | refine Ext.al ?_ _ | refine Ext.dr ?_ | refine Ext.drN ?_ _ | exact Ext.rf _))
  clear h hs hvt hF hln
  go_enter Tryz.func33, Tryz.ntmps33
  go_wp2_with fail
  refine (HVC.out _ HE1.out).mono ?_
  rintro e w2 ⟨rfl, hX⟩
  have HE2 := Lib.hid (HE1.out.trans' hX)
  have HY0 := Lib.hid (hX.hp HX0.out)
  have HY1 := Lib.hid (hX.hp HX1.out)
  have t0 := cellOf HY0.out 0
  simp only [List.getElem?_toArray, List.getElem?_cons_zero] at t0
  clear hX HX0 HX1
  cases vt with
  | false =>
    obtain rfl : F = 1 := HF1.out rfl
    go_wp2
    go_ret
    exact ⟨rfl, HE2.out⟩
  | true =>
  go_wp2
  clear t0
  go_loopg [13] n (fun g s13 wr => ∃ p : Nat, p ≤ n ∧ n - p ≤ g ∧ s13 = .int .i64 p ∧ Aside (∀ q, q < p → hasV s t[q]! = true) ∧ Aside (Ext w2 wr))
  case atStart => exact ⟨0, Nat.zero_le _, by omega, rfl, (fun j hj => absurd hj (Nat.not_lt_zero _)), Ext.rf _⟩
  case round =>
    obtain ⟨p, hp, hg, rfl, A, HEK⟩ := hrel
    have HEW := Lib.hid (HE2.out.trans' HEK.out)
    by_cases hlt : p < n
    · have hltz : (p : Int) < (n : Int) := by omega
      have hpz : (0 : Int) ≤ (p : Int) := by omega
      obtain ⟨B, O, C, vv, ve, hve, hlC, hB, hn0, hv0, he0, hV, hE0⟩ := proc_at HT.out p (by rw [HL.out]; exact hlt)
      simp only [Value.slice.injEq] at hve
      obtain ⟨rfl, hzz, rfl⟩ := hve
      have HV0 := Lib.hid hV
      obtain ⟨va, vc, rfl, hvc⟩ := hV.sh
      obtain ⟨ea, ec, rfl, hec⟩ := hE0.sh
      have n1 := HEW.out.cl hn0
      have v1 := HEW.out.cl hv0
      have e1 := HEW.out.cl he0
      have HCV := Lib.hid (fun W (hW : Ext w W) (hc : W.cell? ⟨w.heap.size + 1, 0, none⟩ = some (.string s)) =>
        containsFunc_vars RVr rvr_lasts 66 #[.pointer (some ⟨w.heap.size + 1, 0, none⟩)] enters_66 (isV s) _ t[p]!.vars W (HV0.out.ext rvr_lasts hW) (HLN.out p hlt)
          (fun y hy W2 vs hW2 hR => checked1_calls vs y _ s W2 hR (hW2.cl hc)))
      have HHV : Hid (hasV s t[p]! = t[p]!.vars.any (isV s)) := Lib.hid rfl
      have hyc := cellOf (HEK.out.hp HY1.out) 0
      simp only [List.getElem?_toArray, List.getElem?_cons_zero] at hyc
      have HYC := Lib.hid hyc
      generalize t[p]!.vars.any (isV s) = r at *
      generalize t[p]!.name = nm at *
      generalize t[p]!.vars.length = nv at *
      generalize t[p]!.events.length = ne at *
      have HXT := Lib.hid ((Ext.rf wr).al (.cells #[.string nm, .slice va nv vc, .slice ea ne ec] 58))
      clear hn0 hv0 he0 hV hE0 hzz hyc
      go_wp2_with fail
      refine (HCV.out _ (HEW.out.trans' HXT.out) (HXT.out.cl HYC.out)).mono ?_
      rintro e w7 ⟨rfl, hX7⟩
      have HX7 := Lib.hid (HXT.out.trans' hX7)
      clear hX7 n1 v1 e1
      cases r with
      | false =>
        obtain rfl : F = 13 := HF2.out (by trivial) ⟨p, hlt, HHV.out⟩
        go_wp2
        go_ret
        exact ⟨rfl, HEW.out.trans' HX7.out⟩
      | true =>
        go_wp2
        go_roundg (n - (p + 1))
        case measure => omega
        case rel =>
          refine ⟨p + 1, by omega, by omega, by go_num, (show Aside _ from fun j hj => ?_), HEK.out.trans' HX7.out⟩
          by_cases e : j = p
          · subst e; exact HHV.out
          · exact A.out j (by omega)
    · have hltz : ¬ (p : Int) < (n : Int) := by omega
      obtain rfl : n = p := by omega
      obtain rfl : F = 0 := HF3.out (by trivial) A.out
      go_wp2
      go_ret
      exact ⟨rfl, HEW.out⟩

set_option maxHeartbeats 4000000 in
set_option maxRecDepth 100000 in
theorem passiveP_calls (v vc : Value) (t : Tr) (s : ByteArray) (c : List Int) (w : World) (h : TrAt w v t) (hv : validT t = true) (hh : hasT t s = true) (hc : Ints w vc c) (hr : RangeC t c) :
    Calls Tryz.prog 35 #[.agg #[v], .string s, vc] w fun e w' => e = .returned (.bool (passB t s c)) ∧ Ext w w' := by
  have HC := Lib.hid hc
  have hs := valid_small hv
  have HVL : Hid (∀ W, Ext w W → ∀ p k : Nat, p < t.length → c[p]! = (k : Int) → Calls Tryz.prog 67 #[.agg #[v], .int .i64 p, .string s, .int .i64 k] W fun e w' => ∃ x, e = .returned (.tuple #[.int .i64 x, .int .i64 0]) ∧ idleB t s p c[p]!.toNat = decide (x = 0) ∧ Ext W w') := Lib.hid (fun W hW p k hp hk => by
    have hkr := hr.at hp
    rw [hk] at hkr
    have hpl : placeE t (p : Int) (k : Int) = 0 := by unfold placeE; rw [if_pos hv, if_pos ⟨⟨by omega, by omega⟩, by rw [Int.toNat_natCast]; exact hkr⟩]
    have hi := hasT_at hh hp
    have hf : faultV t (p : Int) (k : Int) s = 0 := by unfold faultV; rw [hpl, if_neg (by rw [Int.toNat_natCast]; omega)]
    refine (valueV_calls v t (p : Int) s (k : Int) W (h.ext hW) hs.loose).mono ?_
    rintro e w' ⟨rfl, hX⟩
    rw [hf, if_pos rfl]
    refine ⟨_, rfl, ?_, hX⟩
    rw [hk]; rfl)
  obtain ⟨ta, tc, rfl, htc⟩ := h.sh
  obtain ⟨ca, cc, rfl, hlc, _⟩ := hc
  have hn1 := hs.1
  obtain ⟨R, hR⟩ : ∃ b, passB t s c = b := ⟨_, rfl⟩
  have HNO : Hid (∀ p, p < t.length → idleB t s p c[p]!.toNat = false → R = false) := Lib.hid (fun p hp hi => hR.symm.trans (passB_no (by rw [hr.1]; exact hp) hi))
  have HYES : Hid ((∀ p, p < t.length → idleB t s p c[p]!.toNat = true) → R = true) := Lib.hid (fun h => hR.symm.trans (passB_iff.2 (fun p hp => h p (by rw [← hr.1]; exact hp))))
  have HNN := Lib.hid (fun p (hp : p < t.length) => (hr.at hp).1)
  rw [hR]
  rw [hr.1] at hlc ⊢
  have HCL := Lib.hid hr.1
  generalize hln : t.length = n at *
  have HX0 := Lib.hid (heap_alloc_new w (.cells #[.slice ta n tc] 24))
  have HE1 := Lib.hid ((Ext.rf w).al (.cells #[.slice ta n tc] 24))
  clear h hs hv hh hR hr hln
  go_enter Tryz.func35, Tryz.ntmps35
  go_wp2
  generalize hw2 : w.alloc (.cells #[.slice ta n tc] 24) = w2 at *
  clear hw2
  go_loopg [13] n (fun g s13 wr => ∃ p : Nat, p ≤ n ∧ n - p ≤ g ∧ s13 = .int .i64 p ∧ Aside (∀ q, q < p → idleB t s q c[q]!.toNat = true) ∧ Aside (Ext w2 wr))
  case atStart => exact ⟨0, Nat.zero_le _, by omega, rfl, (fun j hj => absurd hj (Nat.not_lt_zero _)), Ext.rf _⟩
  case round =>
    obtain ⟨p, hp, hg, rfl, A, HEK⟩ := hrel
    have HEW := Lib.hid (HE1.out.trans' HEK.out)
    have HY0 := Lib.hid (HEK.out.hp HX0.out)
    have t0 := cellOf HY0.out 0
    simp only [List.getElem?_toArray, List.getElem?_cons_zero] at t0
    by_cases hlt : p < n
    · have hltz : (p : Int) < (n : Int) := by omega
      have hpz : (0 : Int) ≤ (p : Int) := by omega
      obtain ⟨cb, co, rfl, hcb, hcp⟩ := ints_at HC.out p (by rw [HCL.out]; exact hlt)
      have hc1 := HEW.out.cl hcp
      have hnn := HNN.out p hlt
      obtain ⟨k, hk⟩ : ∃ k : Nat, c[p]! = (k : Int) := ⟨c[p]!.toNat, by omega⟩
      have HVC := Lib.hid (HVL.out _ HEW.out p k hlt hk)
      rw [hk] at hc1
      clear hcp hnn hk
      go_wp2_with fail
      refine HVC.out.mono ?_
      rintro e w3 ⟨x, rfl, hid0, hX3⟩
      have HI := Lib.hid hid0
      have HX3 := Lib.hid (HEK.out.trans' hX3)
      have HE3 := Lib.hid (HEW.out.trans' hX3)
      clear hX3 hid0 t0 hc1
      by_cases hx : x = 0
      · subst hx
        have HIT := Lib.hid (HI.out.trans (decide_eq_true rfl))
        go_wp2
        go_roundg (n - (p + 1))
        case measure => omega
        case rel =>
          refine ⟨p + 1, by omega, by omega, by go_num, (show Aside _ from fun j hj => ?_), (show Ext _ _ from HX3.out)⟩
          by_cases e : j = p
          · subst e; exact HIT.out
          · exact A.out j (by omega)
      · have d1 : (x != 0) = true := by simp [hx]
        obtain rfl : R = false := HNO.out p hlt (HI.out.trans (decide_eq_false hx))
        clear hx
        go_wp2
        go_ret
        exact ⟨rfl, HE3.out⟩
    · have hltz : ¬ (p : Int) < (n : Int) := by omega
      obtain rfl : n = p := by omega
      obtain rfl : R = true := HYES.out A.out
      go_wp2
      go_ret
      exact ⟨rfl, HEW.out⟩

set_option maxHeartbeats 8000000 in
set_option maxRecDepth 100000 in
theorem countP_calls (v vc : Value) (t : Tr) (c : List Int) (kd : Int) (w : World) (h : TrAt w v t) (hv : validT t = true) (hc : Ints w vc c) (hr : RangeC t c) :
    Calls Tryz.prog 36 #[.agg #[v], vc, .int .i64 kd] w fun e w' => e = .returned (.int .i64 (cntE t kd c)) ∧ Ext w w' := by
  have HT := Lib.hid h
  have HC := Lib.hid hc
  have hs := valid_small hv
  have HS := Lib.hid hs
  have HR := Lib.hid hr
  have hn8 := ((shapeB_parts2.1 (validT_parts2.1 hv).1).2.1)
  have HE64 : Hid (∀ p, p < t.length → t[p]!.events.length ≤ 64) := Lib.hid (fun p hp => (headB_parts.1 ((shapeB_parts2.1 (validT_parts2.1 hv).1).2.2.1 p hp)).2.2.2.2)
  obtain ⟨ta, tc, rfl, htc⟩ := h.sh
  obtain ⟨ca, cc, rfl, hlc, _⟩ := hc
  have HCE : Hid (cntE t kd c = ((cntTo t kd c t.length 0 : Nat) : Int)) := Lib.hid (by unfold cntE; rw [hr.1])
  obtain ⟨Z, hZ⟩ : ∃ Z, cntE t kd c = Z := ⟨_, rfl⟩
  rw [hZ] at HCE ⊢
  rw [hr.1] at hlc ⊢
  have HCL := Lib.hid hr.1
  generalize hln : t.length = n at *
  have HL := Lib.hid hln
  have HX0 := Lib.hid (heap_alloc_new w (.cells #[.slice ta n tc] 24))
  have HE1 := Lib.hid ((Ext.rf w).al (.cells #[.slice ta n tc] 24))
  clear h hs hln hr hv hZ
  go_enter Tryz.func36, Tryz.ntmps36
  go_wp2
  generalize hw3 : w.alloc (.cells #[.slice ta n tc] 24) = w3 at *
  clear hw3
  go_loopg [7, 14] n (fun g s7 s14 wr => ∃ p : Nat, p ≤ n ∧ n - p ≤ g ∧ s14 = .int .i64 p ∧ (∃ q : Nat, s7 = .int .i64 q ∧ q ≤ 64 * p ∧ Aside (cntTo t kd c p 0 = q)) ∧ Aside (Ext w3 wr))
  case atStart => exact ⟨0, Nat.zero_le _, by omega, rfl, ⟨0, rfl, by omega, (show Aside _ from cntTo_zero t kd c)⟩, Ext.rf _⟩
  case round =>
    obtain ⟨p, hp, hg, rfl, ⟨q, rfl, hq, A⟩, HEK⟩ := hrel
    have HEW := Lib.hid (HE1.out.trans' HEK.out)
    have HY0 := Lib.hid (HEK.out.hp HX0.out)
    have t0 := cellOf HY0.out 0
    simp only [List.getElem?_toArray, List.getElem?_cons_zero] at t0
    by_cases hlt : p < n
    · have hltz : (p : Int) < (n : Int) := by omega
      have hpz : (0 : Int) ≤ (p : Int) := by omega
      obtain ⟨B, O, C, vv, ve, hve, hlC, hB, hn0, hv0, he0, hV, hE0⟩ := proc_at HT.out p (by rw [HL.out]; exact hlt)
      simp only [Value.slice.injEq] at hve
      obtain ⟨rfl, hzz, rfl⟩ := hve
      have HEV := Lib.hid hE0
      obtain ⟨ea, ec, rfl, hec⟩ := hE0.sh
      obtain ⟨cb, co, rfl, hcb, hcp⟩ := ints_at HC.out p (by rw [HCL.out]; exact hlt)
      have he1 := HEW.out.cl he0
      have hc1 := HEW.out.cl hcp
      have hkr := HR.out.at (by rw [HL.out]; exact hlt)
      have hen := HE64.out p hlt
      generalize hne : t[p]!.events.length = ne at *
      have HNE := Lib.hid hne
      obtain ⟨k, hk⟩ : ∃ k : Nat, c[p]! = (k : Int) := ⟨c[p]!.toNat, by omega⟩
      rw [hk] at hc1 hkr
      have HK := Lib.hid hk
      have hkz : (0 : Int) ≤ (k : Int) := by omega
      have hkc : (k : Int) ≤ (ec : Int) := by omega
      have hkm : k ≤ 64 := by omega
      have HKN := Lib.hid (show k ≤ ne from by omega)
      clear hn0 hv0 hV hE0 hzz hne he0 hk hcp hkr
      go_wp2
      clear t0 he1 hc1
      obtain ⟨wo, rfl⟩ : ∃ x, x = wr := ⟨_, rfl⟩
      go_loopg [7, 28] k (fun g2 s7 s28 wr => ∃ i : Nat, i ≤ k ∧ k - i ≤ g2 ∧ s28 = .int .i64 i ∧ (∃ q : Nat, s7 = .int .i64 q ∧ q ≤ 64 * p + i ∧ Aside (cntTo t kd c p i = q)) ∧ Aside (Ext wo wr))
      case atStart => exact ⟨0, Nat.zero_le _, by omega, rfl, ⟨q, rfl, by omega, A⟩, Ext.rf _⟩
      case round =>
        obtain ⟨i, hi, hg2, rfl, ⟨q2, rfl, hq2, A2⟩, HEK2⟩ := hrel
        have HEW2 := Lib.hid (HEW.out.trans' HEK2.out)
        by_cases hli : i < k
        · have hliz : (i : Int) < (k : Int) := by omega
          have hiz : (0 : Int) ≤ (i : Int) := by omega
          have hqm : q2 ≤ 1000000 := by omega
          obtain ⟨EB, EO, EC, va, hee, hlE, hEB, k0, k1, k2, k3, k4, ha⟩ := event_at HEV.out i (by rw [HNE.out]; have := HKN.out; omega)
          simp only [Value.slice.injEq] at hee
          obtain ⟨rfl, hzz, rfl⟩ := hee
          obtain ⟨va1, va2, rfl, _⟩ := ha.sh
          have m0 := HEW2.out.cl k0
          have m1 := HEW2.out.cl k1
          have m2 := HEW2.out.cl k2
          have m3 := HEW2.out.cl k3
          have m4 := HEW2.out.cl k4
          have HEVE : Hid (ev t (p, i) = t[p]!.events[i]!) := Lib.hid rfl
          generalize t[p]!.events[i]! = y at *
          generalize y.asg.length = nb at *
          clear k0 k1 k2 k3 k4 hzz ha
          have HXT := Lib.hid ((Ext.rf wr).al (e5 (.int .i64 y.kind) (.int .i64 y.peer) (.int .i64 y.msg) (.int .i64 y.time) (.slice va1 nb va2)))
          obtain ⟨ck, hck⟩ : ∃ b, (y.kind == kd) = b := ⟨_, rfl⟩
          have HCK := Lib.hid hck
          cases ck with
          | false =>
            have HSB := Lib.hid (cntTo_miss (t := t) (kd := kd) (c := c) (p := p) (i := i) (by rw [HEVE.out]; have := HCK.out; simpa using this))
            go_wp2
            go_roundg (k - (i + 1))
            case measure => omega
            case rel => exact ⟨i + 1, by omega, by omega, by go_num, ⟨q2, rfl, by omega, (show Aside _ from HSB.out.trans A2.out)⟩, HEK2.out.trans' HXT.out⟩
          | true =>
            have HSB := Lib.hid (cntTo_hit (t := t) (kd := kd) (c := c) (p := p) (i := i) (by rw [HEVE.out]; have := HCK.out; simpa using this))
            go_wp2
            go_roundg (k - (i + 1))
            case measure => omega
            case rel => exact ⟨i + 1, by omega, by omega, by go_num, ⟨q2 + 1, by go_num, by omega, (show Aside _ from HSB.out.trans (congrArg (· + 1) A2.out))⟩, HEK2.out.trans' HXT.out⟩
        · have hliz : ¬ (i : Int) < (k : Int) := by omega
          obtain rfl : k = i := by omega
          go_wp2
          go_roundg (n - (p + 1))
          case measure => omega
          case rel =>
            exact ⟨p + 1, by omega, by omega, by go_num, ⟨q2, rfl, by omega, (show Aside _ from by rw [← A2.out]; exact (cntTo_next (by rw [HK.out]; simp)).symm)⟩, (show Ext _ _ from HEK.out.trans' HEK2.out)⟩
    · have hltz : ¬ (p : Int) < (n : Int) := by omega
      obtain rfl : n = p := by omega
      obtain rfl : Z = (q : Int) := by rw [HCE.out, A.out]
      go_wp2
      go_ret
      exact ⟨rfl, HEW.out⟩

set_option maxHeartbeats 4000000 in
set_option maxRecDepth 100000 in
theorem countsP_calls (v vc : Value) (t : Tr) (c : List Int) (w : World) (h : TrAt w v t) (hs : SmallTr t) (hc : Ints w vc c) :
    Calls Tryz.prog 38 #[.agg #[v], vc] w fun e w' => e = .returned (.bool (rngB t c)) ∧ Ext w w' := by
  have HT := Lib.hid h
  have HC := Lib.hid hc
  have HS := Lib.hid hs
  obtain ⟨ta, tc, rfl, htc⟩ := h.sh
  obtain ⟨ca, cc, rfl, hlc, _⟩ := hc
  have hn1 := hs.1
  obtain ⟨rb, hrb⟩ : ∃ b, rngB t c = b := ⟨_, rfl⟩
  rw [hrb]
  have HRB := Lib.hid hrb
  generalize hlm : c.length = m at *
  have HM := Lib.hid hlm
  generalize hln : t.length = n at *
  have HL := Lib.hid hln
  have HX0 := Lib.hid (heap_alloc_new w (.cells #[.slice ta n tc] 24))
  have HE1 := Lib.hid ((Ext.rf w).al (.cells #[.slice ta n tc] 24))
  clear h hs hln hrb hlm
  by_cases hmn : m = n
  case neg =>
    have d0 : ((m : Int) != (n : Int)) = true := by simp; omega
    obtain rfl : rb = false := by rw [← HRB.out, Bool.eq_false_iff]; intro h; have := (rngB_iff.1 h).1; rw [HM.out, HL.out] at this; exact hmn this
    clear hmn
    go_enter Tryz.func38, Tryz.ntmps38
    go_wp2
    go_ret
    exact ⟨rfl, HE1.out⟩
  case pos =>
  subst hmn
  have d0 : ((m : Int) != (m : Int)) = false := by simp
  go_enter Tryz.func38, Tryz.ntmps38
  go_wp2
  generalize hw2 : w.alloc (.cells #[.slice ta m tc] 24) = w2 at *
  clear hw2 d0
  go_loopg [15] m (fun g s15 wr => ∃ p : Nat, p ≤ m ∧ m - p ≤ g ∧ s15 = .int .i64 p ∧ Aside (∀ q, q < p → 0 ≤ c[q]! ∧ c[q]! ≤ (t[q]!.events.length : Int)) ∧ Aside (Ext w2 wr))
  case atStart => exact ⟨0, Nat.zero_le _, by omega, rfl, (fun j hj => absurd hj (Nat.not_lt_zero _)), Ext.rf _⟩
  case round =>
    obtain ⟨p, hp, hg, rfl, A, HEK⟩ := hrel
    have HEW := Lib.hid (HE1.out.trans' HEK.out)
    have HY0 := Lib.hid (HEK.out.hp HX0.out)
    have t0 := cellOf HY0.out 0
    simp only [List.getElem?_toArray, List.getElem?_cons_zero] at t0
    by_cases hlt : p < m
    · have hltz : (p : Int) < (m : Int) := by omega
      have hpz : (0 : Int) ≤ (p : Int) := by omega
      obtain ⟨B, O, C, vv, ve, hve, hlC, hB, hn0, hv0, he0, hV, hE0⟩ := proc_at HT.out p (by rw [HL.out]; exact hlt)
      simp only [Value.slice.injEq] at hve
      obtain ⟨rfl, hzz, rfl⟩ := hve
      obtain ⟨ea, ec, rfl, hec⟩ := hE0.sh
      obtain ⟨cb, co, rfl, hcb, hcp⟩ := ints_at HC.out p (by rw [HM.out]; exact hlt)
      have he1 := HEW.out.cl he0
      have hc1 := HEW.out.cl hcp
      have hen := (HS.out.2 p (by rw [HL.out]; exact hlt)).2.1
      generalize hne : t[p]!.events.length = ne at *
      have HNE := Lib.hid hne
      generalize hk : c[p]! = k at *
      have HK := Lib.hid hk
      clear hn0 hv0 hV hE0 hzz hne he0 hk hcp
      have HNO : Hid (¬ (0 ≤ k ∧ k ≤ (ne : Int)) → rb = false) := Lib.hid (fun hno => by
        rw [← HRB.out, Bool.eq_false_iff]
        intro hr
        have := (rngB_iff.1 hr).at (p := p) (by rw [HL.out]; exact hlt)
        rw [HNE.out, HK.out] at this
        exact hno this)
      by_cases h1 : k < 0
      · have d1 : decide (k < 0) = true := decide_eq_true h1
        obtain rfl : rb = false := HNO.out (by omega)
        clear h1
        go_wp2
        go_ret
        exact ⟨rfl, HEW.out⟩
      · have d1 : decide (k < 0) = false := decide_eq_false h1
        by_cases h2 : (ne : Int) < k
        · have d2 : decide ((ne : Int) < k) = true := decide_eq_true h2
          obtain rfl : rb = false := HNO.out (by omega)
          clear h1 h2
          go_wp2
          go_ret
          exact ⟨rfl, HEW.out⟩
        · have d2 : decide ((ne : Int) < k) = false := decide_eq_false h2
          have HOK := Lib.hid (show 0 ≤ k ∧ k ≤ (ne : Int) by omega)
          clear h1 h2
          go_wp2
          go_roundg (m - (p + 1))
          case measure => omega
          case rel =>
            refine ⟨p + 1, by omega, by omega, by go_num, (show Aside _ from fun j hj => ?_), (show Ext _ _ from HEK.out)⟩
            by_cases e : j = p
            · subst e; rw [HNE.out, HK.out]; exact HOK.out
            · exact A.out j (by omega)
    · have hltz : ¬ (p : Int) < (m : Int) := by omega
      obtain rfl : m = p := by omega
      obtain rfl : rb = true := by rw [← HRB.out]; exact rngB_iff.2 ⟨by rw [HM.out, HL.out], rangeB_iff.2 (fun q hq => A.out q (by rw [HM.out] at hq; exact hq))⟩
      go_wp2
      go_ret
      exact ⟨rfl, HEW.out⟩

end Go.Proofs.YtfcpnggdpaeldaaGreat

/-
  Small traces and short lists of lists: the law's few and long.
-/
namespace Go.Proofs.YtfcpnggdpaeldaaGreat
open Go.RowKit
set_option linter.unusedVariables false

def few51E (e : Ev) : Bool := decide (20 < e.asg.length)
def few51P (x : Pr) : Bool := decide (20 < x.events.length) || (decide (20 < x.vars.length) || x.events.any few51E)
def few51T (t : Tr) : Bool := decide (t.length ≤ 10) && !t.any few51P
def long51R (l : List Int) : Bool := decide (20 < l.length)
def long51 (l : List (List Int)) : Bool := decide (120 < l.length) || l.any long51R
theorem few51_loose {t : Tr} (h : few51T t = true) : LooseTr t ∧ t.length ≤ 10 := by
  unfold few51T at h
  rw [Bool.and_eq_true, decide_eq_true_eq, Bool.not_eq_true', List.any_eq_false] at h
  refine ⟨⟨by omega, fun p hp => ?_⟩, h.1⟩
  have := h.2 t[p]! (mem_at t p hp)
  unfold few51P at this
  simp only [Bool.or_eq_true, decide_eq_true_eq, not_or] at this
  refine ⟨by omega, fun i hi => ?_⟩
  have h3 := this.2.2
  rw [Bool.not_eq_true, List.any_eq_false] at h3
  have := h3 t[p]!.events[i]! (mem_at _ i hi)
  unfold few51E at this
  simp only [decide_eq_true_eq] at this
  omega
theorem long51_len {l : List (List Int)} (h : long51 l = false) : l.length ≤ 120 := by
  unfold long51 at h
  rw [Bool.or_eq_false_iff, decide_eq_false_iff_not] at h
  omega

theorem enters_30 : ∀ args w, (callFunc 30 args).run Tryz.prog w = .ok (.enter 30 args) w := enters_of Tryz.func30 (by kernel_rfl) rfl
theorem enters_28 : ∀ args w, (callFunc 28 args).run Tryz.prog w = .ok (.enter 28 args) w := enters_of Tryz.func28 (by kernel_rfl) rfl
theorem enters_32 : ∀ args w, (callFunc 32 args).run Tryz.prog w = .ok (.enter 32 args) w := enters_of Tryz.func32 (by kernel_rfl) rfl

set_option maxHeartbeats 1000000 in
theorem few11_calls (vs : List Value) (x : Ev) (w : World) (hv : REv w vs x) : Calls Tryz.prog 30 #[.agg vs.toArray] w fun e w' => e = .returned (.bool (few51E x)) ∧ Ext w w' := by
  obtain ⟨v, rfl, hs⟩ := hv
  obtain ⟨a, c, rfl, hlc⟩ := hs.sh
  clear hs
  obtain ⟨r, hr⟩ : ∃ r, decide (20 < (x.asg.length : Int)) = r := ⟨_, rfl⟩
  have HR : Hid (few51E x = r) := Lib.hid (by unfold few51E; rw [← hr]; simp; omega)
  rw [HR.out]
  generalize x.asg.length = n at *
  go_enter Tryz.func30, Tryz.ntmps30
  go_wp2
  go_ret
  exact ⟨rfl, (by repeat (first | refine Ext.st ?_ (by first | exact Nat.le_refl _ | exact Nat.le_succ _ | assumption | omega) _ | refine Ext.al ?_ _ | refine Ext.dr ?_ | refine Ext.drN ?_ _ | exact Ext.rf _))⟩

set_option maxHeartbeats 2000000 in
set_option maxRecDepth 100000 in
theorem few1_calls (vs : List Value) (x : Pr) (w : World) (hv : RPr w vs x) : Calls Tryz.prog 28 #[.agg vs.toArray] w fun e w' => e = .returned (.bool (few51P x)) ∧ Ext w w' := by
  obtain ⟨vv, ve, rfl, hV, hE⟩ := hv
  have HCE := Lib.hid (fun W (hW : Ext w W) (hb : x.events.length ≤ 20) => containsFunc_evs REv rev_lasts 30 #[] enters_30 few51E ve x.events W (hE.ext rev_lasts hW) (by omega) (fun y _ W vs _ hR => few11_calls vs y W hR))
  have HP : Hid (few51P x = (decide (20 < x.events.length) || (decide (20 < x.vars.length) || x.events.any few51E))) := Lib.hid rfl
  obtain ⟨va, vc, rfl, hvc⟩ := hV.sh
  obtain ⟨ea, ec, rfl, hec⟩ := hE.sh
  obtain ⟨r, hr⟩ : ∃ r, few51P x = r := ⟨_, rfl⟩
  rw [hr] at HP ⊢
  generalize x.events.any few51E = b at *
  generalize x.vars.length = nv at *
  generalize x.events.length = ne at *
  generalize x.name = nm at *
  have HE1 : Hid (Ext w (w.alloc (.cells #[.string nm, .slice va nv vc, .slice ea ne ec] 58))) := Lib.hid (by repeat (first | refine Ext.st ?_ (by first | exact Nat.le_refl _ | exact Nat.le_succ _ | assumption | omega) _ | refine Ext.al ?_ _ | refine Ext.dr ?_ | refine Ext.drN ?_ _ | exact Ext.rf _))
  clear hV hE hr
  by_cases h1 : 20 < ne
  · have d1 : decide (20 < (ne : Int)) = true := decide_eq_true (by omega)
    have d1n : decide (20 < ne) = true := decide_eq_true h1
    obtain rfl : r = true := by rw [HP.out, d1n]; rfl
    clear h1
    go_enter Tryz.func28, Tryz.ntmps28
    go_wp2
    go_ret
    exact ⟨rfl, HE1.out⟩
  · have d1 : decide (20 < (ne : Int)) = false := decide_eq_false (by omega)
    have d1n : decide (20 < ne) = false := decide_eq_false h1
    have HC := Lib.hid (fun W hW => HCE.out W hW (by omega))
    by_cases h2 : 20 < nv
    · have d2 : decide (20 < (nv : Int)) = true := decide_eq_true (by omega)
      have d2n : decide (20 < nv) = true := decide_eq_true h2
      obtain rfl : r = true := by rw [HP.out, d1n, d2n]; rfl
      clear h1 h2
      go_enter Tryz.func28, Tryz.ntmps28
      go_wp2
      go_ret
      exact ⟨rfl, HE1.out⟩
    · have d2 : decide (20 < (nv : Int)) = false := decide_eq_false (by omega)
      have d2n : decide (20 < nv) = false := decide_eq_false h2
      obtain rfl : r = b := by rw [HP.out, d1n, d2n]; rfl
      clear h1 h2
      go_enter Tryz.func28, Tryz.ntmps28
      go_wp2_with fail
      refine (HC.out _ HE1.out).mono ?_
      rintro e w3 ⟨rfl, hX⟩
      go_wp2
      go_ret
      exact ⟨rfl, HE1.out.trans' hX⟩

set_option maxHeartbeats 2000000 in
set_option maxRecDepth 100000 in
theorem few51_calls (v : Value) (t : Tr) (w : World) (h : TrAt w v t) : Calls Tryz.prog 6 #[.agg #[v]] w fun e w' => e = .returned (.bool (few51T t)) ∧ Ext w w' := by
  have HCE := Lib.hid (fun W (hW : Ext w W) (hb : t.length ≤ 10) => containsFunc_procs RPr rpr_lasts 28 #[] enters_28 few51P v t W (h.ext hW) (by omega) (fun y _ W vs _ hR => few1_calls vs y W hR))
  have HP : Hid (few51T t = (decide (t.length ≤ 10) && !t.any few51P)) := Lib.hid rfl
  obtain ⟨ta, tc, rfl, htc⟩ := h.sh
  obtain ⟨r, hr⟩ : ∃ r, few51T t = r := ⟨_, rfl⟩
  rw [hr] at HP ⊢
  generalize t.any few51P = b at *
  generalize t.length = n at *
  have HE1 : Hid (Ext w (w.alloc (.cells #[.slice ta n tc] 24))) := Lib.hid (by repeat (first | refine Ext.st ?_ (by first | exact Nat.le_refl _ | exact Nat.le_succ _ | assumption | omega) _ | refine Ext.al ?_ _ | refine Ext.dr ?_ | refine Ext.drN ?_ _ | exact Ext.rf _))
  clear h hr
  by_cases h1 : n ≤ 10
  · have d1 : decide ((n : Int) ≤ 10) = true := decide_eq_true (by omega)
    have d1n : decide (n ≤ 10) = true := decide_eq_true h1
    have HC := Lib.hid (fun W hW => HCE.out W hW (by omega))
    obtain rfl : r = !b := by rw [HP.out, d1n]; rfl
    clear h1
    go_enter Tryz.func6, Tryz.ntmps6
    go_wp2_with fail
    refine (HC.out _ HE1.out).mono ?_
    rintro e w3 ⟨rfl, hX⟩
    go_wp2
    go_ret
    exact ⟨by simp, HE1.out.trans' hX⟩
  · have d1 : decide ((n : Int) ≤ 10) = false := decide_eq_false (by omega)
    have d1n : decide (n ≤ 10) = false := decide_eq_false h1
    obtain rfl : r = false := by rw [HP.out, d1n]; rfl
    clear h1
    go_enter Tryz.func6, Tryz.ntmps6
    go_wp2
    go_ret
    exact ⟨rfl, HE1.out⟩

set_option maxHeartbeats 1000000 in
theorem long1_calls (vs : List Value) (x : List Int) (w : World) (hv : RInts w vs x) : Calls Tryz.prog 32 #[encOne vs] w fun e w' => e = .returned (.bool (long51R x)) ∧ Ext w w' := by
  obtain ⟨u, rfl, hi⟩ := hv
  obtain ⟨a, c, rfl, hlc, _⟩ := hi
  unfold encOne
  simp only [List.headD_cons]
  obtain ⟨r, hr⟩ : ∃ r, decide (20 < (x.length : Int)) = r := ⟨_, rfl⟩
  have HR : Hid (long51R x = r) := Lib.hid (by unfold long51R; rw [← hr]; simp; omega)
  rw [HR.out]
  generalize x.length = n at *
  go_enter Tryz.func32, Tryz.ntmps32
  go_wp2
  go_ret
  exact ⟨rfl, Ext.rf _⟩

set_option maxHeartbeats 2000000 in
set_option maxRecDepth 100000 in
theorem long51_calls (vw : Value) (l : List (List Int)) (w : World) (h : Sl RInts 1 w vw l) : Calls Tryz.prog 7 #[vw] w fun e w' => e = .returned (.bool (long51 l)) ∧ Ext w w' := by
  have HCE := Lib.hid (fun W (hW : Ext w W) (hb : l.length ≤ 120) => containsFunc_rows RInts rints_lasts 32 #[] enters_32 long51R vw l W (h.ext rints_lasts hW) (by omega) (fun y _ W vs _ hR => long1_calls vs y W hR))
  have HP : Hid (long51 l = (decide (120 < l.length) || l.any long51R)) := Lib.hid rfl
  obtain ⟨ta, tc, rfl, htc⟩ := h.shape
  obtain ⟨r, hr⟩ : ∃ r, long51 l = r := ⟨_, rfl⟩
  rw [hr] at HP ⊢
  generalize l.any long51R = b at *
  generalize l.length = n at *
  clear h hr
  by_cases h1 : 120 < n
  · have d1 : decide (120 < (n : Int)) = true := decide_eq_true (by omega)
    have d1n : decide (120 < n) = true := decide_eq_true h1
    obtain rfl : r = true := by rw [HP.out, d1n]; rfl
    clear h1
    go_enter Tryz.func7, Tryz.ntmps7
    go_wp2
    go_ret
    exact ⟨rfl, Ext.rf _⟩
  · have d1 : decide (120 < (n : Int)) = false := decide_eq_false (by omega)
    have d1n : decide (120 < n) = false := decide_eq_false h1
    have HC := Lib.hid (fun W hW => HCE.out W hW (by omega))
    obtain rfl : r = b := by rw [HP.out, d1n]; rfl
    clear h1
    go_enter Tryz.func7, Tryz.ntmps7
    go_wp2_with fail
    refine (HC.out _ (Ext.rf _)).mono ?_
    rintro e w3 ⟨rfl, hX⟩
    go_wp2
    go_ret
    exact ⟨rfl, hX⟩

end Go.Proofs.YtfcpnggdpaeldaaGreat

/-
  Whether a list is a consistent cut: the program's Consistent.
-/
namespace Go.Proofs.YtfcpnggdpaeldaaGreat
open Go.RowKit
set_option linter.unusedVariables false
attribute [local go_sem ↓] Go.wp_at_zero Go.wp_at_succ

set_option maxHeartbeats 4000000 in
theorem consistentP_calls (v vc : Value) (t : Tr) (c : List Int) (w : World) (h : TrAt w v t) (hs : LooseTr t) (hc : Ints w vc c) :
    Calls Tryz.prog 34 #[.agg #[v], vc] w fun e w' => e = .returned (.bool (consB t c)) ∧ Ext w w' := by
  obtain ⟨ta, tc, rfl, htc⟩ := h.sh
  have HCC := Lib.hid hc
  obtain ⟨ca, cc, rfl, hlc, _⟩ := hc
  have HX2 : Hid (Ext w ((w.alloc (.cells #[.slice ta t.length tc] 24)).alloc (.cells #[.slice ca c.length cc] 25))) := Lib.hid (by repeat (first | refine Ext.st ?_ (by first | exact Nat.le_refl _ | exact Nat.le_succ _ | assumption | omega) _ | refine Ext.al ?_ _ | refine Ext.dr ?_ | refine Ext.drN ?_ _ | exact Ext.rf _))
  have HG := Lib.hid (givenP_calls (.slice ta t.length tc) (.slice (some ⟨w.heap.size + 1, 0, none⟩) 1 1) (.slice none 0 0) t [c] [] _ (h.ext HX2.out) hs (rows_one (heap_new_eq (by simp)) (HCC.out.ext HX2.out)) (by simp) (ints_none _) (by simp))
  obtain ⟨ge, hge⟩ : ∃ E, givenE t [c] [] = E := ⟨_, rfl⟩
  rw [hge] at HG
  obtain ⟨cb, hcb⟩ : ∃ b, consB t c = b := ⟨_, rfl⟩
  rw [hcb]
  have HI : Hid ((ge == 0) = cb) := Lib.hid (by have := givenE_one t c; rw [hge, hcb] at this; cases cb <;> simp_all)
  generalize t.length = N at *
  generalize c.length = M at *
  clear h hs hge hcb
  go_enter Tryz.func34, Tryz.ntmps34
  go_wp2_with fail
  refine HG.out.mono ?_
  rintro e w2 ⟨rfl, hX⟩
  obtain ⟨r, hr⟩ : ∃ r, (ge == 0) = r := ⟨_, rfl⟩
  have HR := Lib.hid (HI.out.symm.trans hr)
  go_wp2
  go_ret
  exact ⟨by rw [HR.out]; rfl, HX2.out.trans' hX⟩

end Go.Proofs.YtfcpnggdpaeldaaGreat

/-
  A region that draws its order, of which some operations write what others read: the loads may be taken first all the same, where the writing ones wait for them. No program is named here.
-/
namespace Go.Proofs.YtfcpnggdpaeldaaGreat
set_option linter.unusedVariables false

section
variable {P : Program} {ops : Array Oper} {Q : Exit → Act → World → Prop} {md : Region.Mode} {S : World → Prop} {st : List Nat}

/-- Whatever order is picked from here on, and S holds behind every operation but st. -/
def wpAnyU (P : Program) (md : Region.Mode) (ops : Array Oper) (Q : Exit → Act → World → Prop) (S : World → Prop) (st : List Nat) : Nat → Array Bool → Act → World → Prop
  | 0, listed, a, w => Region.ready md ops listed = [] ∧ Q .normal a w
  | fuel + 1, listed, a, w =>
    (Region.ready md ops listed = [] → Q .normal a w) ∧
    ∀ i ∈ Region.ready md ops listed, wpOp P ops Q i (fun a' w' => (i ∈ st ∨ S w') ∧ wpAnyU P md ops Q S st fuel (listed.setIfInBounds i true) a' w') a w

theorem wpAny_of_U : ∀ (fuel : Nat) (listed : Array Bool) (a : Act) (w : World), wpAnyU P md ops Q S st fuel listed a w → wpAny P md ops Q fuel listed a w
  | 0, _, _, _, h => h
  | fuel + 1, _, _, _, h => ⟨h.1, fun i hi => wpOp_mono (fun a' w' h' => wpAny_of_U fuel _ a' w' h'.2) (h.2 i hi)⟩

theorem wpAnyU_first {i : Nat} {oi : Oper} {v : Value} (hi : ops[i]? = some oi) (hsel : ∀ (j : Nat) (o : Oper) cs b, ops[j]? = some o → o.op ≠ .select cs b)
    (hQ : ∀ c a w, Q (.panic c) (a.put oi.dst v) w → Q (.panic c) a w) (D : List Nat) (hst : ∀ s ∈ st, s ∈ D)
    (hD : ∀ d ∈ D, d ≠ i → ∃ od, ops[d]? = some od ∧ ∃ e ∈ od.after, Region.binds md e = true ∧ e.on ∈ D) :
    ∀ (fuel : Nat) (listed : Array Bool) (a : Act) (w : World),
      (∀ j oj, ops[j]? = some oj → j ≠ i → listed.getD j true = false → (∀ e ∈ oj.after, Region.binds md e = true → e.on ≠ i) → oi.apart ops oj = true) →
      i ∈ Region.ready md ops listed → (∀ d ∈ D, listed.getD d true = false) → YieldsIf P ops S oi v a → S w →
      wpAnyU P md ops Q S st fuel (listed.setIfInBounds i true) (a.put oi.dst v) w → wpAnyU P md ops Q S st (fuel + 1) listed a w := by
  intro fuel
  induction fuel with
  | zero =>
    intro listed a w _ hr _ hy hS H
    refine ⟨fun h => (by rw [h] at hr; cases hr), fun j hj => ?_⟩
    by_cases hji : j = i
    · subst hji; exact hy.wpOp hi hS ⟨.inr hS, H⟩
    · have := ready_mono hj hji
      rw [H.1] at this
      cases this
  | succ fuel ih =>
    intro listed a w hfree hr hun hy hS H
    refine ⟨fun h => (by rw [h] at hr; cases hr), fun j hj => ?_⟩
    by_cases hji : j = i
    · subst hji; exact hy.wpOp hi hS ⟨.inr hS, H⟩
    · have h1 := H.2 j (ready_mono hj hji)
      obtain ⟨hjun, oj, hoj, hall⟩ := mem_ready.1 hj
      have flip : ∀ k, listed.getD k true = false → listed.getD k false = true → False := fun k h0 h1 => by
        rcases Nat.lt_or_ge k listed.size with h' | h'
        · simp [h'] at h0 h1; rw [h0] at h1; cases h1
        · simp [Array.getElem?_eq_none h'] at h1
      have hnot : ∀ e ∈ oj.after, Region.binds md e = true → e.on ≠ i := fun e he hb heq => by
        have h1 := hall e he hb
        rw [heq] at h1
        exact flip i (mem_ready.1 hr).1 h1
      have hjD : j ∉ D := fun hjd => by
        obtain ⟨od, hod, e, he, hb, hed⟩ := hD j hjd hji
        rw [hoj] at hod
        cases hod
        exact flip e.on (hun e.on hed) (hall e he hb)
      have hjst : j ∉ st := fun e => hjD (hst j e)
      have h2 := wpOp_putIf hoj (hfree j oj hoj hji hjun hnot) (fun cs b => hsel i oi cs b hi) (fun cs b => hsel j oj cs b hoj) hQ hy h1
      have hfree' : ∀ k ok, ops[k]? = some ok → k ≠ i → (listed.setIfInBounds j true).getD k true = false →
          (∀ e ∈ ok.after, Region.binds md e = true → e.on ≠ i) → oi.apart ops ok = true := fun k ok hk hki hun hno => by
        refine hfree k ok hk hki ?_ hno
        by_cases hjk : j = k
        · subst hjk; exact hjun
        · rw [getD_set_ne true hjk] at hun; exact hun
      have hun' : ∀ d ∈ D, (listed.setIfInBounds j true).getD d true = false := fun d hd => by
        rw [getD_set_ne true (fun e => hjD (by rw [e]; exact hd))]; exact hun d hd
      refine wpOp_mono (fun a' w' h3 => ?_) h2
      have hSw : S w' := h3.2.1.resolve_left hjst
      refine ⟨.inr hSw, ih (listed.setIfInBounds j true) a' w' hfree' (ready_mono hr (Ne.symm hji)) hun' h3.1 hSw ?_⟩
      rw [Array.setIfInBounds_comm _ _ hji]
      exact h3.2.2

/-- What waits for number i, itself included. -/
def upOfU (md : Region.Mode) (ops : Array Oper) (i : Nat) : List Nat :=
  (List.range ops.size).foldl (fun D j => if j == i || ((ops[j]?).map (·.after.any fun e => Region.binds md e && D.contains e.on)).getD false then D ++ [j] else D) []
def upOkU (md : Region.Mode) (ops : Array Oper) (listed : Array Bool) (st : List Nat) (i : Nat) : Bool :=
  (st.all fun s => (upOfU md ops i).contains s) && (upOfU md ops i).all fun d => !(listed.getD d true) && (d == i || ((ops[d]?).map (·.after.any fun e => Region.binds md e && (upOfU md ops i).contains e.on)).getD false)

/-- Take number i first, slot d := v. -/
theorem wpAnyU_take {i : Nat} {oi : Oper} {v : Value} {d : Option Tmp} {fuel : Nat} {listed : Array Bool} {a : Act} {w : World} (hi : ops[i]? = some oi) (hd : oi.dst = d)
    (hs : Region.noSelect ops = true) (hf : Region.free md ops listed i = true) (hr : (Region.ready md ops listed).contains i = true) (hu : upOkU md ops listed st i = true)
    (hQ : ∀ c a w, Q (.panic c) (a.put d v) w → Q (.panic c) a w) (hy : YieldsIf P ops S oi v a) (hS : S w)
    (h : wpAnyU P md ops Q S st fuel (listed.setIfInBounds i true) (a.put d v) w) : wpAnyU P md ops Q S st (fuel + 1) listed a w := by
  subst hd
  unfold upOkU at hu
  simp only [Bool.and_eq_true, List.all_eq_true, Bool.not_eq_true', Bool.or_eq_true, beq_iff_eq] at hu
  obtain ⟨h1, h2⟩ := hu
  refine wpAnyU_first hi (Region.noSelect_spec hs) hQ (upOfU md ops i) (by simpa using h1) (fun d hd hne => ?_) fuel listed a w (Region.free_spec hi hf) (by simpa using hr) (fun d hd => (h2 d hd).1) hy hS h
  have h3 := (h2 d hd).2.resolve_left hne
  cases hod : ops[d]? with
  | none => rw [hod] at h3; simp at h3
  | some od =>
    rw [hod] at h3
    simp only [Option.map_some, Option.getD_some] at h3
    obtain ⟨e, he, hb⟩ := Array.any_eq_true'.1 h3
    rw [Bool.and_eq_true] at hb
    exact ⟨od, rfl, e, he, hb.1, by simpa using hb.2⟩

theorem wp_region_tails (S : World → Prop) (st : List Nat) {id : Nat} {a : Act} {w : World} (hm : P.follows .mixedOrders = true) (hS : S w.drew)
    (h : S w.drew → wpAnyU P .any ops Q S st ops.size (Array.replicate ops.size false) a w.drew) : (Code.region id ops true).wp P Q a w :=
  wp_region_any hm (wpAny_of_U _ _ _ _ (h hS))

/-- The one operation that may come up is carried out. -/
theorem wpAnyU_step {i : Nat} {o : Oper} {fuel : Nat} {listed : Array Bool} {a : Act} {w : World} (hr : Region.ready md ops listed = [i]) (ho : ops[i]? = some o)
    (h : ∀ K' : Act → World → Prop, Shut (∀ a w, S w → (S w → wpAnyU P md ops Q S st fuel (listed.setIfInBounds i true) a w) → K' a w) → if Region.wanted o (yielded ops a.tmps) = true then Oper.wp P o a w K' Q else K' (a.put o.dst undef) w) :
    wpAnyU P md ops Q S st (fuel + 1) listed a w :=
  ⟨fun h0 => (by rw [hr] at h0; cases h0), fun j hj => by
    rw [hr] at hj
    obtain rfl : j = i := by simpa using hj
    exact wpOp_step ho (fun K' hK => h K' (fun a w hS hW => hK a w ⟨.inr hS, hW hS⟩))⟩

/-- One that writes, the only one that may come up. -/
theorem wpAnyU_store {i : Nat} {o : Oper} {fuel : Nat} {listed : Array Bool} {a : Act} {w : World} (hr : Region.ready md ops listed = [i]) (ho : ops[i]? = some o) (hi : i ∈ st)
    (h : ∀ K' : Act → World → Prop, Shut (∀ a w, wpAnyU P md ops Q S st fuel (listed.setIfInBounds i true) a w → K' a w) → if Region.wanted o (yielded ops a.tmps) = true then Oper.wp P o a w K' Q else K' (a.put o.dst undef) w) :
    wpAnyU P md ops Q S st (fuel + 1) listed a w :=
  ⟨fun h0 => (by rw [hr] at h0; cases h0), fun j hj => by
    rw [hr] at hj
    obtain rfl : j = i := by simpa using hj
    exact wpOp_step ho (fun K' hK => h K' (fun a w hW => hK a w ⟨.inl hi, hW⟩))⟩
/-- Nothing is left. -/
theorem wpAnyU_done {fuel : Nat} {listed : Array Bool} {a : Act} {w : World} (hr : Region.ready md ops listed = []) (hq : Q .normal a w) : wpAnyU P md ops Q S st fuel listed a w := by
  cases fuel with
  | zero => exact ⟨hr, hq⟩
  | succ n => exact ⟨fun _ => hq, by rw [hr]; simp⟩

/-! ### Several that may come up -/
def AllU (P : Program) (md : Region.Mode) (ops : Array Oper) (Q : Exit → Act → World → Prop) (S : World → Prop) (st : List Nat) (fuel : Nat) (listed : Array Bool) (a : Act) (w : World) (rs : List Nat) : Prop :=
  ∀ i ∈ rs, wpOp P ops Q i (fun a' w' => (i ∈ st ∨ S w') ∧ wpAnyU P md ops Q S st fuel (listed.setIfInBounds i true) a' w') a w
theorem AllU.nil {fuel : Nat} {listed : Array Bool} {a : Act} {w : World} : AllU P md ops Q S st fuel listed a w [] := fun _ h => by cases h
theorem AllU.cons {fuel : Nat} {listed : Array Bool} {a : Act} {w : World} {i : Nat} {o : Oper} {rs : List Nat} (ho : ops[i]? = some o)
    (h : ∀ K' : Act → World → Prop, Shut (∀ a w, S w → (S w → wpAnyU P md ops Q S st fuel (listed.setIfInBounds i true) a w) → K' a w) → if Region.wanted o (yielded ops a.tmps) = true then Oper.wp P o a w K' Q else K' (a.put o.dst undef) w)
    (hs : AllU P md ops Q S st fuel listed a w rs) : AllU P md ops Q S st fuel listed a w (i :: rs) := fun j hj => by
  rcases List.mem_cons.1 hj with rfl | hj
  · exact wpOp_step ho (fun K' hK => h K' (fun a w hS hW => hK a w ⟨.inr hS, hW hS⟩))
  · exact hs j hj
theorem AllU.consS {fuel : Nat} {listed : Array Bool} {a : Act} {w : World} {i : Nat} {o : Oper} {rs : List Nat} (ho : ops[i]? = some o) (hi : i ∈ st)
    (h : ∀ K' : Act → World → Prop, Shut (∀ a w, wpAnyU P md ops Q S st fuel (listed.setIfInBounds i true) a w → K' a w) → if Region.wanted o (yielded ops a.tmps) = true then Oper.wp P o a w K' Q else K' (a.put o.dst undef) w)
    (hs : AllU P md ops Q S st fuel listed a w rs) : AllU P md ops Q S st fuel listed a w (i :: rs) := fun j hj => by
  rcases List.mem_cons.1 hj with rfl | hj
  · exact wpOp_step ho (fun K' hK => h K' (fun a w hW => hK a w ⟨.inl hi, hW⟩))
  · exact hs j hj
theorem wpAnyU_ready {rs : List Nat} {fuel : Nat} {listed : Array Bool} {a : Act} {w : World} (hr : Region.ready md ops listed = rs) (hne : rs ≠ [])
    (h : AllU P md ops Q S st fuel listed a w rs) : wpAnyU P md ops Q S st (fuel + 1) listed a w :=
  ⟨fun h0 => absurd (hr ▸ h0) hne, hr ▸ h⟩
end

end Go.Proofs.YtfcpnggdpaeldaaGreat
