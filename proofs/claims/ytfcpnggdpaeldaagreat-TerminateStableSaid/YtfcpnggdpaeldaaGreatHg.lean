import Derived.Test.YtfcpnggdpaeldaaGreatJa
import Derived.Test.YtfcpnggdpaeldaaGreatProg
import Derived.Test.YtfcpnggdpaeldaaGreatHc
import Derived.BigQuiet
import Derived.Deep.QuietTactic
import Derived.Deep.LoopGhost
import Derived.Shelf.Abstract
import Derived.Deep.DeepCutAuto
/-
  Whether a trace is driven by messages: the reference's Driven.
-/
namespace Go.Proofs.YtfcpnggdpaeldaaGreat
open Go.RowKit
set_option linter.unusedVariables false
attribute [local go_sem ↓] Go.wp_at_zero Go.wp_at_succ

noncomputable def drvT (t : Tr) (s : ByteArray) : Bool := @decide (DrvT t s) (Classical.propDecidable _)
theorem drvT_iff {t : Tr} {s : ByteArray} : drvT t s = true ↔ DrvT t s := by unfold drvT; exact @decide_eq_true_iff _ (Classical.propDecidable _)

set_option maxHeartbeats 8000000 in
set_option maxRecDepth 100000 in
theorem drivenR_calls (v : Value) (t : Tr) (s : ByteArray) (w : World) (h : TrAt w v t) (hv : validT t = true) (hh : hasT t s = true) :
    Calls Tryz.prog 17 #[.agg #[v], .string s] w fun e w' => e = .returned (.bool (drvT t s)) ∧ Ext w w' := by
  have HT := Lib.hid h
  have hs := valid_small hv
  have HIL := Lib.hid (fun W (hW : Ext w W) p k hp hk => idleR_calls v t s p k W (h.ext hW) hv hh hp hk)
  have HE64 : Hid (∀ p, p < t.length → t[p]!.events.length ≤ 64) := Lib.hid (fun p hp => (headB_parts.1 ((shapeB_parts2.1 (validT_parts2.1 hv).1).2.2.1 p hp)).2.2.2.2)
  have hn1 := hs.1
  obtain ⟨ta, tc, rfl, htc⟩ := h.sh
  obtain ⟨R, hR⟩ : ∃ b, drvT t s = b := ⟨_, rfl⟩
  rw [hR]
  have HNO : Hid (∀ p, p < t.length → ∀ i, i < t[p]!.events.length → drvB t s p i = false → R = false) := Lib.hid (fun p hp i hi h => by rw [← hR, Bool.eq_false_iff]; intro e; have := drvT_iff.1 e p hp i hi; rw [h] at this; cases this)
  have HYES : Hid (DrvT t s → R = true) := Lib.hid (fun h => hR.symm.trans (drvT_iff.2 h))
  generalize hln : t.length = n at *
  have HL := Lib.hid hln
  have HX0 := Lib.hid (heap_alloc_new w (.cells #[.slice ta n tc] 24))
  have HE1 := Lib.hid ((Ext.rf w).al (.cells #[.slice ta n tc] 24))
  clear h hs hv hh hR hln
  go_enter Tryz.func17, Tryz.ntmps17
  go_wp2
  generalize hw2 : w.alloc (.cells #[.slice ta n tc] 24) = w2 at *
  clear hw2
  go_loopg [5] n (fun g s5 wr => ∃ p : Nat, p ≤ n ∧ n - p ≤ g ∧ s5 = .int .i64 p ∧ Aside (∀ q, q < p → ∀ i, i < t[q]!.events.length → drvB t s q i = true) ∧ Aside (Ext w2 wr))
  case atStart => exact ⟨0, Nat.zero_le _, by omega, rfl, (fun j hj => absurd hj (Nat.not_lt_zero _)), Ext.rf _⟩
  case round =>
    obtain ⟨p, hp, hg, rfl, A, HEK⟩ := hrel
    have HEW := Lib.hid (HE1.out.trans' HEK.out)
    have HY0 := Lib.hid (HEK.out.hp HX0.out)
    have t0 := cellOf HY0.out 0
    simp only [List.getElem?_toArray, List.getElem?_cons_zero] at t0
    by_cases hlt : p < n
    · have hltz : (p : Int) < (n : Int) := by omega
      have hpz : (0 : Int) ≤ (p : Int) := by omega
      obtain ⟨B, O, C, vv, ve, hve, hlC, hB, hn0, hv0, he0, hV, hE0⟩ := proc_at HT.out p (by rw [HL.out]; exact hlt)
      simp only [Value.slice.injEq] at hve
      obtain ⟨rfl, hzz, rfl⟩ := hve
      have HEV := Lib.hid hE0
      obtain ⟨ea, ec, rfl, hec⟩ := hE0.sh
      have HE0 := Lib.hid he0
      have hen := HE64.out p hlt
      have HNP := Lib.hid (HNO.out p hlt)
      generalize hne : t[p]!.events.length = ne at *
      have HNE := Lib.hid hne
      clear hn0 hv0 hV hE0 hzz hne he0
      go_wp2
      clear t0
      obtain ⟨wo, rfl⟩ : ∃ x, x = wr := ⟨_, rfl⟩
      go_loopg [6] ne (fun g2 s6 wr => ∃ k : Nat, 1 ≤ k ∧ k ≤ ne + 1 ∧ ne + 1 - k ≤ g2 ∧ s6 = .int .i64 k ∧ Aside (∀ i, i + 1 < k → drvB t s p i = true) ∧ Aside (Ext wo wr))
      case atStart => exact ⟨1, by omega, by omega, by omega, rfl, (fun i hi => absurd hi (by omega)), Ext.rf _⟩
      case round =>
        obtain ⟨k, hk1, hk, hg2, rfl, A2, HEK2⟩ := hrel
        have HEW2 := Lib.hid (HEW.out.trans' HEK2.out)
        have HY2 := Lib.hid (HEK2.out.hp HY0.out)
        have t0 := cellOf HY2.out 0
        simp only [List.getElem?_toArray, List.getElem?_cons_zero] at t0
        have e1 := HEW2.out.cl HE0.out
        by_cases hli : k ≤ ne
        · have hliz : (k : Int) ≤ (ne : Int) := by omega
          have dk : decide ((k : Int) ≤ (ne : Int)) = true := decide_eq_true hliz
          obtain ⟨i, hik⟩ : ∃ i : Nat, k = i + 1 := ⟨k - 1, by omega⟩
          have e3 : (k : Int) - 1 = (i : Int) := by omega
          have hiz : (0 : Int) ≤ (i : Int) := by omega
          have hine : (i : Int) < (ne : Int) := by omega
          have hwi : IntKind.i64.wrap (i : Int) = (i : Int) := IntWalk.i64_in _ (by omega)
          obtain ⟨EB, EO, EC, va, hee, hlE, hEB, k0, k1, k2, k3, k4, ha⟩ := event_at HEV.out i (by rw [HNE.out]; omega)
          simp only [Value.slice.injEq] at hee
          obtain ⟨rfl, hzz, rfl⟩ := hee
          obtain ⟨va1, va2, rfl, _⟩ := ha.sh
          have m0 := HEW2.out.cl k0
          have m1 := HEW2.out.cl k1
          have m2 := HEW2.out.cl k2
          have m3 := HEW2.out.cl k3
          have m4 := HEW2.out.cl k4
          have HDV : Hid (drvB t s p i = !(idleB t s p i && ((!idleB t s p k && !decide (t[p]!.events[i]!.kind = 3)) || decide (t[p]!.events[i]!.kind = 2)))) := Lib.hid (by rw [hik]; rfl)
          have HIA := Lib.hid (fun W (hW : Ext w W) => HIL.out W hW p i hlt (by rw [HNE.out]; omega))
          have HIB := Lib.hid (fun W (hW : Ext w W) => HIL.out W hW p k hlt (by rw [HNE.out]; omega))
          have HNI := Lib.hid (HNP.out i (by omega))
          have HP : Hid (drvB t s p i = true → ∀ j, j + 1 < k + 1 → drvB t s p j = true) := Lib.hid (fun h j hj => by
            by_cases e : j = i
            · subst e; exact h
            · exact A2.out j (by omega))
          generalize drvB t s p i = D at *
          generalize idleB t s p i = ba at *
          generalize idleB t s p k = bb at *
          generalize t[p]!.events[i]! = y at *
          generalize y.asg.length = nb at *
          have HXT := Lib.hid ((Ext.rf wr).al (evO y.kind y.peer y.msg y.time (.slice va1 nb va2)))
          have HBX := Lib.hid (heap_alloc_new wr (evO y.kind y.peer y.msg y.time (.slice va1 nb va2)))
          have hw0 : w.heap.size < wr.heap.size := (Array.getElem?_eq_some_iff.1 HY2.out).1
          have hw1 : w.heap.size ≠ wr.heap.size := by omega
          clear k0 k1 k2 k3 k4 hzz ha hik
          go_wp2_with fail
          refine (HIA.out _ (HEW2.out.trans' HXT.out)).mono ?_
          rintro e w7 ⟨rfl, hX7⟩
          have HX7 := Lib.hid (HXT.out.trans' hX7)
          have HB7 := Lib.hid (hX7.hp HBX.out)
          have HY7 := Lib.hid (HX7.out.hp HY2.out)
          have HE7 := Lib.hid (HEW2.out.trans' HX7.out)
          have HK7 := Lib.hid (HEK2.out.trans' HX7.out)
          have t7 := cellOf HY7.out 0
          have b7 := cellOf HB7.out 0
          simp only [List.getElem?_toArray, List.getElem?_cons_zero] at t7 b7
          clear hX7 t0 e1 m0 m1 m2 m3 m4 hw0 hw1 dk
          cases ba with
          | false =>
            have HPP := Lib.hid (HP.out HDV.out)
            go_wp2
            go_roundg (ne + 1 - (k + 1))
            case measure => omega
            case rel => exact ⟨k + 1, by omega, by omega, by omega, by go_num, (show Aside _ from HPP.out), (show Ext _ _ from HK7.out)⟩
          | true =>
          go_wp2_with fail
          refine (HIB.out _ HE7.out).mono ?_
          rintro e w8 ⟨rfl, hX8⟩
          have HE8 := Lib.hid (HE7.out.trans' hX8)
          have HK8 := Lib.hid (HK7.out.trans' hX8)
          have HB8 := Lib.hid (hX8.hp HB7.out)
          have b8 := cellOf HB8.out 0
          simp only [List.getElem?_toArray, List.getElem?_cons_zero] at b8
          clear hX8 t7 b7
          by_cases h3 : y.kind = 3
          · have d3 : (y.kind != 3) = false := by simp [h3]
            have d2 : (y.kind == 2) = false := by simp [h3]
            have HDT : Hid (D = true) := Lib.hid (by rw [HDV.out, h3]; simp)
            have HPP := Lib.hid (HP.out HDT.out)
            clear h3
            cases bb <;>
            · go_wp2
              go_roundg (ne + 1 - (k + 1))
              case measure => omega
              case rel => exact ⟨k + 1, by omega, by omega, by omega, by go_num, (show Aside _ from HPP.out), (show Ext _ _ from HK8.out)⟩
          · have d3 : (y.kind != 3) = true := by simp [h3]
            have HD3 : Hid (decide (y.kind = 3) = false) := Lib.hid (decide_eq_false h3)
            clear h3
            cases bb with
            | false =>
              obtain rfl : R = false := HNI.out (by rw [HDV.out, HD3.out]; simp)
              go_wp2
              go_ret
              exact ⟨rfl, HE8.out⟩
            | true =>
              by_cases h2 : y.kind = 2
              · have d2 : (y.kind == 2) = true := by simp [h2]
                obtain rfl : R = false := HNI.out (by rw [HDV.out, h2]; simp)
                clear h2
                go_wp2
                go_ret
                exact ⟨rfl, HE8.out⟩
              · have d2 : (y.kind == 2) = false := by simp [h2]
                have HDT : Hid (D = true) := Lib.hid (by rw [HDV.out, decide_eq_false h2]; simp)
                have HPP := Lib.hid (HP.out HDT.out)
                clear h2
                go_wp2
                go_roundg (ne + 1 - (k + 1))
                case measure => omega
                case rel => exact ⟨k + 1, by omega, by omega, by omega, by go_num, (show Aside _ from HPP.out), (show Ext _ _ from HK8.out)⟩
        · have hliz : ¬ (k : Int) ≤ (ne : Int) := by omega
          have dk : decide ((k : Int) ≤ (ne : Int)) = false := decide_eq_false hliz
          have HPN : Hid (∀ q, q < p + 1 → ∀ i, i < t[q]!.events.length → drvB t s q i = true) := Lib.hid (fun q hq i hi => by
            by_cases e : q = p
            · subst e; rw [HNE.out] at hi; exact A2.out i (by omega)
            · exact A.out q (by omega) i hi)
          go_wp2
          go_roundg (n - (p + 1))
          case measure => omega
          case rel => exact ⟨p + 1, by omega, by omega, by go_num, (show Aside _ from HPN.out), (show Ext _ _ from HEK.out.trans' HEK2.out)⟩
    · have hltz : ¬ (p : Int) < (n : Int) := by omega
      obtain rfl : n = p := by omega
      obtain rfl : R = true := HYES.out (fun q hq i hi => A.out q (by rw [HL.out] at hq; exact hq) i hi)
      go_wp2
      go_ret
      exact ⟨rfl, HEW.out⟩

end Go.Proofs.YtfcpnggdpaeldaaGreat
