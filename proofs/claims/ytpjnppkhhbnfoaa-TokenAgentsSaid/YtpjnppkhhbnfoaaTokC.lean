/-
  Which agents are in order: the reference.
-/
import Derived.Test.YtpjnppkhhbnfoaaBase
import Derived.Test.YtpjnppkhhbnfoaaProg
import Derived.BigQuiet
import Derived.Deep.QuietTactic
import Derived.Deep.LoopGhost
import Derived.Shelf.Abstract
import Derived.Test.YtpjnppkhhbnfoaaTokA
import Derived.Test.YtpjnppkhhbnfoaaBoxG
import Derived.Test.YtpjnppkhhbnfoaaRq
namespace Go.Proofs.Ytpjnppkhhbnfoaa
open Go.RowKit
set_option linter.unusedVariables false


set_option maxHeartbeats 16000000 in
set_option maxRecDepth 100000 in
theorem agentsR_calls (v : Value) (l : List Ag) (w : World) (h : Sl RAgent 3 w v l) (hs : SmallT l) :
    Calls Try.prog 28 #[v] w fun e w' => e = .returned (.bool (agentsB l)) ∧ Ext w w' := by
  have HS := Lib.hid h
  have HSM := Lib.hid hs.2
  have hn := hs.1
  obtain ⟨a, c, rfl, hlc⟩ := h.shape
  clear h hs
  generalize hvb : agentsB l = vb
  have HVB := Lib.hid hvb.symm
  clear hvb
  have HY := Lib.hid (@agents_parts l)
  generalize hln : l.length = n at *
  have HN := Lib.hid hln
  clear hln
  have HEW := Lib.hid (Ext.rf w)
  by_cases h1 : n < 1
  · have b1 : decide ((n : Int) < 1) = true := by simp; omega
    have HV := Lib.hid (agents_no1 (l := l) (by rw [HN.out]; exact h1))
    go_enter Try.func28, Try.ntmps28
    go_wp2
    go_ret
    exact ⟨by rw [HVB.out, HV.out]; rfl, (by repeat (first | refine Ext.st ?_ (by first | exact Nat.le_refl _ | exact Nat.le_succ _ | assumption | omega) _ | refine Ext.al ?_ _ | refine Ext.dr ?_ | refine Ext.drN ?_ _ | exact HEW.out))⟩
  have b1 : decide ((n : Int) < 1) = false := by simp; omega
  by_cases h2 : 8 < n
  · have b2 : decide (8 < (n : Int)) = true := by simp; omega
    have HV := Lib.hid (agents_no2 (l := l) (by rw [HN.out]; exact h2))
    go_enter Try.func28, Try.ntmps28
    go_wp2
    go_ret
    exact ⟨by rw [HVB.out, HV.out]; rfl, (by repeat (first | refine Ext.st ?_ (by first | exact Nat.le_refl _ | exact Nat.le_succ _ | assumption | omega) _ | refine Ext.al ?_ _ | refine Ext.dr ?_ | refine Ext.drN ?_ _ | exact HEW.out))⟩
  have b2 : decide (8 < (n : Int)) = false := by simp; omega
  go_enter Try.func28, Try.ntmps28
  go_wp2
  clear HEW
  go_loopg [4] n (fun g s4 wr => ∃ k : Nat, k ≤ n ∧ n - k ≤ g ∧ s4 = .int .i64 k ∧ Aside (Ext w wr) ∧ Aside (∀ j, j < k → agentB n j l[j]! = true))
  case atStart => exact ⟨0, Nat.zero_le _, by omega, rfl, Ext.rf _, fun j hj => absurd hj (Nat.not_lt_zero _)⟩
  case round =>
    obtain ⟨k, hk, hg, rfl, HEW, A⟩ := hrel
    by_cases hlt : k < n
    · have hltz : (k : Int) < (n : Int) := by omega
      have hkz : (0 : Int) ≤ (k : Int) := by omega
      have hkq : k < l.length := by rw [HN.out]; exact hlt
      obtain ⟨B, O, C, a1, m1, c1, hue0, _, hq0, hd0, he0, M1, hmc1, HS1⟩ := agent_at HS.out k hkq
      simp only [Value.slice.injEq] at hue0
      obtain ⟨rfl, hnn, rfl⟩ := hue0
      have hq1 := HEW.out.cl hq0
      have hd1 := HEW.out.cl hd0
      have he1 := HEW.out.cl he0
      have HM1 := Lib.hid M1
      have hm1 := (HSM.out k hlt).1
      rw [← M1] at hm1
      have HSQ := Lib.hid HS1
      generalize hdd : l[k]!.dropped = dd at *
      generalize hee : l[k]!.ended = ee at *
      have HDD := Lib.hid hdd
      clear M1 HS1 hnn hq0 hd0 he0 hdd hee
      by_cases h65 : 65 < m1
      · have b5 : decide (65 < (m1 : Int)) = true := by simp; omega
        have b5' : decide (65 < m1) = true := by simp; omega
        have HV := Lib.hid (agents_no3 (l := l) k hkq (by rw [← HM1.out]; exact h65))
        clear h65
        go_wp2
        go_ret
        exact ⟨by rw [HVB.out, HV.out]; rfl, (by repeat (first | refine Ext.st ?_ (by first | exact Nat.le_refl _ | exact Nat.le_succ _ | assumption | omega) _ | refine Ext.al ?_ _ | refine Ext.dr ?_ | refine Ext.drN ?_ _ | exact HEW.out))⟩
      have b5 : decide (65 < (m1 : Int)) = false := by simp; omega
      have b5' : decide (65 < m1) = false := by simp; omega
      by_cases hd0 : dd < 0
      · have b6 : decide (dd < 0) = true := by simpa using hd0
        have HV := Lib.hid (agents_no4 (l := l) k hkq (by rw [HDD.out]; exact hd0))
        clear hd0
        go_wp2
        go_ret
        exact ⟨by rw [HVB.out, HV.out]; rfl, (by repeat (first | refine Ext.st ?_ (by first | exact Nat.le_refl _ | exact Nat.le_succ _ | assumption | omega) _ | refine Ext.al ?_ _ | refine Ext.dr ?_ | refine Ext.drN ?_ _ | exact HEW.out))⟩
      have b6 : decide (dd < 0) = false := by simpa using hd0
      by_cases hd2 : 1000 < dd
      · have b7 : decide (1000 < dd) = true := by simpa using hd2
        have HV := Lib.hid (agents_no5 (l := l) k hkq (by rw [HDD.out]; exact hd2))
        clear hd2
        go_wp2
        go_ret
        exact ⟨by rw [HVB.out, HV.out]; rfl, (by repeat (first | refine Ext.st ?_ (by first | exact Nat.le_refl _ | exact Nat.le_succ _ | assumption | omega) _ | refine Ext.al ?_ _ | refine Ext.dr ?_ | refine Ext.drN ?_ _ | exact HEW.out))⟩
      have b7 : decide (1000 < dd) = false := by simpa using hd2
      go_wp2
      clear hq1 hd1 he1
      obtain ⟨wo, rfl⟩ : ∃ x, x = wr := ⟨_, rfl⟩
      have HE1 := HEW
      go_loopg [6] m1 (fun g s6 wr => ∃ i : Nat, i ≤ m1 ∧ m1 - i ≤ g ∧ s6 = .int .i64 i ∧ Aside (Drawn wo wr) ∧ Aside (∀ j, j < i → stampB l[k]!.queue[j]! n = true ∧ (j = 0 ∨ afterB l[k]!.queue[j - 1]! l[k]!.queue[j]! k = true)))
      case atStart => exact ⟨0, Nat.zero_le _, by omega, rfl, Drawn.rf _, fun j hj => absurd hj (Nat.not_lt_zero _)⟩
      case round =>
        obtain ⟨i, hi, hg2, rfl, HDI, AI⟩ := hrel
        have HEW := Lib.hid (HE1.out.trans' HDI.out.ext)
        by_cases hlt2 : i < m1
        · have hltz2 : (i : Int) < (m1 : Int) := by omega
          have hiz : (0 : Int) ≤ (i : Int) := by omega
          have hiq : i < l[k]!.queue.length := by rw [← HM1.out]; exact hlt2
          obtain ⟨b, o, sv, rfl, hci0, hsv⟩ := stamp_at HSQ.out i hiq
          have hci := HEW.out.cl hci0
          have HSV := Lib.hid hsv
          have hsl := (HSM.out k hlt).2 i hiq
          clear hci0 hsv
          cases hst : stampB l[k]!.queue[i]! n with
          | false =>
            have HST := Lib.hid hst
            have HV := Lib.hid (agents_no6 (l := l) k i hkq hiq (by rw [HN.out]; exact hst))
            have HS1 := Lib.hid (fun W (hW : Ext w W) => stampTR_calls sv l[k]!.queue[i]! n W (HSV.out.ext hW) hsl)
            rw [hst] at HS1
            have HS2 := HS1
            clear hst
            go_wp2
            go_quiet ((first | (go_at_call 29; exact drawn_quiet (HS1.out _ (HEW.out.drN _))) | (go_at_call 30; exact drawn_quiet (HS2.out _ (HEW.out.drN _)))))
            go_wp2
            go_ret
            exact ⟨by rw [HVB.out, HV.out]; rfl, (by repeat (first | refine Ext.st ?_ (by first | exact Nat.le_refl _ | exact Nat.le_succ _ | assumption | omega) _ | refine Ext.al ?_ _ | refine Ext.dr ?_ | refine Ext.drN ?_ _ | exact HEW.out))⟩
          | true =>
            have HST := Lib.hid hst
            have HS1 := Lib.hid (fun W (hW : Ext w W) => stampTR_calls sv l[k]!.queue[i]! n W (HSV.out.ext hW) hsl)
            rw [hst] at HS1
            clear hst
            by_cases hi0 : i = 0
            · have c1 : decide (0 < (i : Int)) = false := by simp; omega
              have c1' : decide (0 < i) = false := by simp; omega
              have HI0 := Lib.hid hi0
              have HS2 := HS1
              clear hi0
              go_wp2
              go_quiet ((first | (go_at_call 29; exact drawn_quiet (HS1.out _ (HEW.out.drN _))) | (go_at_call 30; exact drawn_quiet (HS2.out _ (HEW.out.drN _)))))
              go_wp2
              go_roundg (m1 - (i + 1))
              case measure => omega
              case rel =>
                refine ⟨i + 1, by omega, by omega, by go_num, (show Drawn _ _ from HDI.out.drN _), (show Aside _ from fun j hj => ?_)⟩
                by_cases e : j = i
                · subst e; exact ⟨HST.out, .inl HI0.out⟩
                · exact AI.out j (by omega)
            · have c1 : decide (0 < (i : Int)) = true := by simp; omega
              have c1' : decide (0 < i) = true := by simp; omega
              have hz1 : (0 : Int) ≤ (i : Int) - 1 := by omega
              have hz2 : (i : Int) - 1 < (m1 : Int) := by omega
              have hz3 : ((i : Int) - 1).toNat = i - 1 := by omega
              have hz4 : (1 : Int) ≤ (i : Int) := by omega
              have hz5 : IntKind.i64.wrap ((i : Int) - 1) = (i : Int) - 1 := IntWalk.i64_in _ (by omega)
              obtain ⟨b', o', pv, hbe, hcj0, hpv⟩ := stamp_at HSQ.out (i - 1) (by omega)
              simp only [Option.some.injEq, Addr.mk.injEq, and_true] at hbe
              obtain ⟨rfl, rfl⟩ := hbe
              have HPV := Lib.hid hpv
              have hcj := HEW.out.cl hcj0
              have HI0 := Lib.hid hi0
              clear hpv hcj0
              cases haf : afterB l[k]!.queue[i - 1]! l[k]!.queue[i]! k with
              | false =>
                have HAF := Lib.hid haf
                have HV := Lib.hid (agents_no7 (l := l) k (i - 1) hkq (by omega) (by rw [show i - 1 + 1 = i from by omega]; exact haf))
                have HS2 := Lib.hid (fun W (hW : Ext w W) => followTR_calls pv sv l[k]!.queue[i - 1]! l[k]!.queue[i]! n k W (HPV.out.ext hW) (HSV.out.ext hW) (stamp_len (AI.out (i - 1) (by omega)).1) (stamp_len HST.out) hlt (by omega))
                rw [haf] at HS2
                clear haf hi0
                go_wp2
                go_quiet ((first | (go_at_call 29; exact drawn_quiet (HS1.out _ (HEW.out.drN _))) | (go_at_call 30; exact drawn_quiet (HS2.out _ (HEW.out.drN _)))))
                go_wp2
                go_ret
                exact ⟨by rw [HVB.out, HV.out]; rfl, (by repeat (first | refine Ext.st ?_ (by first | exact Nat.le_refl _ | exact Nat.le_succ _ | assumption | omega) _ | refine Ext.al ?_ _ | refine Ext.dr ?_ | refine Ext.drN ?_ _ | exact HEW.out))⟩
              | true =>
                have HAF := Lib.hid haf
                have HS2 := Lib.hid (fun W (hW : Ext w W) => followTR_calls pv sv l[k]!.queue[i - 1]! l[k]!.queue[i]! n k W (HPV.out.ext hW) (HSV.out.ext hW) (stamp_len (AI.out (i - 1) (by omega)).1) (stamp_len HST.out) hlt (by omega))
                rw [haf] at HS2
                clear haf hi0
                go_wp2
                go_quiet ((first | (go_at_call 29; exact drawn_quiet (HS1.out _ (HEW.out.drN _))) | (go_at_call 30; exact drawn_quiet (HS2.out _ (HEW.out.drN _)))))
                go_wp2
                go_roundg (m1 - (i + 1))
                case measure => omega
                case rel =>
                  refine ⟨i + 1, by omega, by omega, by go_num, (show Drawn _ _ from HDI.out.drN _), (show Aside _ from fun j hj => ?_)⟩
                  by_cases e : j = i
                  · subst e; exact ⟨HST.out, .inr HAF.out⟩
                  · exact AI.out j (by omega)
        · have hltz2 : ¬ (i : Int) < (m1 : Int) := by omega
          obtain rfl : i = m1 := by omega
          go_wp2
          go_roundg (n - (k + 1))
          case measure => omega
          case rel =>
            refine ⟨k + 1, by omega, by omega, by go_num, (show Ext _ _ from HEW.out), (show Aside _ from fun j hj => ?_)⟩
            by_cases e : j = k
            · subst e
              exact agent_parts.2 ⟨by rw [← HM1.out]; omega, by rw [HDD.out]; omega, by rw [HDD.out]; omega, queue_parts.2 ⟨by rw [← HM1.out]; omega, fun i hi => AI.out i (by rw [← HM1.out] at hi; exact hi)⟩⟩
            · exact A.out j (by omega)
    · have hltz : ¬ (k : Int) < (n : Int) := by omega
      obtain rfl : n = k := by omega
      have HV := Lib.hid (HY.out.2 ⟨by omega, by omega, A.out⟩)
      go_wp2
      go_ret
      exact ⟨by rw [HVB.out, HV.out]; rfl, (by repeat (first | refine Ext.st ?_ (by first | exact Nat.le_refl _ | exact Nat.le_succ _ | assumption | omega) _ | refine Ext.al ?_ _ | refine Ext.dr ?_ | refine Ext.drN ?_ _ | exact HEW.out))⟩

end Go.Proofs.Ytpjnppkhhbnfoaa
