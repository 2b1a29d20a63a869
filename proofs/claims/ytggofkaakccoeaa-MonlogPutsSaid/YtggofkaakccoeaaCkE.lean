/-
  Valid of the program's text.
-/
import Derived.Test.YtggofkaakccoeaaBase
import Derived.Test.YtggofkaakccoeaaProg
import Derived.BigQuiet
import Derived.Deep.QuietTactic
import Derived.Deep.LoopGhost
import Derived.Shelf.Abstract
import Derived.Test.YtggofkaakccoeaaCkD
namespace Go.Proofs.Ytggofkaakccoeaa
open Go.RowKit
set_option linter.unusedVariables false

/-- A checker that is read: its four cells. -/
def CkAt (w : World) (uq ue uc : Value) (s : Ck) : Prop := Sl RQueue 1 w uq s.qs ∧ Sl RBool 1 w ue s.ended ∧ Ints w uc s.cut
theorem CkAt.ext {w w' : World} {uq ue uc : Value} {s : Ck} (h : CkAt w uq ue uc s) (e : Ext w w') : CkAt w' uq ue uc s := ⟨h.1.ext rqueue_lasts e, h.2.1.ext rbool_lasts e, h.2.2.ext e⟩
/-- No list is very long. -/
def SmallC (s : Ck) : Prop := s.qs.length ≤ 1000000 ∧ s.ended.length ≤ 1000000 ∧ s.cut.length ≤ 1000000 ∧ ∀ p, p < s.qs.length → s.qs[p]!.length ≤ 1000000 ∧ ∀ i, i < s.qs[p]!.length → s.qs[p]![i]!.length ≤ 1000000

theorem form_no1 {s : Ck} (h : s.qs.length < 1) : validC s = false := by
  rw [Bool.eq_false_iff]; intro hv; have := (form_parts.1 (valid_parts.1 hv).1).1; omega
theorem form_no2 {s : Ck} (h : 8 < s.qs.length) : validC s = false := by
  rw [Bool.eq_false_iff]; intro hv; have := (form_parts.1 (valid_parts.1 hv).1).2.1; omega
theorem form_no3 {s : Ck} (h : s.ended.length ≠ s.qs.length) : validC s = false := by
  rw [Bool.eq_false_iff]; intro hv; exact h (form_parts.1 (valid_parts.1 hv).1).2.2.1
theorem form_no4 {s : Ck} (p : Nat) (hp : p < s.qs.length) (h : 65 < s.qs[p]!.length) : validC s = false := by
  rw [Bool.eq_false_iff]; intro hv; have := (queue_parts.1 ((form_parts.1 (valid_parts.1 hv).1).2.2.2 p hp)).1; omega
theorem form_no5 {s : Ck} (p i : Nat) (hp : p < s.qs.length) (hi : i < s.qs[p]!.length) (h : stampB s.qs[p]![i]! s.qs.length = false) : validC s = false := by
  rw [Bool.eq_false_iff]; intro hv; have := ((queue_parts.1 ((form_parts.1 (valid_parts.1 hv).1).2.2.2 p hp)).2 i hi).1; rw [h] at this; simp at this
theorem form_no6 {s : Ck} (p i : Nat) (hp : p < s.qs.length) (hi : i + 1 < s.qs[p]!.length) (h : afterB s.qs[p]![i]! s.qs[p]![i + 1]! p = false) : validC s = false := by
  rw [Bool.eq_false_iff]; intro hv
  have := ((queue_parts.1 ((form_parts.1 (valid_parts.1 hv).1).2.2.2 p hp)).2 (i + 1) hi).2.resolve_left (by omega)
  rw [show i + 1 - 1 = i from by omega, h] at this; simp at this
theorem stamp_len {v : List Int} {n : Nat} (h : stampB v n = true) : v.length = n := by
  simp only [stampB, Bool.and_eq_true, decide_eq_true_eq] at h; exact h.1

/-- The cells of a stamp in a queue. -/
theorem stamp_at {w : World} {a : Option Addr} {m c : Nat} {q : List (List Int)} (h : Sl RInts 1 w (.slice a m c) q) (i : Nat) (hi : i < q.length) :
    ∃ b o sv, a = some ⟨b, o, none⟩ ∧ w.cell? ⟨b, o + i, none⟩ = some sv ∧ Ints w sv q[i]! := by
  obtain ⟨b, o, c2, cv, he, _, _, hc, ⟨u, hu, hi2⟩⟩ := h.at1 i hi
  simp only [List.cons.injEq, and_true] at hu
  subst hu
  simp only [Value.slice.injEq] at he
  exact ⟨b, o, _, he.1, hc, hi2⟩

/-- A queue and its place. -/
theorem queue_at {w : World} {uq : Value} {qs : List (List (List Int))} (h : Sl RQueue 1 w uq qs) (p : Nat) (hp : p < qs.length) :
    ∃ B O C a m c, uq = .slice (some ⟨B, O, none⟩) qs.length C ∧ w.cell? ⟨B, O + p, none⟩ = some (.slice a m c) ∧ m = qs[p]!.length ∧ m ≤ c ∧ Sl RInts 1 w (.slice a m c) qs[p]! := by
  obtain ⟨B, O, C, cv, rfl, _, hB, hc, ⟨u, hu, hs⟩⟩ := h.at1 p hp
  simp only [List.cons.injEq, and_true] at hu
  subst hu
  obtain ⟨a, c, rfl, hlc⟩ := hs.shape
  exact ⟨B, O, C, a, _, c, rfl, hc, rfl, hlc, hs⟩


theorem cutB_len (qs : List (List (List Int))) : (cutB qs).length ≤ qs.length := by
  unfold cutB
  split
  · simp [cutOf]
  · simp

set_option maxHeartbeats 16000000 in
set_option maxRecDepth 100000 in
theorem validP_calls (uq ue uc : Value) (s : Ck) (w : World) (h : CkAt w uq ue uc s) (hs : SmallC s) :
    Calls Try.prog 69 #[.agg #[uq, ue, .bool s.done, uc]] w fun e w' => e = .returned (.bool (validC s)) ∧ Ext w w' := by
  have HQ := Lib.hid h.1
  have HEN := Lib.hid h.2.1
  have HC := Lib.hid h.2.2
  have hs1 := hs.1
  have hs2 := hs.2.1
  have hs3 := hs.2.2.1
  have HSM := Lib.hid hs.2.2.2
  have HVP := Lib.hid (@valid_parts s)
  obtain ⟨a, c, rfl, hlc⟩ := h.1.shape
  obtain ⟨ea, ec, rfl, hec⟩ := h.2.1.shape
  obtain ⟨ca, cc, hce, hcc, _⟩ := h.2.2
  subst hce
  clear h hs
  generalize hvb : validC s = vb
  have HVB := Lib.hid hvb.symm
  clear hvb
  generalize hd : s.done = d at *
  have HD := Lib.hid hd
  clear hd
  generalize hn : s.qs.length = n at *
  generalize hl : s.ended.length = l at *
  generalize hcl : s.cut.length = cl at *
  have HN := Lib.hid hn
  have HL := Lib.hid hl
  have HCL := Lib.hid hcl
  clear hn hl hcl
  have HX0 := Lib.hid (heap_alloc_new w (ckT (.slice a n c) (.slice ea l ec) (.bool d) (.slice ca cl cc)))
  have HEW := Lib.hid (Ext.rf w)
  by_cases h1 : n < 1
  · have b1 : decide ((n : Int) < 1) = true := by simp; omega
    have HV := Lib.hid (form_no1 (s := s) (by rw [HN.out]; exact h1))
    clear h1
    go_enter Try.func69, Try.ntmps69
    go_wp2
    go_ret
    exact ⟨by rw [HVB.out, HV.out]; rfl, (by repeat (first | refine Ext.st ?_ (by first | exact Nat.le_refl _ | exact Nat.le_succ _ | assumption | omega) _ | refine Ext.al ?_ _ | refine Ext.dr ?_ | refine Ext.drN ?_ _ | exact HEW.out))⟩
  have b1 : decide ((n : Int) < 1) = false := by simp; omega
  by_cases h2 : 8 < n
  · have b2 : decide (8 < (n : Int)) = true := by simp; omega
    have HV := Lib.hid (form_no2 (s := s) (by rw [HN.out]; exact h2))
    go_enter Try.func69, Try.ntmps69
    go_wp2
    go_ret
    exact ⟨by rw [HVB.out, HV.out]; rfl, (by repeat (first | refine Ext.st ?_ (by first | exact Nat.le_refl _ | exact Nat.le_succ _ | assumption | omega) _ | refine Ext.al ?_ _ | refine Ext.dr ?_ | refine Ext.drN ?_ _ | exact HEW.out))⟩
  have b2 : decide (8 < (n : Int)) = false := by simp; omega
  by_cases h3 : l ≠ n
  · have b3 : ((l : Int) != (n : Int)) = true := by simp; omega
    have HV := Lib.hid (form_no3 (s := s) (by rw [HN.out, HL.out]; exact h3))
    clear h3
    go_enter Try.func69, Try.ntmps69
    go_wp2
    go_ret
    exact ⟨by rw [HVB.out, HV.out]; rfl, (by repeat (first | refine Ext.st ?_ (by first | exact Nat.le_refl _ | exact Nat.le_succ _ | assumption | omega) _ | refine Ext.al ?_ _ | refine Ext.dr ?_ | refine Ext.drN ?_ _ | exact HEW.out))⟩
  obtain rfl : n = l := by omega
  have b3 : ((n : Int) != (n : Int)) = false := by simp
  clear h3
  go_enter Try.func69, Try.ntmps69
  go_wp2
  clear HEW
  go_loopg [29] n (fun g s29 wr => ∃ k : Nat, k ≤ n ∧ n - k ≤ g ∧ s29 = .int .i64 k ∧ Aside (Drawn (w.alloc (ckT (.slice a n c) (.slice ea n ec) (.bool d) (.slice ca cl cc))) wr) ∧ Aside (∀ j, j < k → queueB n j s.qs[j]! = true))
  case atStart => exact ⟨0, Nat.zero_le _, by omega, rfl, Drawn.rf _, fun j hj => absurd hj (Nat.not_lt_zero _)⟩
  case round =>
    obtain ⟨k, hk, hg, rfl, HDR, A⟩ := hrel
    have HEW := Lib.hid (((Ext.rf w).al _).trans' HDR.out.ext)
    by_cases hlt : k < n
    · have hltz : (k : Int) < (n : Int) := by omega
      have hkz : (0 : Int) ≤ (k : Int) := by omega
      have hkq : k < s.qs.length := by rw [HN.out]; exact hlt
      obtain ⟨B, O, C, a1, m1, c1, hue0, hcp0, M1, hmc1, HS1⟩ := queue_at HQ.out k hkq
      simp only [Value.slice.injEq] at hue0
      obtain ⟨rfl, hnn, rfl⟩ := hue0
      have hcp := HEW.out.cl hcp0
      have HM1 := Lib.hid M1
      have hm1 := (HSM.out k hlt).1
      rw [← M1] at hm1
      have HS := Lib.hid HS1
      clear M1 HS1 hnn hcp0
      by_cases h65 : 65 < m1
      · have b5 : decide (65 < (m1 : Int)) = true := by simp; omega
        have b5' : decide (65 < m1) = true := by simp; omega
        have HV := Lib.hid (form_no4 (s := s) k hkq (by rw [← HM1.out]; exact h65))
        clear h65
        go_wp2
        go_ret
        exact ⟨by rw [HVB.out, HV.out]; rfl, (by repeat (first | refine Ext.st ?_ (by first | exact Nat.le_refl _ | exact Nat.le_succ _ | assumption | omega) _ | refine Ext.al ?_ _ | refine Ext.dr ?_ | refine Ext.drN ?_ _ | exact HEW.out))⟩
      have b5 : decide (65 < (m1 : Int)) = false := by simp; omega
      have b5' : decide (65 < m1) = false := by simp; omega
      go_wp2
      clear hcp
      obtain ⟨wo, rfl⟩ : ∃ x, x = wr := ⟨_, rfl⟩
      have HDO := HDR
      go_loopg [39] m1 (fun g s39 wr => ∃ i : Nat, i ≤ m1 ∧ m1 - i ≤ g ∧ s39 = .int .i64 i ∧ Aside (Drawn wo wr) ∧ Aside (∀ j, j < i → stampB s.qs[k]![j]! n = true ∧ (j = 0 ∨ afterB s.qs[k]![j - 1]! s.qs[k]![j]! k = true)))
      case atStart => exact ⟨0, Nat.zero_le _, by omega, rfl, Drawn.rf _, fun j hj => absurd hj (Nat.not_lt_zero _)⟩
      case round =>
        obtain ⟨i, hi, hg2, rfl, HDI, AI⟩ := hrel
        have HEW := Lib.hid (((Ext.rf w).al _).trans' (HDO.out.trans HDI.out).ext)
        by_cases hlt2 : i < m1
        · have hltz2 : (i : Int) < (m1 : Int) := by omega
          have hiz : (0 : Int) ≤ (i : Int) := by omega
          have hiq : i < s.qs[k]!.length := by rw [← HM1.out]; exact hlt2
          obtain ⟨b, o, sv, rfl, hci0, hsv⟩ := stamp_at HS.out i hiq
          have hci := HEW.out.cl hci0
          have HSV := Lib.hid hsv
          have hsl := (HSM.out k hlt).2 i hiq
          clear hci0
          cases hst : stampB s.qs[k]![i]! n with
          | false =>
            have HST := Lib.hid hst
            have HV := Lib.hid (form_no5 (s := s) k i hkq hiq (by rw [HN.out]; exact hst))
            clear hst
            go_wp2_with fail
            refine (stampP_calls sv s.qs[k]![i]! n wr (HSV.out.ext HEW.out) hsl).mono ?_
            rw [HST.out]
            rintro e w2 ⟨rfl, hD2⟩
            have HEW := Lib.hid (HEW.out.trans' hD2.ext)
            clear hD2
            go_wp2
            go_ret
            exact ⟨by rw [HVB.out, HV.out]; rfl, (by repeat (first | refine Ext.st ?_ (by first | exact Nat.le_refl _ | exact Nat.le_succ _ | assumption | omega) _ | refine Ext.al ?_ _ | refine Ext.dr ?_ | refine Ext.drN ?_ _ | exact HEW.out))⟩
          | true =>
            have HST := Lib.hid hst
            clear hst
            by_cases hi0 : i = 0
            · have c1 : decide (0 < (i : Int)) = false := by simp; omega
              have c1' : decide (0 < i) = false := by simp; omega
              have HI0 := Lib.hid hi0
              clear hi0
              go_wp2_with fail
              refine (stampP_calls sv s.qs[k]![i]! n wr (HSV.out.ext HEW.out) hsl).mono ?_
              rw [HST.out]
              rintro e w2 ⟨rfl, hD2⟩
              have HD2 := Lib.hid hD2
              clear hD2
              go_wp2
              go_roundg (m1 - (i + 1))
              case measure => omega
              case rel =>
                refine ⟨i + 1, by omega, by omega, by go_num, (show Drawn _ _ from HDI.out.trans HD2.out), (show Aside _ from fun j hj => ?_)⟩
                by_cases e : j = i
                · subst e; exact ⟨HST.out, .inl HI0.out⟩
                · exact AI.out j (by omega)
            · have c1 : decide (0 < (i : Int)) = true := by simp; omega
              have c1' : decide (0 < i) = true := by simp; omega
              have hz1 : (0 : Int) ≤ (i : Int) - 1 := by omega
              have hz2 : (i : Int) - 1 < (m1 : Int) := by omega
              have hz3 : ((i : Int) - 1).toNat = i - 1 := by omega
              have hz4 : (1 : Int) ≤ (i : Int) := by omega
              obtain ⟨b', o', pv, hbe, hcj0, hpv⟩ := stamp_at HS.out (i - 1) (by omega)
              simp only [Option.some.injEq, Addr.mk.injEq, and_true] at hbe
              obtain ⟨rfl, rfl⟩ := hbe
              have HPV := Lib.hid hpv
              have HCJ := Lib.hid hcj0
              have HI0 := Lib.hid hi0
              clear hpv hcj0 hi0
              go_wp2_with fail
              refine (stampP_calls sv s.qs[k]![i]! n wr (HSV.out.ext HEW.out) hsl).mono ?_
              rw [HST.out]
              rintro e w2 ⟨rfl, hD2⟩
              have HD2 := Lib.hid hD2
              have HEW2 := Lib.hid (HEW.out.trans' hD2.ext)
              have hcj := HEW2.out.cl HCJ.out
              clear hD2
              cases haf : afterB s.qs[k]![i - 1]! s.qs[k]![i]! k with
              | false =>
                have HAF := Lib.hid haf
                have HV := Lib.hid (form_no6 (s := s) k (i - 1) hkq (by have := HI0.out; omega) (by rw [show i - 1 + 1 = i from by have := HI0.out; omega]; exact haf))
                clear haf
                go_wp2_with fail
                refine (afterP_calls pv sv s.qs[k]![i - 1]! s.qs[k]![i]! n k w2 (HPV.out.ext HEW2.out) (HSV.out.ext HEW2.out) (stamp_len (AI.out (i - 1) (by have := HI0.out; omega)).1) (stamp_len HST.out) hlt (by omega)).mono ?_
                rw [HAF.out]
                rintro e w3 ⟨rfl, hD3⟩
                have HEW := Lib.hid (HEW2.out.trans' hD3.ext)
                clear hD3
                go_wp2
                go_ret
                exact ⟨by rw [HVB.out, HV.out]; rfl, (by repeat (first | refine Ext.st ?_ (by first | exact Nat.le_refl _ | exact Nat.le_succ _ | assumption | omega) _ | refine Ext.al ?_ _ | refine Ext.dr ?_ | refine Ext.drN ?_ _ | exact HEW.out))⟩
              | true =>
                have HAF := Lib.hid haf
                clear haf
                go_wp2_with fail
                refine (afterP_calls pv sv s.qs[k]![i - 1]! s.qs[k]![i]! n k w2 (HPV.out.ext HEW2.out) (HSV.out.ext HEW2.out) (stamp_len (AI.out (i - 1) (by have := HI0.out; omega)).1) (stamp_len HST.out) hlt (by omega)).mono ?_
                rw [HAF.out]
                rintro e w3 ⟨rfl, hD3⟩
                have HD3 := Lib.hid hD3
                clear hD3
                go_wp2
                go_roundg (m1 - (i + 1))
                case measure => omega
                case rel =>
                  refine ⟨i + 1, by omega, by omega, by go_num, (show Drawn _ _ from (HDI.out.trans HD2.out).trans HD3.out), (show Aside _ from fun j hj => ?_)⟩
                  by_cases e : j = i
                  · subst e; exact ⟨HST.out, .inr HAF.out⟩
                  · exact AI.out j (by omega)
        · have hltz2 : ¬ (i : Int) < (m1 : Int) := by omega
          obtain rfl : i = m1 := by omega
          go_wp2
          go_roundg (n - (k + 1))
          case measure => omega
          case rel =>
            refine ⟨k + 1, by omega, by omega, by go_num, (show Drawn _ _ from HDO.out.trans HDI.out), (show Aside _ from fun j hj => ?_)⟩
            by_cases e : j = k
            · subst e; exact queue_parts.2 ⟨by rw [← HM1.out]; omega, fun i hi => AI.out i (by rw [← HM1.out] at hi; exact hi)⟩
            · exact A.out j (by omega)
    · have hltz : ¬ (k : Int) < (n : Int) := by omega
      obtain rfl : n = k := by omega
      have hform : formB s = true := form_parts.2 ⟨by rw [HN.out]; omega, by rw [HN.out]; omega, by rw [HL.out, HN.out], by rw [HN.out]; exact A.out⟩
      have hfit := form_fit hform
      have hvv := HVP.out
      rw [hform] at hvv
      have HVV := Lib.hid hvv
      have HFT := Lib.hid hfit
      have HBX := Lib.hid (HDR.out.ext.hp HX0.out)
      clear hform hfit hvv
      have x0 := cellOf HBX.out 0
      have x1 := cellOf HBX.out 1
      have x2 := cellOf HBX.out 2
      have x3 := cellOf HBX.out 3
      simp only [List.getElem?_toArray, List.getElem?_cons_zero, List.getElem?_cons_succ] at x0 x1 x2 x3
      have HBT := Lib.hid (beatenP_calls (.slice a n c) (.slice ea n ec) (.slice ca cl cc) d s.qs wr (HQ.out.ext rqueue_lasts HEW.out) HFT.out)
      generalize hbt : beatenL s.qs = bt at *
      have HBTL := Lib.hid hbt
      clear hbt
      by_cases hb0 : 0 ≤ bt
      · have c1 : decide (0 ≤ bt) = true := by simpa using hb0
        have HV := Lib.hid (show validC s = false from by rw [Bool.eq_false_iff]; intro hv; have := (HVV.out.1 hv).2.1; omega)
        clear hb0
        go_wp2_with fail
        refine HBT.out.mono ?_
        rintro e w2 ⟨rfl, hE2⟩
        have HEW := Lib.hid (HEW.out.trans' hE2)
        clear hE2
        go_wp2
        go_ret
        exact ⟨by rw [HVB.out, HV.out]; rfl, (by repeat (first | refine Ext.st ?_ (by first | exact Nat.le_refl _ | exact Nat.le_succ _ | assumption | omega) _ | refine Ext.al ?_ _ | refine Ext.dr ?_ | refine Ext.drN ?_ _ | exact HEW.out))⟩
      · have c1 : decide (0 ≤ bt) = false := by simpa using hb0
        go_wp2_with fail
        refine HBT.out.mono ?_
        rintro e w2 ⟨rfl, hE2⟩
        have HEW2 := Lib.hid (HEW.out.trans' hE2)
        have HBX2 := Lib.hid (hE2.hp HBX.out)
        clear hE2 x0 x1 x2 x3
        have x0 := cellOf HBX2.out 0
        have x1 := cellOf HBX2.out 1
        have x2 := cellOf HBX2.out 2
        have x3 := cellOf HBX2.out 3
        simp only [List.getElem?_toArray, List.getElem?_cons_zero, List.getElem?_cons_succ] at x0 x1 x2 x3
        go_wp2_with fail
        refine (conclusionP_calls (.slice a n c) (.slice ea n ec) (.slice ca cl cc) d s.qs s.ended w2 (HQ.out.ext rqueue_lasts HEW2.out) (HEN.out.ext rbool_lasts HEW2.out) HFT.out (by rw [HL.out, HN.out])).mono ?_
        generalize hdb : doneB s.qs s.ended = db at *
        generalize hcb : cutB s.qs = cb at *
        have HDB := Lib.hid hdb
        have HCB := Lib.hid hcb
        rintro e w3 ⟨v3, rfl, hI3, hE3⟩
        have HI3 := Lib.hid hI3.ints
        have HEW3 := Lib.hid (HEW2.out.trans' hE3)
        have HBX3 := Lib.hid (hE3.hp HBX2.out)
        clear hdb hcb hI3 hE3 x0 x1 x2 x3
        have x0 := cellOf HBX3.out 0
        have x1 := cellOf HBX3.out 1
        have x2 := cellOf HBX3.out 2
        have x3 := cellOf HBX3.out 3
        simp only [List.getElem?_toArray, List.getElem?_cons_zero, List.getElem?_cons_succ] at x0 x1 x2 x3
        have hcbl : cb.length ≤ 1000000 := by rw [← HCB.out]; have := cutB_len s.qs; have := HN.out; omega
        have HFIN := Lib.hid (show vb = (decide (d = db) && (s.cut == cb)) from by
          rw [HVB.out, Bool.eq_iff_iff, HVV.out, Bool.and_eq_true, decide_eq_true_eq, beq_iff_eq]
          constructor
          · rintro ⟨_, _, e1, e2⟩; exact ⟨e1.symm, e2.symm⟩
          · rintro ⟨e1, e2⟩; exact ⟨trivial, by omega, e1.symm, e2.symm⟩)
        generalize hcc2 : (s.cut == cb) = r at *
        have HCC := Lib.hid hcc2
        clear hcc2
        cases d with
        | true =>
          cases db with
          | true =>
            go_wp2_with fail
            refine (equal_int (.slice ca cl cc) v3 s.cut cb w3 (HC.out.ext HEW3.out) HI3.out (by rw [HCL.out]; exact hs3) hcbl).mono ?_
            rw [HCC.out]
            rintro e w4 ⟨rfl, hE4⟩
            have HE4 := Lib.hid (HEW3.out.trans' hE4)
            clear hE4
            go_wp2
            go_ret
            exact ⟨by rw [HFIN.out]; simp, (by repeat (first | refine Ext.st ?_ (by first | exact Nat.le_refl _ | exact Nat.le_succ _ | assumption | omega) _ | refine Ext.al ?_ _ | refine Ext.dr ?_ | refine Ext.drN ?_ _ | exact HE4.out))⟩
          | false =>
            go_wp2
            go_ret
            exact ⟨by rw [HFIN.out]; simp, (by repeat (first | refine Ext.st ?_ (by first | exact Nat.le_refl _ | exact Nat.le_succ _ | assumption | omega) _ | refine Ext.al ?_ _ | refine Ext.dr ?_ | refine Ext.drN ?_ _ | exact HEW3.out))⟩
        | false =>
          cases db with
          | true =>
            go_wp2
            go_ret
            exact ⟨by rw [HFIN.out]; simp, (by repeat (first | refine Ext.st ?_ (by first | exact Nat.le_refl _ | exact Nat.le_succ _ | assumption | omega) _ | refine Ext.al ?_ _ | refine Ext.dr ?_ | refine Ext.drN ?_ _ | exact HEW3.out))⟩
          | false =>
            go_wp2_with fail
            refine (equal_int (.slice ca cl cc) v3 s.cut cb w3 (HC.out.ext HEW3.out) HI3.out (by rw [HCL.out]; exact hs3) hcbl).mono ?_
            rw [HCC.out]
            rintro e w4 ⟨rfl, hE4⟩
            have HE4 := Lib.hid (HEW3.out.trans' hE4)
            clear hE4
            go_wp2
            go_ret
            exact ⟨by rw [HFIN.out]; simp, (by repeat (first | refine Ext.st ?_ (by first | exact Nat.le_refl _ | exact Nat.le_succ _ | assumption | omega) _ | refine Ext.al ?_ _ | refine Ext.dr ?_ | refine Ext.drN ?_ _ | exact HE4.out))⟩

end Go.Proofs.Ytggofkaakccoeaa
