/-
  Valid of the reference's text.
-/
import Derived.Test.YtggofkaakccoeaaBase
import Derived.Test.YtggofkaakccoeaaProg
import Derived.BigQuiet
import Derived.Deep.QuietTactic
import Derived.Deep.LoopGhost
import Derived.Shelf.Abstract
import Derived.Test.YtggofkaakccoeaaCkE
namespace Go.Proofs.Ytggofkaakccoeaa
open Go.RowKit
set_option linter.unusedVariables false



set_option maxHeartbeats 16000000 in
set_option maxRecDepth 100000 in
theorem validR_calls (uq ue uc : Value) (s : Ck) (w : World) (h : CkAt w uq ue uc s) (hs : SmallC s) :
    Calls Try.prog 76 #[.agg #[uq, ue, .bool s.done, uc]] w fun e w' => e = .returned (.bool (validC s)) ∧ Ext w w' := by
  have HQ := Lib.hid h.1
  have HEN := Lib.hid h.2.1
  have HC := Lib.hid h.2.2
  have hs1 := hs.1
  have hs2 := hs.2.1
  have hs3 := hs.2.2.1
  have HSM := Lib.hid hs.2.2.2
  have HVP := Lib.hid (@valid_parts s)
  obtain ⟨a, c, rfl, hlc⟩ := h.1.shape
  obtain ⟨ea, ec, rfl, hec⟩ := h.2.1.shape
  obtain ⟨ca, cc, hce, hcc, _⟩ := h.2.2
  subst hce
  clear h hs
  generalize hvb : validC s = vb
  have HVB := Lib.hid hvb.symm
  clear hvb
  generalize hd : s.done = d at *
  have HD := Lib.hid hd
  clear hd
  generalize hn : s.qs.length = n at *
  generalize hl : s.ended.length = l at *
  generalize hcl : s.cut.length = cl at *
  have HN := Lib.hid hn
  have HL := Lib.hid hl
  have HCL := Lib.hid hcl
  clear hn hl hcl
  have HX0 := Lib.hid (heap_alloc_new w (ckT (.slice a n c) (.slice ea l ec) (.bool d) (.slice ca cl cc)))
  have HEW := Lib.hid (Ext.rf w)
  by_cases h1 : n < 1
  · have b1 : decide ((n : Int) < 1) = true := by simp; omega
    have HV := Lib.hid (form_no1 (s := s) (by rw [HN.out]; exact h1))
    clear h1
    go_enter Try.func76, Try.ntmps76
    go_wp2
    go_ret
    exact ⟨by rw [HVB.out, HV.out]; rfl, (by repeat (first | refine Ext.st ?_ (by first | exact Nat.le_refl _ | exact Nat.le_succ _ | assumption | omega) _ | refine Ext.al ?_ _ | refine Ext.dr ?_ | refine Ext.drN ?_ _ | exact HEW.out))⟩
  have b1 : decide ((n : Int) < 1) = false := by simp; omega
  by_cases h2 : 8 < n
  · have b2 : decide (8 < (n : Int)) = true := by simp; omega
    have HV := Lib.hid (form_no2 (s := s) (by rw [HN.out]; exact h2))
    go_enter Try.func76, Try.ntmps76
    go_wp2
    go_ret
    exact ⟨by rw [HVB.out, HV.out]; rfl, (by repeat (first | refine Ext.st ?_ (by first | exact Nat.le_refl _ | exact Nat.le_succ _ | assumption | omega) _ | refine Ext.al ?_ _ | refine Ext.dr ?_ | refine Ext.drN ?_ _ | exact HEW.out))⟩
  have b2 : decide (8 < (n : Int)) = false := by simp; omega
  by_cases h3 : l ≠ n
  · have b3 : ((l : Int) != (n : Int)) = true := by simp; omega
    have HV := Lib.hid (form_no3 (s := s) (by rw [HN.out, HL.out]; exact h3))
    clear h3
    go_enter Try.func76, Try.ntmps76
    go_wp2
    go_ret
    exact ⟨by rw [HVB.out, HV.out]; rfl, (by repeat (first | refine Ext.st ?_ (by first | exact Nat.le_refl _ | exact Nat.le_succ _ | assumption | omega) _ | refine Ext.al ?_ _ | refine Ext.dr ?_ | refine Ext.drN ?_ _ | exact HEW.out))⟩
  obtain rfl : n = l := by omega
  have b3 : ((n : Int) != (n : Int)) = false := by simp
  clear h3
  go_enter Try.func76, Try.ntmps76
  go_wp2
  clear HEW
  go_loopg [4] n (fun g s4 wr => ∃ k : Nat, k ≤ n ∧ n - k ≤ g ∧ s4 = .int .i64 k ∧ Aside (Drawn (w.alloc (ckT (.slice a n c) (.slice ea n ec) (.bool d) (.slice ca cl cc))) wr) ∧ Aside (∀ j, j < k → queueB n j s.qs[j]! = true))
  case atStart => exact ⟨0, Nat.zero_le _, by omega, rfl, Drawn.rf _, fun j hj => absurd hj (Nat.not_lt_zero _)⟩
  case round =>
    obtain ⟨k, hk, hg, rfl, HDR, A⟩ := hrel
    have HEW := Lib.hid (((Ext.rf w).al _).trans' HDR.out.ext)
    by_cases hlt : k < n
    · have hltz : (k : Int) < (n : Int) := by omega
      have hkz : (0 : Int) ≤ (k : Int) := by omega
      have hkq : k < s.qs.length := by rw [HN.out]; exact hlt
      obtain ⟨B, O, C, a1, m1, c1, hue0, hcp0, M1, hmc1, HS1⟩ := queue_at HQ.out k hkq
      simp only [Value.slice.injEq] at hue0
      obtain ⟨rfl, hnn, rfl⟩ := hue0
      have hcp := HEW.out.cl hcp0
      have HBX := Lib.hid (HDR.out.ext.hp HX0.out)
      have x0 := cellOf HBX.out 0
      have x1 := cellOf HBX.out 1
      have x2 := cellOf HBX.out 2
      have x3 := cellOf HBX.out 3
      simp only [List.getElem?_toArray, List.getElem?_cons_zero, List.getElem?_cons_succ] at x0 x1 x2 x3
      have HM1 := Lib.hid M1
      have hm1 := (HSM.out k hlt).1
      rw [← M1] at hm1
      have HS := Lib.hid HS1
      clear M1 HS1 hnn hcp0
      by_cases h65 : 65 < m1
      · have b5 : decide (65 < (m1 : Int)) = true := by simp; omega
        have b5' : decide (65 < m1) = true := by simp; omega
        have HV := Lib.hid (form_no4 (s := s) k hkq (by rw [← HM1.out]; exact h65))
        clear h65
        go_wp2
        go_ret
        exact ⟨by rw [HVB.out, HV.out]; rfl, (by repeat (first | refine Ext.st ?_ (by first | exact Nat.le_refl _ | exact Nat.le_succ _ | assumption | omega) _ | refine Ext.al ?_ _ | refine Ext.dr ?_ | refine Ext.drN ?_ _ | exact HEW.out))⟩
      have b5 : decide (65 < (m1 : Int)) = false := by simp; omega
      have b5' : decide (65 < m1) = false := by simp; omega
      go_wp2
      clear hcp x0 x1 x2 x3
      obtain ⟨wo, rfl⟩ : ∃ x, x = wr := ⟨_, rfl⟩
      have HDO := HDR
      go_loopg [6] m1 (fun g s6 wr => ∃ i : Nat, i ≤ m1 ∧ m1 - i ≤ g ∧ s6 = .int .i64 i ∧ Aside (Drawn wo wr) ∧ Aside (∀ j, j < i → stampB s.qs[k]![j]! n = true ∧ (j = 0 ∨ afterB s.qs[k]![j - 1]! s.qs[k]![j]! k = true)))
      case atStart => exact ⟨0, Nat.zero_le _, by omega, rfl, Drawn.rf _, fun j hj => absurd hj (Nat.not_lt_zero _)⟩
      case round =>
        obtain ⟨i, hi, hg2, rfl, HDI, AI⟩ := hrel
        have HEW := Lib.hid (((Ext.rf w).al _).trans' (HDO.out.trans HDI.out).ext)
        by_cases hlt2 : i < m1
        · have hltz2 : (i : Int) < (m1 : Int) := by omega
          have hiz : (0 : Int) ≤ (i : Int) := by omega
          have hiq : i < s.qs[k]!.length := by rw [← HM1.out]; exact hlt2
          obtain ⟨b, o, sv, rfl, hci0, hsv⟩ := stamp_at HS.out i hiq
          have hci := HEW.out.cl hci0
          have HSV := Lib.hid hsv
          have hsl := (HSM.out k hlt).2 i hiq
          clear hci0
          cases hst : stampB s.qs[k]![i]! n with
          | false =>
            have HST := Lib.hid hst
            have HV := Lib.hid (form_no5 (s := s) k i hkq hiq (by rw [HN.out]; exact hst))
            have HS1 := Lib.hid (fun W (hW : Ext w W) => stampR_calls sv s.qs[k]![i]! n W (HSV.out.ext hW) hsl)
            rw [hst] at HS1
            have HS2 := HS1
            clear hst
            go_wp2
            go_quiet ((first | (go_at_call 79; exact drawn_quiet (HS1.out _ (HEW.out.drN _))) | (go_at_call 80; exact drawn_quiet (HS2.out _ (HEW.out.drN _)))))
            go_wp2
            go_ret
            exact ⟨by rw [HVB.out, HV.out]; rfl, (by repeat (first | refine Ext.st ?_ (by first | exact Nat.le_refl _ | exact Nat.le_succ _ | assumption | omega) _ | refine Ext.al ?_ _ | refine Ext.dr ?_ | refine Ext.drN ?_ _ | exact HEW.out))⟩
          | true =>
            have HST := Lib.hid hst
            have HS1 := Lib.hid (fun W (hW : Ext w W) => stampR_calls sv s.qs[k]![i]! n W (HSV.out.ext hW) hsl)
            rw [hst] at HS1
            clear hst
            by_cases hi0 : i = 0
            · have c1 : decide (0 < (i : Int)) = false := by simp; omega
              have c1' : decide (0 < i) = false := by simp; omega
              have HI0 := Lib.hid hi0
              have HS2 := HS1
              clear hi0
              go_wp2
              go_quiet ((first | (go_at_call 79; exact drawn_quiet (HS1.out _ (HEW.out.drN _))) | (go_at_call 80; exact drawn_quiet (HS2.out _ (HEW.out.drN _)))))
              go_wp2
              go_roundg (m1 - (i + 1))
              case measure => omega
              case rel =>
                refine ⟨i + 1, by omega, by omega, by go_num, (show Drawn _ _ from HDI.out.drN _), (show Aside _ from fun j hj => ?_)⟩
                by_cases e : j = i
                · subst e; exact ⟨HST.out, .inl HI0.out⟩
                · exact AI.out j (by omega)
            · have c1 : decide (0 < (i : Int)) = true := by simp; omega
              have c1' : decide (0 < i) = true := by simp; omega
              have hz1 : (0 : Int) ≤ (i : Int) - 1 := by omega
              have hz2 : (i : Int) - 1 < (m1 : Int) := by omega
              have hz3 : ((i : Int) - 1).toNat = i - 1 := by omega
              have hz4 : (1 : Int) ≤ (i : Int) := by omega
              have hz5 : IntKind.i64.wrap ((i : Int) - 1) = (i : Int) - 1 := IntWalk.i64_in _ (by omega)
              obtain ⟨b', o', pv, hbe, hcj0, hpv⟩ := stamp_at HS.out (i - 1) (by omega)
              simp only [Option.some.injEq, Addr.mk.injEq, and_true] at hbe
              obtain ⟨rfl, rfl⟩ := hbe
              have HPV := Lib.hid hpv
              have hcj := HEW.out.cl hcj0
              have HI0 := Lib.hid hi0
              clear hpv hcj0
              cases haf : afterB s.qs[k]![i - 1]! s.qs[k]![i]! k with
              | false =>
                have HAF := Lib.hid haf
                have HV := Lib.hid (form_no6 (s := s) k (i - 1) hkq (by omega) (by rw [show i - 1 + 1 = i from by omega]; exact haf))
                have HS2 := Lib.hid (fun W (hW : Ext w W) => afterR_calls pv sv s.qs[k]![i - 1]! s.qs[k]![i]! n k W (HPV.out.ext hW) (HSV.out.ext hW) (stamp_len (AI.out (i - 1) (by omega)).1) (stamp_len HST.out) hlt (by omega))
                rw [haf] at HS2
                clear haf hi0
                go_wp2
                go_quiet ((first | (go_at_call 79; exact drawn_quiet (HS1.out _ (HEW.out.drN _))) | (go_at_call 80; exact drawn_quiet (HS2.out _ (HEW.out.drN _)))))
                go_wp2
                go_ret
                exact ⟨by rw [HVB.out, HV.out]; rfl, (by repeat (first | refine Ext.st ?_ (by first | exact Nat.le_refl _ | exact Nat.le_succ _ | assumption | omega) _ | refine Ext.al ?_ _ | refine Ext.dr ?_ | refine Ext.drN ?_ _ | exact HEW.out))⟩
              | true =>
                have HAF := Lib.hid haf
                have HS2 := Lib.hid (fun W (hW : Ext w W) => afterR_calls pv sv s.qs[k]![i - 1]! s.qs[k]![i]! n k W (HPV.out.ext hW) (HSV.out.ext hW) (stamp_len (AI.out (i - 1) (by omega)).1) (stamp_len HST.out) hlt (by omega))
                rw [haf] at HS2
                clear haf hi0
                go_wp2
                go_quiet ((first | (go_at_call 79; exact drawn_quiet (HS1.out _ (HEW.out.drN _))) | (go_at_call 80; exact drawn_quiet (HS2.out _ (HEW.out.drN _)))))
                go_wp2
                go_roundg (m1 - (i + 1))
                case measure => omega
                case rel =>
                  refine ⟨i + 1, by omega, by omega, by go_num, (show Drawn _ _ from HDI.out.drN _), (show Aside _ from fun j hj => ?_)⟩
                  by_cases e : j = i
                  · subst e; exact ⟨HST.out, .inr HAF.out⟩
                  · exact AI.out j (by omega)
        · have hltz2 : ¬ (i : Int) < (m1 : Int) := by omega
          obtain rfl : i = m1 := by omega
          go_wp2
          go_roundg (n - (k + 1))
          case measure => omega
          case rel =>
            refine ⟨k + 1, by omega, by omega, by go_num, (show Drawn _ _ from HDO.out.trans HDI.out), (show Aside _ from fun j hj => ?_)⟩
            by_cases e : j = k
            · subst e; exact queue_parts.2 ⟨by rw [← HM1.out]; omega, fun i hi => AI.out i (by rw [← HM1.out] at hi; exact hi)⟩
            · exact A.out j (by omega)
    · have hltz : ¬ (k : Int) < (n : Int) := by omega
      obtain rfl : n = k := by omega
      have hform : formB s = true := form_parts.2 ⟨by rw [HN.out]; omega, by rw [HN.out]; omega, by rw [HL.out, HN.out], by rw [HN.out]; exact A.out⟩
      have hfit := form_fit hform
      have hvv := HVP.out
      rw [hform] at hvv
      have HVV := Lib.hid hvv
      have HFT := Lib.hid hfit
      have HBX := Lib.hid (HDR.out.ext.hp HX0.out)
      clear hform hfit hvv
      have x0 := cellOf HBX.out 0
      have x1 := cellOf HBX.out 1
      have x2 := cellOf HBX.out 2
      have x3 := cellOf HBX.out 3
      simp only [List.getElem?_toArray, List.getElem?_cons_zero, List.getElem?_cons_succ] at x0 x1 x2 x3
      have HBT := Lib.hid (beatenR_calls (.slice a n c) s.qs wr (HQ.out.ext rqueue_lasts HEW.out) HFT.out)
      generalize hbt : beatenL s.qs = bt at *
      have HBTL := Lib.hid hbt
      clear hbt
      by_cases hb0 : 0 ≤ bt
      · have c1 : decide (0 ≤ bt) = true := by simpa using hb0
        have HV := Lib.hid (show validC s = false from by rw [Bool.eq_false_iff]; intro hv; have := (HVV.out.1 hv).2.1; omega)
        clear hb0
        go_wp2_with fail
        refine HBT.out.mono ?_
        rintro e w2 ⟨rfl, hD2⟩
        have HEW := Lib.hid (HEW.out.trans' hD2.ext)
        clear hD2
        go_wp2
        go_ret
        exact ⟨by rw [HVB.out, HV.out]; rfl, (by repeat (first | refine Ext.st ?_ (by first | exact Nat.le_refl _ | exact Nat.le_succ _ | assumption | omega) _ | refine Ext.al ?_ _ | refine Ext.dr ?_ | refine Ext.drN ?_ _ | exact HEW.out))⟩
      · have c1 : decide (0 ≤ bt) = false := by simpa using hb0
        go_wp2_with fail
        refine HBT.out.mono ?_
        rintro e w2 ⟨rfl, hD2⟩
        have HEW2 := Lib.hid (HEW.out.trans' hD2.ext)
        have HBX2 := Lib.hid (hD2.ext.hp HBX.out)
        clear hD2 x0 x1 x2 x3
        have x0 := cellOf HBX2.out 0
        have x1 := cellOf HBX2.out 1
        have x2 := cellOf HBX2.out 2
        have x3 := cellOf HBX2.out 3
        simp only [List.getElem?_toArray, List.getElem?_cons_zero, List.getElem?_cons_succ] at x0 x1 x2 x3
        go_wp2_with fail
        refine (concludeR_calls (.slice a n c) (.slice ea n ec) (.slice ca cl cc) d s.qs s.ended w2 (HQ.out.ext rqueue_lasts HEW2.out) (HEN.out.ext rbool_lasts HEW2.out) HFT.out (by rw [HL.out, HN.out])).mono ?_
        generalize hdb : doneB s.qs s.ended = db at *
        generalize hcb : cutB s.qs = cb at *
        have HDB := Lib.hid hdb
        have HCB := Lib.hid hcb
        rintro e w3 ⟨v3, rfl, hR3, hE3⟩
        have hI3 := hR3.ints
        have HI3 := Lib.hid hI3
        clear hR3
        have HEW3 := Lib.hid (HEW2.out.trans' hE3)
        have HBX3 := Lib.hid (hE3.hp HBX2.out)
        have hs0 := (Array.getElem?_eq_some_iff.1 HBX3.out).1
        have hs0n : w.heap.size ≠ w3.heap.size := by omega
        obtain ⟨va, vc, hve, _⟩ := hI3
        subst hve
        clear hdb hcb hE3 x0 x1 x2 x3
        have x0 := cellOf HBX3.out 0
        have x1 := cellOf HBX3.out 1
        have x2 := cellOf HBX3.out 2
        have x3 := cellOf HBX3.out 3
        simp only [List.getElem?_toArray, List.getElem?_cons_zero, List.getElem?_cons_succ] at x0 x1 x2 x3
        have hcbl : cb.length ≤ 1000000 := by rw [← HCB.out]; have := cutB_len s.qs; have := HN.out; omega
        have HFIN := Lib.hid (show vb = (decide (d = db) && (cb == s.cut)) from by
          rw [HVB.out, Bool.eq_iff_iff, HVV.out, Bool.and_eq_true, decide_eq_true_eq, beq_iff_eq]
          constructor
          · rintro ⟨_, _, e1, e2⟩; exact ⟨e1.symm, e2⟩
          · rintro ⟨e1, e2⟩; exact ⟨trivial, by omega, e1.symm, e2⟩)
        generalize hcc2 : (cb == s.cut) = r at *
        have HCC := Lib.hid hcc2
        clear hcc2
        have HCBL := Lib.hid hcbl
        generalize hcbe : cb.length = cbl at HI3 ⊢
        clear hcbe hcbl
        cases d with
        | true =>
          cases db with
          | true =>
            go_wp2_with fail
            have HSL := Lib.hid (fun W (hW : Ext w3 W) => sameList_calls (.slice va cbl vc) (.slice ca cl cc) cb s.cut W (HI3.out.ext hW) (HC.out.ext (HEW3.out.trans' hW)) HCBL.out (by rw [HCL.out]; exact hs3))
            refine (HSL.out _ (by repeat (first | refine Ext.st ?_ (by first | exact Nat.le_refl _ | exact Nat.le_succ _ | assumption | omega) _ | refine Ext.al ?_ _ | refine Ext.dr ?_ | refine Ext.drN ?_ _ | exact Ext.rf _))).mono ?_
            rw [HCC.out]
            rintro e w4 ⟨rfl, hE4⟩
            have HE4 := Lib.hid (show Ext w w4 from Ext.trans' (by repeat (first | refine Ext.st ?_ (by first | exact Nat.le_refl _ | exact Nat.le_succ _ | assumption | omega) _ | refine Ext.al ?_ _ | refine Ext.dr ?_ | refine Ext.drN ?_ _ | exact HEW3.out)) hE4.ext)
            clear hE4
            go_wp2
            go_ret
            exact ⟨by rw [HFIN.out]; simp, (by repeat (first | refine Ext.st ?_ (by first | exact Nat.le_refl _ | exact Nat.le_succ _ | assumption | omega) _ | refine Ext.al ?_ _ | refine Ext.dr ?_ | refine Ext.drN ?_ _ | exact HE4.out))⟩
          | false =>
            go_wp2
            go_ret
            exact ⟨by rw [HFIN.out]; simp, (by repeat (first | refine Ext.st ?_ (by first | exact Nat.le_refl _ | exact Nat.le_succ _ | assumption | omega) _ | refine Ext.al ?_ _ | refine Ext.dr ?_ | refine Ext.drN ?_ _ | exact HEW3.out))⟩
        | false =>
          cases db with
          | true =>
            go_wp2
            go_ret
            exact ⟨by rw [HFIN.out]; simp, (by repeat (first | refine Ext.st ?_ (by first | exact Nat.le_refl _ | exact Nat.le_succ _ | assumption | omega) _ | refine Ext.al ?_ _ | refine Ext.dr ?_ | refine Ext.drN ?_ _ | exact HEW3.out))⟩
          | false =>
            go_wp2_with fail
            have HSL := Lib.hid (fun W (hW : Ext w3 W) => sameList_calls (.slice va cbl vc) (.slice ca cl cc) cb s.cut W (HI3.out.ext hW) (HC.out.ext (HEW3.out.trans' hW)) HCBL.out (by rw [HCL.out]; exact hs3))
            refine (HSL.out _ (by repeat (first | refine Ext.st ?_ (by first | exact Nat.le_refl _ | exact Nat.le_succ _ | assumption | omega) _ | refine Ext.al ?_ _ | refine Ext.dr ?_ | refine Ext.drN ?_ _ | exact Ext.rf _))).mono ?_
            rw [HCC.out]
            rintro e w4 ⟨rfl, hE4⟩
            have HE4 := Lib.hid (show Ext w w4 from Ext.trans' (by repeat (first | refine Ext.st ?_ (by first | exact Nat.le_refl _ | exact Nat.le_succ _ | assumption | omega) _ | refine Ext.al ?_ _ | refine Ext.dr ?_ | refine Ext.drN ?_ _ | exact HEW3.out)) hE4.ext)
            clear hE4
            go_wp2
            go_ret
            exact ⟨by rw [HFIN.out]; simp, (by repeat (first | refine Ext.st ?_ (by first | exact Nat.le_refl _ | exact Nat.le_succ _ | assumption | omega) _ | refine Ext.al ?_ _ | refine Ext.dr ?_ | refine Ext.drN ?_ _ | exact HE4.out))⟩

end Go.Proofs.Ytggofkaakccoeaa
