/-
  Put of the program's text.
-/
import Derived.Test.YtpjnppkhhbnfoaaBase
import Derived.Test.YtpjnppkhhbnfoaaProg
import Derived.BigQuiet
import Derived.Deep.QuietTactic
import Derived.Deep.LoopGhost
import Derived.Shelf.Abstract
import Derived.Test.YtpjnppkhhbnfoaaTokI
namespace Go.Proofs.Ytpjnppkhhbnfoaa
open Go.RowKit
set_option linter.unusedVariables false
attribute [local go_sem ↓] Go.wp_at_zero Go.wp_at_succ

theorem putTE_1 {l : List Ag} (p : Int) (x : List Int) (h : agentsB l = false) : putTE l p x = 1 := by rw [putTE, if_pos h]
theorem putTE_2 {l : List Ag} {p : Int} {x : List Int} (h : agentsB l = true) (h2 : p < 0 ∨ (l.length : Int) ≤ p ∨ stampB x l.length = false) : putTE l p x = 2 := by rw [putTE, if_neg (by simp [h]), if_pos h2]
theorem put_in {l : List Ag} {P : Nat} {x : List Int} (hP : P < l.length) (hs : stampB x l.length = true) : ¬ ((P : Int) < 0 ∨ (l.length : Int) ≤ (P : Int) ∨ stampB x l.length = false) := by
  rw [hs]; simp; omega
theorem putTE_6 {l : List Ag} {P : Nat} {x : List Int} (h : agentsB l = true) (hP : P < l.length) (hs : stampB x l.length = true) (h2 : l[P]!.ended = true) : putTE l P x = 6 := by
  rw [putTE, if_neg (by simp [h]), if_neg (put_in hP hs), Int.toNat_natCast, if_pos h2]
theorem putTE_11 {l : List Ag} {P : Nat} {x : List Int} (h : agentsB l = true) (hP : P < l.length) (hs : stampB x l.length = true) (h2 : l[P]!.ended = false) (h3 : 0 < l[P]!.queue.length) (h4 : afterB l[P]!.queue[l[P]!.queue.length - 1]! x P = false) : putTE l P x = 11 := by
  rw [putTE, if_neg (by simp [h]), if_neg (put_in hP hs), Int.toNat_natCast, if_neg (by rw [h2]; decide), if_pos ⟨h3, h4⟩]
theorem put_after {l : List Ag} {P : Nat} {x : List Int} (h3 : l[P]!.queue.length = 0 ∨ afterB l[P]!.queue[l[P]!.queue.length - 1]! x P = true) : ¬ (0 < l[P]!.queue.length ∧ afterB l[P]!.queue[l[P]!.queue.length - 1]! x P = false) := by
  rintro ⟨a, b⟩
  rcases h3 with h | h
  · omega
  · rw [h] at b; exact absurd b (by decide)
theorem putTE_5 {l : List Ag} {P : Nat} {x : List Int} (h : agentsB l = true) (hP : P < l.length) (hs : stampB x l.length = true) (h2 : l[P]!.ended = false) (h3 : l[P]!.queue.length = 0 ∨ afterB l[P]!.queue[l[P]!.queue.length - 1]! x P = true) (h4 : 65 ≤ l[P]!.queue.length) : putTE l P x = 5 := by
  rw [putTE, if_neg (by simp [h]), if_neg (put_in hP hs), Int.toNat_natCast, if_neg (by rw [h2]; decide), if_neg (put_after h3), if_pos h4]
theorem putTE_0 {l : List Ag} {P : Nat} {x : List Int} (h : agentsB l = true) (hP : P < l.length) (hs : stampB x l.length = true) (h2 : l[P]!.ended = false) (h3 : l[P]!.queue.length = 0 ∨ afterB l[P]!.queue[l[P]!.queue.length - 1]! x P = true) (h4 : ¬ 65 ≤ l[P]!.queue.length) : putTE l P x = 0 := by
  rw [putTE, if_neg (by simp [h]), if_neg (put_in hP hs), Int.toNat_natCast, if_neg (by rw [h2]; decide), if_neg (put_after h3), if_neg h4]
theorem putTR_no {l : List Ag} {p : Int} {x : List Int} (h : putTE l p x ≠ 0) : putTR l p x = [] := by rw [putTR, if_neg h]

set_option maxHeartbeats 8000000 in
set_option maxRecDepth 100000 in
theorem putTP_calls (v sv : Value) (p : Int) (l : List Ag) (x : List Int) (w : World) (h : Sl RAgent 3 w v l) (hs : SmallT l) (hx : Ints w sv x) (hxn : x.length ≤ 1000000) :
    Calls Try.prog 10 #[v, .int .i64 p, sv] w fun e w' => TwoAg w w' e (putTR l p x) (putTE l p x) := by
  obtain ⟨i2, hi2, iz0, iz1, iz2⟩ := info_parts info_rows1
  have HAG := Lib.hid (fun W (hW : Ext w W) => agentsP_calls v l W (h.ext ragent_lasts hW) hs)
  have HCOP := Lib.hid (fun W (hW : Ext w W) => copiedT_calls v l W (h.ext ragent_lasts hW) hs)
  have HST := Lib.hid (fun W (hW : Ext w W) => stampT_calls sv x l.length W (hx.ext hW) hxn)
  have HS := Lib.hid h
  have HX := Lib.hid hx
  have hn := hs.1
  have HSM := Lib.hid hs.2
  obtain ⟨a, c, rfl, hlc⟩ := h.shape
  obtain ⟨xa, xc, rfl, hxc, _⟩ := hx
  have HSL := Lib.hid hs
  clear h hs
  cases hab : agentsB l with
  | false =>
    have HAB := Lib.hid hab
    rw [putTR_no (by rw [putTE_1 p x hab]; decide), putTE_1 p x hab]
    clear hab
    go_enter Try.func10, Try.ntmps10
    go_wp2_with fail
    refine (HAG.out _ (Ext.rf w)).mono ?_
    rw [HAB.out]
    rintro e w1 ⟨rfl, hE1⟩
    have HE1 := Lib.hid hE1
    clear hE1
    go_wp2
    exact bodyPost_ret (v := .tuple #[.slice none 0 0, .int .i64 1]) (by simp [results, Try.results10, go_sem]) rfl ⟨_, rfl, OwnAg.nil _ _ _ _ _, (by repeat (first | refine Ext.st ?_ (by first | exact Nat.le_refl _ | exact Nat.le_succ _ | assumption | omega) _ | refine Ext.al ?_ _ | refine Ext.dr ?_ | refine Ext.drN ?_ _ | exact HE1.out))⟩
  | true =>
    have HAB := Lib.hid hab
    by_cases hp0 : p < 0
    · have b1 : decide (p < 0) = true := by simpa using hp0
      rw [putTR_no (by rw [putTE_2 hab (.inl hp0)]; decide), putTE_2 hab (.inl hp0)]
      clear hab
      go_enter Try.func10, Try.ntmps10
      go_wp2_with fail
      refine (HAG.out _ (Ext.rf w)).mono ?_
      rw [HAB.out]
      rintro e w1 ⟨rfl, hE1⟩
      have HE1 := Lib.hid hE1
      clear hE1
      go_wp2
      exact bodyPost_ret (v := .tuple #[.slice none 0 0, .int .i64 2]) (by simp [results, Try.results10, go_sem]) rfl ⟨_, rfl, OwnAg.nil _ _ _ _ _, (by repeat (first | refine Ext.st ?_ (by first | exact Nat.le_refl _ | exact Nat.le_succ _ | assumption | omega) _ | refine Ext.al ?_ _ | refine Ext.dr ?_ | refine Ext.drN ?_ _ | exact HE1.out))⟩
    by_cases hp1 : (l.length : Int) ≤ p
    · have b1 : decide (p < 0) = false := by simpa using hp0
      have b2 : decide ((l.length : Int) ≤ p) = true := by simpa using hp1
      rw [putTR_no (by rw [putTE_2 hab (.inr (.inl hp1))]; decide), putTE_2 hab (.inr (.inl hp1))]
      clear hab
      go_enter Try.func10, Try.ntmps10
      go_wp2_with fail
      refine (HAG.out _ (Ext.rf w)).mono ?_
      rw [HAB.out]
      rintro e w1 ⟨rfl, hE1⟩
      have HE1 := Lib.hid hE1
      clear hE1
      go_wp2
      exact bodyPost_ret (v := .tuple #[.slice none 0 0, .int .i64 2]) (by simp [results, Try.results10, go_sem]) rfl ⟨_, rfl, OwnAg.nil _ _ _ _ _, (by repeat (first | refine Ext.st ?_ (by first | exact Nat.le_refl _ | exact Nat.le_succ _ | assumption | omega) _ | refine Ext.al ?_ _ | refine Ext.dr ?_ | refine Ext.drN ?_ _ | exact HE1.out))⟩
    obtain ⟨P, rfl⟩ : ∃ P : Nat, p = P := ⟨p.toNat, by omega⟩
    have hPl : P < l.length := by omega
    have hPz : (0 : Int) ≤ (P : Int) := by omega
    have hPi : (P : Int) < (l.length : Int) := by omega
    have b1 : decide ((P : Int) < 0) = false := by simp
    have b2 : decide ((l.length : Int) ≤ (P : Int)) = false := by simp; omega
    have b2n : decide (l.length ≤ P) = false := by simp; omega
    cases hsb : stampB x l.length with
    | false =>
      have HSB := Lib.hid hsb
      rw [putTR_no (by rw [putTE_2 hab (.inr (.inr hsb))]; decide), putTE_2 hab (.inr (.inr hsb))]
      generalize hln : l.length = n at *
      clear hab hsb hp0 hp1 hln
      go_enter Try.func10, Try.ntmps10
      go_wp2_with fail
      refine (HAG.out _ (Ext.rf w)).mono ?_
      rw [HAB.out]
      rintro e w1 ⟨rfl, hE1⟩
      have HE1 := Lib.hid hE1
      clear hE1
      go_wp2_with fail
      refine (HST.out _ HE1.out).mono ?_
      rw [HSB.out]
      rintro e w2 ⟨rfl, hD2⟩
      have HE2 := Lib.hid (HE1.out.trans' hD2.ext)
      clear hD2
      go_wp2
      exact bodyPost_ret (v := .tuple #[.slice none 0 0, .int .i64 2]) (by simp [results, Try.results10, go_sem]) rfl ⟨_, rfl, OwnAg.nil _ _ _ _ _, (by repeat (first | refine Ext.st ?_ (by first | exact Nat.le_refl _ | exact Nat.le_succ _ | assumption | omega) _ | refine Ext.al ?_ _ | refine Ext.dr ?_ | refine Ext.drN ?_ _ | exact HE2.out))⟩
    | true =>
      have HSB := Lib.hid hsb
      obtain ⟨B, O, C, a1, m1, c1, hue0, _, hq0, _, he0, M1, hmc1, HS1⟩ := agent_at HS.out P hPl
      simp only [Value.slice.injEq] at hue0
      obtain ⟨rfl, hnn, rfl⟩ := hue0
      have HE0 := Lib.hid he0
      have HHQ := Lib.hid hq0
      have HM1 := Lib.hid M1
      have HSQ := Lib.hid HS1
      have hm1 := (HSM.out P hPl).1
      rw [← M1] at hm1
      clear hnn he0 hq0 HS1 M1
      cases hen : l[P]!.ended with
      | true =>
        have HEN := Lib.hid hen
        rw [putTR_no (by rw [putTE_6 hab hPl hsb hen]; decide), putTE_6 hab hPl hsb hen]
        generalize hln : l.length = n at *
        clear hab hsb hen hp0 hp1 hln
        go_enter Try.func10, Try.ntmps10
        go_wp2_with fail
        refine (HAG.out _ (Ext.rf w)).mono ?_
        rw [HAB.out]
        rintro e w1 ⟨rfl, hE1⟩
        have HE1 := Lib.hid hE1
        clear hE1
        go_wp2_with fail
        refine (HST.out _ HE1.out).mono ?_
        rw [HSB.out]
        rintro e w2 ⟨rfl, hD2⟩
        have HE2 := Lib.hid (HE1.out.trans' hD2.ext)
        clear hD2
        have hh1 := HE2.out.cl HHQ.out
        have he1 := HE2.out.cl HE0.out
        rw [HEN.out] at he1
        go_wp2
        exact bodyPost_ret (v := .tuple #[.slice none 0 0, .int .i64 6]) (by simp [results, Try.results10, go_sem]) rfl ⟨_, rfl, OwnAg.nil _ _ _ _ _, (by repeat (first | refine Ext.st ?_ (by first | exact Nat.le_refl _ | exact Nat.le_succ _ | assumption | omega) _ | refine Ext.al ?_ _ | refine Ext.dr ?_ | refine Ext.drN ?_ _ | exact HE2.out))⟩
      | false =>
        have HEN := Lib.hid hen
        by_cases hbad : 0 < m1 ∧ afterB l[P]!.queue[m1 - 1]! x P = false
        · obtain ⟨hm0, haf⟩ := hbad
          have HAF := Lib.hid haf
          have hE : putTE l P x = 11 := putTE_11 hab hPl hsb hen (by rw [← HM1.out]; exact hm0) (by rw [← HM1.out]; exact haf)
          rw [putTR_no (by rw [hE]; decide), hE]
          have hz1 : (0 : Int) ≤ (m1 : Int) - 1 := by omega
          have hz2 : (m1 : Int) - 1 < (m1 : Int) := by omega
          have hz3 : ((m1 : Int) - 1).toNat = m1 - 1 := by omega
          have hz4 : (1 : Int) ≤ (m1 : Int) := by omega
          have c1' : decide (0 < (m1 : Int)) = true := by simp; omega
          have c1n : decide (0 < m1) = true := by simp; omega
          obtain ⟨b', o', pv, rfl, hcj0, hpv⟩ := stamp_at HSQ.out (m1 - 1) (by rw [← HM1.out]; omega)
          have HCJ := Lib.hid hcj0
          have HFO := Lib.hid (fun W (hW : Ext w W) => followT_calls pv (.slice xa x.length xc) l[P]!.queue[m1 - 1]! x l.length P W (hpv.ext hW) (HX.out.ext hW) (stamp_len ((queue_parts.1 (agent_parts.1 ((agents_parts.1 HAB.out).2.2 P hPl)).2.2.2).2 (m1 - 1) (by rw [← HM1.out]; omega)).1) (stamp_len HSB.out) hPl hn)
          clear hcj0 hpv
          generalize hln : l.length = n at *
          clear hab hsb hen hp0 hp1 hln haf hE
          go_enter Try.func10, Try.ntmps10
          go_wp2_with fail
          refine (HAG.out _ (Ext.rf w)).mono ?_
          rw [HAB.out]
          rintro e w1 ⟨rfl, hE1⟩
          have HE1 := Lib.hid hE1
          clear hE1
          go_wp2_with fail
          refine (HST.out _ HE1.out).mono ?_
          rw [HSB.out]
          rintro e w2 ⟨rfl, hD2⟩
          have HE2 := Lib.hid (HE1.out.trans' hD2.ext)
          clear hD2
          have hh1 := HE2.out.cl HHQ.out
          have he1 := HE2.out.cl HE0.out
          rw [HEN.out] at he1
          have hcj := HE2.out.cl HCJ.out
          go_wp2_with fail
          refine (HFO.out _ HE2.out).mono ?_
          rw [HAF.out]
          rintro e w3 ⟨rfl, hD3⟩
          have HE3 := Lib.hid (HE2.out.trans' hD3.ext)
          clear hD3
          go_wp2
          exact bodyPost_ret (v := .tuple #[.slice none 0 0, .int .i64 11]) (by simp [results, Try.results10, go_sem]) rfl ⟨_, rfl, OwnAg.nil _ _ _ _ _, (by repeat (first | refine Ext.st ?_ (by first | exact Nat.le_refl _ | exact Nat.le_succ _ | assumption | omega) _ | refine Ext.al ?_ _ | refine Ext.dr ?_ | refine Ext.drN ?_ _ | exact HE3.out))⟩
        · have HNB := Lib.hid (show m1 = 0 ∨ afterB l[P]!.queue[m1 - 1]! x P = true from by
            rcases Nat.eq_zero_or_pos m1 with h0 | h0
            · exact .inl h0
            · right
              cases haf : afterB l[P]!.queue[m1 - 1]! x P with
              | true => rfl
              | false => exact absurd ⟨h0, haf⟩ hbad)
          clear hbad
          by_cases h65 : 65 ≤ m1
          · have c65 : decide (65 ≤ (m1 : Int)) = true := by simp; omega
            have c65n : decide (65 ≤ m1) = true := by simp; omega
            have haf : afterB l[P]!.queue[m1 - 1]! x P = true := HNB.out.resolve_left (by omega)
            have HAF := Lib.hid haf
            have hE : putTE l P x = 5 := putTE_5 hab hPl hsb hen (.inr (by rw [← HM1.out]; exact haf)) (by rw [← HM1.out]; exact h65)
            rw [putTR_no (by rw [hE]; decide), hE]
            have hz1 : (0 : Int) ≤ (m1 : Int) - 1 := by omega
            have hz2 : (m1 : Int) - 1 < (m1 : Int) := by omega
            have hz3 : ((m1 : Int) - 1).toNat = m1 - 1 := by omega
            have hz4 : (1 : Int) ≤ (m1 : Int) := by omega
            have c1' : decide (0 < (m1 : Int)) = true := by simp; omega
            have c1n : decide (0 < m1) = true := by simp; omega
            obtain ⟨b', o', pv, rfl, hcj0, hpv⟩ := stamp_at HSQ.out (m1 - 1) (by rw [← HM1.out]; omega)
            have HCJ := Lib.hid hcj0
            have HFO := Lib.hid (fun W (hW : Ext w W) => followT_calls pv (.slice xa x.length xc) l[P]!.queue[m1 - 1]! x l.length P W (hpv.ext hW) (HX.out.ext hW) (stamp_len ((queue_parts.1 (agent_parts.1 ((agents_parts.1 HAB.out).2.2 P hPl)).2.2.2).2 (m1 - 1) (by rw [← HM1.out]; omega)).1) (stamp_len HSB.out) hPl hn)
            clear hcj0 hpv
            generalize hln : l.length = n at *
            clear hab hsb hen hp0 hp1 hln haf hE
            go_enter Try.func10, Try.ntmps10
            go_wp2_with fail
            refine (HAG.out _ (Ext.rf w)).mono ?_
            rw [HAB.out]
            rintro e w1 ⟨rfl, hE1⟩
            have HE1 := Lib.hid hE1
            clear hE1
            go_wp2_with fail
            refine (HST.out _ HE1.out).mono ?_
            rw [HSB.out]
            rintro e w2 ⟨rfl, hD2⟩
            have HE2 := Lib.hid (HE1.out.trans' hD2.ext)
            clear hD2
            have hh1 := HE2.out.cl HHQ.out
            have he1 := HE2.out.cl HE0.out
            rw [HEN.out] at he1
            have hcj := HE2.out.cl HCJ.out
            go_wp2_with fail
            refine (HFO.out _ HE2.out).mono ?_
            rw [HAF.out]
            rintro e w3 ⟨rfl, hD3⟩
            have HE3 := Lib.hid (HE2.out.trans' hD3.ext)
            clear hD3
            go_wp2
            exact bodyPost_ret (v := .tuple #[.slice none 0 0, .int .i64 5]) (by simp [results, Try.results10, go_sem]) rfl ⟨_, rfl, OwnAg.nil _ _ _ _ _, (by repeat (first | refine Ext.st ?_ (by first | exact Nat.le_refl _ | exact Nat.le_succ _ | assumption | omega) _ | refine Ext.al ?_ _ | refine Ext.dr ?_ | refine Ext.drN ?_ _ | exact HE3.out))⟩
          · have hE : putTE l P x = 0 := putTE_0 hab hPl hsb hen (by rw [← HM1.out]; exact HNB.out) (by rw [← HM1.out]; exact h65)
            rw [show putTR l P x = putTL l P x from by rw [putTR, if_pos hE, Int.toNat_natCast], hE]
            have c65 : decide (65 ≤ (m1 : Int)) = false := by simp; omega
            have c65n : decide (65 ≤ m1) = false := by simp; omega
            clear hab hsb hen hp0 hp1 hE
            go_enter Try.func10, Try.ntmps10
            go_wp2_with fail
            refine (HAG.out _ (Ext.rf w)).mono ?_
            rw [HAB.out]
            rintro e w1 ⟨rfl, hE1⟩
            have HE1 := Lib.hid hE1
            clear hE1
            go_wp2_with fail
            refine (HST.out _ HE1.out).mono ?_
            rw [HSB.out]
            rintro e w2 ⟨rfl, hD2⟩
            have HE2 := Lib.hid (HE1.out.trans' hD2.ext)
            clear hD2
            have hh1 := HE2.out.cl HHQ.out
            have he1 := HE2.out.cl HE0.out
            rw [HEN.out] at he1
            go_upto_region 8 with (fail)
            go_cut [40] (fun s wx => s = .bool false ∧ Aside (Ext w wx))
            case first =>
              rcases Nat.eq_zero_or_pos m1 with h0 | hm0
              · have c1' : decide (0 < (m1 : Int)) = false := by simp; omega
                have c1n : decide (0 < m1) = false := by simp; omega
                go_wp2_with fail
                go_meet
                exact ⟨rfl, HE2.out⟩
              · have HAF := Lib.hid (HNB.out.resolve_left (by omega))
                have hz1 : (0 : Int) ≤ (m1 : Int) - 1 := by omega
                have hz2 : (m1 : Int) - 1 < (m1 : Int) := by omega
                have hz3 : ((m1 : Int) - 1).toNat = m1 - 1 := by omega
                have hz4 : (1 : Int) ≤ (m1 : Int) := by omega
                have c1' : decide (0 < (m1 : Int)) = true := by simp; omega
                have c1n : decide (0 < m1) = true := by simp; omega
                obtain ⟨b', o', pv, rfl, hcj0, hpv⟩ := stamp_at HSQ.out (m1 - 1) (by rw [← HM1.out]; omega)
                have HCJ := Lib.hid hcj0
                have HFO := Lib.hid (fun W (hW : Ext w W) => followT_calls pv (.slice xa x.length xc) l[P]!.queue[m1 - 1]! x l.length P W (hpv.ext hW) (HX.out.ext hW) (stamp_len ((queue_parts.1 (agent_parts.1 ((agents_parts.1 HAB.out).2.2 P hPl)).2.2.2).2 (m1 - 1) (by rw [← HM1.out]; omega)).1) (stamp_len HSB.out) hPl hn)
                clear hcj0 hpv
                have hcj := HE2.out.cl HCJ.out
                go_wp2_with fail
                refine (HFO.out _ HE2.out).mono ?_
                rw [HAF.out]
                rintro e w3 ⟨rfl, hD3⟩
                have HE3 := Lib.hid (HE2.out.trans' hD3.ext)
                clear hD3
                go_wp2_with fail
                go_meet
                exact ⟨rfl, HE3.out⟩
            case rest =>
              obtain ⟨rfl, HE3⟩ := hcut
              obtain ⟨w3, rfl⟩ : ∃ x, x = wc := ⟨_, rfl⟩
              go_wp2_with fail
              refine (HCOP.out _ HE3.out).mono ?_
              rintro e w4 ⟨v4, rfl, hO4, hE4⟩
              obtain ⟨G, O2, C2, cs, hs, rfl, hh0, hfr, hGb, hGs5, hrow, hac, hqh⟩ := hO4.at P hPl
              have hrr := hqh.2.1 P (by rw [queuesOf_len]; exact hPl)
              rw [queuesOf_at l P hPl] at hrr
              obtain ⟨vs, hv, hel⟩ := hrr
              obtain ⟨ia, ic, hqe, hic, hsh⟩ := hv.any
              have HHE := Lib.hid hqe
              rw [hqe] at hh0 hv
              rw [← HM1.out] at hic hh0 hv
              have ff0 := hfr (O2 + P * 3)
              have HV5 := Lib.hid hv
              have HIE := Lib.hid (fun i (hi : i < l[P]!.queue.length) => hel i hi)
              have HR5 := Lib.hid hrow
              have HAC := Lib.hid hac
              have HQH := Lib.hid hqh
              have HE4 := Lib.hid (HE3.out.trans' hE4)
              have HE34 := Lib.hid hE4
              have hsz3 := HE3.out.sz
              have hsz4 := hE4.sz
              have hPm : P * 3 < l.length * 3 := by omega
              clear hrow hac hqh hE4 hfr hO4 hv hel hsh hqe
              have hbase : w.heap.size ≤ w3.heap.size := HE3.out.sz
              have HCLN := Lib.hid (fun W (hW : Ext w4 W) => clone_ints (.slice xa x.length xc) x.length (x.map (Value.int .i64)) W ((HX.out.ext (HE4.out.trans' hW)).cells) (int_one _) hxn)
              generalize hSL : x.length = SL at *
              have HSL := Lib.hid hSL
              clear hSL
              go_upto_region 13 with (fail)
              go_cut [] (fun wy => Aside (OwnA wy w.heap.size (.slice (some ⟨G, O2, none⟩) l.length C2) (putTL l P x)) ∧ Aside (Ext w wy))
              case first =>
                refine wp_region_tail (fun w' => w'.cell? ⟨G, O2 + P * 3, none⟩ = some (.slice ia m1 ic)) 13 (by kernel_rfl) ?_ (fun hHeld => ?_)
                · exact hh0
                refine wpAnyT_take (i := 0) (d := some 62) (v := ?_) rfl rfl (by kernel_rfl) (by kernel_rfl) (by kernel_rfl) (by kernel_rfl) (fun _ _ _ h => h) (Or.inl ⟨by rfl, ?_⟩) (by assumption) ?_
                rotate_left
                · (intro w hSw; (try dsimp only at hSw); go_simp; try (with_reducible rfl))
                try simp only [Act.put]
                try simp only [List.setIfInBounds_toArray]
                try simp only [List.set_cons_zero, List.set_cons_succ]
                refine wpAnyT_take (i := 1) (d := some 63) (v := ?_) rfl rfl (by kernel_rfl) (by kernel_rfl) (by kernel_rfl) (by kernel_rfl) (fun _ _ _ h => h) (Or.inl ⟨by rfl, ?_⟩) (by assumption) ?_
                rotate_left
                · (intro w hSw; (try dsimp only at hSw); go_simp; try (with_reducible rfl))
                try simp only [Act.put]
                try simp only [List.setIfInBounds_toArray]
                try simp only [List.set_cons_zero, List.set_cons_succ]
                refine wpAnyT_take (i := 2) (d := some 64) (v := ?_) rfl rfl (by kernel_rfl) (by kernel_rfl) (by kernel_rfl) (by kernel_rfl) (fun _ _ _ h => h) (Or.inl ⟨by rfl, ?_⟩) (by assumption) ?_
                rotate_left
                · (intro w hSw; (try dsimp only at hSw); go_simp; try (with_reducible rfl))
                try simp only [Act.put]
                try simp only [List.setIfInBounds_toArray]
                try simp only [List.set_cons_zero, List.set_cons_succ]
                refine wpAnyT_take (i := 3) (d := some 65) (v := ?_) rfl rfl (by kernel_rfl) (by kernel_rfl) (by kernel_rfl) (by kernel_rfl) (fun _ _ _ h => h) (Or.inl ⟨by rfl, ?_⟩) (by assumption) ?_
                rotate_left
                · (intro w hSw; (try dsimp only at hSw); go_simp; try (with_reducible rfl))
                try simp only [Act.put]
                try simp only [List.setIfInBounds_toArray]
                try simp only [List.set_cons_zero, List.set_cons_succ]
                refine wpAnyT_take (i := 4) (d := some 66) (v := ?_) rfl rfl (by kernel_rfl) (by kernel_rfl) (by kernel_rfl) (by kernel_rfl) (fun _ _ _ h => h) (Or.inl ⟨by rfl, ?_⟩) (by assumption) ?_
                rotate_left
                · (intro w hSw; (try dsimp only at hSw); go_simp; try (with_reducible rfl))
                try simp only [Act.put]
                try simp only [List.setIfInBounds_toArray]
                try simp only [List.set_cons_zero, List.set_cons_succ]
                refine wpAnyT_take (i := 5) (d := some 67) (v := ?_) rfl rfl (by kernel_rfl) (by kernel_rfl) (by kernel_rfl) (by kernel_rfl) (fun _ _ _ h => h) (Or.inl ⟨by rfl, ?_⟩) (by assumption) ?_
                rotate_left
                · (intro w hSw; (try dsimp only at hSw); go_simp; try (with_reducible rfl))
                try simp only [Act.put]
                try simp only [List.setIfInBounds_toArray]
                try simp only [List.set_cons_zero, List.set_cons_succ]
                refine wpAnyT_take (i := 6) (d := some 68) (v := ?_) rfl rfl (by kernel_rfl) (by kernel_rfl) (by kernel_rfl) (by kernel_rfl) (fun _ _ _ h => h) (Or.inl ⟨by rfl, ?_⟩) (by assumption) ?_
                rotate_left
                · (intro w hSw; (try dsimp only at hSw); go_simp; try (with_reducible rfl))
                try simp only [Act.put]
                try simp only [List.setIfInBounds_toArray]
                try simp only [List.set_cons_zero, List.set_cons_succ]
                refine wpAnyT_take (i := 7) (d := some 69) (v := ?_) rfl rfl (by kernel_rfl) (by kernel_rfl) (by kernel_rfl) (by kernel_rfl) (fun _ _ _ h => h) (Or.inl ⟨by rfl, ?_⟩) (by assumption) ?_
                rotate_left
                · (intro w hSw; (try dsimp only at hSw); go_simp; try (with_reducible rfl))
                try simp only [Act.put]
                try simp only [List.setIfInBounds_toArray]
                try simp only [List.set_cons_zero, List.set_cons_succ]
                refine wpAnyT_step (i := 8) (by kernel_rfl) rfl (fun K hK => ?_)
                refine step_call rfl 27 _ _ rfl enters_27 [.slice xa SL xc] (by first | rfl | kernel_rfl | go_simp) (HCLN.out _ (by repeat (first | refine Ext.st ?_ (by first | exact Nat.le_refl _ | exact Nat.le_succ _ | assumption | omega) _ | refine Ext.al ?_ _ | refine Ext.dr ?_ | refine Ext.drN ?_ _ | exact Ext.rf _))) ?_
                rintro e wC ⟨vC, rfl, hRC, hxC⟩; obtain ⟨ka, kc, rfl, hkc, hshC⟩ := hRC.any; clear hshC; have HRC := Lib.hid hRC; have HXC := Lib.hid (show Ext w4 wC from Ext.trans' (by repeat (first | refine Ext.st ?_ (by first | exact Nat.le_refl _ | exact Nat.le_succ _ | assumption | omega) _ | refine Ext.al ?_ _ | refine Ext.dr ?_ | refine Ext.drN ?_ _ | exact Ext.rf _)) hxC); have nC := HXC.out.sz; have nG1 : G < wC.heap.size := Nat.lt_of_lt_of_le hGs5 nC; have nG2 : G ≠ wC.heap.size := Nat.ne_of_lt nG1; have nG3 : wC.heap.size ≠ G := fun e => nG2 e.symm; have xh := HXC.out.cl hh0; have fh := (HXC.out.frozen (p := ⟨G, O2 + P * 3, none⟩) hGs5).trans ff0; clear hRC hxC; refine ⟨_, rfl, ?_⟩
                refine hK.out _ _ ?_ (fun hHeld => ?_)
                · (try dsimp only)
                  exact xh
                clear hK K
                try simp only [Act.put]
                try simp only [List.setIfInBounds_toArray]
                try simp only [List.set_cons_zero, List.set_cons_succ]
                refine wpAnyT_step (i := 9) (by kernel_rfl) rfl (fun K hK => ?_)
                go_simp
                refine hK.out _ _ ?_ (fun hHeld => ?_)
                · (try dsimp only)
                  go_keep
                clear hK K
                try simp only [Act.put]
                try simp only [List.setIfInBounds_toArray]
                try simp only [List.set_cons_zero, List.set_cons_succ]
                refine wpAnyT_step (i := 10) (by kernel_rfl) rfl (fun K hK => ?_)
                refine step_append_rowN rfl _ _ 47 rfl w3.heap.size 22 i2 (.slice none 0 0) 1 24 Try.underlying47 hi2 iz0 iz1 iz2 rfl (by decide) (.slice ia m1 ic) m1 vs rfl (by first | exact (HV5.out.ext HXC.out).al _ | exact ((HV5.out.ext HXC.out).al _).drw | exact ((HV5.out.ext HXC.out).drw).al _) _ 1 [.slice ka SL kc] rfl rfl (by first | exact ⟨_, heap_new_eq rfl⟩ | exact ⟨(0, 0), heap_new_eq (by simp)⟩) (by simp [Value.oneCell']) (by unfold maxLen; omega) (by omega) (by first | (simp; omega) | omega) ?_
                intro vN wN hownN hgrowN hblkN; obtain ⟨na, nc, rfl, hnc, hshN⟩ := hownN.any; clear hshN; have hG5 : (wC.alloc (.cells #[.slice ka SL kc] 22)).grownBy wN (Value.slice ia m1 ic).ownBlock := hgrowN; have hrA := (HR5.out.ext HXC.out).al (.cells #[.slice ka SL kc] 22); have hvA := (HV5.out.ext HXC.out).al (.cells #[.slice ka SL kc] 22); have hrN := hrA.grown hG5 (hrA.apart hvA (by decide)); obtain ⟨uN, cN⟩ := row_some hrN (P * 3) hPm; have fN := hrN.free (O2 + P * 3)
                have cN2 : wN.cell? ⟨G, O2 + P * 3, none⟩ = some (.slice ia m1 ic) := by
                  rw [hrN.cell (P * 3) hPm, (HAC.out.2.2 P hPl).1, HHE.out, HM1.out]
                refine hK.out _ _ ?_ (fun hHeld => ?_)
                · (try dsimp only)
                  exact cN2
                clear hK K
                try simp only [Act.put]
                try simp only [List.setIfInBounds_toArray]
                try simp only [List.set_cons_zero, List.set_cons_succ]
                refine wpAnyT_take (i := 11) (d := some 73) (v := ?_) rfl rfl (by kernel_rfl) (by kernel_rfl) (by kernel_rfl) (by kernel_rfl) (fun _ _ _ h => h) (Or.inl ⟨by rfl, ?_⟩) (by assumption) ?_
                rotate_left
                · (intro w hSw; (try dsimp only at hSw); go_simp; try (with_reducible rfl))
                try simp only [Act.put]
                try simp only [List.setIfInBounds_toArray]
                try simp only [List.set_cons_zero, List.set_cons_succ]
                refine wpAnyT_take (i := 12) (d := some 74) (v := ?_) rfl rfl (by kernel_rfl) (by kernel_rfl) (by kernel_rfl) (by kernel_rfl) (fun _ _ _ h => h) (Or.inl ⟨by rfl, ?_⟩) (by assumption) ?_
                rotate_left
                · (intro w hSw; (try dsimp only at hSw); go_simp; try (with_reducible rfl))
                try simp only [Act.put]
                try simp only [List.setIfInBounds_toArray]
                try simp only [List.set_cons_zero, List.set_cons_succ]
                refine wpAnyT_last (by kernel_rfl) rfl (by kernel_rfl) (fun K hK => ?_)
                go_simp
                refine hK.out _ _ ?_
                go_wp2_with fail
                go_meet
                have hrF := hrN.set (P * 3) (.slice na (m1 + 1) nc) hPm
                obtain ⟨cs1, t1, fr1, hG, ht1⟩ := hrN.block G rfl
                subst ht1
                have hqF := (QHs.put (p := P) (x := x) (HQH.out.ext (HXC.out.al (.cells #[.slice ka SL kc] 22))) (by rw [queuesOf_len]; exact hPl) (by decide) (by rw [queuesOf_at l P hPl, HHE.out, ← HM1.out]; exact hvA) (fun j hj => by rw [queuesOf_at l P hPl] at hj ⊢; exact ((HIE.out j hj).ext HXC.out).al _) (by rw [HSL.out]; exact (HRC.out.mono (by first | omega | (simp; omega))).al _) (by rw [HHE.out, ← HM1.out]; exact hG5) (by rw [queuesOf_at l P hPl, ← HM1.out]; exact hownN) (by rw [HHE.out, ← HM1.out]; exact hblkN)).stO (o := O2 + P * 3) hG (by decide) (by decide) (.slice na (m1 + 1) nc)
                rw [queuesOf_at l P hPl] at hqF
                refine ⟨(show OwnA _ _ _ _ from ⟨cs.set (P * 3) (.slice na (m1 + 1) nc), hs.set P (.slice na (m1 + 1) nc), ?_, HAC.out.setQ P hPl _ _, ?_⟩), (show Ext _ _ from ?_)⟩
                · rw [putTL, List.length_set]
                  exact hrF.mono hbase
                · rw [putTL, queuesOf_set]
                  exact hqF.mono hbase
                · exact (((HE4.out.trans' HXC.out).al (.cells #[.slice ka SL kc] 22)).gr hG5 (fun q hq => Nat.le_trans hbase (HV5.out.lt q hq).1)).st (p := ⟨G, O2 + P * 3, none⟩) (Nat.le_trans hbase hGb) _
              case rest =>
                obtain ⟨HOF, HEF⟩ := hcut
                go_wp2
                exact bodyPost_ret (v := .tuple #[.slice (some ⟨G, O2, none⟩) l.length C2, .int .i64 0]) (by simp [results, Try.results10, go_sem]) rfl ⟨_, rfl, HOF.out, HEF.out⟩

end Go.Proofs.Ytpjnppkhhbnfoaa
