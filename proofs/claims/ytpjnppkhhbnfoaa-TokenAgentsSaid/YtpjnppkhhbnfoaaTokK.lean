/-
  Put of the reference's text.
-/
import Derived.Test.YtpjnppkhhbnfoaaBase
import Derived.Test.YtpjnppkhhbnfoaaProg
import Derived.BigQuiet
import Derived.Deep.QuietTactic
import Derived.Deep.LoopGhost
import Derived.Shelf.Abstract
import Derived.Test.YtpjnppkhhbnfoaaTokJ
namespace Go.Proofs.Ytpjnppkhhbnfoaa
open Go.RowKit
set_option linter.unusedVariables false
attribute [local go_sem ↓] Go.wp_at_zero Go.wp_at_succ

theorem put_small {l : List Ag} {P : Nat} {x : List Int} (h : SmallT l) (hP : P < l.length) (hq : l[P]!.queue.length < 1000000) (hx : x.length ≤ 1000000) : SmallT (putTL l P x) := by
  refine ⟨by rw [putTL, List.length_set]; exact h.1, fun p hp => ?_⟩
  rw [putTL, List.length_set] at hp
  rw [putTL, set_at l P p _ hP]
  by_cases e : p = P
  · subst e
    rw [if_pos rfl]
    refine ⟨by show (_ ++ [_]).length ≤ _; rw [List.length_append, List.length_singleton]; omega, fun i hi => ?_⟩
    rw [List.length_append, List.length_singleton] at hi
    rw [snoc_at _ _ i (by omega)]
    split
    · exact hx
    · exact (h.2 p hp).2 i (by omega)
  · rw [if_neg e]
    exact h.2 p hp

theorem put_read {W w5 : World} {base G O C P : Nat} {e1 e2 e3 : TypeId} {l : List Ag} {x : List Int} {cs hs vs : List Value} {v' u : Value}
    (hr : Row W base e1 3 (.slice (some ⟨G, O, none⟩) l.length C) l.length cs) (ha : AgC cs hs l) (hq : QHs W base e2 e3 hs (queuesOf l)) (hP : P < l.length) (h12 : e1 ≠ e2) (h13 : e1 ≠ e3) (h23 : e2 ≠ e3)
    (hv : Row W base e2 1 hs[P]! l[P]!.queue.length vs) (hel : ∀ i, i < l[P]!.queue.length → Row W base e3 1 vs[i]! l[P]!.queue[i]!.length (l[P]!.queue[i]!.map (Value.int .i64)))
    (hg : W.grownBy w5 hs[P]!.ownBlock) (hR : Row w5 base e2 1 v' (l[P]!.queue.length + 1) (vs ++ [u])) (hu : Ints (w5.setCell ⟨G, O + P * 3, none⟩ v') u x) :
    Sl RAgent 3 (w5.setCell ⟨G, O + P * 3, none⟩ v') (.slice (some ⟨G, O, none⟩) l.length C) (putTL l P x) := by
  have hrN := hr.grown hg (hr.apart hv h12)
  obtain ⟨cs1, t1, fr1, hG, rfl⟩ := hrN.block G rfl
  have hvl : vs.length = l[P]!.queue.length := by have := hv.1; omega
  have h1 := hrN.set (P * 3) v' (by omega)
  have hlen : (putTL l P x).length = l.length := by rw [putTL, List.length_set]
  rw [← hlen] at h1
  have := rowAg_read (l := putTL l P x) (hs := hs.set P v') h1 (ha.setQ P hP v' _) fun p hp => ?_
  · rw [hlen] at this; exact this
  · rw [hlen] at hp
    rw [putTL, set_at l P p _ hP, set_at hs P p _ (by rw [ha.2.1]; exact hP)]
    by_cases e : p = P
    · subst e
      rw [if_pos rfl, if_pos rfl]
      have hR2 := hR.stO (o := O + p * 3) hG h12 v'
      have hl2 : (l[p]!.queue ++ [x]).length = l[p]!.queue.length + 1 := by simp
      show Sl RInts 1 _ v' (l[p]!.queue ++ [x])
      refine CellsAt.sl (by rw [hl2]; exact hR2.cells) fun i hi => ?_
      rw [hl2] at hi
      rw [Nat.mul_one, List.drop_eq_getElem_cons (by rw [List.length_append, hvl, List.length_singleton]; exact hi), snoc_at _ x i (by omega)]
      refine ⟨(vs ++ [u])[i]!, by rw [getElem!_pos _ i (by rw [List.length_append, hvl, List.length_singleton]; exact hi)]; rfl, ?_⟩
      rw [snoc_at vs u i (by omega), hvl]
      by_cases ei : i = l[p]!.queue.length
      · rw [if_pos ei, if_pos ei]; exact hu
      · rw [if_neg ei, if_neg ei]
        have hi2 := (hel i (by omega)).grown hg ?_
        · exact (hi2.stO (o := O + p * 3) hG h13 v').ints
        · exact (hel i (by omega)).apart hv (fun e => h23 e.symm)
    · rw [if_neg e, if_neg e]
      have hpq : p < (queuesOf l).length := by rw [queuesOf_len]; exact hp
      have h2 := hq.2.1 p hpq
      rw [queuesOf_at l p hp] at h2
      exact ((h2.grown hg (hq.2.2 p P hpq (by rw [queuesOf_len]; exact hP) e) (hv.block' h23)).stO (o := O + P * 3) hG h12 h13 v').rints

set_option maxHeartbeats 8000000 in
set_option maxRecDepth 100000 in
theorem putTRf_calls (v sv : Value) (p : Int) (l : List Ag) (x : List Int) (w : World) (h : Sl RAgent 3 w v l) (hs : SmallT l) (hx : Ints w sv x) (hxn : x.length ≤ 1000000) :
    Calls Try.prog 12 #[v, .int .i64 p, sv] w fun e w' => TwoAg w w' e (putTR l p x) (putTE l p x) := by
  obtain ⟨i2, hi2, iz0, iz1, iz2⟩ := info_parts info_rows1
  have HAG := Lib.hid (fun W (hW : Ext w W) => agentsR_calls v l W (h.ext ragent_lasts hW) hs)
  have HCOP := Lib.hid (fun W (hW : Ext w W) => copiedR_calls v l W (h.ext ragent_lasts hW) hs)
  have HST := Lib.hid (fun W (hW : Ext w W) => stampTR_calls sv x l.length W (hx.ext hW) hxn)
  have HS := Lib.hid h
  have HX := Lib.hid hx
  have hn := hs.1
  have HSM := Lib.hid hs.2
  obtain ⟨a, c, rfl, hlc⟩ := h.shape
  obtain ⟨xa, xc, rfl, hxc, _⟩ := hx
  have HSL := Lib.hid hs
  clear h hs
  cases hab : agentsB l with
  | false =>
    have HAB := Lib.hid hab
    rw [putTR_no (by rw [putTE_1 p x hab]; decide), putTE_1 p x hab]
    clear hab
    go_enter Try.func12, Try.ntmps12
    go_wp2_with fail
    refine (HAG.out _ (Ext.rf w)).mono ?_
    rw [HAB.out]
    rintro e w1 ⟨rfl, hE1⟩
    have HE1 := Lib.hid hE1
    clear hE1
    go_wp2
    exact bodyPost_ret (v := .tuple #[.slice none 0 0, .int .i64 1]) (by simp [results, Try.results12, go_sem]) rfl ⟨_, rfl, OwnAg.nil _ _ _ _ _, (by repeat (first | refine Ext.st ?_ (by first | exact Nat.le_refl _ | exact Nat.le_succ _ | assumption | omega) _ | refine Ext.al ?_ _ | refine Ext.dr ?_ | refine Ext.drN ?_ _ | exact HE1.out))⟩
  | true =>
    have HAB := Lib.hid hab
    by_cases hp0 : p < 0
    · have b1 : decide (p < 0) = true := by simpa using hp0
      rw [putTR_no (by rw [putTE_2 hab (.inl hp0)]; decide), putTE_2 hab (.inl hp0)]
      clear hab
      go_enter Try.func12, Try.ntmps12
      go_wp2_with fail
      refine (HAG.out _ (Ext.rf w)).mono ?_
      rw [HAB.out]
      rintro e w1 ⟨rfl, hE1⟩
      have HE1 := Lib.hid hE1
      clear hE1
      go_wp2
      exact bodyPost_ret (v := .tuple #[.slice none 0 0, .int .i64 2]) (by simp [results, Try.results12, go_sem]) rfl ⟨_, rfl, OwnAg.nil _ _ _ _ _, (by repeat (first | refine Ext.st ?_ (by first | exact Nat.le_refl _ | exact Nat.le_succ _ | assumption | omega) _ | refine Ext.al ?_ _ | refine Ext.dr ?_ | refine Ext.drN ?_ _ | exact HE1.out))⟩
    by_cases hp1 : (l.length : Int) ≤ p
    · have b1 : decide (p < 0) = false := by simpa using hp0
      have b2 : decide ((l.length : Int) ≤ p) = true := by simpa using hp1
      rw [putTR_no (by rw [putTE_2 hab (.inr (.inl hp1))]; decide), putTE_2 hab (.inr (.inl hp1))]
      clear hab
      go_enter Try.func12, Try.ntmps12
      go_wp2_with fail
      refine (HAG.out _ (Ext.rf w)).mono ?_
      rw [HAB.out]
      rintro e w1 ⟨rfl, hE1⟩
      have HE1 := Lib.hid hE1
      clear hE1
      go_wp2
      exact bodyPost_ret (v := .tuple #[.slice none 0 0, .int .i64 2]) (by simp [results, Try.results12, go_sem]) rfl ⟨_, rfl, OwnAg.nil _ _ _ _ _, (by repeat (first | refine Ext.st ?_ (by first | exact Nat.le_refl _ | exact Nat.le_succ _ | assumption | omega) _ | refine Ext.al ?_ _ | refine Ext.dr ?_ | refine Ext.drN ?_ _ | exact HE1.out))⟩
    obtain ⟨P, rfl⟩ : ∃ P : Nat, p = P := ⟨p.toNat, by omega⟩
    have hPl : P < l.length := by omega
    have hPz : (0 : Int) ≤ (P : Int) := by omega
    have hPi : (P : Int) < (l.length : Int) := by omega
    have b1 : decide ((P : Int) < 0) = false := by simp
    have b2 : decide ((l.length : Int) ≤ (P : Int)) = false := by simp; omega
    have b2n : decide (l.length ≤ P) = false := by simp; omega
    cases hsb : stampB x l.length with
    | false =>
      have HSB := Lib.hid hsb
      rw [putTR_no (by rw [putTE_2 hab (.inr (.inr hsb))]; decide), putTE_2 hab (.inr (.inr hsb))]
      generalize hln : l.length = n at *
      clear hab hsb hp0 hp1 hln
      go_enter Try.func12, Try.ntmps12
      go_wp2_with fail
      refine (HAG.out _ (Ext.rf w)).mono ?_
      rw [HAB.out]
      rintro e w1 ⟨rfl, hE1⟩
      have HE1 := Lib.hid hE1
      clear hE1
      go_wp2_with fail
      refine (HST.out _ HE1.out).mono ?_
      rw [HSB.out]
      rintro e w2 ⟨rfl, hD2⟩
      have HE2 := Lib.hid (HE1.out.trans' hD2.ext)
      clear hD2
      go_wp2
      exact bodyPost_ret (v := .tuple #[.slice none 0 0, .int .i64 2]) (by simp [results, Try.results12, go_sem]) rfl ⟨_, rfl, OwnAg.nil _ _ _ _ _, (by repeat (first | refine Ext.st ?_ (by first | exact Nat.le_refl _ | exact Nat.le_succ _ | assumption | omega) _ | refine Ext.al ?_ _ | refine Ext.dr ?_ | refine Ext.drN ?_ _ | exact HE2.out))⟩
    | true =>
      have HSB := Lib.hid hsb
      obtain ⟨B, O, C, a1, m1, c1, hue0, _, hq0, _, he0, M1, hmc1, HS1⟩ := agent_at HS.out P hPl
      simp only [Value.slice.injEq] at hue0
      obtain ⟨rfl, hnn, rfl⟩ := hue0
      have HE0 := Lib.hid he0
      have HHQ := Lib.hid hq0
      have HM1 := Lib.hid M1
      have HSQ := Lib.hid HS1
      have hm1 := (HSM.out P hPl).1
      rw [← M1] at hm1
      clear hnn he0 hq0 HS1 M1
      cases hen : l[P]!.ended with
      | true =>
        have HEN := Lib.hid hen
        rw [putTR_no (by rw [putTE_6 hab hPl hsb hen]; decide), putTE_6 hab hPl hsb hen]
        generalize hln : l.length = n at *
        clear hab hsb hen hp0 hp1 hln
        go_enter Try.func12, Try.ntmps12
        go_wp2_with fail
        refine (HAG.out _ (Ext.rf w)).mono ?_
        rw [HAB.out]
        rintro e w1 ⟨rfl, hE1⟩
        have HE1 := Lib.hid hE1
        clear hE1
        go_wp2_with fail
        refine (HST.out _ HE1.out).mono ?_
        rw [HSB.out]
        rintro e w2 ⟨rfl, hD2⟩
        have HE2 := Lib.hid (HE1.out.trans' hD2.ext)
        clear hD2
        have hh1 := HE2.out.cl HHQ.out
        have he1 := HE2.out.cl HE0.out
        rw [HEN.out] at he1
        go_wp2
        exact bodyPost_ret (v := .tuple #[.slice none 0 0, .int .i64 6]) (by simp [results, Try.results12, go_sem]) rfl ⟨_, rfl, OwnAg.nil _ _ _ _ _, (by repeat (first | refine Ext.st ?_ (by first | exact Nat.le_refl _ | exact Nat.le_succ _ | assumption | omega) _ | refine Ext.al ?_ _ | refine Ext.dr ?_ | refine Ext.drN ?_ _ | exact HE2.out))⟩
      | false =>
        have HEN := Lib.hid hen
        by_cases hbad : 0 < m1 ∧ afterB l[P]!.queue[m1 - 1]! x P = false
        · obtain ⟨hm0, haf⟩ := hbad
          have HAF := Lib.hid haf
          have hE : putTE l P x = 11 := putTE_11 hab hPl hsb hen (by rw [← HM1.out]; exact hm0) (by rw [← HM1.out]; exact haf)
          rw [putTR_no (by rw [hE]; decide), hE]
          have hz1 : (0 : Int) ≤ (m1 : Int) - 1 := by omega
          have hz2 : (m1 : Int) - 1 < (m1 : Int) := by omega
          have hz3 : ((m1 : Int) - 1).toNat = m1 - 1 := by omega
          have hz4 : (1 : Int) ≤ (m1 : Int) := by omega
          have c1' : decide (0 < (m1 : Int)) = true := by simp; omega
          have c1n : decide (0 < m1) = true := by simp; omega
          obtain ⟨b', o', pv, rfl, hcj0, hpv⟩ := stamp_at HSQ.out (m1 - 1) (by rw [← HM1.out]; omega)
          have HCJ := Lib.hid hcj0
          have HFO := Lib.hid (fun W (hW : Ext w W) => followTR_calls pv (.slice xa x.length xc) l[P]!.queue[m1 - 1]! x l.length P W (hpv.ext hW) (HX.out.ext hW) (stamp_len ((queue_parts.1 (agent_parts.1 ((agents_parts.1 HAB.out).2.2 P hPl)).2.2.2).2 (m1 - 1) (by rw [← HM1.out]; omega)).1) (stamp_len HSB.out) hPl hn)
          clear hcj0 hpv
          generalize hln : l.length = n at *
          clear hab hsb hen hp0 hp1 hln haf hE
          go_enter Try.func12, Try.ntmps12
          go_wp2_with fail
          refine (HAG.out _ (Ext.rf w)).mono ?_
          rw [HAB.out]
          rintro e w1 ⟨rfl, hE1⟩
          have HE1 := Lib.hid hE1
          clear hE1
          go_wp2_with fail
          refine (HST.out _ HE1.out).mono ?_
          rw [HSB.out]
          rintro e w2 ⟨rfl, hD2⟩
          have HE2 := Lib.hid (HE1.out.trans' hD2.ext)
          clear hD2
          have hh1 := HE2.out.cl HHQ.out
          have he1 := HE2.out.cl HE0.out
          rw [HEN.out] at he1
          have hcj := HE2.out.cl HCJ.out
          go_wp2_with fail
          refine (HFO.out _ HE2.out).mono ?_
          rw [HAF.out]
          rintro e w3 ⟨rfl, hD3⟩
          have HE3 := Lib.hid (HE2.out.trans' hD3.ext)
          clear hD3
          go_wp2
          exact bodyPost_ret (v := .tuple #[.slice none 0 0, .int .i64 11]) (by simp [results, Try.results12, go_sem]) rfl ⟨_, rfl, OwnAg.nil _ _ _ _ _, (by repeat (first | refine Ext.st ?_ (by first | exact Nat.le_refl _ | exact Nat.le_succ _ | assumption | omega) _ | refine Ext.al ?_ _ | refine Ext.dr ?_ | refine Ext.drN ?_ _ | exact HE3.out))⟩
        · have HNB := Lib.hid (show m1 = 0 ∨ afterB l[P]!.queue[m1 - 1]! x P = true from by
            rcases Nat.eq_zero_or_pos m1 with h0 | h0
            · exact .inl h0
            · right
              cases haf : afterB l[P]!.queue[m1 - 1]! x P with
              | true => rfl
              | false => exact absurd ⟨h0, haf⟩ hbad)
          clear hbad
          by_cases h65 : 65 ≤ m1
          · have c65 : decide (65 ≤ (m1 : Int)) = true := by simp; omega
            have c65n : decide (65 ≤ m1) = true := by simp; omega
            have haf : afterB l[P]!.queue[m1 - 1]! x P = true := HNB.out.resolve_left (by omega)
            have HAF := Lib.hid haf
            have hE : putTE l P x = 5 := putTE_5 hab hPl hsb hen (.inr (by rw [← HM1.out]; exact haf)) (by rw [← HM1.out]; exact h65)
            rw [putTR_no (by rw [hE]; decide), hE]
            have hz1 : (0 : Int) ≤ (m1 : Int) - 1 := by omega
            have hz2 : (m1 : Int) - 1 < (m1 : Int) := by omega
            have hz3 : ((m1 : Int) - 1).toNat = m1 - 1 := by omega
            have hz4 : (1 : Int) ≤ (m1 : Int) := by omega
            have c1' : decide (0 < (m1 : Int)) = true := by simp; omega
            have c1n : decide (0 < m1) = true := by simp; omega
            obtain ⟨b', o', pv, rfl, hcj0, hpv⟩ := stamp_at HSQ.out (m1 - 1) (by rw [← HM1.out]; omega)
            have HCJ := Lib.hid hcj0
            have HFO := Lib.hid (fun W (hW : Ext w W) => followTR_calls pv (.slice xa x.length xc) l[P]!.queue[m1 - 1]! x l.length P W (hpv.ext hW) (HX.out.ext hW) (stamp_len ((queue_parts.1 (agent_parts.1 ((agents_parts.1 HAB.out).2.2 P hPl)).2.2.2).2 (m1 - 1) (by rw [← HM1.out]; omega)).1) (stamp_len HSB.out) hPl hn)
            clear hcj0 hpv
            generalize hln : l.length = n at *
            clear hab hsb hen hp0 hp1 hln haf hE
            go_enter Try.func12, Try.ntmps12
            go_wp2_with fail
            refine (HAG.out _ (Ext.rf w)).mono ?_
            rw [HAB.out]
            rintro e w1 ⟨rfl, hE1⟩
            have HE1 := Lib.hid hE1
            clear hE1
            go_wp2_with fail
            refine (HST.out _ HE1.out).mono ?_
            rw [HSB.out]
            rintro e w2 ⟨rfl, hD2⟩
            have HE2 := Lib.hid (HE1.out.trans' hD2.ext)
            clear hD2
            have hh1 := HE2.out.cl HHQ.out
            have he1 := HE2.out.cl HE0.out
            rw [HEN.out] at he1
            have hcj := HE2.out.cl HCJ.out
            go_wp2_with fail
            refine (HFO.out _ HE2.out).mono ?_
            rw [HAF.out]
            rintro e w3 ⟨rfl, hD3⟩
            have HE3 := Lib.hid (HE2.out.trans' hD3.ext)
            clear hD3
            go_wp2
            exact bodyPost_ret (v := .tuple #[.slice none 0 0, .int .i64 5]) (by simp [results, Try.results12, go_sem]) rfl ⟨_, rfl, OwnAg.nil _ _ _ _ _, (by repeat (first | refine Ext.st ?_ (by first | exact Nat.le_refl _ | exact Nat.le_succ _ | assumption | omega) _ | refine Ext.al ?_ _ | refine Ext.dr ?_ | refine Ext.drN ?_ _ | exact HE3.out))⟩
          · have hE : putTE l P x = 0 := putTE_0 hab hPl hsb hen (by rw [← HM1.out]; exact HNB.out) (by rw [← HM1.out]; exact h65)
            rw [show putTR l P x = putTL l P x from by rw [putTR, if_pos hE, Int.toNat_natCast], hE]
            have c65 : decide (65 ≤ (m1 : Int)) = false := by simp; omega
            have c65n : decide (65 ≤ m1) = false := by simp; omega
            clear hab hsb hen hp0 hp1 hE
            go_enter Try.func12, Try.ntmps12
            go_wp2_with fail
            refine (HAG.out _ (Ext.rf w)).mono ?_
            rw [HAB.out]
            rintro e w1 ⟨rfl, hE1⟩
            have HE1 := Lib.hid hE1
            clear hE1
            go_wp2_with fail
            refine (HST.out _ HE1.out).mono ?_
            rw [HSB.out]
            rintro e w2 ⟨rfl, hD2⟩
            have HE2 := Lib.hid (HE1.out.trans' hD2.ext)
            clear hD2
            have hh1 := HE2.out.cl HHQ.out
            have he1 := HE2.out.cl HE0.out
            rw [HEN.out] at he1
            go_upto_region 8 with (fail)
            go_cut [52] (fun s wx => s = .bool false ∧ Aside (Ext w wx))
            case first =>
              rcases Nat.eq_zero_or_pos m1 with h0 | hm0
              · have c1' : decide (0 < (m1 : Int)) = false := by simp; omega
                have c1n : decide (0 < m1) = false := by simp; omega
                go_wp2_with fail
                go_meet
                exact ⟨rfl, HE2.out⟩
              · have HAF := Lib.hid (HNB.out.resolve_left (by omega))
                have hz1 : (0 : Int) ≤ (m1 : Int) - 1 := by omega
                have hz2 : (m1 : Int) - 1 < (m1 : Int) := by omega
                have hz3 : ((m1 : Int) - 1).toNat = m1 - 1 := by omega
                have hz4 : (1 : Int) ≤ (m1 : Int) := by omega
                have c1' : decide (0 < (m1 : Int)) = true := by simp; omega
                have c1n : decide (0 < m1) = true := by simp; omega
                obtain ⟨b', o', pv, rfl, hcj0, hpv⟩ := stamp_at HSQ.out (m1 - 1) (by rw [← HM1.out]; omega)
                have HCJ := Lib.hid hcj0
                have HFO := Lib.hid (fun W (hW : Ext w W) => followTR_calls pv (.slice xa x.length xc) l[P]!.queue[m1 - 1]! x l.length P W (hpv.ext hW) (HX.out.ext hW) (stamp_len ((queue_parts.1 (agent_parts.1 ((agents_parts.1 HAB.out).2.2 P hPl)).2.2.2).2 (m1 - 1) (by rw [← HM1.out]; omega)).1) (stamp_len HSB.out) hPl hn)
                clear hcj0 hpv
                have hcj := HE2.out.cl HCJ.out
                go_wp2_with fail
                refine (HFO.out _ HE2.out).mono ?_
                rw [HAF.out]
                rintro e w3 ⟨rfl, hD3⟩
                have HE3 := Lib.hid (HE2.out.trans' hD3.ext)
                clear hD3
                go_wp2_with fail
                go_meet
                exact ⟨rfl, HE3.out⟩
            case rest =>
              obtain ⟨rfl, HE3⟩ := hcut
              obtain ⟨w3, rfl⟩ : ∃ x, x = wc := ⟨_, rfl⟩
              go_wp2_with fail
              refine (HCOP.out _ HE3.out).mono ?_
              rintro e w4 ⟨v4, rfl, hO4, hE4⟩
              obtain ⟨G, O2, C2, cs, hs, rfl, hh0, hfr, hGb, hGs5, hrow, hac, hqh⟩ := hO4.at P hPl
              have hrr := hqh.2.1 P (by rw [queuesOf_len]; exact hPl)
              rw [queuesOf_at l P hPl] at hrr
              obtain ⟨vs, hv, hel⟩ := hrr
              obtain ⟨ia, ic, hqe, hic, hsh⟩ := hv.any
              have HHE := Lib.hid hqe
              rw [hqe] at hh0 hv
              rw [← HM1.out] at hic hh0 hv
              have ff0 := hfr (O2 + P * 3)
              have HV5 := Lib.hid hv
              have HIE := Lib.hid (fun i (hi : i < l[P]!.queue.length) => hel i hi)
              have HR5 := Lib.hid hrow
              have HAC := Lib.hid hac
              have HQH := Lib.hid hqh
              have HE4 := Lib.hid (HE3.out.trans' hE4)
              have HE34 := Lib.hid hE4
              have hsz3 := HE3.out.sz
              have hsz4 := hE4.sz
              have hPm : P * 3 < l.length * 3 := by omega
              clear hrow hac hqh hE4 hfr hO4 hv hel hsh hqe
              have hbase : w.heap.size ≤ w3.heap.size := HE3.out.sz
              have hm65 : m1 < 65 := by omega
              generalize hSL : x.length = SL at *
              have HSL' := Lib.hid hSL
              clear hSL
              have hsmall : SmallT (putTL l P x) := put_small HSL.out hPl (by rw [← HM1.out]; omega) (by rw [HSL'.out]; exact hxn)
              have HSMP := Lib.hid hsmall
              clear hsmall
              have hPm2 : P * 3 < cs.length := by rw [HAC.out.1]; omega
              go_wp2_with ((at_builtin; go_loud (refine wpList_append_one rfl _ _ 47 rfl w3.heap.size 22 i2 (.slice none 0 0) 1 24 Try.underlying47 hi2 iz0 iz1 iz2 rfl (by decide) _ m1 _ rfl (HV5.out.al _) w4.heap.size 1 [.slice xa SL xc] rfl rfl ⟨_, heap_alloc_new _ _⟩ (by simp [Value.oneCell']) (by unfold maxLen; omega) (by omega) (by simp; omega) ?_; intro v5 w5 hown5 hgrow5 hblk5; obtain ⟨va5, vc5, rfl, hvc5, hsh5⟩ := hown5.any; have hG5 : (w4.alloc (.cells #[.slice xa SL xc] 22)).grownBy w5 (Value.slice ia m1 ic).ownBlock := hgrow5; have hrA := HR5.out.al (.cells #[.slice xa SL xc] 22); have hvA := HV5.out.al (.cells #[.slice xa SL xc] 22); have hrN := hrA.grown hG5 (hrA.apart hvA (by decide)); have cN := hrN.cell (P * 3) hPm; rw [List.getElem?_eq_getElem hPm2] at cN; have fN := hrN.free (O2 + P * 3); have hEF : Ext w (w5.setCell ⟨G, O2 + P * 3, none⟩ (.slice va5 (m1 + 1) vc5)) := ((HE4.out.al (.cells #[.slice xa SL xc] 22)).gr hG5 (fun q hq => Nat.le_trans hbase (HV5.out.lt q hq).1)).st (p := ⟨G, O2 + P * 3, none⟩) (Nat.le_trans hbase hGb) _; have HRD := Lib.hid (put_read hrA HAC.out (HQH.out.ext ((Ext.rf w4).al (.cells #[.slice xa SL xc] 22))) hPl (by decide) (by decide) (by decide) (by rw [HHE.out, ← HM1.out]; exact hvA) (fun i hi => (HIE.out i hi).al _) (by rw [HHE.out, ← HM1.out]; exact hG5) (by rw [← HM1.out]; exact hown5) (HX.out.ext hEF)); have HEF := Lib.hid hEF; clear hrA hvA hEF hrN hG5 hown5 hgrow5 hblk5 hsh5)))
              generalize hwf : w5.setCell ⟨G, O2 + P * 3, none⟩ (.slice va5 (m1 + 1) vc5) = wf at *
              refine (copiedR_calls (.slice (some ⟨G, O2, none⟩) l.length C2) (putTL l P x) wf HRD.out HSMP.out).mono ?_
              rintro e w6 ⟨v6, rfl, hO6, hE6⟩
              have HO6 := Lib.hid (hO6.mono HEF.out.sz)
              have HE6 := Lib.hid (HEF.out.trans' hE6)
              clear hO6 hE6
              go_wp2
              exact bodyPost_ret (v := .tuple #[v6, .int .i64 0]) (by simp [results, Try.results12, go_sem]) rfl ⟨_, rfl, HO6.out, HE6.out⟩

end Go.Proofs.Ytpjnppkhhbnfoaa
