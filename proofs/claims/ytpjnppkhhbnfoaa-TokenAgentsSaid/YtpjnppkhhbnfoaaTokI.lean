/-
  End of both texts.
-/
import Derived.Test.YtpjnppkhhbnfoaaBase
import Derived.Test.YtpjnppkhhbnfoaaProg
import Derived.BigQuiet
import Derived.Deep.QuietTactic
import Derived.Deep.LoopGhost
import Derived.Shelf.Abstract
import Derived.Test.YtpjnppkhhbnfoaaTokH
import Derived.Test.YtpjnppkhhbnfoaaTokB
import Derived.Test.YtpjnppkhhbnfoaaTokC
namespace Go.Proofs.Ytpjnppkhhbnfoaa
open Go.RowKit
set_option linter.unusedVariables false
attribute [local go_sem ↓] Go.wp_at_zero Go.wp_at_succ

/-- Agents of the call's own and an error, handed back. -/
def TwoAg (w w' : World) (e : Ending) (l : List Ag) (E : Int) : Prop := ∃ v, e = .returned (.tuple #[v, .int .i64 E]) ∧ OwnA w' w.heap.size v l ∧ Ext w w'
def endTR (l : List Ag) (p : Int) : List Ag := if endTE l p = 0 then endTL l p.toNat else []
def putTR (l : List Ag) (p : Int) (v : List Int) : List Ag := if putTE l p v = 0 then putTL l p.toNat v else []
theorem set_self {α : Type} [Inhabited α] (l : List α) (k : Nat) (hk : k < l.length) : l.set k l[k]! = l := by
  apply List.ext_getElem?
  intro j
  rw [List.getElem?_set]
  split
  · rename_i e; subst e; rw [List.getElem?_eq_getElem hk, getElem!_pos l k hk]
  · rfl

theorem endTE_1 {l : List Ag} (p : Int) (h : agentsB l = false) : endTE l p = 1 := by rw [endTE, if_pos h]
theorem endTE_2 {l : List Ag} {p : Int} (h : agentsB l = true) (h2 : p < 0 ∨ (l.length : Int) ≤ p) : endTE l p = 2 := by rw [endTE, if_neg (by simp [h]), if_pos h2]
theorem endTE_6 {l : List Ag} {P : Nat} (h : agentsB l = true) (hP : P < l.length) (h2 : l[P]!.ended = true) : endTE l P = 6 := by
  rw [endTE, if_neg (by simp [h]), if_neg (by omega), Int.toNat_natCast, if_pos h2]
theorem endTE_0 {l : List Ag} {P : Nat} (h : agentsB l = true) (hP : P < l.length) (h2 : l[P]!.ended = false) : endTE l P = 0 := by
  rw [endTE, if_neg (by simp [h]), if_neg (by omega), Int.toNat_natCast, if_neg (by rw [h2]; decide)]
theorem endTR_no {l : List Ag} {p : Int} (h : endTE l p ≠ 0) : endTR l p = [] := by rw [endTR, if_neg h]

set_option maxHeartbeats 8000000 in
set_option maxRecDepth 100000 in
theorem endTP_calls (v : Value) (p : Int) (l : List Ag) (w : World) (h : Sl RAgent 3 w v l) (hs : SmallT l) :
    Calls Try.prog 11 #[v, .int .i64 p] w fun e w' => TwoAg w w' e (endTR l p) (endTE l p) := by
  have HAG := Lib.hid (fun W (hW : Ext w W) => agentsP_calls v l W (h.ext ragent_lasts hW) hs)
  have HCOP := Lib.hid (fun W (hW : Ext w W) => copiedT_calls v l W (h.ext ragent_lasts hW) hs)
  have HS := Lib.hid h
  have hn := hs.1
  have HSM := Lib.hid hs.2
  obtain ⟨a, c, rfl, hlc⟩ := h.shape
  clear h hs
  cases hab : agentsB l with
  | false =>
    have HAB := Lib.hid hab
    rw [endTR_no (by rw [endTE_1 p hab]; decide), endTE_1 p hab]
    clear hab
    go_enter Try.func11, Try.ntmps11
    go_wp2_with fail
    refine (HAG.out _ (Ext.rf w)).mono ?_
    rw [HAB.out]
    rintro e w1 ⟨rfl, hE1⟩
    have HE1 := Lib.hid hE1
    clear hE1
    go_wp2
    exact bodyPost_ret (v := .tuple #[.slice none 0 0, .int .i64 1]) (by simp [results, Try.results11, go_sem]) rfl ⟨_, rfl, OwnAg.nil _ _ _ _ _, (by repeat (first | refine Ext.st ?_ (by first | exact Nat.le_refl _ | exact Nat.le_succ _ | assumption | omega) _ | refine Ext.al ?_ _ | refine Ext.dr ?_ | refine Ext.drN ?_ _ | exact HE1.out))⟩
  | true =>
    have HAB := Lib.hid hab
    by_cases hp0 : p < 0
    · have b1 : decide (p < 0) = true := by simpa using hp0
      rw [endTR_no (by rw [endTE_2 hab (.inl hp0)]; decide), endTE_2 hab (.inl hp0)]
      clear hab
      go_enter Try.func11, Try.ntmps11
      go_wp2_with fail
      refine (HAG.out _ (Ext.rf w)).mono ?_
      rw [HAB.out]
      rintro e w1 ⟨rfl, hE1⟩
      have HE1 := Lib.hid hE1
      clear hE1
      go_wp2
      exact bodyPost_ret (v := .tuple #[.slice none 0 0, .int .i64 2]) (by simp [results, Try.results11, go_sem]) rfl ⟨_, rfl, OwnAg.nil _ _ _ _ _, (by repeat (first | refine Ext.st ?_ (by first | exact Nat.le_refl _ | exact Nat.le_succ _ | assumption | omega) _ | refine Ext.al ?_ _ | refine Ext.dr ?_ | refine Ext.drN ?_ _ | exact HE1.out))⟩
    by_cases hp1 : (l.length : Int) ≤ p
    · have b1 : decide (p < 0) = false := by simpa using hp0
      have b2 : decide ((l.length : Int) ≤ p) = true := by simpa using hp1
      rw [endTR_no (by rw [endTE_2 hab (.inr hp1)]; decide), endTE_2 hab (.inr hp1)]
      clear hab
      go_enter Try.func11, Try.ntmps11
      go_wp2_with fail
      refine (HAG.out _ (Ext.rf w)).mono ?_
      rw [HAB.out]
      rintro e w1 ⟨rfl, hE1⟩
      have HE1 := Lib.hid hE1
      clear hE1
      go_wp2
      exact bodyPost_ret (v := .tuple #[.slice none 0 0, .int .i64 2]) (by simp [results, Try.results11, go_sem]) rfl ⟨_, rfl, OwnAg.nil _ _ _ _ _, (by repeat (first | refine Ext.st ?_ (by first | exact Nat.le_refl _ | exact Nat.le_succ _ | assumption | omega) _ | refine Ext.al ?_ _ | refine Ext.dr ?_ | refine Ext.drN ?_ _ | exact HE1.out))⟩
    obtain ⟨P, rfl⟩ : ∃ P : Nat, p = P := ⟨p.toNat, by omega⟩
    have hPl : P < l.length := by omega
    have hPz : (0 : Int) ≤ (P : Int) := by omega
    have hPi : (P : Int) < (l.length : Int) := by omega
    have b1 : decide ((P : Int) < 0) = false := by simp
    have b2 : decide ((l.length : Int) ≤ (P : Int)) = false := by simp; omega
    have b2n : decide (l.length ≤ P) = false := by simp; omega
    obtain ⟨B, O, C, a1, m1, c1, hue0, _, _, _, he0, _, _, _⟩ := agent_at HS.out P hPl
    simp only [Value.slice.injEq] at hue0
    obtain ⟨rfl, hnn, rfl⟩ := hue0
    have HE0 := Lib.hid he0
    clear hnn he0
    cases hen : l[P]!.ended with
    | true =>
      have HEN := Lib.hid hen
      rw [endTR_no (by rw [endTE_6 hab hPl hen]; decide), endTE_6 hab hPl hen]
      generalize hln : l.length = n at *
      clear hab hen hp0 hp1 hln
      go_enter Try.func11, Try.ntmps11
      go_wp2_with fail
      refine (HAG.out _ (Ext.rf w)).mono ?_
      rw [HAB.out]
      rintro e w1 ⟨rfl, hE1⟩
      have HE1 := Lib.hid hE1
      clear hE1
      have he1 := HE1.out.cl HE0.out
      rw [HEN.out] at he1
      go_wp2
      exact bodyPost_ret (v := .tuple #[.slice none 0 0, .int .i64 6]) (by simp [results, Try.results11, go_sem]) rfl ⟨_, rfl, OwnAg.nil _ _ _ _ _, (by repeat (first | refine Ext.st ?_ (by first | exact Nat.le_refl _ | exact Nat.le_succ _ | assumption | omega) _ | refine Ext.al ?_ _ | refine Ext.dr ?_ | refine Ext.drN ?_ _ | exact HE1.out))⟩
    | false =>
      have HEN := Lib.hid hen
      rw [show endTR l P = endTL l P from by rw [endTR, if_pos (endTE_0 hab hPl hen), Int.toNat_natCast], endTE_0 hab hPl hen]
      generalize hln : l.length = n at *
      have HN := Lib.hid hln
      clear hab hen hp0 hp1 hln
      go_enter Try.func11, Try.ntmps11
      go_wp2_with fail
      refine (HAG.out _ (Ext.rf w)).mono ?_
      rw [HAB.out]
      rintro e w1 ⟨rfl, hE1⟩
      have HE1 := Lib.hid hE1
      clear hE1
      have he1 := HE1.out.cl HE0.out
      rw [HEN.out] at he1
      go_wp2_with fail
      refine (HCOP.out _ HE1.out).mono ?_
      rintro e w2 ⟨v2, rfl, hO2, hE2⟩
      obtain ⟨G, O2, C2, cs, hs, rfl, hh0, hfr, hGb, hG, hrow, hac, hqh⟩ := hO2.at P (by rw [HN.out]; exact hPl)
      rw [HN.out] at hrow
      rw [HN.out]
      have hcc := hrow.cell (P * 3 + 2) (by omega)
      obtain ⟨_, _, h3⟩ := hac.2.2 P (by rw [HN.out]; exact hPl)
      rw [h3, ← Nat.add_assoc] at hcc
      have hf2 := hfr (O2 + P * 3 + 2)
      have HROW := Lib.hid hrow
      have HAC := Lib.hid hac
      have HQH := Lib.hid hqh
      have HE2 := Lib.hid (HE1.out.trans' hE2)
      have HSZ := Lib.hid HE1.out.sz
      clear hrow hac hqh hE2 hfr h3 hh0 hO2 he1
      go_wp2
      obtain ⟨cs1, t1, fr1, hGG, ht1⟩ := HROW.out.block G rfl
      subst ht1
      refine bodyPost_ret (v := .tuple #[.slice (some ⟨G, O2, none⟩) n C2, .int .i64 0]) (by simp [results, Try.results11, go_sem]) rfl ⟨_, rfl, ⟨_, hs, ?_, HAC.out.setE P (by rw [HN.out]; exact hPl) true, ?_⟩, ?_⟩
      · have := (HROW.out.set (P * 3 + 2) (.bool true) (by omega)).mono HSZ.out
        rw [endTL, List.length_set, HN.out]
        exact this
      · rw [endTL, queuesOf_set, ← queuesOf_at l P (by rw [HN.out]; exact hPl), set_self _ _ (by rw [queuesOf_len, HN.out]; exact hPl)]
        exact (HQH.out.stO hGG (by decide) (by decide) _).mono HSZ.out
      · exact HE2.out.st (Nat.le_trans HSZ.out hGb) _

set_option maxHeartbeats 8000000 in
set_option maxRecDepth 100000 in
theorem endTR_calls (v : Value) (p : Int) (l : List Ag) (w : World) (h : Sl RAgent 3 w v l) (hs : SmallT l) :
    Calls Try.prog 13 #[v, .int .i64 p] w fun e w' => TwoAg w w' e (endTR l p) (endTE l p) := by
  have HAG := Lib.hid (fun W (hW : Ext w W) => agentsR_calls v l W (h.ext ragent_lasts hW) hs)
  have HCOP := Lib.hid (fun W (hW : Ext w W) => copiedR_calls v l W (h.ext ragent_lasts hW) hs)
  have HS := Lib.hid h
  have hn := hs.1
  have HSM := Lib.hid hs.2
  obtain ⟨a, c, rfl, hlc⟩ := h.shape
  clear h hs
  cases hab : agentsB l with
  | false =>
    have HAB := Lib.hid hab
    rw [endTR_no (by rw [endTE_1 p hab]; decide), endTE_1 p hab]
    clear hab
    go_enter Try.func13, Try.ntmps13
    go_wp2_with fail
    refine (HAG.out _ (Ext.rf w)).mono ?_
    rw [HAB.out]
    rintro e w1 ⟨rfl, hE1⟩
    have HE1 := Lib.hid hE1
    clear hE1
    go_wp2
    exact bodyPost_ret (v := .tuple #[.slice none 0 0, .int .i64 1]) (by simp [results, Try.results13, go_sem]) rfl ⟨_, rfl, OwnAg.nil _ _ _ _ _, (by repeat (first | refine Ext.st ?_ (by first | exact Nat.le_refl _ | exact Nat.le_succ _ | assumption | omega) _ | refine Ext.al ?_ _ | refine Ext.dr ?_ | refine Ext.drN ?_ _ | exact HE1.out))⟩
  | true =>
    have HAB := Lib.hid hab
    by_cases hp0 : p < 0
    · have b1 : decide (p < 0) = true := by simpa using hp0
      rw [endTR_no (by rw [endTE_2 hab (.inl hp0)]; decide), endTE_2 hab (.inl hp0)]
      clear hab
      go_enter Try.func13, Try.ntmps13
      go_wp2_with fail
      refine (HAG.out _ (Ext.rf w)).mono ?_
      rw [HAB.out]
      rintro e w1 ⟨rfl, hE1⟩
      have HE1 := Lib.hid hE1
      clear hE1
      go_wp2
      exact bodyPost_ret (v := .tuple #[.slice none 0 0, .int .i64 2]) (by simp [results, Try.results13, go_sem]) rfl ⟨_, rfl, OwnAg.nil _ _ _ _ _, (by repeat (first | refine Ext.st ?_ (by first | exact Nat.le_refl _ | exact Nat.le_succ _ | assumption | omega) _ | refine Ext.al ?_ _ | refine Ext.dr ?_ | refine Ext.drN ?_ _ | exact HE1.out))⟩
    by_cases hp1 : (l.length : Int) ≤ p
    · have b1 : decide (p < 0) = false := by simpa using hp0
      have b2 : decide ((l.length : Int) ≤ p) = true := by simpa using hp1
      rw [endTR_no (by rw [endTE_2 hab (.inr hp1)]; decide), endTE_2 hab (.inr hp1)]
      clear hab
      go_enter Try.func13, Try.ntmps13
      go_wp2_with fail
      refine (HAG.out _ (Ext.rf w)).mono ?_
      rw [HAB.out]
      rintro e w1 ⟨rfl, hE1⟩
      have HE1 := Lib.hid hE1
      clear hE1
      go_wp2
      exact bodyPost_ret (v := .tuple #[.slice none 0 0, .int .i64 2]) (by simp [results, Try.results13, go_sem]) rfl ⟨_, rfl, OwnAg.nil _ _ _ _ _, (by repeat (first | refine Ext.st ?_ (by first | exact Nat.le_refl _ | exact Nat.le_succ _ | assumption | omega) _ | refine Ext.al ?_ _ | refine Ext.dr ?_ | refine Ext.drN ?_ _ | exact HE1.out))⟩
    obtain ⟨P, rfl⟩ : ∃ P : Nat, p = P := ⟨p.toNat, by omega⟩
    have hPl : P < l.length := by omega
    have hPz : (0 : Int) ≤ (P : Int) := by omega
    have hPi : (P : Int) < (l.length : Int) := by omega
    have b1 : decide ((P : Int) < 0) = false := by simp
    have b2 : decide ((l.length : Int) ≤ (P : Int)) = false := by simp; omega
    have b2n : decide (l.length ≤ P) = false := by simp; omega
    obtain ⟨B, O, C, a1, m1, c1, hue0, _, _, _, he0, _, _, _⟩ := agent_at HS.out P hPl
    simp only [Value.slice.injEq] at hue0
    obtain ⟨rfl, hnn, rfl⟩ := hue0
    have HE0 := Lib.hid he0
    clear hnn he0
    cases hen : l[P]!.ended with
    | true =>
      have HEN := Lib.hid hen
      rw [endTR_no (by rw [endTE_6 hab hPl hen]; decide), endTE_6 hab hPl hen]
      generalize hln : l.length = n at *
      clear hab hen hp0 hp1 hln
      go_enter Try.func13, Try.ntmps13
      go_wp2_with fail
      refine (HAG.out _ (Ext.rf w)).mono ?_
      rw [HAB.out]
      rintro e w1 ⟨rfl, hE1⟩
      have HE1 := Lib.hid hE1
      clear hE1
      have he1 := HE1.out.cl HE0.out
      rw [HEN.out] at he1
      go_wp2
      exact bodyPost_ret (v := .tuple #[.slice none 0 0, .int .i64 6]) (by simp [results, Try.results13, go_sem]) rfl ⟨_, rfl, OwnAg.nil _ _ _ _ _, (by repeat (first | refine Ext.st ?_ (by first | exact Nat.le_refl _ | exact Nat.le_succ _ | assumption | omega) _ | refine Ext.al ?_ _ | refine Ext.dr ?_ | refine Ext.drN ?_ _ | exact HE1.out))⟩
    | false =>
      have HEN := Lib.hid hen
      rw [show endTR l P = endTL l P from by rw [endTR, if_pos (endTE_0 hab hPl hen), Int.toNat_natCast], endTE_0 hab hPl hen]
      generalize hln : l.length = n at *
      have HN := Lib.hid hln
      clear hab hen hp0 hp1 hln
      go_enter Try.func13, Try.ntmps13
      go_wp2_with fail
      refine (HAG.out _ (Ext.rf w)).mono ?_
      rw [HAB.out]
      rintro e w1 ⟨rfl, hE1⟩
      have HE1 := Lib.hid hE1
      clear hE1
      have he1 := HE1.out.cl HE0.out
      rw [HEN.out] at he1
      go_wp2_with fail
      refine (HCOP.out _ HE1.out).mono ?_
      rintro e w2 ⟨v2, rfl, hO2, hE2⟩
      obtain ⟨G, O2, C2, cs, hs, rfl, hh0, hfr, hGb, hG, hrow, hac, hqh⟩ := hO2.at P (by rw [HN.out]; exact hPl)
      rw [HN.out] at hrow
      rw [HN.out]
      have hcc := hrow.cell (P * 3 + 2) (by omega)
      obtain ⟨_, _, h3⟩ := hac.2.2 P (by rw [HN.out]; exact hPl)
      rw [h3, ← Nat.add_assoc] at hcc
      have hf2 := hfr (O2 + P * 3 + 2)
      have HROW := Lib.hid hrow
      have HAC := Lib.hid hac
      have HQH := Lib.hid hqh
      have HE2 := Lib.hid (HE1.out.trans' hE2)
      have HSZ := Lib.hid HE1.out.sz
      clear hrow hac hqh hE2 hfr h3 hh0 hO2 he1
      go_wp2
      obtain ⟨cs1, t1, fr1, hGG, ht1⟩ := HROW.out.block G rfl
      subst ht1
      refine bodyPost_ret (v := .tuple #[.slice (some ⟨G, O2, none⟩) n C2, .int .i64 0]) (by simp [results, Try.results13, go_sem]) rfl ⟨_, rfl, ⟨_, hs, ?_, HAC.out.setE P (by rw [HN.out]; exact hPl) true, ?_⟩, ?_⟩
      · have := (HROW.out.set (P * 3 + 2) (.bool true) (by omega)).mono HSZ.out
        rw [endTL, List.length_set, HN.out]
        exact this
      · rw [endTL, queuesOf_set, ← queuesOf_at l P (by rw [HN.out]; exact hPl), set_self _ _ (by rw [queuesOf_len, HN.out]; exact hPl)]
        exact (HQH.out.stO hGG (by decide) (by decide) _).mono HSZ.out
      · exact HE2.out.st (Nat.le_trans HSZ.out hGb) _

end Go.Proofs.Ytpjnppkhhbnfoaa
