/-
  How many stamps are stored.
-/
import Derived.Test.YtdcahdcnoeomhaaBase
import Derived.Test.YtdcahdcnoeomhaaProg
import Derived.BigQuiet
import Derived.Deep.QuietTactic
import Derived.Deep.LoopGhost
import Derived.Shelf.Abstract
import Derived.Test.YtdcahdcnoeomhaaCkO
namespace Go.Proofs.Ytdcahdcnoeomhaa
open Go.RowKit
set_option linter.unusedVariables false

/-- The number of all stamps of the first k queues. -/
def storedL (qs : List (List (List Int))) : Nat := (qs.map List.length).sum
theorem stored_snoc (qs : List (List (List Int))) (k : Nat) (h : k < qs.length) : storedL (qs.take (k + 1)) = storedL (qs.take k) + qs[k]!.length := by
  unfold storedL
  rw [take_snoc' qs k h, List.map_append, List.sum_append]; simp
theorem stored_le (qs : List (List (List Int))) (k m : Nat) (hq : ∀ p, p < qs.length → qs[p]!.length ≤ m) : k ≤ qs.length → storedL (qs.take k) ≤ k * m := by
  induction k with
  | zero => intro _; simp [storedL]
  | succ k ih =>
    intro hk
    have := ih (by omega)
    have := hq k (by omega)
    rw [stored_snoc qs k (by omega), Nat.add_mul]
    omega

set_option maxHeartbeats 2000000 in
theorem storedP_calls (uq ue uc : Value) (s : Ck) (w : World) (h : CkAt w uq ue uc s) (hs : SmallC s) :
    Calls Try.prog 10 #[.agg #[uq, ue, .bool s.done, uc]] w fun e w' => e = .returned (.int .i64 ((if validC s then storedL s.qs else 0 : Nat) : Int)) ∧ Ext w w' := by
  have HQ := Lib.hid h.1
  have HS := Lib.hid h
  have HSM := Lib.hid hs
  have hs1 := hs.1
  obtain ⟨a, c, rfl, hlc⟩ := h.1.shape
  clear h hs
  generalize hd : s.done = d at *
  have HD := Lib.hid hd
  clear hd
  generalize hn : s.qs.length = n at *
  have HN := Lib.hid hn
  clear hn
  have HX0 := Lib.hid (heap_alloc_new w (ckT (.slice a n c) ue (.bool d) uc))
  have HE0 := Lib.hid ((Ext.rf w).al (ckT (.slice a n c) ue (.bool d) uc))
  cases hval : validC s with
  | false =>
    have HVAL := Lib.hid hval
    have HV := Lib.hid (fun W (hW : Ext w W) => validP_calls (.slice a n c) ue uc s W (HS.out.ext hW) HSM.out)
    rw [hval, HD.out] at HV
    clear hval
    go_enter Try.func10, Try.ntmps10
    go_wp2_with fail
    refine (HV.out _ (by repeat (first | refine Ext.st ?_ (by first | exact Nat.le_refl _ | exact Nat.le_succ _ | assumption | omega) _ | refine Ext.al ?_ _ | refine Ext.dr ?_ | refine Ext.drN ?_ _ | exact Ext.rf _))).mono ?_
    rintro e w1 ⟨rfl, hE1⟩
    have HE1 := Lib.hid (show Ext w w1 from HE0.out.trans' hE1)
    clear hE1
    go_wp2
    go_ret
    exact ⟨by simp, HE1.out⟩
  | true =>
    have HVAL := Lib.hid hval
    have HV := Lib.hid (fun W (hW : Ext w W) => validP_calls (.slice a n c) ue uc s W (HS.out.ext hW) HSM.out)
    rw [hval, HD.out] at HV
    obtain ⟨g1, g2, g3, g4⟩ := form_parts.1 (valid_parts.1 hval).1
    rw [HN.out] at g2
    have HQL := Lib.hid (fun p (hp : p < s.qs.length) => (queue_parts.1 (g4 p (by omega))).1)
    clear hval g1 g3 g4
    go_enter Try.func10, Try.ntmps10
    go_wp2_with fail
    refine (HV.out _ (by repeat (first | refine Ext.st ?_ (by first | exact Nat.le_refl _ | exact Nat.le_succ _ | assumption | omega) _ | refine Ext.al ?_ _ | refine Ext.dr ?_ | refine Ext.drN ?_ _ | exact Ext.rf _))).mono ?_
    rintro e w1 ⟨rfl, hE1⟩
    have HX1 := Lib.hid (hE1.hp HX0.out)
    have HE1 := Lib.hid (show Ext w w1 from HE0.out.trans' hE1)
    clear hE1
    have x0 := cellOf HX1.out 0
    simp only [List.getElem?_toArray, List.getElem?_cons_zero] at x0
    go_wp2
    clear x0
    go_loopg [3, 12] n (fun g s3 s12 wr => ∃ (k t : Nat), k ≤ n ∧ n - k ≤ g ∧ s3 = .int .i64 t ∧ s12 = .int .i64 k ∧ Aside (t = storedL (s.qs.take k)) ∧ t ≤ k * 65 ∧ wr = w1)
    case atStart => exact ⟨0, 0, Nat.zero_le _, by omega, rfl, rfl, (show _ = _ from by simp [storedL]), by omega, rfl⟩
    case round =>
      obtain ⟨k, t, hk, hg, rfl, rfl, HT, htb, rfl⟩ := hrel
      by_cases hlt : k < n
      · have hltz : (k : Int) < (n : Int) := by omega
        have hkz : (0 : Int) ≤ (k : Int) := by omega
        have hkq : k < s.qs.length := by rw [HN.out]; exact hlt
        obtain ⟨B, O, C, a1, m1, c1, hue0, hcp0, M1, hmc1, HS1⟩ := queue_at HQ.out k hkq
        simp only [Value.slice.injEq] at hue0
        obtain ⟨rfl, hnn, rfl⟩ := hue0
        have hcp := HE1.out.cl hcp0
        have HM1 := Lib.hid M1
        have hm65 := HQL.out k hkq
        rw [← M1] at hm65
        have HSN := Lib.hid (stored_snoc s.qs k hkq)
        clear M1 HS1 hnn hcp0
        go_wp2
        go_roundg (n - (k + 1))
        case measure => omega
        case rel => exact ⟨k + 1, t + m1, by omega, by omega, by go_num, by go_num, (show _ = _ from by rw [HSN.out, HT.out, HM1.out]), by omega, rfl⟩
      · have hltz : ¬ (k : Int) < (n : Int) := by omega
        obtain rfl : n = k := by omega
        go_wp2
        go_ret
        refine ⟨ret_int ?_, HE1.out⟩
        rw [HT.out, List.take_of_length_le (by rw [HN.out]; omega)]

end Go.Proofs.Ytdcahdcnoeomhaa
