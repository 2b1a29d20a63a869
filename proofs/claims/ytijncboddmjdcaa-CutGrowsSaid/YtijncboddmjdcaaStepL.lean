/-
  One event more: when a cut with a further event is consistent. No program is named here.
-/
import Derived.Test.YtijncboddmjdcaaGk
namespace Go.Proofs.Ytijncboddmjdcaa
open Go.RowKit
set_option linter.unusedVariables false

theorem given_dup (t : Tr) (c : List Int) : givenE t [c, c] [] = givenE t [c] [] := by
  unfold givenE
  simp only [List.all_cons, List.all_nil, Bool.and_true, Bool.and_self]
theorem given_proc {t : Tr} {c : List Int} {p : Int} : givenE t [c] [p] = if givenE t [c] [] = 1 ∨ givenE t [c] [] = 2 then givenE t [c] [] else if (decide (0 ≤ p) && decide (p < (t.length : Int))) = true then givenE t [c] [] else 2 := by
  unfold givenE
  simp only [List.all_cons, List.all_nil, Bool.and_true]
  generalize (decide (0 ≤ p) && decide (p < (t.length : Int))) = pb
  generalize (missE t c).isNone = mb
  generalize validT t = vb
  cases vb <;> cases fitsB t c <;> cases rangeB t c <;> cases pb <;> cases mb <;> simp
theorem given_vals (t : Tr) (c : List Int) : givenE t [c] [] = 0 ∨ givenE t [c] [] = 1 ∨ givenE t [c] [] = 2 ∨ givenE t [c] [] = 18 := by
  unfold givenE
  simp only [List.all_cons, List.all_nil, Bool.and_true]
  generalize (missE t c).isNone = mb
  generalize validT t = vb
  cases vb <;> cases fitsB t c <;> cases rangeB t c <;> cases mb <;> simp
theorem withC_len (c : List Int) (p : Nat) : (withC c p).length = c.length := by simp [withC]
theorem withC_range {t : Tr} {c : List Int} {p : Nat} (hr : RangeC t c) (hp : p < t.length) (hlt : c[p]! < (t[p]!.events.length : Int)) : RangeC t (withC c p) :=
  set_range hr (by have := (hr.at hp).1; omega) (by omega)
theorem withC_le {t : Tr} {c : List Int} {p : Nat} (hr : RangeC t c) (hp : p < t.length) : LeC c (withC c p) := by
  intro q hq
  unfold withC
  by_cases e : q = p
  · subst e; rw [setC_at hq]; omega
  · rw [setC_ne e]; omega
/-- A cut with one event more is consistent just where that event's message is sent. -/
theorem with_cons {t : Tr} {c : List Int} {p : Nat} (hv : validT t = true) (hc : ConsC t c) (hp : p < t.length) (hlt : c[p]! < (t[p]!.events.length : Int)) : consB t (withC c p) = sentB t c (p, c[p]!.toNat) := by
  have hr := hc.1
  have hk0 := (hr.at hp).1
  have hpc : p < c.length := by have := hr.1; omega
  obtain ⟨k, hk⟩ : ∃ k : Nat, c[p]! = (k : Int) := ⟨c[p]!.toNat, by omega⟩
  have hkt : c[p]!.toNat = k := by rw [hk]; simp
  rw [hkt]
  rw [Bool.eq_iff_iff, consB_iff]
  have hin : InC (withC c p) (p, k) := ⟨by rw [withC_len]; exact hpc, by show (k : Int) < (withC c p)[p]!; unfold withC; rw [setC_at hpc]; omega⟩
  have key : sentB t (withC c p) (p, k) = sentB t c (p, k) := by
    by_cases h3 : (ev t (p, k)).kind = 3
    · cases hf : findE t 2 (ev t (p, k)).msg with
      | none => simp [sentB, hf]
      | some s =>
        rw [sentB_recv h3 hf, sentB_recv h3 hf]
        by_cases e : s.1 = p
        · have hne : s.2 ≠ k := by
            intro e2
            have hs : s = (p, k) := by obtain ⟨a, b⟩ := s; simp only at e e2; rw [e, e2]
            have := (findE_some hf).2.1
            rw [hs, h3] at this
            exact absurd this (by decide)
          rw [e]
          unfold withC
          rw [setC_at hpc, hk, decide_eq_decide]
          omega
        · unfold withC
          rw [setC_ne e]
    · rw [sentB_other h3, sentB_other h3]
  constructor
  · rintro ⟨_, h⟩
    have := missE_none.1 h.2 (p, k) hin
    rw [← key]; exact this
  · intro hs
    refine ⟨hv, withC_range hr hp hlt, missE_none.2 fun x hx => ?_⟩
    by_cases h1 : InC c x
    · exact sentB_mono hr (withC_le hr hp) (missE_none.1 hc.2 x h1)
    · have hx1 := hx.1
      rw [withC_len] at hx1
      have hx2 := hx.2
      unfold withC at hx2
      have e : x.1 = p := by
        by_cases e : x.1 = p
        · exact e
        · rw [setC_ne e] at hx2; exact absurd ⟨hx1, hx2⟩ h1
      have e2 : x.2 = k := by
        rw [e, setC_at hpc] at hx2
        have : ¬ (x.2 : Int) < c[x.1]! := fun h => h1 ⟨hx1, h⟩
        rw [e] at this
        omega
      have : x = (p, k) := by obtain ⟨a, b⟩ := x; simp only at e e2; rw [e, e2]
      rw [this, key]; exact hs
/-- The error of an advance at a consistent cut. -/
theorem advE_ok {t : Tr} {c : List Int} {p : Nat} (h0 : givenE t [c] [] = 0) (hp : p < t.length) : advE t c (p : Int) = if c[p]! < (t[p]!.events.length : Int) then if sentB t c (p, c[p]!.toNat) = true then 0 else 11 else 4 := by
  have hc : validT t = true ∧ ConsC t c := consB_iff.1 ((givenE_one t c).1 h0)
  have hg : givenE t [c] [(p : Int)] = 0 := by
    rw [given_proc, h0]
    have : (decide (0 ≤ (p : Int)) && decide ((p : Int) < (t.length : Int))) = true := by simp; omega
    rw [if_neg (by decide), if_pos this]
  unfold advE
  rw [if_pos hg, Int.toNat_natCast]
  have := hc.2.1.at hp
  by_cases h : c[p]! < (t[p]!.events.length : Int)
  · rw [if_pos h, if_neg (by omega)]
  · rw [if_neg h, if_pos (by omega)]
theorem advE_out {t : Tr} {c : List Int} {p : Int} (h0 : givenE t [c] [] = 0) (hp : (decide (0 ≤ p) && decide (p < (t.length : Int))) = false) : advE t c p = 2 := by
  have hg : givenE t [c] [p] = 2 := by rw [given_proc, h0, if_neg (by decide), hp]; rfl
  unfold advE
  rw [if_neg (by rw [hg]; decide)]; exact hg
theorem advE_bad {t : Tr} {c : List Int} {p : Int} (h0 : givenE t [c] [] ≠ 0) : advE t c p = if givenE t [c] [] = 18 ∧ (decide (0 ≤ p) && decide (p < (t.length : Int))) = false then 2 else givenE t [c] [] := by
  have hg := @given_proc t c p
  have hne : givenE t [c] [p] = if givenE t [c] [] = 18 ∧ (decide (0 ≤ p) && decide (p < (t.length : Int))) = false then 2 else givenE t [c] [] := by
    rw [hg]
    generalize (decide (0 ≤ p) && decide (p < (t.length : Int))) = pb
    rcases given_vals t c with h | h | h | h
    · exact absurd h h0
    · rw [h]; simp
    · rw [h]; simp
    · rw [h]; cases pb <;> simp
  unfold advE
  rw [if_neg ?_]
  · exact hne
  · rw [hne]; split
    · decide
    · exact h0

end Go.Proofs.Ytijncboddmjdcaa
