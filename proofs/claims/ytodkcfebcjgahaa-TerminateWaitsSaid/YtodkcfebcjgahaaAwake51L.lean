/-
  The examples of the chapter, in plain words.
-/
import Derived.Test.YtodkcfebcjgahaaDeadL
import Derived.Test.YtodkcfebcjgahaaGarbL
namespace Go.Proofs.Ytodkcfebcjgahaa
set_option linter.unusedVariables false

def ex1 : List Wt := [⟨0, 1, [1]⟩, ⟨1, 1, [0]⟩]
def ex2 : List Wt := [⟨0, 1, [1, 2]⟩, ⟨1, 1, [0]⟩]
def exRefs : List (Int × Int) := [(0, 1), (2, 3), (3, 2)]

theorem ex1_valid : validL ex1 3 = 0 := by decide
theorem ex2_valid : validL ex2 3 = 0 := by decide
theorem exRefs_good : garbBad exRefs [0] 4 = false := by decide

theorem ex1_marks {M : List Bool} (hM : M.length = 3) (hs : StuckM ex1 3 M) (ha : AllStuck ex1 3 M) : marks M 3 = [0, 1] := by
  match M, hM with
  | [a, b, c], _ =>
    have st : StuckM ex1 3 [true, true, false] := by
      intro i hi hm
      match i, hi with
      | 0, _ => exact ⟨⟨0, 1, [1]⟩, by simp [ex1], rfl, by decide⟩
      | 1, _ => exact ⟨⟨1, 1, [0]⟩, by simp [ex1], rfl, by decide⟩
      | 2, _ => simp at hm
    have h0 : a = true := by simpa using ha _ rfl st 0 (by omega) rfl
    have h1 : b = true := by simpa using ha _ rfl st 1 (by omega) rfl
    have h2 : c = false := by
      cases c with
      | false => rfl
      | true =>
        obtain ⟨x, hx, hp, _⟩ := hs 2 (by omega) rfl
        simp only [ex1, List.mem_cons, List.not_mem_nil, or_false] at hx
        rcases hx with rfl | rfl <;> simp at hp
    subst h0; subst h1; subst h2
    decide

theorem ex2_marks {M : List Bool} (hM : M.length = 3) (hs : StuckM ex2 3 M) : marks M 3 = [] := by
  match M, hM with
  | [a, b, c], _ =>
    have h2 : c = false := by
      cases c with
      | false => rfl
      | true =>
        obtain ⟨x, hx, hp, _⟩ := hs 2 (by omega) rfl
        simp only [ex2, List.mem_cons, List.not_mem_nil, or_false] at hx
        rcases hx with rfl | rfl <;> simp at hp
    subst h2
    have h0 : a = false := by
      cases a with
      | false => rfl
      | true =>
        obtain ⟨x, hx, hp, hb⟩ := hs 0 (by omega) rfl
        simp only [ex2, List.mem_cons, List.not_mem_nil, or_false] at hx
        rcases hx with rfl | rfl
        · cases b <;> simp [blockedB, List.filter_cons] at hb
        · simp at hp
    subst h0
    have h1 : b = false := by
      cases b with
      | false => rfl
      | true =>
        obtain ⟨x, hx, hp, hb⟩ := hs 1 (by omega) rfl
        simp only [ex2, List.mem_cons, List.not_mem_nil, or_false] at hx
        rcases hx with rfl | rfl
        · simp at hp
        · simp [blockedB, List.filter_cons] at hb
    subst h1
    decide

theorem exRefs_gaps {M : List Bool} (hM : M.length = 4) (h : ∀ i : Nat, i < 4 → (M[i]! = true ↔ Reach exRefs [0] i)) : gaps M 4 = [2, 3] := by
  have key : ∀ x, Reach exRefs [0] x → x = 0 ∨ x = 1 := by
    intro x hx
    induction hx with
    | root hx => simp at hx; exact .inl hx
    | step hx hr ih =>
      simp only [exRefs, List.mem_cons, Prod.mk.injEq, List.not_mem_nil, or_false] at hr
      omega
  have r0 : Reach exRefs [0] 0 := .root (by simp)
  have r1 : Reach exRefs [0] 1 := .step r0 (by simp [exRefs])
  match M, hM with
  | [a, b, c, d], _ =>
    have h0 : a = true := by simpa using (h 0 (by omega)).2 r0
    have h1 : b = true := by simpa using (h 1 (by omega)).2 r1
    have h2 : c = false := by
      cases c with
      | false => rfl
      | true => have := key _ ((h 2 (by omega)).1 rfl); omega
    have h3 : d = false := by
      cases d with
      | false => rfl
      | true => have := key _ ((h 3 (by omega)).1 rfl); omega
    subst h0; subst h1; subst h2; subst h3
    decide

end Go.Proofs.Ytodkcfebcjgahaa
