/-
  Garbage as the reference finds it, by rounds. No program is named here.
-/
import Derived.Test.YtodkcfebcjgahaaWaiL
namespace Go.Proofs.Ytodkcfebcjgahaa
set_option linter.unusedVariables false

def see1 (S : List Bool) (r : Int × Int) : List Bool := if S[r.1.toNat]! = true then S.set r.2.toNat true else S
def seeTo (refs : List (Int × Int)) (S : List Bool) (k : Nat) : List Bool := (refs.take k).foldl see1 S
def sees (refs : List (Int × Int)) (S : List Bool) : Nat → List Bool
  | 0 => S
  | r + 1 => seeTo refs (sees refs S r) refs.length
theorem see1_len (S : List Bool) (r : Int × Int) : (see1 S r).length = S.length := by unfold see1; split <;> simp
theorem seeTo_succ (refs : List (Int × Int)) (S : List Bool) (k : Nat) (hk : k < refs.length) : seeTo refs S (k + 1) = see1 (seeTo refs S k) refs[k]! := by
  unfold seeTo
  rw [List.take_succ_eq_append_getElem hk, List.foldl_append, getElem!_pos refs k hk]; rfl
theorem seeTo_len (refs : List (Int × Int)) (S : List Bool) (k : Nat) : (seeTo refs S k).length = S.length := by
  unfold seeTo
  generalize refs.take k = l
  induction l generalizing S with
  | nil => rfl
  | cons a l ih => rw [List.foldl_cons, ih, see1_len]
theorem sees_len (refs : List (Int × Int)) (S : List Bool) (r : Nat) : (sees refs S r).length = S.length := by
  induction r with
  | zero => rfl
  | succ r ih => rw [sees, seeTo_len, ih]
section
variable {refs : List (Int × Int)} {roots : List Int} {N : Nat}
def SoundS (refs : List (Int × Int)) (roots : List Int) (N : Nat) (S : List Bool) : Prop := ∀ i : Nat, i < N → S[i]! = true → Reach refs roots i
def HasS (roots : List Int) (S : List Bool) : Prop := ∀ x, x ∈ roots → S[x.toNat]! = true
def ClosS (refs : List (Int × Int)) (S : List Bool) : Prop := ∀ r, r ∈ refs → S[r.1.toNat]! = true → S[r.2.toNat]! = true
theorem sound_see {S : List Bool} (ok : GOk refs roots N) (hl : S.length = N) (h : SoundS refs roots N S) {r : Int × Int} (hr : r ∈ refs) : SoundS refs roots N (see1 S r) := by
  unfold see1
  split
  · rename_i hm
    obtain ⟨h1, h2⟩ := ok.2 r hr
    intro i hi hs
    rw [get_set' S r.2.toNat i true (by omega)] at hs
    by_cases e : i = r.2.toNat
    · have hx := h r.1.toNat (by omega) hm
      rw [show ((r.1.toNat : Nat) : Int) = r.1 by omega] at hx
      rw [e, show ((r.2.toNat : Nat) : Int) = r.2 by omega]
      exact .step hx hr
    · rw [if_neg e] at hs; exact h i hi hs
  · exact h
theorem has_see {S : List Bool} (h : HasS roots S) (r : Int × Int) : HasS roots (see1 S r) := by
  unfold see1
  split
  · intro x hx
    by_cases hl : r.2.toNat < S.length
    · rw [get_set' S r.2.toNat x.toNat true hl]
      split
      · rfl
      · exact h x hx
    · rw [List.set_eq_of_length_le (by omega)]; exact h x hx
  · exact h
theorem seeTo_all {S : List Bool} (ok : GOk refs roots N) (hl : S.length = N) (h : SoundS refs roots N S) (h2 : HasS roots S) : ∀ k, k ≤ refs.length → SoundS refs roots N (seeTo refs S k) ∧ HasS roots (seeTo refs S k) := by
  intro k
  induction k with
  | zero => intro _; exact ⟨h, h2⟩
  | succ k ih =>
    intro hk
    obtain ⟨i1, i2⟩ := ih (by omega)
    rw [seeTo_succ refs S k (by omega)]
    exact ⟨sound_see ok (by rw [seeTo_len]; exact hl) i1 (mem_at refs k (by omega)), has_see i2 _⟩
theorem seeTo_grow (S : List Bool) (hS : S.length = N) (ok : GOk refs roots N) (k : Nat) (hk : k ≤ refs.length) :
    setc S ≤ setc (seeTo refs S k) ∧ (setc S + 1 ≤ setc (seeTo refs S k) ∨ (seeTo refs S k = S ∧ ∀ i, i < k → S[refs[i]!.1.toNat]! = true → S[refs[i]!.2.toNat]! = true)) := by
  induction k with
  | zero => exact ⟨Nat.le_refl _, .inr ⟨rfl, fun i hi => absurd hi (Nat.not_lt_zero _)⟩⟩
  | succ k ih =>
    obtain ⟨h1, h2⟩ := ih (by omega)
    rw [seeTo_succ refs S k (by omega)]
    have hle : setc (seeTo refs S k) ≤ setc (see1 (seeTo refs S k) refs[k]!) := by
      unfold see1; split
      · exact (setc_set_le _ _).1
      · exact Nat.le_refl _
    refine ⟨by omega, ?_⟩
    rcases h2 with h2 | ⟨he, hc⟩
    · left; omega
    · rw [he]
      unfold see1
      by_cases hn : S[refs[k]!.1.toNat]! = true
      · rw [if_pos hn]
        cases hf : S[refs[k]!.2.toNat]! with
        | true =>
          right
          refine ⟨set_same S _ hf, fun i hi hh => ?_⟩
          by_cases e : i = k
          · subst e; exact hf
          · exact hc i (by omega) hh
        | false =>
          left
          have := (ok.2 _ (mem_at refs k (by omega))).2
          exact (setc_set_le S _).2 (by omega) hf
      · rw [if_neg hn]
        right
        refine ⟨rfl, fun i hi hh => ?_⟩
        by_cases e : i = k
        · subst e; exact absurd hh hn
        · exact hc i (by omega) hh
theorem clos_stays {S : List Bool} (h : ClosS refs S) : seeTo refs S refs.length = S := by
  have key : ∀ k, k ≤ refs.length → seeTo refs S k = S := by
    intro k
    induction k with
    | zero => intro _; rfl
    | succ k ihk =>
      intro hk
      rw [seeTo_succ refs _ k (by omega), ihk (by omega)]
      unfold see1
      split
      · rename_i hn; exact set_same _ _ (h _ (mem_at refs k (by omega)) hn)
      · rfl
  exact key _ (Nat.le_refl _)
theorem sees_end {S : List Bool} (hS : S.length = N) (ok : GOk refs roots N) (r : Nat) : r ≤ setc (sees refs S r) ∨ ClosS refs (sees refs S r) := by
  induction r with
  | zero => left; exact Nat.zero_le _
  | succ r ih =>
    have hl := sees_len refs S r
    rcases ih with ih | ih
    · obtain ⟨h1, h2⟩ := seeTo_grow (sees refs S r) (by rw [hl, hS]) ok refs.length (Nat.le_refl _)
      rcases h2 with h2 | ⟨e, hc⟩
      · left; rw [sees]; omega
      · right
        rw [sees, e]
        intro x hx hn
        obtain ⟨i, hi, rfl⟩ := List.getElem_of_mem hx
        have := hc i hi
        rw [getElem!_pos refs i hi] at this
        exact this hn
    · right
      rw [sees, clos_stays ih]; exact ih
theorem sees_all {S : List Bool} (ok : GOk refs roots N) (hl : S.length = N) (h : SoundS refs roots N S) (h2 : HasS roots S) : ∀ r, SoundS refs roots N (sees refs S r) ∧ HasS roots (sees refs S r) := by
  intro r
  induction r with
  | zero => exact ⟨h, h2⟩
  | succ r ih => exact seeTo_all ok (by rw [sees_len]; exact hl) ih.1 ih.2 _ (Nat.le_refl _)
/-- The rounds find what is reached. -/
theorem sees_reach (ok : GOk refs roots N) (i : Nat) (hi : i < N) : (sees refs (marksOf N roots) N)[i]! = true ↔ Reach refs roots i := by
  have hl := marksOf_len N roots
  obtain ⟨h1, h2⟩ := sees_all (S := marksOf N roots) ok hl (fun j hj hm => by
    rw [marksOf_get N roots j hj] at hm
    exact .root (by simpa using hm)) (fun x hx => by
    have := ok.1 x hx
    rw [marksOf_get N roots x.toNat (by omega), show ((x.toNat : Nat) : Int) = x by omega]
    simpa using hx) N
  refine ⟨h1 i hi, fun hr => ?_⟩
  rcases sees_end (S := marksOf N roots) hl ok N with hf | hc
  · exact setc_full (by rw [sees_len, hl]) hf i hi
  · have key : ∀ x, Reach refs roots x → (sees refs (marksOf N roots) N)[x.toNat]! = true := by
      intro x hx
      induction hx with
      | root h => exact h2 _ h
      | step _ hr ih => exact hc _ hr ih
    have := key _ hr
    rwa [Int.toNat_natCast] at this
/-- The reference's garbage is the program's. -/
theorem sees_gaps (ok : GOk refs roots N) {M : List Bool} (hM : ∀ i : Nat, i < N → (M[i]! = true ↔ Reach refs roots i)) : gaps (sees refs (marksOf N roots) N) N = gaps M N := by
  refine gaps_congr _ _ _ fun i hi => ?_
  have a := sees_reach ok i hi
  have b := hM i hi
  cases h1 : M[i]! with
  | true => exact a.2 (b.1 h1)
  | false =>
    rw [Bool.eq_false_iff]
    intro h2
    rw [b.2 (a.1 h2)] at h1; cases h1
end

end Go.Proofs.Ytodkcfebcjgahaa
