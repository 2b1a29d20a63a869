/-
  The law on garbage, in plain words.
-/
import Derived.Test.YtodkcfebcjgahaaGarbL
import Derived.Test.YtodkcfebcjgahaaBase
namespace Go.Proofs.Ytodkcfebcjgahaa
set_option linter.unusedVariables false

/-- Each element is at most the next one. -/
def upB (l : List Int) : Bool := (List.range (l.length - 1)).all fun i => decide (l[i]! ≤ l[i + 1]!)

theorem upB_no (l : List Int) (k : Nat) (hk : k + 1 < l.length) (h : l[k + 1]! < l[k]!) : upB l = false := by
  unfold upB
  rw [List.all_eq_false]
  exact ⟨k, List.mem_range.2 (by omega), by simp only [decide_eq_true_eq]; omega⟩
theorem upB_yes (l : List Int) (h : ∀ k, k + 1 < l.length → l[k]! ≤ l[k + 1]!) : upB l = true := by
  unfold upB
  rw [List.all_eq_true]
  intro k hk
  have := List.mem_range.1 hk
  have := h k (by omega)
  rw [decide_eq_true_eq]; omega

theorem upB_snoc (l : List Int) (x : Int) (h : upB l = true) (hx : ∀ y, y ∈ l → y ≤ x) : upB (l ++ [x]) = true := by
  refine upB_yes _ fun k hk => ?_
  rw [List.length_append, List.length_singleton] at hk
  by_cases hl : k + 1 < l.length
  · unfold upB at h
    have := List.all_eq_true.1 h k (List.mem_range.2 (by omega))
    rw [decide_eq_true_eq] at this
    rw [getElem!_pos (l ++ [x]) k (by simp; omega), getElem!_pos (l ++ [x]) (k + 1) (by simp; omega), List.getElem_append_left (by omega), List.getElem_append_left (by omega)]
    rwa [getElem!_pos l k (by omega), getElem!_pos l (k + 1) hl] at this
  · rw [getElem!_pos (l ++ [x]) k (by simp; omega), getElem!_pos (l ++ [x]) (k + 1) (by simp; omega), List.getElem_append_left (by omega), List.getElem_append_right (by omega)]
    have : k + 1 - l.length = 0 := by omega
    simp only [this, List.getElem_cons_zero]
    exact hx _ (List.getElem_mem _)

theorem gaps_up (M : List Bool) (k : Nat) : upB (gaps M k) = true := by
  induction k with
  | zero => rfl
  | succ k ih =>
    cases h : M[k]! with
    | true => rw [gaps_no M k h]; exact ih
    | false =>
      rw [gaps_yes M k h]
      refine upB_snoc _ _ ih fun y hy => ?_
      have := (mem_gaps M k y).1 hy
      omega

/-- The marks say what is reached. -/
def MarksOk (refs : List (Int × Int)) (roots : List Int) (N : Nat) (M : List Bool) : Prop := ∀ i : Nat, i < N → (M[i]! = true ↔ Reach refs roots i)

theorem not_in_gaps {refs : List (Int × Int)} {roots : List Int} {N : Nat} {M : List Bool} (h : MarksOk refs roots N M) {x : Int} (h0 : 0 ≤ x) (h1 : x < (N : Int)) : (gaps M N).contains x = false ↔ Reach refs roots x := by
  have e : (x.toNat : Int) = x := by omega
  have := h x.toNat (by omega)
  rw [e] at this
  rw [← this]
  constructor
  · intro hc
    cases hm : M[x.toNat]! with
    | true => rfl
    | false =>
      have : x ∈ gaps M N := (mem_gaps M N x).2 ⟨h0, h1, hm⟩
      rw [← List.contains_iff_mem, hc] at this
      simp at this
  · intro hm
    rw [Bool.eq_false_iff]
    intro hc
    have := (mem_gaps M N x).1 (List.contains_iff_mem.1 hc)
    rw [hm] at this
    simp at this

theorem law_roots {refs : List (Int × Int)} {roots : List Int} {N : Nat} {M : List Bool} (ok : GOk refs roots N) (h : MarksOk refs roots N M) : roots.any (fun x => (gaps M N).contains x) = false := by
  rw [List.any_eq_false]
  intro x hx
  obtain ⟨h0, h1⟩ := ok.1 x hx
  rw [(not_in_gaps h h0 h1).2 (.root hx)]
  simp

theorem law_refs {refs : List (Int × Int)} {roots : List Int} {N : Nat} {M : List Bool} (ok : GOk refs roots N) (h : MarksOk refs roots N M) : refs.any (fun r => !(gaps M N).contains r.1 && (gaps M N).contains r.2) = false := by
  rw [List.any_eq_false]
  intro r hr
  obtain ⟨⟨h0, h1⟩, h2, h3⟩ := ok.2 r hr
  cases hc : (gaps M N).contains r.1 with
  | true => simp
  | false =>
    have := (not_in_gaps h h0 h1).1 hc
    rw [(not_in_gaps h h2 h3).2 (.step this hr)]
    simp

theorem reach_other {refs : List (Int × Int)} {roots : List Int} {x : Int} (h : Reach refs roots x) : x ∈ roots ∨ ∃ y, y ≠ x ∧ Reach refs roots y ∧ (y, x) ∈ refs := by
  induction h with
  | root hx => exact .inl hx
  | @step y x hy hr ih =>
    by_cases e : y = x
    · subst e; exact ih
    · exact .inr ⟨y, e, hy, hr⟩

theorem law_used {refs : List (Int × Int)} {roots : List Int} {N : Nat} {M : List Bool} (ok : GOk refs roots N) (h : MarksOk refs roots N M) (X : Nat) (hX : X < N) (h1 : (gaps M N).contains (X : Int) = false) (h2 : roots.contains (X : Int) = false) :
    refs.any (fun y => (y.2 == (X : Int)) && (y.1 != (X : Int)) && !(gaps M N).contains y.1) = true := by
  rcases reach_other ((not_in_gaps h (by omega) (by omega)).1 h1) with hr | ⟨y, hne, hy, hr⟩
  · rw [← List.contains_iff_mem, h2] at hr; simp at hr
  · rw [List.any_eq_true]
    obtain ⟨⟨h0, h3⟩, _⟩ := ok.2 _ hr
    refine ⟨_, hr, ?_⟩
    simp only
    rw [(not_in_gaps h h0 h3).2 hy]
    simp [hne]

theorem reach_more {refs : List (Int × Int)} {roots : List Int} {a b : Int} (h : ¬ Reach refs roots a) (x : Int) : Reach (refs ++ [(a, b)]) roots x ↔ Reach refs roots x := by
  constructor
  · intro hx
    induction hx with
    | root hx => exact .root hx
    | step hx hr ih =>
      rcases List.mem_append.1 hr with hr | hr
      · exact .step ih hr
      · simp only [List.mem_singleton, Prod.mk.injEq] at hr
        obtain ⟨rfl, rfl⟩ := hr
        exact absurd ih h
  · intro hx
    induction hx with
    | root hx => exact .root hx
    | step hx hr ih => exact .step ih (List.mem_append_left _ hr)

theorem law_more {refs : List (Int × Int)} {roots : List Int} {N : Nat} {M M' : List Bool} {a b : Int} (h : MarksOk refs roots N M) (h' : MarksOk (refs ++ [(a, b)]) roots N M') (h0 : 0 ≤ a) (h1 : a < (N : Int)) (hc : (gaps M N).contains a = true) : gaps M' N = gaps M N := by
  have hn : ¬ Reach refs roots a := fun hr => by
    have := (not_in_gaps h h0 h1).2 hr
    rw [hc] at this; simp at this
  refine gaps_congr M' M N fun i hi => ?_
  have e1 := h i hi
  have e2 := h' i hi
  rw [reach_more hn] at e2
  rw [Bool.eq_iff_iff, e1, e2]

theorem bad_more {refs : List (Int × Int)} {roots : List Int} {n a b : Int} (h : garbBad refs roots n = false) (h0 : 0 ≤ a) (h1 : a < n) (h2 : 0 ≤ b) (h3 : b < n) : garbBad (refs ++ [(a, b)]) roots n = false := by
  simp only [garbBad, Bool.or_eq_false_iff, List.any_append] at h ⊢
  refine ⟨h.1, h.2, ?_⟩
  simp [outB]; omega

end Go.Proofs.Ytodkcfebcjgahaa
