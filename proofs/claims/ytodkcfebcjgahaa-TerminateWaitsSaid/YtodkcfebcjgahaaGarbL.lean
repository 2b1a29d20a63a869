/-
  Garbage, in plain words: what the roots reach, and a search with a queue that finds it. No program is named here.
-/
import Derived.Test.YtodkcfebcjgahaaBase
namespace Go.Proofs.Ytodkcfebcjgahaa
set_option linter.unusedVariables false

def outB (n x : Int) : Bool := decide (x < 0) || decide (n ≤ x)
def garbBad (refs : List (Int × Int)) (roots : List Int) (n : Int) : Bool :=
  decide (n < 0) || decide (512 < n) || roots.any (outB n) || refs.any (fun r => outB n r.1 || outB n r.2)

inductive Reach (refs : List (Int × Int)) (roots : List Int) : Int → Prop
  | root {x : Int} : x ∈ roots → Reach refs roots x
  | step {x y : Int} : Reach refs roots x → (x, y) ∈ refs → Reach refs roots y

/-- How many marks are not set. -/
def unset (M : List Bool) : Nat := (M.filter fun b => !b).length

/-- What holds of the marks and the queue ahead of each round. -/
def GInv (refs : List (Int × Int)) (roots : List Int) (N : Nat) (M : List Bool) (T : List Int) : Prop :=
  (∀ x, x ∈ T → 0 ≤ x ∧ x < (N : Int) ∧ Reach refs roots x) ∧
  (∀ i : Nat, i < N → M[i]! = true → Reach refs roots i) ∧
  (∀ x, x ∈ roots → x ∈ T ∨ M[x.toNat]! = true) ∧
  (∀ i : Nat, i < N → M[i]! = true → ∀ y, ((i : Int), y) ∈ refs → y ∈ T ∨ M[y.toNat]! = true)

/-- All refs, and all roots, are in range. -/
def GOk (refs : List (Int × Int)) (roots : List Int) (N : Nat) : Prop :=
  (∀ x, x ∈ roots → 0 ≤ x ∧ x < (N : Int)) ∧ (∀ r, r ∈ refs → (0 ≤ r.1 ∧ r.1 < (N : Int)) ∧ (0 ≤ r.2 ∧ r.2 < (N : Int)))

theorem garb_ok {refs : List (Int × Int)} {roots : List Int} {n : Int} (h : garbBad refs roots n = false) : 0 ≤ n ∧ n ≤ 512 ∧ GOk refs roots n.toNat := by
  simp only [garbBad, Bool.or_eq_false_iff, decide_eq_false_iff_not] at h
  obtain ⟨⟨⟨h1, h2⟩, h3⟩, h4⟩ := h
  refine ⟨by omega, by omega, fun x hx => ?_, fun r hr => ?_⟩
  · have := List.any_eq_false.1 h3 x hx
    simp [outB] at this; omega
  · have := List.any_eq_false.1 h4 r hr
    simp [outB] at this; omega

theorem ginv_start {refs : List (Int × Int)} {roots : List Int} {N : Nat} (h : GOk refs roots N) : GInv refs roots N (List.replicate N false) roots := by
  refine ⟨fun x hx => ⟨(h.1 x hx).1, (h.1 x hx).2, .root hx⟩, fun i hi hm => ?_, fun x hx => .inl hx, fun i hi hm => ?_⟩
  · simp [hi] at hm
  · simp [hi] at hm

/-- The first of the queue has been met. -/
theorem ginv_met {refs : List (Int × Int)} {roots : List Int} {N X : Nat} {M : List Bool} {T : List Int} (h : GInv refs roots N M ((X : Int) :: T)) (hm : M[X]! = true) : GInv refs roots N M T := by
  obtain ⟨h1, h2, h3, h4⟩ := h
  refine ⟨fun x hx => h1 x (List.mem_cons_of_mem _ hx), h2, fun x hx => ?_, fun i hi hM y hy => ?_⟩
  · rcases h3 x hx with h | h
    · rcases List.mem_cons.1 h with rfl | h
      · exact .inr (by simpa using hm)
      · exact .inl h
    · exact .inr h
  · rcases h4 i hi hM y hy with h | h
    · rcases List.mem_cons.1 h with rfl | h
      · exact .inr (by simpa using hm)
      · exact .inl h
    · exact .inr h

/-- What x pushes, out of the first k references. -/
def pushed (refs : List (Int × Int)) (M : List Bool) (x : Int) (k : Nat) : List Int := ((refs.take k).filter fun r => r.1 == x && !M[r.2.toNat]!).map (·.2)

theorem pushed_yes {refs : List (Int × Int)} {M : List Bool} {x : Int} {k : Nat} (hk : k < refs.length) (h1 : (refs[k]!.1 == x) = true) (h2 : M[refs[k]!.2.toNat]! = false) : pushed refs M x (k + 1) = pushed refs M x k ++ [refs[k]!.2] := by
  unfold pushed
  rw [take_snoc' refs k hk, List.filter_append, List.map_append, List.filter_cons, h1, h2]
  rfl
theorem pushed_no {refs : List (Int × Int)} {M : List Bool} {x : Int} {k : Nat} (hk : k < refs.length) (h : (refs[k]!.1 == x && !M[refs[k]!.2.toNat]!) = false) : pushed refs M x (k + 1) = pushed refs M x k := by
  unfold pushed
  rw [take_snoc' refs k hk, List.filter_append, List.map_append, List.filter_cons, h]
  simp
theorem pushed_len (refs : List (Int × Int)) (M : List Bool) (x : Int) (k : Nat) : (pushed refs M x k).length ≤ refs.length := by
  unfold pushed
  rw [List.length_map]
  exact Nat.le_trans (List.length_filter_le _ _) (by rw [List.length_take]; omega)

theorem get_set_bool (M : List Bool) (X i : Nat) (hX : X < M.length) : (M.set X true)[i]! = if i = X then true else M[i]! := by
  by_cases h : i = X
  · subst h
    rw [if_pos rfl, getElem!_pos _ _ (by simpa using hX)]
    simp
  · rw [if_neg h]
    simp only [List.getElem!_eq_getElem?_getD, List.getElem?_set_ne (Ne.symm h)]

theorem ginv_new {refs : List (Int × Int)} {roots : List Int} {N X : Nat} {M : List Bool} {T : List Int} (ok : GOk refs roots N) (h : GInv refs roots N M ((X : Int) :: T)) (hN : M.length = N) (hm : M[X]! = false) :
    GInv refs roots N (M.set X true) (T ++ pushed refs (M.set X true) X refs.length) := by
  obtain ⟨h1, h2, h3, h4⟩ := h
  obtain ⟨hx0, hxN, hxR⟩ := h1 X (List.mem_cons_self)
  have hX : X < M.length := by omega
  refine ⟨fun x hx => ?_, fun i hi hM => ?_, fun x hx => ?_, fun i hi hM y hy => ?_⟩
  · rcases List.mem_append.1 hx with hx | hx
    · exact h1 x (List.mem_cons_of_mem _ hx)
    · simp only [pushed, List.take_length, List.mem_map, List.mem_filter, Bool.and_eq_true, beq_iff_eq] at hx
      obtain ⟨⟨a, b⟩, ⟨hr, ha, _⟩, rfl⟩ := hx
      simp only at ha
      subst ha
      obtain ⟨_, hb1, hb2⟩ := ok.2 _ hr
      exact ⟨hb1, hb2, .step hxR hr⟩
  · rw [get_set_bool M X i hX] at hM
    by_cases h : i = X
    · subst h; exact hxR
    · rw [if_neg h] at hM; exact h2 i hi hM
  · rcases h3 x hx with h | h
    · rcases List.mem_cons.1 h with rfl | h
      · exact .inr (by rw [get_set_bool M X _ hX]; simp)
      · exact .inl (List.mem_append_left _ h)
    · refine .inr ?_
      rw [get_set_bool M X _ hX]
      split
      · rfl
      · exact h
  · rw [get_set_bool M X i hX] at hM
    by_cases h : i = X
    · subst h
      by_cases hb : (M.set i true)[y.toNat]! = true
      · exact .inr hb
      · refine .inl (List.mem_append_right _ ?_)
        simp only [pushed, List.take_length, List.mem_map, List.mem_filter, Bool.and_eq_true, beq_iff_eq]
        exact ⟨(i, y), ⟨hy, rfl, by simpa using hb⟩, rfl⟩
    · rw [if_neg h] at hM
      rcases h4 i hi hM y hy with h' | h'
      · rcases List.mem_cons.1 h' with rfl | h'
        · exact .inr (by rw [get_set_bool M X _ hX]; simp)
        · exact .inl (List.mem_append_left _ h')
      · refine .inr ?_
        rw [get_set_bool M X _ hX]
        split
        · rfl
        · exact h'

theorem unset_set (M : List Bool) (X : Nat) (hX : X < M.length) (hm : M[X]! = false) : unset M = unset (M.set X true) + 1 := by
  rw [getElem!_pos M X hX] at hm
  induction M generalizing X with
  | nil => simp at hX
  | cons b M ih =>
    cases X with
    | zero =>
      simp at hm
      subst hm
      simp [unset]
    | succ X =>
      simp only [List.getElem_cons_succ] at hm
      have := ih X (by simpa using hX) hm
      cases b <;> simp [unset, List.filter_cons] at this ⊢ <;> omega

theorem unset_replicate (N : Nat) : unset (List.replicate N false) = N := by simp [unset]

/-- At the end the marks say what is reached. -/
theorem ginv_end {refs : List (Int × Int)} {roots : List Int} {N : Nat} {M : List Bool} (ok : GOk refs roots N) (h : GInv refs roots N M []) (i : Nat) (hi : i < N) : M[i]! = true ↔ Reach refs roots i := by
  obtain ⟨h1, h2, h3, h4⟩ := h
  refine ⟨h2 i hi, fun hr => ?_⟩
  have key : ∀ x, Reach refs roots x → 0 ≤ x ∧ x < (N : Int) ∧ M[x.toNat]! = true := by
    intro x hx
    induction hx with
    | root hx => exact ⟨(ok.1 _ hx).1, (ok.1 _ hx).2, by simpa using h3 _ hx⟩
    | @step x y hx hr ih =>
      obtain ⟨a, b, c⟩ := ih
      obtain ⟨_, d, e⟩ := ok.2 _ hr
      refine ⟨d, e, ?_⟩
      have := h4 x.toNat (by omega) c y (by rw [Int.toNat_of_nonneg a]; exact hr)
      simpa using this
  simpa using (key _ hr).2.2

/-- The places of the marks that are not set, among the first k. -/
def gaps (M : List Bool) (k : Nat) : List Int := ((List.range k).filter fun i => !M[i]!).map fun (i : Nat) => (i : Int)
theorem gaps_yes (M : List Bool) (k : Nat) (h : M[k]! = false) : gaps M (k + 1) = gaps M k ++ [(k : Int)] := by
  unfold gaps; rw [List.range_succ, List.filter_append, List.map_append]; simp only [List.filter_cons, List.filter_nil, h]; rfl
theorem gaps_no (M : List Bool) (k : Nat) (h : M[k]! = true) : gaps M (k + 1) = gaps M k := by
  unfold gaps; rw [List.range_succ, List.filter_append, List.map_append]; simp only [List.filter_cons, List.filter_nil, h]; simp
theorem gaps_len (M : List Bool) (k : Nat) : (gaps M k).length ≤ k := by
  unfold gaps
  rw [List.length_map]
  exact Nat.le_trans (List.length_filter_le _ _) (by simp)
theorem mem_gaps (M : List Bool) (k : Nat) (x : Int) : x ∈ gaps M k ↔ 0 ≤ x ∧ x < (k : Int) ∧ M[x.toNat]! = false := by
  unfold gaps
  simp only [List.mem_map, List.mem_filter, List.mem_range, Bool.not_eq_true']
  constructor
  · rintro ⟨i, ⟨h1, h2⟩, rfl⟩; exact ⟨by omega, by omega, by simpa using h2⟩
  · rintro ⟨h1, h2, h3⟩; exact ⟨x.toNat, ⟨by omega, h3⟩, by omega⟩
theorem gaps_congr (M M' : List Bool) (k : Nat) (h : ∀ i, i < k → M[i]! = M'[i]!) : gaps M k = gaps M' k := by
  unfold gaps
  congr 1
  apply List.filter_congr
  intro i hi
  rw [h i (List.mem_range.1 hi)]

end Go.Proofs.Ytodkcfebcjgahaa
