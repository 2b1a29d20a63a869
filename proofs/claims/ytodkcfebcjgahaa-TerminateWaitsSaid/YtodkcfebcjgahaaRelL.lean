/-
  Relations on a few numbers, a word of bits for each: the closure, the shortest ways back to a number, and the least cycle. No program is named here.
-/
import Derived.Test.YtodkcfebcjgahaaBase
namespace Go.Proofs.Ytodkcfebcjgahaa
set_option linter.unusedVariables false

/-! ### Bits -/
def hasM (M : List Nat) (i j : Nat) : Bool := (M[i]!).testBit j
def putM (M : List Nat) (i j : Nat) : List Nat := M.set i (M[i]! ||| 2 ^ j)
def mergeM (M : List Nat) (i k : Nat) : List Nat := M.set i (M[i]! ||| M[k]!)
theorem nat_set_at {l : List Nat} {k : Nat} (hk : k < l.length) (b : Nat) : (l.set k b)[k]! = b := by
  rw [getElem!_pos _ k (by rw [List.length_set]; exact hk), List.getElem_set_self]
theorem nat_set_ne {l : List Nat} {k j : Nat} (h : j ≠ k) (x : Nat) : (l.set k x)[j]! = l[j]! := by
  by_cases hj : j < l.length
  · rw [getElem!_pos _ j (by rw [List.length_set]; exact hj), getElem!_pos l j hj, List.getElem_set_ne (fun e => h e.symm)]
  · rw [getElem!_neg _ j (by rw [List.length_set]; exact hj), getElem!_neg l j hj]
theorem putM_has {M : List Nat} {i j : Nat} (hi : i < M.length) (a b : Nat) : hasM (putM M i j) a b = (hasM M a b || (decide (a = i) && decide (b = j))) := by
  unfold hasM putM
  by_cases e : a = i
  · subst e
    rw [nat_set_at hi, Nat.testBit_or, Nat.testBit_two_pow]
    simp [eq_comm]
  · rw [nat_set_ne e]; simp [e]
theorem hasM_out {M : List Nat} {i j : Nat} (hi : ¬ i < M.length) : hasM M i j = false := by
  unfold hasM
  rw [getElem!_neg M i hi]
  exact Nat.zero_testBit j

/-! ### Walks -/
def WalkTo (M : List Nat) (f : Nat) : Nat → Nat → Prop
  | 0, i => i = f
  | d + 1, i => ∃ x, x < M.length ∧ hasM M i x = true ∧ WalkTo M f d x
def PathM (M : List Nat) (i j : Nat) : Prop := ∃ d, WalkTo M j (d + 1) i
theorem walk_add {M : List Nat} {j l : Nat} : ∀ (d e i : Nat), WalkTo M j d i → WalkTo M l e j → WalkTo M l (d + e) i := by
  intro d
  induction d with
  | zero => intro e i h1 h2; cases h1; rw [Nat.zero_add]; exact h2
  | succ d ih =>
    intro e i h1 h2
    obtain ⟨x, hx, hb, hw⟩ := h1
    rw [Nat.succ_add]
    exact ⟨x, hx, hb, ih e x hw h2⟩
theorem path_trans {M : List Nat} {i j k : Nat} (h1 : PathM M i j) (h2 : PathM M j k) : PathM M i k := by
  obtain ⟨d, h1⟩ := h1
  obtain ⟨e, h2⟩ := h2
  exact ⟨d + (e + 1), by have := walk_add _ _ _ h1 h2; rwa [show d + 1 + (e + 1) = d + (e + 1) + 1 by omega] at this⟩
theorem path_one {M : List Nat} {i j : Nat} (hj : j < M.length) (h : hasM M i j = true) : PathM M i j := ⟨0, j, hj, h, rfl⟩
theorem path_lt {M : List Nat} {i j : Nat} (h : PathM M i j) : i < M.length := by
  obtain ⟨d, x, hx, hb, _⟩ := h
  by_cases hi : i < M.length
  · exact hi
  · rw [hasM_out hi] at hb; cases hb

/-! ### The closure -/
def closeI (M : List Nat) (k i : Nat) : List Nat := if hasM M i k = true then mergeM M i k else M
def closeIn (M : List Nat) (k : Nat) : Nat → List Nat
  | 0 => M
  | n + 1 => closeI (closeIn M k n) k n
def closeTo (M : List Nat) : Nat → List Nat
  | 0 => M
  | k + 1 => closeIn (closeTo M k) k M.length
def closeM (M : List Nat) : List Nat := closeTo M M.length
theorem closeI_len (M : List Nat) (k i : Nat) : (closeI M k i).length = M.length := by unfold closeI mergeM; split <;> simp
theorem closeIn_len (M : List Nat) (k n : Nat) : (closeIn M k n).length = M.length := by
  induction n with
  | zero => rfl
  | succ n ih => rw [closeIn, closeI_len, ih]
theorem closeTo_len (M : List Nat) (k : Nat) : (closeTo M k).length = M.length := by
  induction k with
  | zero => rfl
  | succ k ih => rw [closeTo, closeIn_len, ih]
theorem closeIn_at {M : List Nat} {k : Nat} : ∀ n, n ≤ M.length → ∀ a, (closeIn M k n)[a]! = if a < n ∧ hasM M a k = true then M[a]! ||| M[k]! else M[a]! := by
  intro n
  induction n with
  | zero => intro _ a; rw [if_neg (by omega)]; rfl
  | succ n ih =>
    intro hn a
    have ih := ih (by omega)
    rw [closeIn, closeI]
    have hk : (closeIn M k n)[k]! = M[k]! := by
      rw [ih k]; split
      · exact Nat.or_self _
      · rfl
    have hnn : (closeIn M k n)[n]! = M[n]! := by rw [ih n, if_neg (by omega)]
    have hh : hasM (closeIn M k n) n k = hasM M n k := by unfold hasM; rw [hnn]
    rw [hh]
    by_cases hb : hasM M n k = true
    · rw [if_pos hb, mergeM, hnn, hk]
      by_cases e : a = n
      · subst e; rw [nat_set_at (by rw [closeIn_len]; omega), if_pos ⟨by omega, hb⟩]
      · rw [nat_set_ne e, ih a]
        by_cases h2 : a < n ∧ hasM M a k = true
        · rw [if_pos h2, if_pos ⟨by omega, h2.2⟩]
        · rw [if_neg h2, if_neg (fun h => h2 ⟨by omega, h.2⟩)]
    · rw [if_neg hb, ih a]
      by_cases h2 : a < n ∧ hasM M a k = true
      · rw [if_pos h2, if_pos ⟨by omega, h2.2⟩]
      · rw [if_neg h2, if_neg (fun h => by
          by_cases e : a = n
          · subst e; exact hb h.2
          · exact h2 ⟨by omega, h.2⟩)]
theorem closeTo_has {M : List Nat} {k : Nat} (i j : Nat) : hasM (closeTo M (k + 1)) i j = (hasM (closeTo M k) i j || (hasM (closeTo M k) i k && hasM (closeTo M k) k j)) := by
  by_cases hi : i < M.length
  · show hasM (closeIn (closeTo M k) k M.length) i j = _
    generalize hT : closeTo M k = T
    have hl : T.length = M.length := by rw [← hT, closeTo_len]
    have := closeIn_at (M := T) (k := k) M.length (by omega) i
    unfold hasM at *
    rw [this]
    by_cases hb : (T[i]!).testBit k = true
    · rw [if_pos ⟨hi, hb⟩, Nat.testBit_or, hb]; simp
    · rw [if_neg (fun h => hb h.2)]
      rw [Bool.not_eq_true] at hb
      rw [hb]; simp
  · rw [hasM_out (by rw [closeTo_len]; exact hi), hasM_out (by rw [closeTo_len]; exact hi), hasM_out (by rw [closeTo_len]; exact hi)]
    rfl
theorem close_sound {M : List Nat} : ∀ k, k ≤ M.length → ∀ i j, j < M.length → hasM (closeTo M k) i j = true → PathM M i j := by
  intro k
  induction k with
  | zero => intro _ i j hj h; exact path_one hj h
  | succ k ih =>
    intro hk i j hj h
    rw [closeTo_has, Bool.or_eq_true, Bool.and_eq_true] at h
    rcases h with h | ⟨h1, h2⟩
    · exact ih (by omega) i j hj h
    · exact path_trans (ih (by omega) i k (by omega) h1) (ih (by omega) k j hj h2)
theorem close_mono {M : List Nat} {i j : Nat} (h : hasM M i j = true) : ∀ k, hasM (closeTo M k) i j = true := by
  intro k
  induction k with
  | zero => exact h
  | succ k ih => rw [closeTo_has, ih]; rfl
theorem close_trans {M : List Nat} : ∀ K, ∀ i k j, k < K → hasM (closeTo M K) i k = true → hasM (closeTo M K) k j = true → hasM (closeTo M K) i j = true := by
  intro K
  induction K with
  | zero => intro i k j hk; omega
  | succ K ih =>
    intro i k j hk h1 h2
    rw [closeTo_has, Bool.or_eq_true, Bool.and_eq_true] at h1 h2 ⊢
    by_cases e : k = K
    · subst e
      have a : hasM (closeTo M k) i k = true := by rcases h1 with h | h; exact h; exact h.1
      have b : hasM (closeTo M k) k j = true := by rcases h2 with h | h; exact h; exact h.2
      exact .inr ⟨a, b⟩
    · have hkK : k < K := by omega
      rcases h1 with h1 | ⟨h1, h1'⟩ <;> rcases h2 with h2 | ⟨h2, h2'⟩
      · exact .inl (ih i k j hkK h1 h2)
      · exact .inr ⟨ih i k K hkK h1 h2, h2'⟩
      · exact .inr ⟨h1, ih K k j hkK h1' h2⟩
      · exact .inr ⟨h1, h2'⟩
theorem closeM_iff {M : List Nat} {i j : Nat} (hj : j < M.length) : hasM (closeM M) i j = true ↔ PathM M i j := by
  constructor
  · exact close_sound _ (Nat.le_refl _) i j hj
  · rintro ⟨d, h⟩
    have key : ∀ d i, WalkTo M j (d + 1) i → hasM (closeTo M M.length) i j = true := by
      intro d
      induction d with
      | zero =>
        rintro i ⟨x, hx, hb, rfl⟩
        exact close_mono hb _
      | succ d ih =>
        rintro i ⟨x, hx, hb, hw⟩
        exact close_trans M.length i x j hx (close_mono hb _) (ih x hw)
    exact key d i h

/-! ### Shortest ways back to a number, found from it step by step -/
/-- How far a number was found to be; the first one lies at 0. -/
def depM (S : List Int) (f x : Nat) : Int := if x = f then 0 else S[x]!
structure FarM (M : List Nat) (f : Nat) (S : List Int) (Q : List Nat) : Prop where
  len : S.length = M.length
  flt : f < M.length
  qpos : 0 < Q.length
  q0 : Q[0]! = f
  qlt : ∀ j, j < Q.length → Q[j]! < M.length
  qinj : ∀ i j, i < Q.length → j < Q.length → Q[i]! = Q[j]! → i = j
  seen : ∀ i, i < M.length → i ≠ f → (S[i]! = -1 ∧ ∀ j, j < Q.length → Q[j]! ≠ i) ∨ (∃ j, j < Q.length ∧ Q[j]! = i)
  way : ∀ j, j < Q.length → 0 < j → ∃ d : Nat, S[Q[j]!]! = (d : Int) + 1 ∧ WalkTo M f (d + 1) Q[j]! ∧ d < j
  mono : ∀ i j, i ≤ j → j < Q.length → depM S f Q[i]! ≤ depM S f Q[j]!
/-- What the numbers that have a step to the element k of the queue, and lie below i, must have. -/
def SeenM (M : List Nat) (f : Nat) (S : List Int) (Q : List Nat) (L : Int) (k i : Nat) : Prop :=
  ∀ x, x < i → hasM M x Q[k]! = true → (x = f → 1 ≤ L ∧ L ≤ depM S f Q[k]! + 1) ∧ (x ≠ f → (∃ j, j < Q.length ∧ Q[j]! = x) ∧ S[x]! ≤ depM S f Q[k]! + 1)
def NearM (S : List Int) (f : Nat) (Q : List Nat) (k : Nat) : Prop := k < Q.length → ∀ j, j < Q.length → depM S f Q[j]! ≤ depM S f Q[k]! + 1
structure BfsM (M : List Nat) (f : Nat) (S : List Int) (Q : List Nat) (L : Int) (k i : Nat) : Prop where
  far : FarM M f S Q
  low : L = 0 ∨ ∃ j, j ≤ k ∧ j < Q.length ∧ L = depM S f Q[j]! + 1 ∧ hasM M f Q[j]! = true
  kle : k ≤ Q.length
  done : ∀ j, j < k → SeenM M f S Q L j M.length
  near : NearM S f Q k
  part : k < Q.length → SeenM M f S Q L k i
theorem nat_nodup_le : ∀ {l m : List Nat}, l.Nodup → (∀ x ∈ l, x ∈ m) → l.length ≤ m.length := by
  intro l
  induction l with
  | nil => intro m _ _; exact Nat.zero_le _
  | cons a l ih =>
    intro m hn hs
    rw [List.nodup_cons] at hn
    have ha := hs a (by simp)
    have := ih (m := m.erase a) hn.2 fun x hx => (List.mem_erase_of_ne (by rintro rfl; exact hn.1 hx)).2 (hs x (by simp [hx]))
    rw [List.length_erase_of_mem ha] at this
    have hp := List.length_pos_of_mem ha
    rw [List.length_cons]; omega
theorem far_len {M : List Nat} {f : Nat} {S : List Int} {Q : List Nat} (h : FarM M f S Q) : Q.length ≤ M.length := by
  have hn : Q.Nodup := by
    unfold List.Nodup
    rw [List.pairwise_iff_getElem]
    intro i j hi hj hij e
    have := h.qinj i j hi hj (by rw [getElem!_pos Q i hi, getElem!_pos Q j hj]; exact e)
    omega
  have hs : ∀ x ∈ Q, x ∈ List.range M.length := fun x hx => by
    obtain ⟨j, hj, rfl⟩ := List.getElem_of_mem hx
    have := h.qlt j hj
    rw [getElem!_pos Q j hj] at this
    exact List.mem_range.2 this
  have := nat_nodup_le hn hs
  simpa using this
theorem bfs_start {M : List Nat} {f : Nat} (hf : f < M.length) : BfsM M f (List.replicate M.length (-1)) [f] 0 0 0 := by
  have hrep : ∀ i, i < M.length → (List.replicate M.length (-1 : Int))[i]! = -1 := fun i hi => by rw [getElem!_pos _ i (by simpa using hi)]; simp
  refine ⟨⟨by simp, hf, by simp, rfl, fun j hj => ?_, fun i j hi hj _ => ?_, fun i hi hne => .inl ⟨hrep i hi, fun j hj => ?_⟩, fun j hj h0 => ?_, fun i j hij hj => ?_⟩, .inl rfl, by simp, fun j hj => absurd hj (Nat.not_lt_zero _), fun _ j hj => ?_, fun _ x hx => absurd hx (Nat.not_lt_zero _)⟩
  all_goals simp only [List.length_singleton] at *
  · obtain rfl : j = 0 := by omega
    exact hf
  · omega
  · obtain rfl : j = 0 := by omega
    exact fun e => hne e.symm
  · omega
  · obtain rfl : j = 0 := by omega
    obtain rfl : i = 0 := by omega
    exact Int.le_refl _
  · obtain rfl : j = 0 := by omega
    have : depM (List.replicate M.length (-1 : Int)) f ([f] : List Nat)[0]! = 0 := if_pos rfl
    omega
section
variable {M : List Nat} {f : Nat} {S : List Int} {Q : List Nat} {L : Int} {k i : Nat}
theorem low_next (h : L = 0 ∨ ∃ j, j ≤ k ∧ j < Q.length ∧ L = depM S f Q[j]! + 1 ∧ hasM M f Q[j]! = true) : L = 0 ∨ ∃ j, j ≤ k + 1 ∧ j < Q.length ∧ L = depM S f Q[j]! + 1 ∧ hasM M f Q[j]! = true :=
  h.imp id fun ⟨j, h1, h2⟩ => ⟨j, by omega, h2⟩
theorem bfs_next (h : BfsM M f S Q L k M.length) (hk : k < Q.length) : BfsM M f S Q L (k + 1) 0 := by
  refine ⟨h.far, low_next h.low, hk, fun j hj => ?_, fun h1 j hj => ?_, fun _ x hx => absurd hx (Nat.not_lt_zero _)⟩
  · by_cases e : j = k
    · subst e; exact h.part hk
    · exact h.done j (by omega)
  · have a := h.near hk j hj
    have b := h.far.mono k (k + 1) (by omega) h1
    omega
/-- A number with no step to the one at hand. -/
theorem bfs_miss (h : BfsM M f S Q L k i) (hb : hasM M i Q[k]! = false) : BfsM M f S Q L k (i + 1) := by
  refine ⟨h.far, h.low, h.kle, h.done, h.near, fun hk x hx hh => ?_⟩
  by_cases e : x = i
  · subst e; rw [hb] at hh; cases hh
  · exact h.part hk x (by omega) hh
theorem seen_back {L' : Int} (h : SeenM M f S Q L k i) (hL : L = 0 ∨ L' = L) : SeenM M f S Q L' k i := by
  intro x hx hh
  obtain ⟨h1, h2⟩ := h x hx hh
  refine ⟨fun e => ?_, h2⟩
  have := h1 e
  rcases hL with hL | hL
  · omega
  · rw [hL]; exact this
theorem dep_way (h : FarM M f S Q) {k : Nat} (hk : k < Q.length) : ∃ d : Nat, depM S f Q[k]! = (d : Int) ∧ WalkTo M f d Q[k]! ∧ d ≤ k ∧ (0 < k → Q[k]! ≠ f) := by
  by_cases h0 : k = 0
  · subst h0
    refine ⟨0, ?_, h.q0, Nat.le_refl _, fun h => absurd h (Nat.lt_irrefl _)⟩
    unfold depM; rw [if_pos h.q0]; rfl
  · obtain ⟨d, h1, h2, h3⟩ := h.way k hk (by omega)
    have hne : Q[k]! ≠ f := fun e => h0 (h.qinj k 0 hk h.qpos (e.trans h.q0.symm))
    refine ⟨d + 1, ?_, h2, h3, fun _ => hne⟩
    unfold depM; rw [if_neg hne, h1]; rfl
/-- The first number itself. -/
theorem bfs_first (h : BfsM M f S Q L k f) (hk : k < Q.length) (hb : hasM M f Q[k]! = true) : BfsM M f S Q (if L = 0 then depM S f Q[k]! + 1 else L) k (f + 1) := by
  obtain ⟨d, hd, hw, hdk, _⟩ := dep_way h.far hk
  have hL : L = 0 ∨ (if L = 0 then depM S f Q[k]! + 1 else L) = L := by
    by_cases e : L = 0
    · exact .inl e
    · exact .inr (if_neg e)
  refine ⟨h.far, ?_, h.kle, fun j hj => seen_back (h.done j hj) hL, h.near, fun _ x hx hh => ?_⟩
  · by_cases e : L = 0
    · rw [if_pos e]
      exact .inr ⟨k, Nat.le_refl _, hk, rfl, hb⟩
    · rw [if_neg e]; exact h.low
  · by_cases e : x = f
    · subst e
      refine ⟨fun _ => ?_, fun hn => absurd rfl hn⟩
      by_cases e : L = 0
      · rw [if_pos e, hd]; omega
      · rw [if_neg e]
        rcases h.low with h0 | ⟨j, h1, h2, h3, _⟩
        · exact absurd h0 e
        · have := h.far.mono j k h1 hk
          obtain ⟨dj, hdj, _⟩ := dep_way h.far h2
          rw [hdj] at h3 this
          omega
    · exact seen_back (h.part hk) hL x (by omega) hh
/-- A number that was found before. -/
theorem bfs_old (h : BfsM M f S Q L k i) (hk : k < Q.length) (hi : i < M.length) (hf : i ≠ f) (hs : 0 ≤ S[i]!) : BfsM M f S Q L k (i + 1) := by
  refine ⟨h.far, h.low, h.kle, h.done, h.near, fun _ x hx hh => ?_⟩
  by_cases e : x = i
  · subst e
    refine ⟨fun e => absurd e hf, fun _ => ?_⟩
    rcases h.far.seen x hi hf with h0 | ⟨j, hj, e⟩
    · rw [h0.1] at hs; omega
    · refine ⟨⟨j, hj, e⟩, ?_⟩
      have := h.near hk j hj
      have e2 : depM S f Q[j]! = S[x]! := by rw [e]; exact if_neg hf
      rw [← e2]; exact this
  · exact h.part hk x (by omega) hh
/-- A number that is found now. -/
theorem bfs_new (h : BfsM M f S Q L k i) (hk : k < Q.length) (hi : i < M.length) (hf : i ≠ f) (hs : S[i]! < 0) (hb : hasM M i Q[k]! = true) : BfsM M f (S.set i (depM S f Q[k]! + 1)) (Q ++ [i]) L k (i + 1) := by
  obtain ⟨d, hd, hw, hdk, _⟩ := dep_way h.far hk
  have hnot : ∀ j, j < Q.length → Q[j]! ≠ i := by
    rcases h.far.seen i hi hf with h0 | ⟨j, hj, e⟩
    · exact h0.2
    · obtain ⟨dj, hdj, _⟩ := dep_way h.far hj
      have e2 : depM S f Q[j]! = S[i]! := by rw [e]; exact if_neg hf
      omega
  have hat : ∀ j, j < Q.length → (Q ++ [i])[j]! = Q[j]! := fun j hj => by rw [getElem!_pos _ j (by simp; omega), getElem!_pos Q j hj, List.getElem_append_left hj]
  have hend : (Q ++ [i])[Q.length]! = i := by rw [getElem!_pos _ _ (by simp)]; simp
  have hset : (S.set i (depM S f Q[k]! + 1))[i]! = depM S f Q[k]! + 1 := by rw [getElem!_pos _ i (by rw [List.length_set, h.far.len]; exact hi), List.getElem_set_self]
  have hkeep : ∀ x, x ≠ i → (S.set i (depM S f Q[k]! + 1))[x]! = S[x]! := fun x hx => by
    by_cases hl : x < S.length
    · rw [getElem!_pos _ x (by rw [List.length_set]; exact hl), getElem!_pos S x hl, List.getElem_set_ne (fun e => hx e.symm)]
    · rw [getElem!_neg _ x (by rw [List.length_set]; exact hl), getElem!_neg S x hl]
  have hdep : ∀ x, x ≠ i → depM (S.set i (depM S f Q[k]! + 1)) f x = depM S f x := fun x hx => by
    unfold depM
    by_cases e : x = f
    · rw [if_pos e, if_pos e]
    · rw [if_neg e, if_neg e]
      exact hkeep x hx
  have hdq : ∀ j, j < Q.length → depM (S.set i (depM S f Q[k]! + 1)) f (Q ++ [i])[j]! = depM S f Q[j]! := fun j hj => by rw [hat j hj]; exact hdep _ (hnot j hj)
  have hdi : depM (S.set i (depM S f Q[k]! + 1)) f i = depM S f Q[k]! + 1 := by
    have : depM (S.set i (depM S f Q[k]! + 1)) f i = (S.set i (depM S f Q[k]! + 1))[i]! := if_neg hf
    rw [this, hset]
  have hlen : (Q ++ [i]).length = Q.length + 1 := by simp
  have hseen : ∀ j n, j < Q.length → n ≤ M.length → (j = k → n ≤ i) → SeenM M f S Q L j n → SeenM M f (S.set i (depM S f Q[k]! + 1)) (Q ++ [i]) L j n := by
    intro j n hj hn hni hs x hx hh
    rw [hat j hj] at hh
    rw [hdq j hj]
    obtain ⟨g1, g2⟩ := hs x hx hh
    refine ⟨g1, fun hne => ?_⟩
    obtain ⟨⟨j', hj', e'⟩, g3⟩ := g2 hne
    have hxi : x ≠ i := fun e => hnot j' hj' (e'.trans e)
    rw [hkeep x hxi]
    exact ⟨⟨j', by rw [hlen]; omega, by rw [hat j' hj']; exact e'⟩, g3⟩
  refine ⟨⟨by rw [List.length_set]; exact h.far.len, h.far.flt, by rw [hlen]; omega, by rw [hat 0 h.far.qpos]; exact h.far.q0, fun j hj => ?_, fun a b ha hb' e => ?_, fun x hx hne => ?_, fun j hj h0 => ?_, fun a b hab hb' => ?_⟩, ?_, by rw [hlen]; have := h.kle; omega, fun j hj => hseen j _ (by omega) (Nat.le_refl _) (fun e => by omega) (h.done j hj), fun _ j hj => ?_, fun _ x hx hh => ?_⟩
  · rw [hlen] at hj
    by_cases e : j = Q.length
    · subst e; rw [hend]; exact hi
    · rw [hat j (by omega)]; exact h.far.qlt j (by omega)
  · rw [hlen] at ha hb'
    by_cases e1 : a = Q.length
    · by_cases e2 : b = Q.length
      · omega
      · subst e1; rw [hend, hat b (by omega)] at e; exact absurd e.symm (hnot b (by omega))
    · by_cases e2 : b = Q.length
      · subst e2; rw [hend, hat a (by omega)] at e; exact absurd e (hnot a (by omega))
      · rw [hat a (by omega), hat b (by omega)] at e; exact h.far.qinj a b (by omega) (by omega) e
  · by_cases e : x = i
    · subst e; exact .inr ⟨Q.length, by rw [hlen]; omega, hend⟩
    · rcases h.far.seen x hx hne with ⟨g1, g2⟩ | ⟨j, hj, e'⟩
      · refine .inl ⟨by rw [hkeep x e]; exact g1, fun j hj => ?_⟩
        rw [hlen] at hj
        by_cases e1 : j = Q.length
        · subst e1; rw [hend]; exact fun e' => e e'.symm
        · rw [hat j (by omega)]; exact g2 j (by omega)
      · exact .inr ⟨j, by rw [hlen]; omega, by rw [hat j hj]; exact e'⟩
  · rw [hlen] at hj
    by_cases e : j = Q.length
    · subst e
      rw [hend, hset, hd]
      exact ⟨d, rfl, ⟨_, h.far.qlt k hk, hb, hw⟩, by omega⟩
    · rw [hat j (by omega), hkeep _ (hnot j (by omega))]
      exact h.far.way j (by omega) h0
  · rw [hlen] at hb'
    by_cases e2 : b = Q.length
    · subst e2
      rw [hend, hdi]
      by_cases e1 : a = Q.length
      · subst e1; rw [hend, hdi]; exact Int.le_refl _
      · rw [hdq a (by omega)]; exact h.near hk a (by omega)
    · rw [hdq a (by omega), hdq b (by omega)]; exact h.far.mono a b hab (by omega)
  · rcases h.low with h0 | ⟨j, h1, h2, h3, h4⟩
    · exact .inl h0
    · exact .inr ⟨j, h1, by rw [hlen]; omega, by rw [hdq j h2]; exact h3, by rw [hat j h2]; exact h4⟩
  · rw [hlen] at hj
    rw [hdq k hk]
    by_cases e : j = Q.length
    · subst e; rw [hend, hdi]; exact Int.le_refl _
    · rw [hdq j (by omega)]; exact h.near hk j (by omega)
  · by_cases e : x = i
    · subst e
      refine ⟨fun e => absurd e hf, fun _ => ⟨⟨Q.length, by rw [hlen]; omega, hend⟩, ?_⟩⟩
      rw [hset, hdq k hk]; exact Int.le_refl _
    · exact hseen k i hk (by omega) (fun _ => Nat.le_refl _) (h.part hk) x (by omega) hh
/-- What was found in the end is the shortest. -/
theorem bfs_least (h : BfsM M f S Q L Q.length 0) : ∀ d x, WalkTo M f (d + 1) x → (x = f → 1 ≤ L ∧ L ≤ (d : Int) + 1) ∧ (x ≠ f → (∃ j, j < Q.length ∧ Q[j]! = x) ∧ S[x]! ≤ (d : Int) + 1) := by
  have key : ∀ j, j < Q.length → ∀ x, x < M.length → hasM M x Q[j]! = true → (x = f → 1 ≤ L ∧ L ≤ depM S f Q[j]! + 1) ∧ (x ≠ f → (∃ j, j < Q.length ∧ Q[j]! = x) ∧ S[x]! ≤ depM S f Q[j]! + 1) := fun j hj x hx hh => h.done j hj x hx hh
  intro d
  induction d with
  | zero =>
    rintro x ⟨y, hy, hb, rfl⟩
    have hx : x < M.length := path_lt (path_one hy hb)
    have := key 0 h.far.qpos x hx (by rw [h.far.q0]; exact hb)
    rw [h.far.q0, show depM S y y = 0 from if_pos rfl] at this
    exact this
  | succ d ih =>
    rintro x ⟨y, hy, hb, hw⟩
    have hx : x < M.length := path_lt (path_one hy hb)
    obtain ⟨i1, i2⟩ := ih y hw
    by_cases e : y = f
    · have := key 0 h.far.qpos x hx (by rw [h.far.q0, ← e]; exact hb)
      rw [h.far.q0, show depM S f f = 0 from if_pos rfl] at this
      refine ⟨fun e => ?_, fun e => ?_⟩
      · have := this.1 e; omega
      · have := this.2 e; exact ⟨this.1, by omega⟩
    · obtain ⟨⟨j, hj, ej⟩, hS⟩ := i2 e
      have := key j hj x hx (by rw [ej]; exact hb)
      rw [ej, show depM S f y = S[y]! from if_neg e] at this
      refine ⟨fun e => ?_, fun e => ?_⟩
      · have := this.1 e; omega
      · have := this.2 e; exact ⟨this.1, by omega⟩
def LeastM (M : List Nat) (f x d : Nat) : Prop := WalkTo M f (d + 1) x ∧ ∀ e, WalkTo M f (e + 1) x → d ≤ e
theorem least_one {d e x : Nat} (h1 : LeastM M f x d) (h2 : LeastM M f x e) : d = e := Nat.le_antisymm (h1.2 e h2.1) (h2.2 d h1.1)
theorem bfs_dist (h : BfsM M f S Q L Q.length 0) {x : Nat} (hx : x < M.length) (hf : x ≠ f) : (S[x]! = -1 ∧ ¬ PathM M x f) ∨ ∃ d : Nat, S[x]! = (d : Int) + 1 ∧ LeastM M f x d ∧ d + 1 < M.length := by
  rcases h.far.seen x hx hf with ⟨h1, h2⟩ | ⟨j, hj, e⟩
  · refine .inl ⟨h1, fun ⟨d, hw⟩ => ?_⟩
    obtain ⟨⟨j, hj, e⟩, _⟩ := (bfs_least h d x hw).2 hf
    exact h2 j hj e
  · have hj0 : 0 < j := by
      refine Nat.pos_of_ne_zero fun e0 => ?_
      subst e0; rw [h.far.q0] at e; exact hf e.symm
    obtain ⟨d, h1, h2, h3⟩ := h.far.way j hj hj0
    rw [e] at h1 h2
    refine .inr ⟨d, h1, ⟨h2, fun e hw => ?_⟩, ?_⟩
    · have := ((bfs_least h e x hw).2 hf).2
      omega
    · have := far_len h.far; omega
theorem bfs_turn (h : BfsM M f S Q L Q.length 0) (hp : PathM M f f) : ∃ d : Nat, L = (d : Int) + 1 ∧ LeastM M f f d ∧ d < M.length := by
  obtain ⟨e, hw⟩ := hp
  have h0 := ((bfs_least h e f hw).1 rfl).1
  rcases h.low with hl | ⟨j, h1, h2, h3, h4⟩
  · omega
  · obtain ⟨d, hd, hwd, hdj, _⟩ := dep_way h.far h2
    refine ⟨d, by rw [h3, hd], ⟨⟨_, h.far.qlt j h2, h4, hwd⟩, fun e' hw' => ?_⟩, ?_⟩
    · have := ((bfs_least h e' f hw').1 rfl).2
      rw [h3, hd] at this; omega
    · have := far_len h.far; omega
end

/-! ### The way round -/
/-- May the number j come next, behind x, with so many steps left from it? -/
def nextB (M : List Nat) (f : Nat) (S : List Int) (x : Nat) (left : Nat) (j : Nat) : Bool := hasM M x j && ((j != f) && (S[j]! == (left : Int)))
def outTo (M : List Nat) (f : Nat) (S : List Int) (l : Nat) : Nat → List Nat
  | 0 => [f]
  | n + 1 => match (List.range M.length).find? (nextB M f S ((outTo M f S l n).getLastD f) (l - n)) with | some j => outTo M f S l n ++ [j] | none => outTo M f S l n
/-- The next one is there. -/
theorem next_some {M : List Nat} {f : Nat} {S : List Int} {Q : List Nat} {L : Int} (h : BfsM M f S Q L Q.length 0) {l x left : Nat} (hl : LeastM M f f l) (hx : LeastM M f x (left + 1)) (hle : left < l) :
    ∃ j, j < M.length ∧ nextB M f S x (left + 1) j = true ∧ LeastM M f j left := by
  obtain ⟨⟨y, hy, hb, hw⟩, hmin⟩ := hx
  have hyf : y ≠ f := fun e => by
    subst e
    have := hl.2 left hw
    omega
  rcases bfs_dist h hy hyf with ⟨_, h2⟩ | ⟨d, h1, h2, _⟩
  · exact absurd ⟨left, hw⟩ h2
  · have hd : d = left := by
      have a := h2.2 left hw
      have b := hmin (d + 1) ⟨y, hy, hb, h2.1⟩
      omega
    subst hd
    refine ⟨y, hy, ?_, h2⟩
    unfold nextB
    rw [hb, bne_iff_ne.2 hyf, h1]
    simp
theorem next_ok {M : List Nat} {f : Nat} {S : List Int} {Q : List Nat} {L : Int} (h : BfsM M f S Q L Q.length 0) {x left j : Nat} (hj : j < M.length) (hn : nextB M f S x (left + 1) j = true) : LeastM M f j left := by
  unfold nextB at hn
  rw [Bool.and_eq_true, Bool.and_eq_true, bne_iff_ne, beq_iff_eq] at hn
  rcases bfs_dist h hj hn.2.1 with ⟨h1, _⟩ | ⟨d, h1, h2, _⟩
  · rw [h1] at hn; omega
  · have : d = left := by have := hn.2.2; rw [h1] at this; omega
    subst this; exact h2

theorem getLastD_snoc {α : Type} (l : List α) (x d : α) : (l ++ [x]).getLastD d = x := by simp
/-- As long as steps are left there is a next one, and it is as far as it should be. -/
theorem out_last {M : List Nat} {f : Nat} {S : List Int} {Q : List Nat} {L : Int} (h : BfsM M f S Q L Q.length 0) {l : Nat} (hl : LeastM M f f l) : ∀ n, n ≤ l → (outTo M f S l n).length = n + 1 ∧ (outTo M f S l n).getLastD f < M.length ∧ LeastM M f ((outTo M f S l n).getLastD f) (l - n) := by
  intro n
  induction n with
  | zero => intro _; exact ⟨rfl, h.far.flt, hl⟩
  | succ n ih =>
    intro hn
    obtain ⟨h1, h2, h3⟩ := ih (by omega)
    rw [show l - n = (l - (n + 1)) + 1 by omega] at h3
    obtain ⟨j, hj, hb, hd⟩ := next_some h hl h3 (by omega)
    rw [show l - (n + 1) + 1 = l - n by omega] at hb
    cases hf : (List.range M.length).find? (nextB M f S ((outTo M f S l n).getLastD f) (l - n)) with
    | none =>
      have := List.find?_eq_none.1 hf j (List.mem_range.2 hj)
      rw [hb] at this; simp at this
    | some i =>
      have hi := List.mem_range.1 (List.mem_of_find?_eq_some hf)
      have hib := List.find?_some hf
      have e : outTo M f S l (n + 1) = outTo M f S l n ++ [i] := by
        show (match (List.range M.length).find? (nextB M f S ((outTo M f S l n).getLastD f) (l - n)) with | some j => outTo M f S l n ++ [j] | none => outTo M f S l n) = _
        rw [hf]
      rw [e, getLastD_snoc]
      refine ⟨by rw [List.length_append, h1]; rfl, hi, ?_⟩
      rw [show l - n = (l - (n + 1)) + 1 by omega] at hib
      exact next_ok h hi hib
/-- All that was taken leads back. -/
theorem out_path {M : List Nat} {f : Nat} {S : List Int} {Q : List Nat} {L : Int} (h : BfsM M f S Q L Q.length 0) {l : Nat} : ∀ n, n ≤ l → ∀ x ∈ outTo M f S l n, x < M.length ∧ (x = f ∨ PathM M x f) := by
  intro n
  induction n with
  | zero =>
    intro _ x hx
    have : x = f := by simpa [outTo] using hx
    subst this; exact ⟨h.far.flt, .inl rfl⟩
  | succ n ih =>
    intro hn x hx
    cases hf : (List.range M.length).find? (nextB M f S ((outTo M f S l n).getLastD f) (l - n)) with
    | none =>
      have e : outTo M f S l (n + 1) = outTo M f S l n := by
        show (match (List.range M.length).find? (nextB M f S ((outTo M f S l n).getLastD f) (l - n)) with | some j => outTo M f S l n ++ [j] | none => outTo M f S l n) = _
        rw [hf]
      rw [e] at hx
      exact ih (by omega) x hx
    | some i =>
      have e : outTo M f S l (n + 1) = outTo M f S l n ++ [i] := by
        show (match (List.range M.length).find? (nextB M f S ((outTo M f S l n).getLastD f) (l - n)) with | some j => outTo M f S l n ++ [j] | none => outTo M f S l n) = _
        rw [hf]
      rw [e, List.mem_append, List.mem_singleton] at hx
      rcases hx with hx | hx
      · exact ih (by omega) x hx
      · subst hx
        have hi := List.mem_range.1 (List.mem_of_find?_eq_some hf)
        have hib := List.find?_some hf
        rw [show l - n = (l - (n + 1)) + 1 by omega] at hib
        exact ⟨hi, .inr ⟨_, (next_ok h hi hib).1⟩⟩

end Go.Proofs.Ytodkcfebcjgahaa
