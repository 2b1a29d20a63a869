import Derived.Test.YtggofkaakccoeaaBase
/-
  The central checker in plain words: queues of stamps, what is beaten, the conclusion. No program is named here.
-/
namespace Go.Proofs.Ytggofkaakccoeaa
set_option linter.unusedVariables false

structure Ck where
  qs : List (List (List Int))
  ended : List Bool
  done : Bool
  cut : List Int
deriving Inhabited

/-- A number that is none of an event. -/
def outC (x : Int) : Bool := decide (x < 0) || decide (64 < x)
def stampB (v : List Int) (n : Nat) : Bool := decide (v.length = n) && !v.any outC
/-- Each number of w is at least that of v. -/
def leqB (v w : List Int) : Bool := (List.range v.length).all fun i => decide (v[i]! ≤ w[i]!)
def afterB (v w : List Int) (p : Nat) : Bool := leqB v w && decide (v[p]! < w[p]!)
/-- The queue of o beats that of p. -/
def beatsB (qs : List (List (List Int))) (p o : Nat) : Bool :=
  decide (o ≠ p) && (decide (0 < qs[p]!.length) && (decide (0 < qs[o]!.length) && decide (qs[p]![0]![p]! < qs[o]![0]![p]!)))
def beatenAt (qs : List (List (List Int))) (p : Nat) : Bool := (List.range qs.length).any fun o => beatsB qs p o
def beatenL (qs : List (List (List Int))) : Int := firstAt (fun p => beatenAt qs p) (List.range qs.length)
def allB (qs : List (List (List Int))) : Bool := (List.range qs.length).all fun p => decide (0 < qs[p]!.length)
def overB (qs : List (List (List Int))) (ended : List Bool) : Bool := (List.range qs.length).any fun p => decide (qs[p]!.length = 0) && ended[p]!
def cutOf (qs : List (List (List Int))) : List Int := (List.range qs.length).map fun p => qs[p]![0]![p]!
def doneB (qs : List (List (List Int))) (ended : List Bool) : Bool := allB qs || overB qs ended
def cutB (qs : List (List (List Int))) : List Int := if allB qs then cutOf qs else []

def queueB (n p : Nat) (q : List (List Int)) : Bool :=
  decide (q.length ≤ 65) && (List.range q.length).all fun i => stampB q[i]! n && (decide (i = 0) || afterB q[i - 1]! q[i]! p)
/-- The queues are in order. -/
def formB (s : Ck) : Bool :=
  decide (1 ≤ s.qs.length) && (decide (s.qs.length ≤ 8) && (decide (s.ended.length = s.qs.length) && (List.range s.qs.length).all fun p => queueB s.qs.length p s.qs[p]!))
def validC (s : Ck) : Bool := formB s && (decide (beatenL s.qs < 0) && (decide (doneB s.qs s.ended = s.done) && decide (cutB s.qs = s.cut)))

/-! ### First places -/
theorem firstAt_lt {α : Type} (p : α → Bool) (l : List α) : -1 ≤ firstAt p l ∧ firstAt p l < l.length := by
  unfold firstAt
  cases h : l.findIdx? p with
  | some i => have := (List.findIdx?_eq_some_iff_getElem.1 h).1; simp only; omega
  | none => simp only; omega
theorem firstAt_some {α : Type} [Inhabited α] (p : α → Bool) (l : List α) (k : Nat) (h : firstAt p l = k) : k < l.length ∧ p l[k]! = true ∧ ∀ j, j < k → p l[j]! = false := by
  unfold firstAt at h
  cases hf : l.findIdx? p with
  | none => rw [hf] at h; simp only at h; omega
  | some i =>
    rw [hf] at h
    simp only at h
    obtain rfl : i = k := by omega
    obtain ⟨hi, hp, hn⟩ := List.findIdx?_eq_some_iff_getElem.1 hf
    refine ⟨hi, by rwa [getElem!_pos l i hi], fun j hj => ?_⟩
    have := hn j hj
    rw [getElem!_pos l j (by omega)]
    simpa using this
theorem firstAt_neg {α : Type} [Inhabited α] (p : α → Bool) (l : List α) (h : firstAt p l < 0) : ∀ j, j < l.length → p l[j]! = false := by
  intro j hj
  have := firstAt_any p l
  rw [decide_eq_false (by omega)] at this
  have := List.any_eq_false.1 this.symm _ (mem_at l j hj)
  simpa using this
theorem range_at (n k : Nat) (h : k < n) : (List.range n)[k]! = k := by rw [getElem!_pos _ k (by simpa using h)]; simp
theorem range_all (n : Nat) (p : Nat → Bool) : (List.range n).all p = true ↔ ∀ i, i < n → p i = true := by
  simp [List.all_eq_true]
theorem range_any (n : Nat) (p : Nat → Bool) : (List.range n).any p = true ↔ ∃ i, i < n ∧ p i = true := by
  simp [List.any_eq_true]
theorem range_any_false (n : Nat) (p : Nat → Bool) : (List.range n).any p = false ↔ ∀ i, i < n → p i = false := by
  simp [List.any_eq_false]
theorem beaten_none (qs : List (List (List Int))) (h : beatenL qs < 0) : ∀ p, p < qs.length → beatenAt qs p = false := by
  intro p hp
  have := firstAt_neg _ _ h p (by simpa using hp)
  rwa [range_at _ _ hp] at this
theorem beaten_some (qs : List (List (List Int))) (p : Nat) (h : beatenL qs = p) : p < qs.length ∧ beatenAt qs p = true ∧ ∀ j, j < p → beatenAt qs j = false := by
  obtain ⟨h1, h2, h3⟩ := firstAt_some _ _ p h
  rw [List.length_range] at h1
  rw [range_at _ _ h1] at h2
  exact ⟨h1, h2, fun j hj => by have := h3 j hj; rwa [range_at _ _ (by omega)] at this⟩
theorem beaten_hit (qs : List (List (List Int))) (p : Nat) (hp : p < qs.length) (h : beatenAt qs p = true) (hn : ∀ j, j < p → beatenAt qs j = false) : beatenL qs = p :=
  firstAt_hit _ _ p (by simpa using hp) (by rwa [range_at _ _ hp]) (fun j hj => by rw [range_at _ _ (by omega)]; exact hn j hj)
theorem beaten_miss (qs : List (List (List Int))) (hn : ∀ j, j < qs.length → beatenAt qs j = false) : beatenL qs = -1 :=
  firstAt_miss _ _ (fun j hj => by rw [List.length_range] at hj; rw [range_at _ _ hj]; exact hn j hj)

/-! ### Reducing -/
def total (qs : List (List (List Int))) : Nat := (qs.map List.length).sum
def dropAt (qs : List (List (List Int))) (p : Nat) : List (List (List Int)) := qs.set p (qs[p]!.drop 1)
def reduceF : Nat → List (List (List Int)) → List (List (List Int))
  | 0, qs => qs
  | k + 1, qs => if beatenL qs < 0 then qs else reduceF k (dropAt qs (beatenL qs).toNat)
def reduceL (qs : List (List (List Int))) : List (List (List Int)) := reduceF (total qs) qs

theorem drop_len (qs : List (List (List Int))) (p : Nat) : (dropAt qs p).length = qs.length := by simp [dropAt]
theorem sum_set (l : List Nat) (p x : Nat) (hp : p < l.length) : (l.set p x).sum + l[p]! = l.sum + x := by
  induction l generalizing p with
  | nil => simp at hp
  | cons y l ih =>
    cases p with
    | zero => simp; omega
    | succ p =>
      have := ih p (by simpa using hp)
      simp only [List.set_cons_succ, List.sum_cons, List.getElem!_cons_succ] at this ⊢
      omega
theorem total_drop (qs : List (List (List Int))) (p : Nat) (hp : p < qs.length) (h : 0 < qs[p]!.length) : total (dropAt qs p) + 1 = total qs := by
  unfold total dropAt
  rw [List.map_set]
  have := sum_set (qs.map List.length) p ((qs[p]!.drop 1).length) (by simpa using hp)
  rw [getElem!_pos (qs.map List.length) p (by simpa using hp), List.getElem_map, ← getElem!_pos qs p hp, List.length_drop] at this
  rw [List.length_drop]
  omega
theorem beaten_pos (qs : List (List (List Int))) (p : Nat) (h : beatenAt qs p = true) : 0 < qs[p]!.length := by
  obtain ⟨o, _, h⟩ := (range_any _ _).1 h
  simp only [beatsB, Bool.and_eq_true, decide_eq_true_eq] at h
  exact h.2.1
theorem reduceF_enough : ∀ (k m : Nat) (qs : List (List (List Int))), total qs ≤ k → total qs ≤ m → reduceF k qs = reduceF m qs := by
  intro k
  induction k with
  | zero =>
    intro m qs hk hm
    have hb : beatenL qs < 0 := by
      rcases Classical.em (beatenL qs < 0) with h | h
      · exact h
      · obtain ⟨h1, h2, _⟩ := beaten_some qs (beatenL qs).toNat (by omega)
        have := total_drop qs _ h1 (beaten_pos _ _ h2)
        omega
    cases m with
    | zero => rfl
    | succ m => simp [reduceF, hb]
  | succ k ih =>
    intro m qs hk hm
    by_cases hb : beatenL qs < 0
    · cases m <;> simp [reduceF, hb]
    · obtain ⟨h1, h2, _⟩ := beaten_some qs (beatenL qs).toNat (by omega)
      have h3 := total_drop qs _ h1 (beaten_pos _ _ h2)
      cases m with
      | zero => omega
      | succ m =>
        simp only [reduceF, if_neg hb]
        exact ih m _ (by omega) (by omega)
theorem reduce_done (qs : List (List (List Int))) (h : beatenL qs < 0) : reduceL qs = qs := by
  unfold reduceL
  cases total qs <;> simp [reduceF, h]
theorem reduce_step (qs : List (List (List Int))) (p : Nat) (h : beatenL qs = p) : reduceL qs = reduceL (dropAt qs p) := by
  obtain ⟨h1, h2, _⟩ := beaten_some qs p h
  have h3 := total_drop qs _ h1 (beaten_pos _ _ h2)
  unfold reduceL
  rw [← h3]
  simp only [reduceF]
  rw [if_neg (by omega), h, Int.toNat_natCast]

/-- What holds of the queues and is kept by taking one's first stamp away holds of the reduced ones. -/
theorem reduce_keeps (P : List (List (List Int)) → Prop) (hs : ∀ qs p, P qs → p < qs.length → beatenAt qs p = true → P (dropAt qs p)) (qs : List (List (List Int))) (h : P qs) : P (reduceL qs) ∧ beatenL (reduceL qs) < 0 := by
  have key : ∀ k qs, total qs ≤ k → P qs → P (reduceL qs) ∧ beatenL (reduceL qs) < 0 := by
    intro k
    induction k with
    | zero =>
      intro qs hk h
      rcases Classical.em (beatenL qs < 0) with hb | hb
      · rw [reduce_done qs hb]; exact ⟨h, hb⟩
      · obtain ⟨h1, h2, _⟩ := beaten_some qs (beatenL qs).toNat (by omega)
        have := total_drop qs _ h1 (beaten_pos _ _ h2)
        omega
    | succ k ih =>
      intro qs hk h
      rcases Classical.em (beatenL qs < 0) with hb | hb
      · rw [reduce_done qs hb]; exact ⟨h, hb⟩
      · obtain ⟨h1, h2, _⟩ := beaten_some qs (beatenL qs).toNat (by omega)
        have h3 := total_drop qs _ h1 (beaten_pos _ _ h2)
        rw [reduce_step qs (beatenL qs).toNat (by omega)]
        exact ih _ (by omega) (hs qs _ h h1 h2)
  exact key _ qs (Nat.le_refl _) h

def concludeC (qs : List (List (List Int))) (ended : List Bool) : Ck := ⟨qs, ended, doneB qs ended, cutB qs⟩

/-- The error of a put. -/
def putErr (s : Ck) (p : Int) (v : List Int) : Int :=
  if !validC s then 1
  else if p < 0 ∨ (s.qs.length : Int) ≤ p ∨ stampB v s.qs.length = false then 2
  else if s.done = true ∨ s.ended[p.toNat]! = true then 6
  else if 0 < s.qs[p.toNat]!.length ∧ afterB s.qs[p.toNat]![s.qs[p.toNat]!.length - 1]! v p.toNat = false then 11
  else if 65 ≤ s.qs[p.toNat]!.length then 5
  else 0
def putQs (s : Ck) (p : Nat) (v : List Int) : List (List (List Int)) := s.qs.set p (s.qs[p]! ++ [v])
def putC (s : Ck) (p : Nat) (v : List Int) : Ck := concludeC (reduceL (putQs s p v)) s.ended
def endC (s : Ck) (p : Nat) : Ck := concludeC s.qs (s.ended.set p true)

end Go.Proofs.Ytggofkaakccoeaa

/-
  What the central checker forgets is not needed: plain law. No program is named here.
-/
namespace Go.Proofs.Ytggofkaakccoeaa
set_option linter.unusedVariables false

theorem set_at {α : Type} [Inhabited α] (l : List α) (p q : Nat) (x : α) (hp : p < l.length) : (l.set p x)[q]! = if q = p then x else l[q]! := by
  by_cases h : q = p
  · subst h
    rw [if_pos rfl, getElem!_pos _ q (by simpa using hp), List.getElem_set_self]
  · rw [if_neg h]
    by_cases hq : q < l.length
    · rw [getElem!_pos _ q (by simpa using hq), List.getElem_set_ne (fun e => h e.symm), ← getElem!_pos l q hq]
    · rw [getElem!_neg _ q (by simpa using hq), getElem!_neg _ q (by simpa using hq)]
theorem drop_at {α : Type} [Inhabited α] (l : List α) (k i : Nat) (h : k + i < l.length) : (l.drop k)[i]! = l[k + i]! := by
  rw [getElem!_pos _ i (by rw [List.length_drop]; omega), getElem!_pos l (k + i) h, List.getElem_drop]
theorem snoc_at {α : Type} [Inhabited α] (l : List α) (x : α) (i : Nat) (h : i ≤ l.length) : (l ++ [x])[i]! = if i = l.length then x else l[i]! := by
  by_cases hi : i = l.length
  · subst hi
    rw [if_pos rfl, getElem!_pos _ _ (by simp), List.getElem_append_right (Nat.le_refl _)]
    simp
  · rw [if_neg hi, getElem!_pos _ i (by simp; omega), getElem!_pos l i (by omega), List.getElem_append_left (by omega)]

theorem queue_parts {n p : Nat} {q : List (List Int)} : queueB n p q = true ↔ q.length ≤ 65 ∧ ∀ i, i < q.length → stampB q[i]! n = true ∧ (i = 0 ∨ afterB q[i - 1]! q[i]! p = true) := by
  simp only [queueB, Bool.and_eq_true, decide_eq_true_eq, range_all, Bool.or_eq_true]
theorem queue_drop {n p : Nat} {q : List (List Int)} (h : queueB n p q = true) : queueB n p (q.drop 1) = true := by
  obtain ⟨h1, h2⟩ := queue_parts.1 h
  refine queue_parts.2 ⟨by rw [List.length_drop]; omega, fun i hi => ?_⟩
  rw [List.length_drop] at hi
  obtain ⟨g1, g2⟩ := h2 (1 + i) (by omega)
  rw [drop_at q 1 i (by omega)]
  refine ⟨g1, ?_⟩
  by_cases h0 : i = 0
  · exact .inl h0
  · right
    rw [drop_at q 1 (i - 1) (by omega), show 1 + (i - 1) = 1 + i - 1 from by omega]
    exact g2.resolve_left (by omega)
theorem queue_snoc {n p : Nat} {q : List (List Int)} {v : List Int} (h : queueB n p q = true) (hl : q.length < 65) (hv : stampB v n = true) (ha : q.length = 0 ∨ afterB q[q.length - 1]! v p = true) : queueB n p (q ++ [v]) = true := by
  obtain ⟨h1, h2⟩ := queue_parts.1 h
  refine queue_parts.2 ⟨by simp; omega, fun i hi => ?_⟩
  rw [List.length_append, List.length_singleton] at hi
  rw [snoc_at q v i (by omega)]
  by_cases e : i = q.length
  · subst e
    rw [if_pos rfl]
    refine ⟨hv, ?_⟩
    by_cases h0 : q.length = 0
    · exact .inl h0
    · rw [snoc_at q v _ (by omega), if_neg (by omega)]
      exact ha
  · rw [if_neg e]
    obtain ⟨g1, g2⟩ := h2 i (by omega)
    refine ⟨g1, g2.imp id fun h => ?_⟩
    by_cases h0 : i = 0
    · subst h0; rw [snoc_at q v (0 - 1) (by omega), if_neg (by omega)]; exact h
    · rw [snoc_at q v (i - 1) (by omega), if_neg (by omega)]; exact h

theorem form_parts {s : Ck} : formB s = true ↔ 1 ≤ s.qs.length ∧ s.qs.length ≤ 8 ∧ s.ended.length = s.qs.length ∧ ∀ p, p < s.qs.length → queueB s.qs.length p s.qs[p]! = true := by
  simp only [formB, Bool.and_eq_true, decide_eq_true_eq, range_all]
theorem valid_parts {s : Ck} : validC s = true ↔ formB s = true ∧ beatenL s.qs < 0 ∧ doneB s.qs s.ended = s.done ∧ cutB s.qs = s.cut := by
  simp only [validC, Bool.and_eq_true, decide_eq_true_eq]

theorem put_parts {s : Ck} {p : Int} {v : List Int} (h : putErr s p v = 0) : validC s = true ∧ 0 ≤ p ∧ p < s.qs.length ∧ stampB v s.qs.length = true ∧ s.done = false ∧ s.ended[p.toNat]! = false ∧ (s.qs[p.toNat]!.length = 0 ∨ afterB s.qs[p.toNat]![s.qs[p.toNat]!.length - 1]! v p.toNat = true) ∧ s.qs[p.toNat]!.length < 65 := by
  unfold putErr at h
  split at h
  · simp at h
  · split at h
    · simp at h
    · split at h
      · simp at h
      · split at h
        · simp at h
        · split at h
          · simp at h
          · rename_i h1 h2 h3 h4 h5
            simp only [not_or, not_and, Bool.not_eq_true, Bool.not_eq_false'] at h1 h2 h3 h4
            refine ⟨by simpa using h1, by omega, by omega, by simpa using h2.2.2, h3.1, h3.2, ?_, by omega⟩
            rcases Nat.eq_zero_or_pos s.qs[p.toNat]!.length with h0 | h0
            · exact .inl h0
            · exact .inr (by simpa using h4 h0)

section
variable {s : Ck} {p : Nat} {v : List Int} (h : putErr s p v = 0)
include h

theorem put_form : ∀ q, q < s.qs.length → queueB s.qs.length q (putQs s p v)[q]! = true := by
  obtain ⟨h1, h2, h3, h4, h5, h6, h7, h8⟩ := put_parts h
  obtain ⟨g1, g2, g3, g4⟩ := form_parts.1 (valid_parts.1 h1).1
  simp only [Int.toNat_natCast] at h6 h7 h8
  intro q hq
  unfold putQs
  rw [set_at _ _ _ _ (by omega)]
  split
  · rename_i e
    subst e
    exact queue_snoc (g4 q hq) h8 h4 h7
  · exact g4 q hq

/-- The queue of q, with what is put. -/
def allQ (s : Ck) (p : Nat) (v : List Int) (q : Nat) : List (List Int) := if q = p then s.qs[q]! ++ [v] else s.qs[q]!

theorem put_keeps : (reduceL (putQs s p v)).length = s.qs.length ∧ (∀ q, q < s.qs.length → queueB s.qs.length q (reduceL (putQs s p v))[q]! = true) ∧
    (∀ q, q < s.qs.length → ∃ k, k ≤ (allQ s p v q).length ∧ (reduceL (putQs s p v))[q]! = (allQ s p v q).drop k) ∧ total (reduceL (putQs s p v)) ≤ total s.qs + 1 ∧ beatenL (reduceL (putQs s p v)) < 0 := by
  have hf := put_form h
  obtain ⟨h1, h2, h3, h4, h5, h6, h7, h8⟩ := put_parts h
  have hp : p < s.qs.length := by omega
  have ht : total (putQs s p v) = total s.qs + 1 := by
    unfold total putQs
    rw [List.map_set]
    have := sum_set (s.qs.map List.length) p ((s.qs[p]! ++ [v]).length) (by simpa using hp)
    rw [getElem!_pos (s.qs.map List.length) p (by simpa using hp), List.getElem_map, ← getElem!_pos s.qs p hp, List.length_append, List.length_singleton] at this
    rw [List.length_append, List.length_singleton]
    omega
  have hl : (putQs s p v).length = s.qs.length := by simp [putQs]
  have key := reduce_keeps (fun qs => qs.length = s.qs.length ∧ (∀ q, q < s.qs.length → queueB s.qs.length q qs[q]! = true) ∧ (∀ q, q < s.qs.length → ∃ k, k ≤ (allQ s p v q).length ∧ qs[q]! = (allQ s p v q).drop k) ∧ total qs ≤ total s.qs + 1) ?_ (putQs s p v) ⟨hl, hf, ?_, by omega⟩
  · exact ⟨key.1.1, key.1.2.1, key.1.2.2.1, key.1.2.2.2, key.2⟩
  · rintro qs b ⟨k1, k2, k3, k4⟩ hb hbt
    refine ⟨by rw [drop_len]; exact k1, fun q hq => ?_, fun q hq => ?_, by have := total_drop qs b hb (beaten_pos _ _ hbt); omega⟩
    · unfold dropAt
      rw [set_at _ _ _ _ hb]
      split
      · rename_i e; subst e; exact queue_drop (k2 q hq)
      · exact k2 q hq
    · unfold dropAt
      rw [set_at _ _ _ _ hb]
      obtain ⟨k, g1, g2⟩ := k3 q hq
      split
      · rename_i e
        subst e
        have := beaten_pos _ _ hbt
        rw [g2, List.length_drop] at this
        exact ⟨k + 1, by omega, by rw [g2, List.drop_drop]⟩
      · exact ⟨k, g1, g2⟩
  · intro q hq
    refine ⟨0, Nat.zero_le _, ?_⟩
    unfold putQs allQ
    rw [set_at _ _ _ _ hp, List.drop_zero]
    split
    · rename_i e; subst e; rfl
    · rfl

theorem put_valid : validC (putC s p v) = true := by
  obtain ⟨k1, k2, k3, k4, k5⟩ := put_keeps h
  obtain ⟨h1, _⟩ := put_parts h
  obtain ⟨g1, g2, g3, g4⟩ := form_parts.1 (valid_parts.1 h1).1
  refine valid_parts.2 ⟨form_parts.2 ⟨?_, ?_, ?_, ?_⟩, k5, rfl, rfl⟩
  · show 1 ≤ (reduceL (putQs s p v)).length; omega
  · show (reduceL (putQs s p v)).length ≤ 8; omega
  · show s.ended.length = (reduceL (putQs s p v)).length; omega
  · show ∀ q, q < (reduceL (putQs s p v)).length → queueB (reduceL (putQs s p v)).length q (reduceL (putQs s p v))[q]! = true
    rw [k1]; exact k2
end

/-- The found cut is at least every stamp of its candidates. -/
theorem cut_over {s : Ck} (h : validC s = true) (hc : s.cut ≠ []) : s.done = true ∧ s.cut.length = s.qs.length ∧ ∀ q, q < s.qs.length → 0 < s.qs[q]!.length ∧ leqB s.qs[q]![0]! s.cut = true := by
  obtain ⟨h1, h2, h3, h4⟩ := valid_parts.1 h
  obtain ⟨g1, g2, g3, g4⟩ := form_parts.1 h1
  have ha : allB s.qs = true := by
    cases ha : allB s.qs with
    | true => rfl
    | false => rw [← h4] at hc; simp [cutB, ha] at hc
  have hcut : s.cut = cutOf s.qs := by rw [← h4, cutB, ha]; rfl
  have hall := (range_all _ _).1 ha
  refine ⟨by rw [← h3, doneB, ha]; rfl, by rw [hcut]; simp [cutOf], fun q hq => ?_⟩
  have hq0 := hall q hq
  rw [decide_eq_true_eq] at hq0
  refine ⟨hq0, (range_all _ _).2 fun i hi => ?_⟩
  obtain ⟨_, g5⟩ := queue_parts.1 (g4 q hq)
  have hst := (g5 0 hq0).1
  simp only [stampB, Bool.and_eq_true, decide_eq_true_eq] at hst
  rw [hst.1] at hi
  have hi0 := hall i hi
  rw [decide_eq_true_eq] at hi0
  have hci : s.cut[i]! = s.qs[i]![0]![i]! := by
    rw [hcut, getElem!_pos _ i (by simp [cutOf]; exact hi)]
    simp [cutOf]
  rw [hci, decide_eq_true_eq]
  by_cases e : q = i
  · subst e; exact Int.le_refl _
  have hb := (range_any_false _ _).1 (beaten_none s.qs h2 i hi) q hq
  simp only [beatsB, Bool.and_eq_false_iff, decide_eq_false_iff_not] at hb
  rcases hb with hb | hb | hb | hb
  · exact absurd e hb
  · exact absurd hi0 hb
  · exact absurd hq0 hb
  · omega
theorem cut_none {s : Ck} (h : validC s = true) (hd : s.done = false) : s.cut = [] := by
  obtain ⟨h1, h2, h3, h4⟩ := valid_parts.1 h
  rw [hd, doneB, Bool.or_eq_false_iff] at h3
  rw [← h4, cutB, h3.1]
  rfl

end Go.Proofs.Ytggofkaakccoeaa
