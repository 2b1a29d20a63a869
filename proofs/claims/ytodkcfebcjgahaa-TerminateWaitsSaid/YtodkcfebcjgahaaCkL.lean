/-
  The central checker in plain words: queues of stamps, what is beaten, the conclusion. No program is named here.
-/
import Derived.Test.YtodkcfebcjgahaaBase
namespace Go.Proofs.Ytodkcfebcjgahaa
set_option linter.unusedVariables false

structure Ck where
  qs : List (List (List Int))
  ended : List Bool
  done : Bool
  cut : List Int
deriving Inhabited

/-- A number that is none of an event. -/
def outC (x : Int) : Bool := decide (x < 0) || decide (64 < x)
def stampB (v : List Int) (n : Nat) : Bool := decide (v.length = n) && !v.any outC
/-- Each number of w is at least that of v. -/
def leqB (v w : List Int) : Bool := (List.range v.length).all fun i => decide (v[i]! ≤ w[i]!)
def afterB (v w : List Int) (p : Nat) : Bool := leqB v w && decide (v[p]! < w[p]!)
/-- The queue of o beats that of p. -/
def beatsB (qs : List (List (List Int))) (p o : Nat) : Bool :=
  decide (o ≠ p) && (decide (0 < qs[p]!.length) && (decide (0 < qs[o]!.length) && decide (qs[p]![0]![p]! < qs[o]![0]![p]!)))
def beatenAt (qs : List (List (List Int))) (p : Nat) : Bool := (List.range qs.length).any fun o => beatsB qs p o
def beatenL (qs : List (List (List Int))) : Int := firstAt (fun p => beatenAt qs p) (List.range qs.length)
def allB (qs : List (List (List Int))) : Bool := (List.range qs.length).all fun p => decide (0 < qs[p]!.length)
def overB (qs : List (List (List Int))) (ended : List Bool) : Bool := (List.range qs.length).any fun p => decide (qs[p]!.length = 0) && ended[p]!
def cutOf (qs : List (List (List Int))) : List Int := (List.range qs.length).map fun p => qs[p]![0]![p]!
def doneB (qs : List (List (List Int))) (ended : List Bool) : Bool := allB qs || overB qs ended
def cutB (qs : List (List (List Int))) : List Int := if allB qs then cutOf qs else []

def queueB (n p : Nat) (q : List (List Int)) : Bool :=
  decide (q.length ≤ 65) && (List.range q.length).all fun i => stampB q[i]! n && (decide (i = 0) || afterB q[i - 1]! q[i]! p)
/-- The queues are in order. -/
def formB (s : Ck) : Bool :=
  decide (1 ≤ s.qs.length) && (decide (s.qs.length ≤ 8) && (decide (s.ended.length = s.qs.length) && (List.range s.qs.length).all fun p => queueB s.qs.length p s.qs[p]!))
def validC (s : Ck) : Bool := formB s && (decide (beatenL s.qs < 0) && (decide (doneB s.qs s.ended = s.done) && decide (cutB s.qs = s.cut)))

/-! ### First places -/
theorem firstAt_lt {α : Type} (p : α → Bool) (l : List α) : -1 ≤ firstAt p l ∧ firstAt p l < l.length := by
  unfold firstAt
  cases h : l.findIdx? p with
  | some i => have := (List.findIdx?_eq_some_iff_getElem.1 h).1; simp only; omega
  | none => simp only; omega
theorem firstAt_some {α : Type} [Inhabited α] (p : α → Bool) (l : List α) (k : Nat) (h : firstAt p l = k) : k < l.length ∧ p l[k]! = true ∧ ∀ j, j < k → p l[j]! = false := by
  unfold firstAt at h
  cases hf : l.findIdx? p with
  | none => rw [hf] at h; simp only at h; omega
  | some i =>
    rw [hf] at h
    simp only at h
    obtain rfl : i = k := by omega
    obtain ⟨hi, hp, hn⟩ := List.findIdx?_eq_some_iff_getElem.1 hf
    refine ⟨hi, by rwa [getElem!_pos l i hi], fun j hj => ?_⟩
    have := hn j hj
    rw [getElem!_pos l j (by omega)]
    simpa using this
theorem firstAt_neg {α : Type} [Inhabited α] (p : α → Bool) (l : List α) (h : firstAt p l < 0) : ∀ j, j < l.length → p l[j]! = false := by
  intro j hj
  have := firstAt_any p l
  rw [decide_eq_false (by omega)] at this
  have := List.any_eq_false.1 this.symm _ (mem_at l j hj)
  simpa using this
theorem range_at (n k : Nat) (h : k < n) : (List.range n)[k]! = k := by rw [getElem!_pos _ k (by simpa using h)]; simp
theorem range_all (n : Nat) (p : Nat → Bool) : (List.range n).all p = true ↔ ∀ i, i < n → p i = true := by
  simp [List.all_eq_true]
theorem range_any (n : Nat) (p : Nat → Bool) : (List.range n).any p = true ↔ ∃ i, i < n ∧ p i = true := by
  simp [List.any_eq_true]
theorem range_any_false (n : Nat) (p : Nat → Bool) : (List.range n).any p = false ↔ ∀ i, i < n → p i = false := by
  simp [List.any_eq_false]
theorem beaten_none (qs : List (List (List Int))) (h : beatenL qs < 0) : ∀ p, p < qs.length → beatenAt qs p = false := by
  intro p hp
  have := firstAt_neg _ _ h p (by simpa using hp)
  rwa [range_at _ _ hp] at this
theorem beaten_some (qs : List (List (List Int))) (p : Nat) (h : beatenL qs = p) : p < qs.length ∧ beatenAt qs p = true ∧ ∀ j, j < p → beatenAt qs j = false := by
  obtain ⟨h1, h2, h3⟩ := firstAt_some _ _ p h
  rw [List.length_range] at h1
  rw [range_at _ _ h1] at h2
  exact ⟨h1, h2, fun j hj => by have := h3 j hj; rwa [range_at _ _ (by omega)] at this⟩
theorem beaten_hit (qs : List (List (List Int))) (p : Nat) (hp : p < qs.length) (h : beatenAt qs p = true) (hn : ∀ j, j < p → beatenAt qs j = false) : beatenL qs = p :=
  firstAt_hit _ _ p (by simpa using hp) (by rwa [range_at _ _ hp]) (fun j hj => by rw [range_at _ _ (by omega)]; exact hn j hj)
theorem beaten_miss (qs : List (List (List Int))) (hn : ∀ j, j < qs.length → beatenAt qs j = false) : beatenL qs = -1 :=
  firstAt_miss _ _ (fun j hj => by rw [List.length_range] at hj; rw [range_at _ _ hj]; exact hn j hj)

/-! ### Reducing -/
def total (qs : List (List (List Int))) : Nat := (qs.map List.length).sum
def dropAt (qs : List (List (List Int))) (p : Nat) : List (List (List Int)) := qs.set p (qs[p]!.drop 1)
def reduceF : Nat → List (List (List Int)) → List (List (List Int))
  | 0, qs => qs
  | k + 1, qs => if beatenL qs < 0 then qs else reduceF k (dropAt qs (beatenL qs).toNat)
def reduceL (qs : List (List (List Int))) : List (List (List Int)) := reduceF (total qs) qs

theorem drop_len (qs : List (List (List Int))) (p : Nat) : (dropAt qs p).length = qs.length := by simp [dropAt]
theorem sum_set (l : List Nat) (p x : Nat) (hp : p < l.length) : (l.set p x).sum + l[p]! = l.sum + x := by
  induction l generalizing p with
  | nil => simp at hp
  | cons y l ih =>
    cases p with
    | zero => simp; omega
    | succ p =>
      have := ih p (by simpa using hp)
      simp only [List.set_cons_succ, List.sum_cons, List.getElem!_cons_succ] at this ⊢
      omega
theorem total_drop (qs : List (List (List Int))) (p : Nat) (hp : p < qs.length) (h : 0 < qs[p]!.length) : total (dropAt qs p) + 1 = total qs := by
  unfold total dropAt
  rw [List.map_set]
  have := sum_set (qs.map List.length) p ((qs[p]!.drop 1).length) (by simpa using hp)
  rw [getElem!_pos (qs.map List.length) p (by simpa using hp), List.getElem_map, ← getElem!_pos qs p hp, List.length_drop] at this
  rw [List.length_drop]
  omega
theorem beaten_pos (qs : List (List (List Int))) (p : Nat) (h : beatenAt qs p = true) : 0 < qs[p]!.length := by
  obtain ⟨o, _, h⟩ := (range_any _ _).1 h
  simp only [beatsB, Bool.and_eq_true, decide_eq_true_eq] at h
  exact h.2.1
theorem reduceF_enough : ∀ (k m : Nat) (qs : List (List (List Int))), total qs ≤ k → total qs ≤ m → reduceF k qs = reduceF m qs := by
  intro k
  induction k with
  | zero =>
    intro m qs hk hm
    have hb : beatenL qs < 0 := by
      rcases Classical.em (beatenL qs < 0) with h | h
      · exact h
      · obtain ⟨h1, h2, _⟩ := beaten_some qs (beatenL qs).toNat (by omega)
        have := total_drop qs _ h1 (beaten_pos _ _ h2)
        omega
    cases m with
    | zero => rfl
    | succ m => simp [reduceF, hb]
  | succ k ih =>
    intro m qs hk hm
    by_cases hb : beatenL qs < 0
    · cases m <;> simp [reduceF, hb]
    · obtain ⟨h1, h2, _⟩ := beaten_some qs (beatenL qs).toNat (by omega)
      have h3 := total_drop qs _ h1 (beaten_pos _ _ h2)
      cases m with
      | zero => omega
      | succ m =>
        simp only [reduceF, if_neg hb]
        exact ih m _ (by omega) (by omega)
theorem reduce_done (qs : List (List (List Int))) (h : beatenL qs < 0) : reduceL qs = qs := by
  unfold reduceL
  cases total qs <;> simp [reduceF, h]
theorem reduce_step (qs : List (List (List Int))) (p : Nat) (h : beatenL qs = p) : reduceL qs = reduceL (dropAt qs p) := by
  obtain ⟨h1, h2, _⟩ := beaten_some qs p h
  have h3 := total_drop qs _ h1 (beaten_pos _ _ h2)
  unfold reduceL
  rw [← h3]
  simp only [reduceF]
  rw [if_neg (by omega), h, Int.toNat_natCast]

/-- What holds of the queues and is kept by taking one's first stamp away holds of the reduced ones. -/
theorem reduce_keeps (P : List (List (List Int)) → Prop) (hs : ∀ qs p, P qs → p < qs.length → beatenAt qs p = true → P (dropAt qs p)) (qs : List (List (List Int))) (h : P qs) : P (reduceL qs) ∧ beatenL (reduceL qs) < 0 := by
  have key : ∀ k qs, total qs ≤ k → P qs → P (reduceL qs) ∧ beatenL (reduceL qs) < 0 := by
    intro k
    induction k with
    | zero =>
      intro qs hk h
      rcases Classical.em (beatenL qs < 0) with hb | hb
      · rw [reduce_done qs hb]; exact ⟨h, hb⟩
      · obtain ⟨h1, h2, _⟩ := beaten_some qs (beatenL qs).toNat (by omega)
        have := total_drop qs _ h1 (beaten_pos _ _ h2)
        omega
    | succ k ih =>
      intro qs hk h
      rcases Classical.em (beatenL qs < 0) with hb | hb
      · rw [reduce_done qs hb]; exact ⟨h, hb⟩
      · obtain ⟨h1, h2, _⟩ := beaten_some qs (beatenL qs).toNat (by omega)
        have h3 := total_drop qs _ h1 (beaten_pos _ _ h2)
        rw [reduce_step qs (beatenL qs).toNat (by omega)]
        exact ih _ (by omega) (hs qs _ h h1 h2)
  exact key _ qs (Nat.le_refl _) h

def concludeC (qs : List (List (List Int))) (ended : List Bool) : Ck := ⟨qs, ended, doneB qs ended, cutB qs⟩

/-- The error of a put. -/
def putErr (s : Ck) (p : Int) (v : List Int) : Int :=
  if !validC s then 1
  else if p < 0 ∨ (s.qs.length : Int) ≤ p ∨ stampB v s.qs.length = false then 2
  else if s.done = true ∨ s.ended[p.toNat]! = true then 6
  else if 0 < s.qs[p.toNat]!.length ∧ afterB s.qs[p.toNat]![s.qs[p.toNat]!.length - 1]! v p.toNat = false then 11
  else if 65 ≤ s.qs[p.toNat]!.length then 5
  else 0
def putQs (s : Ck) (p : Nat) (v : List Int) : List (List (List Int)) := s.qs.set p (s.qs[p]! ++ [v])
def putC (s : Ck) (p : Nat) (v : List Int) : Ck := concludeC (reduceL (putQs s p v)) s.ended
def endC (s : Ck) (p : Nat) : Ck := concludeC s.qs (s.ended.set p true)

end Go.Proofs.Ytodkcfebcjgahaa
