/-
  What the central checker forgets is not needed: plain law. No program is named here.
-/
import Derived.Test.YtodkcfebcjgahaaCkL
namespace Go.Proofs.Ytodkcfebcjgahaa
set_option linter.unusedVariables false

theorem set_at {α : Type} [Inhabited α] (l : List α) (p q : Nat) (x : α) (hp : p < l.length) : (l.set p x)[q]! = if q = p then x else l[q]! := by
  by_cases h : q = p
  · subst h
    rw [if_pos rfl, getElem!_pos _ q (by simpa using hp), List.getElem_set_self]
  · rw [if_neg h]
    by_cases hq : q < l.length
    · rw [getElem!_pos _ q (by simpa using hq), List.getElem_set_ne (fun e => h e.symm), ← getElem!_pos l q hq]
    · rw [getElem!_neg _ q (by simpa using hq), getElem!_neg _ q (by simpa using hq)]
theorem drop_at {α : Type} [Inhabited α] (l : List α) (k i : Nat) (h : k + i < l.length) : (l.drop k)[i]! = l[k + i]! := by
  rw [getElem!_pos _ i (by rw [List.length_drop]; omega), getElem!_pos l (k + i) h, List.getElem_drop]
theorem snoc_at {α : Type} [Inhabited α] (l : List α) (x : α) (i : Nat) (h : i ≤ l.length) : (l ++ [x])[i]! = if i = l.length then x else l[i]! := by
  by_cases hi : i = l.length
  · subst hi
    rw [if_pos rfl, getElem!_pos _ _ (by simp), List.getElem_append_right (Nat.le_refl _)]
    simp
  · rw [if_neg hi, getElem!_pos _ i (by simp; omega), getElem!_pos l i (by omega), List.getElem_append_left (by omega)]

theorem queue_parts {n p : Nat} {q : List (List Int)} : queueB n p q = true ↔ q.length ≤ 65 ∧ ∀ i, i < q.length → stampB q[i]! n = true ∧ (i = 0 ∨ afterB q[i - 1]! q[i]! p = true) := by
  simp only [queueB, Bool.and_eq_true, decide_eq_true_eq, range_all, Bool.or_eq_true]
theorem queue_drop {n p : Nat} {q : List (List Int)} (h : queueB n p q = true) : queueB n p (q.drop 1) = true := by
  obtain ⟨h1, h2⟩ := queue_parts.1 h
  refine queue_parts.2 ⟨by rw [List.length_drop]; omega, fun i hi => ?_⟩
  rw [List.length_drop] at hi
  obtain ⟨g1, g2⟩ := h2 (1 + i) (by omega)
  rw [drop_at q 1 i (by omega)]
  refine ⟨g1, ?_⟩
  by_cases h0 : i = 0
  · exact .inl h0
  · right
    rw [drop_at q 1 (i - 1) (by omega), show 1 + (i - 1) = 1 + i - 1 from by omega]
    exact g2.resolve_left (by omega)
theorem queue_snoc {n p : Nat} {q : List (List Int)} {v : List Int} (h : queueB n p q = true) (hl : q.length < 65) (hv : stampB v n = true) (ha : q.length = 0 ∨ afterB q[q.length - 1]! v p = true) : queueB n p (q ++ [v]) = true := by
  obtain ⟨h1, h2⟩ := queue_parts.1 h
  refine queue_parts.2 ⟨by simp; omega, fun i hi => ?_⟩
  rw [List.length_append, List.length_singleton] at hi
  rw [snoc_at q v i (by omega)]
  by_cases e : i = q.length
  · subst e
    rw [if_pos rfl]
    refine ⟨hv, ?_⟩
    by_cases h0 : q.length = 0
    · exact .inl h0
    · rw [snoc_at q v _ (by omega), if_neg (by omega)]
      exact ha
  · rw [if_neg e]
    obtain ⟨g1, g2⟩ := h2 i (by omega)
    refine ⟨g1, g2.imp id fun h => ?_⟩
    by_cases h0 : i = 0
    · subst h0; rw [snoc_at q v (0 - 1) (by omega), if_neg (by omega)]; exact h
    · rw [snoc_at q v (i - 1) (by omega), if_neg (by omega)]; exact h

theorem form_parts {s : Ck} : formB s = true ↔ 1 ≤ s.qs.length ∧ s.qs.length ≤ 8 ∧ s.ended.length = s.qs.length ∧ ∀ p, p < s.qs.length → queueB s.qs.length p s.qs[p]! = true := by
  simp only [formB, Bool.and_eq_true, decide_eq_true_eq, range_all]
theorem valid_parts {s : Ck} : validC s = true ↔ formB s = true ∧ beatenL s.qs < 0 ∧ doneB s.qs s.ended = s.done ∧ cutB s.qs = s.cut := by
  simp only [validC, Bool.and_eq_true, decide_eq_true_eq]

theorem put_parts {s : Ck} {p : Int} {v : List Int} (h : putErr s p v = 0) : validC s = true ∧ 0 ≤ p ∧ p < s.qs.length ∧ stampB v s.qs.length = true ∧ s.done = false ∧ s.ended[p.toNat]! = false ∧ (s.qs[p.toNat]!.length = 0 ∨ afterB s.qs[p.toNat]![s.qs[p.toNat]!.length - 1]! v p.toNat = true) ∧ s.qs[p.toNat]!.length < 65 := by
  unfold putErr at h
  split at h
  · simp at h
  · split at h
    · simp at h
    · split at h
      · simp at h
      · split at h
        · simp at h
        · split at h
          · simp at h
          · rename_i h1 h2 h3 h4 h5
            simp only [not_or, not_and, Bool.not_eq_true, Bool.not_eq_false'] at h1 h2 h3 h4
            refine ⟨by simpa using h1, by omega, by omega, by simpa using h2.2.2, h3.1, h3.2, ?_, by omega⟩
            rcases Nat.eq_zero_or_pos s.qs[p.toNat]!.length with h0 | h0
            · exact .inl h0
            · exact .inr (by simpa using h4 h0)

section
variable {s : Ck} {p : Nat} {v : List Int} (h : putErr s p v = 0)
include h

theorem put_form : ∀ q, q < s.qs.length → queueB s.qs.length q (putQs s p v)[q]! = true := by
  obtain ⟨h1, h2, h3, h4, h5, h6, h7, h8⟩ := put_parts h
  obtain ⟨g1, g2, g3, g4⟩ := form_parts.1 (valid_parts.1 h1).1
  simp only [Int.toNat_natCast] at h6 h7 h8
  intro q hq
  unfold putQs
  rw [set_at _ _ _ _ (by omega)]
  split
  · rename_i e
    subst e
    exact queue_snoc (g4 q hq) h8 h4 h7
  · exact g4 q hq

/-- The queue of q, with what is put. -/
def allQ (s : Ck) (p : Nat) (v : List Int) (q : Nat) : List (List Int) := if q = p then s.qs[q]! ++ [v] else s.qs[q]!

theorem put_keeps : (reduceL (putQs s p v)).length = s.qs.length ∧ (∀ q, q < s.qs.length → queueB s.qs.length q (reduceL (putQs s p v))[q]! = true) ∧
    (∀ q, q < s.qs.length → ∃ k, k ≤ (allQ s p v q).length ∧ (reduceL (putQs s p v))[q]! = (allQ s p v q).drop k) ∧ total (reduceL (putQs s p v)) ≤ total s.qs + 1 ∧ beatenL (reduceL (putQs s p v)) < 0 := by
  have hf := put_form h
  obtain ⟨h1, h2, h3, h4, h5, h6, h7, h8⟩ := put_parts h
  have hp : p < s.qs.length := by omega
  have ht : total (putQs s p v) = total s.qs + 1 := by
    unfold total putQs
    rw [List.map_set]
    have := sum_set (s.qs.map List.length) p ((s.qs[p]! ++ [v]).length) (by simpa using hp)
    rw [getElem!_pos (s.qs.map List.length) p (by simpa using hp), List.getElem_map, ← getElem!_pos s.qs p hp, List.length_append, List.length_singleton] at this
    rw [List.length_append, List.length_singleton]
    omega
  have hl : (putQs s p v).length = s.qs.length := by simp [putQs]
  have key := reduce_keeps (fun qs => qs.length = s.qs.length ∧ (∀ q, q < s.qs.length → queueB s.qs.length q qs[q]! = true) ∧ (∀ q, q < s.qs.length → ∃ k, k ≤ (allQ s p v q).length ∧ qs[q]! = (allQ s p v q).drop k) ∧ total qs ≤ total s.qs + 1) ?_ (putQs s p v) ⟨hl, hf, ?_, by omega⟩
  · exact ⟨key.1.1, key.1.2.1, key.1.2.2.1, key.1.2.2.2, key.2⟩
  · rintro qs b ⟨k1, k2, k3, k4⟩ hb hbt
    refine ⟨by rw [drop_len]; exact k1, fun q hq => ?_, fun q hq => ?_, by have := total_drop qs b hb (beaten_pos _ _ hbt); omega⟩
    · unfold dropAt
      rw [set_at _ _ _ _ hb]
      split
      · rename_i e; subst e; exact queue_drop (k2 q hq)
      · exact k2 q hq
    · unfold dropAt
      rw [set_at _ _ _ _ hb]
      obtain ⟨k, g1, g2⟩ := k3 q hq
      split
      · rename_i e
        subst e
        have := beaten_pos _ _ hbt
        rw [g2, List.length_drop] at this
        exact ⟨k + 1, by omega, by rw [g2, List.drop_drop]⟩
      · exact ⟨k, g1, g2⟩
  · intro q hq
    refine ⟨0, Nat.zero_le _, ?_⟩
    unfold putQs allQ
    rw [set_at _ _ _ _ hp, List.drop_zero]
    split
    · rename_i e; subst e; rfl
    · rfl

theorem put_valid : validC (putC s p v) = true := by
  obtain ⟨k1, k2, k3, k4, k5⟩ := put_keeps h
  obtain ⟨h1, _⟩ := put_parts h
  obtain ⟨g1, g2, g3, g4⟩ := form_parts.1 (valid_parts.1 h1).1
  refine valid_parts.2 ⟨form_parts.2 ⟨?_, ?_, ?_, ?_⟩, k5, rfl, rfl⟩
  · show 1 ≤ (reduceL (putQs s p v)).length; omega
  · show (reduceL (putQs s p v)).length ≤ 8; omega
  · show s.ended.length = (reduceL (putQs s p v)).length; omega
  · show ∀ q, q < (reduceL (putQs s p v)).length → queueB (reduceL (putQs s p v)).length q (reduceL (putQs s p v))[q]! = true
    rw [k1]; exact k2
end

/-- The found cut is at least every stamp of its candidates. -/
theorem cut_over {s : Ck} (h : validC s = true) (hc : s.cut ≠ []) : s.done = true ∧ s.cut.length = s.qs.length ∧ ∀ q, q < s.qs.length → 0 < s.qs[q]!.length ∧ leqB s.qs[q]![0]! s.cut = true := by
  obtain ⟨h1, h2, h3, h4⟩ := valid_parts.1 h
  obtain ⟨g1, g2, g3, g4⟩ := form_parts.1 h1
  have ha : allB s.qs = true := by
    cases ha : allB s.qs with
    | true => rfl
    | false => rw [← h4] at hc; simp [cutB, ha] at hc
  have hcut : s.cut = cutOf s.qs := by rw [← h4, cutB, ha]; rfl
  have hall := (range_all _ _).1 ha
  refine ⟨by rw [← h3, doneB, ha]; rfl, by rw [hcut]; simp [cutOf], fun q hq => ?_⟩
  have hq0 := hall q hq
  rw [decide_eq_true_eq] at hq0
  refine ⟨hq0, (range_all _ _).2 fun i hi => ?_⟩
  obtain ⟨_, g5⟩ := queue_parts.1 (g4 q hq)
  have hst := (g5 0 hq0).1
  simp only [stampB, Bool.and_eq_true, decide_eq_true_eq] at hst
  rw [hst.1] at hi
  have hi0 := hall i hi
  rw [decide_eq_true_eq] at hi0
  have hci : s.cut[i]! = s.qs[i]![0]![i]! := by
    rw [hcut, getElem!_pos _ i (by simp [cutOf]; exact hi)]
    simp [cutOf]
  rw [hci, decide_eq_true_eq]
  by_cases e : q = i
  · subst e; exact Int.le_refl _
  have hb := (range_any_false _ _).1 (beaten_none s.qs h2 i hi) q hq
  simp only [beatsB, Bool.and_eq_false_iff, decide_eq_false_iff_not] at hb
  rcases hb with hb | hb | hb | hb
  · exact absurd e hb
  · exact absurd hi0 hb
  · exact absurd hq0 hb
  · omega
theorem cut_none {s : Ck} (h : validC s = true) (hd : s.done = false) : s.cut = [] := by
  obtain ⟨h1, h2, h3, h4⟩ := valid_parts.1 h
  rw [hd, doneB, Bool.or_eq_false_iff] at h3
  rw [← h4, cutB, h3.1]
  rfl

end Go.Proofs.Ytodkcfebcjgahaa
