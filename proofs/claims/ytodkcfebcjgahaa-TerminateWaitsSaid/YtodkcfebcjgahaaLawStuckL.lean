/-
  Small facts in plain words for the walk of the law on stuck sets.
-/
import Derived.Test.YtodkcfebcjgahaaStuckL
import Derived.Test.YtodkcfebcjgahaaBig
namespace Go.Proofs.Ytodkcfebcjgahaa
open Go.RowKit
set_option linter.unusedVariables false

def cntTo (l : List Int) (F : List Bool) (k : Nat) : Nat := ((l.take k).filter fun y => F[y.toNat]!).length
theorem cntTo_yes {l : List Int} {F : List Bool} {k : Nat} (hk : k < l.length) (hm : F[(l[k]!).toNat]! = true) : cntTo l F (k + 1) = cntTo l F k + 1 := by
  unfold cntTo
  rw [take_snoc' l k hk, List.filter_append, List.length_append]
  simp only [List.filter_cons, hm, if_true, List.filter_nil, List.length_singleton]
theorem cntTo_no {l : List Int} {F : List Bool} {k : Nat} (hk : k < l.length) (hm : F[(l[k]!).toNat]! = false) : cntTo l F (k + 1) = cntTo l F k := by
  unfold cntTo
  rw [take_snoc' l k hk, List.filter_append, List.length_append]
  simp only [List.filter_cons, hm, Bool.false_eq_true, if_false, List.filter_nil, List.length_nil, Nat.add_zero]
theorem cntTo_all (x : Wt) (F : List Bool) : cntTo x.fors F x.fors.length = cnt x F := by unfold cntTo cnt; rw [List.take_length]
theorem cntTo_le (l : List Int) (F : List Bool) (k : Nat) (hk : k ≤ l.length) : cntTo l F k ≤ k := by
  unfold cntTo
  exact Nat.le_trans (List.length_filter_le _ _) (by rw [List.length_take]; omega)

theorem free0_zero (l : List Wt) (N i : Nat) (hi : i < N) : (free0 l N 0)[i]! = false := by rw [free0_get l N 0 i hi]; simp
theorem free0_no {l : List Wt} {N k : Nat} (h : l.any (fun x => x.proc == (k : Int)) = true) : free0 l N (k + 1) = free0 l N k := by
  refine List.ext_getElem (by simp [free0]) fun i h1 h2 => ?_
  have hi : i < N := by simpa [free0] using h1
  rw [← getElem!_pos _ i h1, ← getElem!_pos _ i h2, free0_get _ _ _ _ hi, free0_get _ _ _ _ hi]
  by_cases e : i = k
  · subst e; rw [h]; simp
  · have : decide (i < k + 1) = decide (i < k) := by rw [decide_eq_decide]; omega
    rw [this]
theorem free0_yes {l : List Wt} {N k : Nat} (hk : k < N) (h : l.any (fun x => x.proc == (k : Int)) = false) : free0 l N (k + 1) = (free0 l N k).set k true := by
  refine List.ext_getElem (by simp [free0]) fun i h1 h2 => ?_
  have hi : i < N := by simpa [free0] using h1
  rw [← getElem!_pos _ i h1, ← getElem!_pos _ i h2, free0_get _ _ _ _ hi, get_set' _ _ i true (by rw [free0_len]; exact hk), free0_get _ _ _ _ hi]
  by_cases e : i = k
  · subst e; rw [h]; simp
  · have : decide (i < k + 1) = decide (i < k) := by rw [decide_eq_decide]; omega
    rw [this, if_neg e]

theorem req_neg {l : List Wt} {k : Int} : (firstAt (fun x => x.proc == k) l < 0) ↔ l.any (fun x => x.proc == k) = false := by
  rw [← firstAt_any]; simp

theorem big_not {l : List Wt} {n : Int} (h : bigB l n = false) : l.length ≤ 40 ∧ (40 < n → 512 < n) ∧ ∀ x, x ∈ l → x.fors.length ≤ 40 := by
  unfold bigB at h
  simp only [Bool.or_eq_false_iff, decide_eq_false_iff_not, Bool.and_eq_false_iff, List.any_eq_false, decide_eq_true_eq] at h
  obtain ⟨⟨h1, h2⟩, h3⟩ := h
  exact ⟨by omega, by omega, fun x hx => by have := h3 x hx; omega⟩

/-- The requests and one more, as an append lays them. -/
theorem sl_more {w W : World} {u v : Value} {l : List Wt} {m : Wt} {xs : List Value} {fv : Value} (hR : ∀ i, i < l.length → RWait W ((xs.drop (i * 3)).take 3) l[i]!) (hm : Ints W fv m.fors) (hl : xs.length = l.length * 3)
    (h : CellsAt W v 3 (l.length + 1) (xs ++ [.int .i64 m.proc, .int .i64 m.need, fv])) : Sl RWait 3 W v (l ++ [m]) := by
  refine CellsAt.sl (xs := xs ++ [.int .i64 m.proc, .int .i64 m.need, fv]) (by rw [List.length_append, List.length_singleton]; exact h) fun i hi => ?_
  rw [List.length_append, List.length_singleton] at hi
  by_cases e : i < l.length
  · rw [List.drop_append_of_le_length (by omega), List.take_append_of_le_length (by rw [List.length_drop]; omega), getElem!_pos _ i (by simp; omega), List.getElem_append_left e, ← getElem!_pos l i e]
    exact hR i e
  · obtain rfl : i = l.length := by omega
    rw [List.drop_append, List.drop_eq_nil_of_le (by omega), hl, Nat.sub_self, List.drop_zero, List.nil_append, getElem!_pos _ _ (by simp), List.getElem_append_right (Nat.le_refl _)]
    simp only [Nat.sub_self, List.getElem_singleton, List.take_succ_cons, List.take_zero]
    exact ⟨fv, rfl, hm⟩

theorem wait_one {w : World} {l : List Wt} {xs : List Value} (hR : ∀ i, i < l.length → RWait w ((xs.drop (i * 3)).take 3) l[i]!) (hl : xs.length = l.length * 3) : ∀ u ∈ xs, u.oneCell' = true := by
  intro u hu
  obtain ⟨j, hj, rfl⟩ := List.getElem_of_mem hu
  obtain ⟨v, hv, a, c, rfl, _⟩ := hR (j / 3) (by omega)
  have e : j = j / 3 * 3 + j % 3 := by omega
  have : ((xs.drop (j / 3 * 3)).take 3)[j % 3]? = some xs[j] := by
    rw [List.getElem?_take_of_lt (by omega), List.getElem?_drop, ← e, List.getElem?_eq_getElem hj]
  rw [hv] at this
  have h3 : j % 3 = 0 ∨ j % 3 = 1 ∨ j % 3 = 2 := by omega
  rcases h3 with h | h | h <;> rw [h] at this <;> simp at this <;> rw [← this] <;> rfl

end Go.Proofs.Ytodkcfebcjgahaa
