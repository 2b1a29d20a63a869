/-
  The messages that are received within counts, marked by their numbers. No function is named here.
-/
import Derived.Test.YtijncboddmjdcaaGk
import Derived.Test.YtijncboddmjdcaaGj
namespace Go.Proofs.Ytijncboddmjdcaa
open Go.RowKit
set_option linter.unusedVariables false

/-- The marks of the received messages of the events. -/
def recL (t : Tr) (l : List Eid) : List Bool := (List.range 200).map fun (m : Nat) => l.any (hit t 3 (m : Int))
theorem recL_len (t : Tr) (l : List Eid) : (recL t l).length = 200 := by simp [recL]
theorem recL_nil (t : Tr) (i : Nat) (hi : i < 200) : (recL t [])[i]! = false := by
  rw [getElem!_pos _ i (by rw [recL_len]; exact hi)]; simp [recL]
theorem recL_at {t : Tr} {l : List Eid} {y : Int} (h0 : 0 ≤ y) (h1 : y ≤ 199) : (recL t l)[y.toNat]! = l.any (hit t 3 y) := by
  rw [getElem!_pos _ y.toNat (by rw [recL_len]; omega)]
  simp only [recL, List.getElem_map, List.getElem_range]
  rw [Int.toNat_of_nonneg h0]
theorem recL_no {t : Tr} {l : List Eid} {x : Eid} (h : (ev t x).kind ≠ 3) : recL t (l ++ [x]) = recL t l := by
  unfold recL
  refine List.map_congr_left fun m _ => ?_
  rw [List.any_append]
  have : hit t 3 (m : Int) x = false := by rw [Bool.eq_false_iff]; exact fun e => h (hit_iff.1 e).1
  simp [this]
theorem recL_yes {t : Tr} {l : List Eid} {x : Eid} (h : (ev t x).kind = 3) (h0 : 0 ≤ (ev t x).msg) (h1 : (ev t x).msg ≤ 199) : recL t (l ++ [x]) = (recL t l).set (ev t x).msg.toNat true := by
  refine List.ext_getElem (by rw [List.length_set, recL_len, recL_len]) fun i hi hj => ?_
  rw [recL_len] at hi
  rw [List.getElem_set]
  simp only [recL, List.getElem_map, List.getElem_range, List.any_append, List.any_cons, List.any_nil, Bool.or_false]
  by_cases e : (ev t x).msg.toNat = i
  · rw [if_pos e]
    have : hit t 3 (i : Int) x = true := hit_iff.2 ⟨h, by omega⟩
    rw [this, Bool.or_true]
  · rw [if_neg e]
    have : hit t 3 (i : Int) x = false := by rw [Bool.eq_false_iff]; intro e2; have := (hit_iff.1 e2).2; omega
    rw [this, Bool.or_false]

theorem valid_pair {t : Tr} (h : validT t = true) : pairB t = true := by
  unfold validT at h; simp only [Bool.and_eq_true] at h; exact h.2.1
/-- The numbers of a valid trace's messages. -/
theorem msg_in {t : Tr} (h : validT t = true) {x : Eid} (hx : Inn t x) : 0 ≤ (ev t x).msg ∧ (ev t x).msg ≤ 199 := by
  unfold validT shapeB at h
  simp only [Bool.and_eq_true, decide_eq_true_eq, range_all] at h
  have he := h.1.2.2.2 x.1 hx.1 x.2 hx.2
  unfold eventB at he
  simp only [Bool.and_eq_true] at he
  have hf := he.1
  unfold formedB at hf
  split at hf <;> simp only [Bool.and_eq_true, decide_eq_true_eq] at hf <;> unfold ev <;> omega
/-- A message is marked just where its receive is within the counts. -/
theorem rec_at {t : Tr} {c : List Int} (hv : validT t = true) (hr : RangeC t c) (m : Int) :
    (idsCTo c c.length 0).any (hit t 3 m) = (match findE t 3 m with | some r => decide ((r.2 : Int) + 1 ≤ c[r.1]!) | none => false) := by
  have hp := valid_pair hv
  have key : ∀ x, x ∈ idsCTo c c.length 0 → InC c x := fun x hx => by rw [mem_idsCTo] at hx; unfold InC; omega
  cases hf : findE t 3 m with
  | none =>
    simp only
    rw [List.any_eq_false]
    intro x hx e
    exact findE_none hf (hr.inn (key x hx)) (hit_iff.1 e)
  | some r =>
    simp only
    obtain ⟨h1, h2, h3⟩ := findE_some hf
    rw [Bool.eq_iff_iff, List.any_eq_true, decide_eq_true_eq]
    constructor
    · rintro ⟨x, hx, e⟩
      have hi := hr.inn (key x hx)
      obtain ⟨e1, e2⟩ := hit_iff.1 e
      have := (pairB_at hp hi (by rw [e1]; decide)).1
      rw [e1, e2, hf] at this
      obtain rfl : r = x := by simpa using this
      have := (key r hx).2
      omega
    · intro hle
      refine ⟨r, mem_idsCTo.2 (.inl ⟨by have := h1.1; rw [hr.1]; exact this, by omega⟩), hit_iff.2 ⟨h2, h3⟩⟩
theorem uwB_rec {t : Tr} {c : List Int} (hv : validT t = true) (hr : RangeC t c) {q : Int} {x : Eid} (hx : Inn t x) :
    uwB t c q x = (decide ((ev t x).kind = 2) && (decide ((ev t x).peer = q) && !(recL t (idsCTo c c.length 0))[(ev t x).msg.toNat]!)) := by
  obtain ⟨m0, m1⟩ := msg_in hv hx
  rw [recL_at m0 m1, rec_at hv hr]
  unfold uwB
  congr 2
  cases findE t 3 (ev t x).msg with
  | none => rfl
  | some r => simp only; rw [← decide_not]; exact decide_eq_decide.2 (by omega)
/-- What is under way, step by step: a prefix of all. -/
theorem uwTo_pre (t : Tr) (c : List Int) (q : Int) (p : Nat) : ∀ i k, i ≤ k → uwTo t c q p i <+: uwTo t c q p k := by
  intro i k hk
  induction k with
  | zero => obtain rfl : i = 0 := by omega
            exact List.prefix_rfl
  | succ k ih =>
    by_cases e : i = k + 1
    · subst e; exact List.prefix_rfl
    · refine (ih (by omega)).trans ?_
      cases h : uwB t c q (p, k) with
      | true => rw [uwTo_yes h]; exact List.prefix_append _ _
      | false => rw [uwTo_no h]; exact List.prefix_rfl
/-- The next message that is under way. -/
theorem uwTo_get {t : Tr} {c : List Int} {q : Int} {p i k : Nat} (hi : i < k) (h : uwB t c q (p, i) = true) :
    (uwTo t c q p i).length < (uwTo t c q p k).length ∧ (uwTo t c q p k)[(uwTo t c q p i).length]! = (ev t (p, i)).msg := by
  obtain ⟨post, hp⟩ := uwTo_pre t c q p (i + 1) k (by omega)
  rw [← hp, uwTo_yes h]
  constructor
  · simp
  · rw [getElem!_pos _ _ (by simp)]; simp [List.getElem_append]

end Go.Proofs.Ytijncboddmjdcaa
