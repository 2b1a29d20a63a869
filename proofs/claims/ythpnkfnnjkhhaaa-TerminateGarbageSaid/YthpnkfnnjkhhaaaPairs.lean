/-
  The cells of a slice of pairs. No program is named here.
-/
import Derived.Test.YthpnkfnnjkhhaaaGarb
namespace Go.Proofs.Ythpnkfnnjkhhaaa
open Go.RowKit
set_option linter.unusedVariables false

def flat2 (l : List (Int × Int)) : List Value := l.flatMap fun r => [.int .i64 r.1, .int .i64 r.2]

theorem flat2_append (l m : List (Int × Int)) : flat2 (l ++ m) = flat2 l ++ flat2 m := by simp [flat2]
theorem flat2_len (l : List (Int × Int)) : (flat2 l).length = l.length * 2 := by
  induction l with
  | nil => rfl
  | cons r l ih =>
    have : flat2 (r :: l) = [.int .i64 r.1, .int .i64 r.2] ++ flat2 l := rfl
    rw [this, List.length_append, ih]; simp; omega
theorem flat2_drop (l : List (Int × Int)) (i : Nat) : (flat2 l).drop (i * 2) = flat2 (l.drop i) := by
  induction l generalizing i with
  | nil => simp [flat2]
  | cons r l ih =>
    cases i with
    | zero => simp
    | succ i =>
      have : flat2 (r :: l) = .int .i64 r.1 :: .int .i64 r.2 :: flat2 l := rfl
      rw [this, Nat.add_mul, Nat.one_mul, List.drop_succ_cons, List.drop_succ_cons, ih]; rfl
theorem flat2_chunk (l : List (Int × Int)) (i : Nat) (hi : i < l.length) : ((flat2 l).drop (i * 2)).take 2 = [.int .i64 l[i]!.1, .int .i64 l[i]!.2] := by
  rw [flat2_drop, List.drop_eq_getElem_cons hi, getElem!_pos l i hi]; rfl
theorem flat2_one (l : List (Int × Int)) : ∀ u ∈ flat2 l, u.oneCell' = true := by
  intro u hu
  simp only [flat2, List.mem_flatMap] at hu
  obtain ⟨r, _, h⟩ := hu
  simp at h
  rcases h with rfl | rfl <;> rfl

theorem Sl.flat {w : World} {v : Value} {l : List (Int × Int)} (h : Sl RPair 2 w v l) : CellsAt w v 2 l.length (flat2 l) := by
  obtain ⟨xs, hc, hR⟩ := h.cells
  have : xs = flat2 l := by
    have key : ∀ n, n ≤ l.length → xs.take (n * 2) = (flat2 l).take (n * 2) := by
      intro n
      induction n with
      | zero => intro _; simp
      | succ n ih =>
        intro hn
        rw [Nat.add_mul, Nat.one_mul, List.take_add, List.take_add, ih (by omega)]
        congr 1
        rw [flat2_chunk l n (by omega)]
        exact hR n (by omega)
    have := key l.length (Nat.le_refl _)
    rwa [List.take_of_length_le (by rw [hc.1]; omega), List.take_of_length_le (by rw [flat2_len]; omega)] at this
  rw [← this]; exact hc
theorem CellsAt.pairs {w : World} {v : Value} {l : List (Int × Int)} (h : CellsAt w v 2 l.length (flat2 l)) : Sl RPair 2 w v l := h.sl fun i hi => flat2_chunk l i hi

end Go.Proofs.Ythpnkfnnjkhhaaa
