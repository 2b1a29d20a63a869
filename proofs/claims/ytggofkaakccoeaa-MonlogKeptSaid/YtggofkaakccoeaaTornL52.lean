/-
  Journals that are records one behind the other: plain law. No program is named here.
-/
import Derived.Test.YtggofkaakccoeaaRecL52
namespace Go.Proofs.Ytggofkaakccoeaa
open Go.RowKit
set_option linter.unusedVariables false

def journalL : List (List Int) → List Int
  | [] => []
  | b :: r => recL b ++ journalL r
theorem journalL_append (a b : List (List Int)) : journalL (a ++ b) = journalL a ++ journalL b := by
  induction a with
  | nil => rfl
  | cons x r ih => simp only [List.cons_append, journalL, ih, List.append_assoc]
theorem journalL_len (l : List (List Int)) : (journalL l).length = wholeR l := by
  induction l with
  | nil => rfl
  | cons x r ih => simp only [journalL, wholeR, List.length_append, rec_len, ih]
theorem journalL_byte {l : List (List Int)} (h : ∀ r, r ∈ l → ∀ x, x ∈ r → Byte x) : ∀ x, x ∈ journalL l → Byte x := by
  induction l with
  | nil => intro x hx; simp [journalL] at hx
  | cons b r ih =>
    intro x hx
    rcases List.mem_append.1 hx with hx | hx
    · exact rec_byte (h b List.mem_cons_self) x hx
    · exact ih (fun r' hr' => h r' (List.mem_cons_of_mem _ hr')) x hx
theorem records_journal (l : List (List Int)) (rest : List Int) (h : ∀ r, r ∈ l → ∀ x, x ∈ r → Byte x) (hl : ∀ r, r ∈ l → r.length ≤ 16384) : recordsL (journalL l ++ rest) = l ++ recordsL rest := by
  induction l with
  | nil => rfl
  | cons b r ih =>
    simp only [journalL, List.append_assoc, List.cons_append]
    rw [records_rec b _ (h b List.mem_cons_self) (hl b List.mem_cons_self), ih (fun r' hr' => h r' (List.mem_cons_of_mem _ hr')) (fun r' hr' => hl r' (List.mem_cons_of_mem _ hr'))]
theorem records_journal' (l : List (List Int)) (h : ∀ r, r ∈ l → ∀ x, x ∈ r → Byte x) (hl : ∀ r, r ∈ l → r.length ≤ 16384) : recordsL (journalL l) = l := by
  have := records_journal l [] h hl
  rw [List.append_nil, show recordsL [] = [] from rfl, List.append_nil] at this
  exact this
theorem journalL_snoc (l : List (List Int)) (k : Nat) (hk : k < l.length) : journalL (l.take (k + 1)) = journalL (l.take k) ++ recL l[k]! := by
  rw [take_snoc' l k hk, journalL_append]; simp [journalL]
theorem journalL_take (l : List (List Int)) (i : Nat) : (journalL l).take (wholeR (l.take i)) = journalL (l.take i) := by
  conv => lhs; rw [← List.take_append_drop i l, journalL_append, List.take_append_drop i l]
  rw [List.take_left' (journalL_len _)]

/-- Where the begin of a journal is as it was, its records are read. -/
theorem records_begin (l : List (List Int)) (c : List Int) (i : Nat) (h : ∀ r, r ∈ l → ∀ x, x ∈ r → Byte x) (hl : ∀ r, r ∈ l → r.length ≤ 16384) (hc : c.take (wholeR (l.take i)) = journalL (l.take i)) :
    recordsL c = l.take i ++ recordsL (c.drop (wholeR (l.take i))) := by
  conv => lhs; rw [← List.take_append_drop (wholeR (l.take i)) c, hc]
  exact records_journal (l.take i) _ (fun r hr => h r (List.mem_of_mem_take hr)) (fun r hr => hl r (List.mem_of_mem_take hr))

/-- Less than a record reads as none. -/
theorem records_part (b : List Int) (m : Nat) (hb : ∀ x, x ∈ b → Byte x) (hl : b.length ≤ 16384) (hm : m < b.length + 8) : recordsL ((recL b).take m) = [] := by
  refine records_none ?_
  have hlen : ((recL b).take m).length = m := by rw [List.length_take, rec_len]; omega
  unfold nextRec
  by_cases h8 : m < 8
  · rw [if_pos (by omega)]
  · have e1 : ((recL b).take m).take 4 = wordL b.length 4 := by
      rw [List.take_take, Nat.min_eq_left (by omega)]
      unfold recL
      rw [List.append_assoc, List.take_left' (word_len _ _)]
    rw [if_neg (by omega), e1, val_word4 _ (by omega) (by omega), if_neg (by omega), if_pos (by omega)]

end Go.Proofs.Ytggofkaakccoeaa
