/-
  Records in bytes: plain law. No program is named here.
-/
import Derived.Test.YtggofkaakccoeaaBytes
namespace Go.Proofs.Ytggofkaakccoeaa
open Go.RowKit
set_option linter.unusedVariables false

/-- The length of the record at the beginning of bytes. -/
def nextRec (l : List Int) : Option Nat :=
  if l.length < 8 then none
  else if 16384 < valL (l.take 4) then none
  else if (l.length : Int) < valL (l.take 4) + 8 then none
  else if sumL (l.take ((valL (l.take 4)).toNat + 4)) = valL ((l.drop ((valL (l.take 4)).toNat + 4)).take 4) then some (valL (l.take 4)).toNat
  else none

theorem nextRec_some {l : List Int} {n : Nat} (hb : ∀ x, x ∈ l → Byte x) (h : nextRec l = some n) : n + 8 ≤ l.length ∧ n ≤ 16384 ∧ valL (l.take 4) = n ∧ sumL (l.take (n + 4)) = valL ((l.drop (n + 4)).take 4) := by
  unfold nextRec at h
  have hr := (val_range (l.take 4) (fun x hx => hb x (List.mem_of_mem_take hx))).1
  split at h
  · simp at h
  · split at h
    · simp at h
    · split at h
      · simp at h
      · split at h
        · rename_i h1 h2 h3 h4
          simp only [Option.some.injEq] at h
          subst h
          refine ⟨by omega, by omega, by omega, h4⟩
        · simp at h
theorem nextRec_le {l : List Int} {n : Nat} (h : nextRec l = some n) : 8 ≤ l.length := by
  unfold nextRec at h
  split at h
  · simp at h
  · omega

/-- The records of bytes. -/
def recsF : Nat → List Int → List (List Int)
  | 0, _ => []
  | k + 1, l => match nextRec l with
    | none => []
    | some n => (l.drop 4).take n :: recsF k (l.drop (n + 8))
def recordsL (l : List Int) : List (List Int) := recsF l.length l

theorem recsF_enough : ∀ (k m : Nat) (l : List Int), l.length ≤ k → l.length ≤ m → recsF k l = recsF m l := by
  intro k
  induction k with
  | zero =>
    intro m l hk hm
    have h0 : nextRec l = none := by unfold nextRec; rw [if_pos (by omega)]
    cases m with
    | zero => rfl
    | succ m => simp [recsF, h0]
  | succ k ih =>
    intro m l hk hm
    cases hn : nextRec l with
    | none => cases m <;> simp [recsF, hn]
    | some n =>
      have h8 := nextRec_le hn
      cases m with
      | zero => omega
      | succ m =>
        simp only [recsF, hn]
        rw [ih m (l.drop (n + 8)) (by rw [List.length_drop]; omega) (by rw [List.length_drop]; omega)]
theorem records_none {l : List Int} (h : nextRec l = none) : recordsL l = [] := by
  unfold recordsL
  cases l.length <;> simp [recsF, h]
theorem records_some {l : List Int} {n : Nat} (h : nextRec l = some n) : recordsL l = (l.drop 4).take n :: recordsL (l.drop (n + 8)) := by
  have h8 := nextRec_le h
  unfold recordsL
  obtain ⟨k, hk⟩ : ∃ k, l.length = k + 1 := ⟨l.length - 1, by omega⟩
  conv => lhs; rw [hk]
  simp only [recsF, h]
  rw [recsF_enough k _ (l.drop (n + 8)) (by rw [List.length_drop]; omega) (Nat.le_refl _)]

/-- How many bytes records have. -/
def wholeR : List (List Int) → Nat
  | [] => 0
  | b :: r => b.length + 8 + wholeR r
theorem wholeR_append (a b : List (List Int)) : wholeR (a ++ b) = wholeR a + wholeR b := by
  induction a with
  | nil => simp [wholeR]
  | cons x r ih => simp only [List.cons_append, wholeR, ih]; omega
theorem wholeR_take_succ (l : List (List Int)) (k : Nat) (hk : k < l.length) : wholeR (l.take (k + 1)) = wholeR (l.take k) + (l[k]!.length + 8) := by
  rw [take_snoc' l k hk, wholeR_append]; simp [wholeR]
theorem wholeR_take_le (l : List (List Int)) (k : Nat) : wholeR (l.take k) ≤ wholeR l := by
  conv => rhs; rw [← List.take_append_drop k l, wholeR_append]
  omega
theorem wholeR_len (l : List (List Int)) : 8 * l.length ≤ wholeR l := by
  induction l with
  | nil => simp [wholeR]
  | cons x r ih => simp only [wholeR, List.length_cons]; omega

theorem bytes_drop {l : List Int} {k : Nat} (h : ∀ x, x ∈ l → Byte x) : ∀ x, x ∈ l.drop k → Byte x := fun x hx => h x (List.mem_of_mem_drop hx)
theorem bytes_take {l : List Int} {k : Nat} (h : ∀ x, x ∈ l → Byte x) : ∀ x, x ∈ l.take k → Byte x := fun x hx => h x (List.mem_of_mem_take hx)

theorem whole_le : ∀ (m : Nat) (l : List Int), l.length ≤ m → (∀ x, x ∈ l → Byte x) → wholeR (recordsL l) ≤ l.length := by
  intro m
  induction m with
  | zero => intro l hl _; rw [records_none (by unfold nextRec; rw [if_pos (by omega)])]; simp [wholeR]
  | succ m ih =>
    intro l hl hb
    cases hn : nextRec l with
    | none => rw [records_none hn]; simp [wholeR]
    | some n =>
      obtain ⟨h1, _⟩ := nextRec_some hb hn
      rw [records_some hn]
      have := ih (l.drop (n + 8)) (by rw [List.length_drop]; omega) (bytes_drop hb)
      simp only [wholeR, List.length_take, List.length_drop] at this ⊢
      omega
theorem whole_le' (l : List Int) (hb : ∀ x, x ∈ l → Byte x) : wholeR (recordsL l) ≤ l.length := whole_le _ l (Nat.le_refl _) hb

theorem records_byte : ∀ (m : Nat) (l : List Int), l.length ≤ m → (∀ x, x ∈ l → Byte x) → ∀ r, r ∈ recordsL l → (∀ x, x ∈ r → Byte x) ∧ r.length ≤ 16384 := by
  intro m
  induction m with
  | zero => intro l hl _ r hr; rw [records_none (by unfold nextRec; rw [if_pos (by omega)])] at hr; simp at hr
  | succ m ih =>
    intro l hl hb r hr
    cases hn : nextRec l with
    | none => rw [records_none hn] at hr; simp at hr
    | some n =>
      obtain ⟨h1, h2, _⟩ := nextRec_some hb hn
      rw [records_some hn] at hr
      rcases List.mem_cons.1 hr with rfl | hr
      · exact ⟨bytes_take (bytes_drop hb), by rw [List.length_take]; omega⟩
      · exact ih (l.drop (n + 8)) (by rw [List.length_drop]; omega) (bytes_drop hb) r hr

/-- The number in its own bytes. -/
theorem val_word4 (n : Int) (h0 : 0 ≤ n) (h1 : n < 4294967296) : valL (wordL n 4) = n := by
  have : wordL n 4 = [n / 16777216 % 256, n / 65536 % 256, n / 256 % 256, n / 1 % 256] := by
    unfold wordL
    simp [List.range_succ]
  rw [this]
  unfold valL
  simp only [List.foldl_cons, List.foldl_nil]
  omega

theorem nextRec_rec (b rest : List Int) (hb : ∀ x, x ∈ b → Byte x) (hl : b.length ≤ 16384) : nextRec (recL b ++ rest) = some b.length := by
  have hw := word_len b.length 4
  have hw2 := word_len (sumL (wordL b.length 4 ++ b)) 4
  have hrl := rec_len b
  have hs := sum_range (wordL b.length 4 ++ b)
  have e1 : (recL b ++ rest).take 4 = wordL b.length 4 := by
    unfold recL
    rw [List.append_assoc, List.append_assoc, List.take_left' hw]
  have hv : valL (wordL b.length 4) = b.length := val_word4 _ (by omega) (by omega)
  have e2 : (recL b ++ rest).take (b.length + 4) = wordL b.length 4 ++ b := by
    unfold recL
    rw [List.append_assoc, List.take_left' (by rw [List.length_append, hw]; omega)]
  have e3 : ((recL b ++ rest).drop (b.length + 4)).take 4 = wordL (sumL (wordL b.length 4 ++ b)) 4 := by
    unfold recL
    rw [List.append_assoc, List.drop_left' (by rw [List.length_append, hw]; omega), List.take_left' hw2]
  unfold nextRec
  have hlen : (recL b ++ rest).length = b.length + 8 + rest.length := by rw [List.length_append, hrl]
  rw [e1, hv, if_neg (by omega), if_neg (by omega), if_neg (by rw [hlen]; omega), Int.toNat_natCast, e2, e3, val_word4 _ hs.1 hs.2, if_pos rfl]

theorem records_rec (b rest : List Int) (hb : ∀ x, x ∈ b → Byte x) (hl : b.length ≤ 16384) : recordsL (recL b ++ rest) = b :: recordsL rest := by
  have hw := word_len b.length 4
  have hrl := rec_len b
  rw [records_some (nextRec_rec b rest hb hl)]
  congr 1
  · unfold recL
    rw [List.append_assoc, List.append_assoc, List.drop_left' hw, List.take_left]
  · rw [List.drop_left' hrl]

end Go.Proofs.Ytggofkaakccoeaa
