/-
  What a journal holds after puts and a crash: plain law. No program is named here.
-/
import Derived.Test.YtggofkaakccoeaaTornL52
import Derived.Test.YtggofkaakccoeaaPut52
import Derived.Test.YtggofkaakccoeaaItem52
import Derived.Test.YtggofkaakccoeaaCrash52
namespace Go.Proofs.Ytggofkaakccoeaa
open Go.RowKit
set_option linter.unusedVariables false

/-- Records of stamps: bytes, and not many. -/
def GoodR (G : List (List Int)) : Prop := ∀ r, r ∈ G → (∀ x, x ∈ r → Byte x) ∧ r.length ≤ 66
theorem GoodR.append {a b : List (List Int)} (ha : GoodR a) (hb : GoodR b) : GoodR (a ++ b) := fun r hr => (List.mem_append.1 hr).elim (ha r) (hb r)
theorem GoodR.take {a : List (List Int)} (ha : GoodR a) (k : Nat) : GoodR (a.take k) := fun r hr => ha r (List.mem_of_mem_take hr)
theorem GoodR.len {G : List (List Int)} (h : GoodR G) : wholeR G ≤ 74 * G.length := by
  induction G with
  | nil => simp [wholeR]
  | cons x r ih =>
    have := ih (fun r' hr' => h r' (List.mem_cons_of_mem _ hr'))
    have := (h x List.mem_cons_self).2
    simp only [wholeR, List.length_cons]; omega

/-- The bytes C hold the records G, and perhaps a part of one more. -/
def HoldsR (C : List Int) (G : List (List Int)) : Prop := recordsL C = G ∧ C.take (wholeR G) = journalL G
theorem holds_part {G : List (List Int)} (hG : GoodR G) (b : List Int) (m : Nat) (hb : ∀ x, x ∈ b → Byte x) (hl : b.length ≤ 66) (hm : m < b.length + 8) : HoldsR (journalL G ++ (recL b).take m) G := by
  constructor
  · rw [records_journal G _ (fun r hr => (hG r hr).1) (fun r hr => by have := (hG r hr).2; omega), records_part b m hb (by omega) hm, List.append_nil]
  · exact List.take_left' (journalL_len G)
theorem holds_journal {G : List (List Int)} (hG : GoodR G) : HoldsR (journalL G) G := by
  constructor
  · exact records_journal' G (fun r hr => (hG r hr).1) (fun r hr => by have := (hG r hr).2; omega)
  · rw [← journalL_len, List.take_length]
theorem journal_snoc (G : List (List Int)) (b : List Int) : journalL (G ++ [b]) = journalL G ++ recL b := by
  rw [journalL_append]; simp [journalL]
theorem HoldsR.app {C : List Int} {G : List (List Int)} (h : HoldsR C G) (f : Int) (b : List Int) : appL C f b = journalL G ++ wrote f (recL b) := by
  unfold appL
  rw [h.1, h.2]

/-- A whole put. -/
theorem put_whole {C : List Int} {G : List (List Int)} (h : HoldsR C G) (f : Int) (b : List Int) (hf : f < 0 ∨ (b.length : Int) + 8 < f) :
    appL C f b = journalL (G ++ [b]) ∧ (∀ d, putD C d f b = (journalL (G ++ [b])).length) ∧ putE f b = 0 ∧ leftF f (recL b) ≠ 0 ∧ leftF f (recL b) ≤ f ∧ (f < 0 → leftF f (recL b) = f) ∧ (0 ≤ f → 0 ≤ leftF f (recL b)) := by
  have hr := rec_len b
  have hw : wrote f (recL b) = recL b := by
    unfold wrote
    split
    · rfl
    · exact List.take_of_length_le (by omega)
  have hl : leftF f (recL b) = if f < 0 then f else f - (b.length + 8) := by
    unfold leftF
    split
    · rfl
    · rw [if_pos (by omega), hr]; push_cast; rfl
  have hne : leftF f (recL b) ≠ 0 := by rw [hl]; split <;> omega
  refine ⟨by rw [h.app, hw, journal_snoc], fun d => ?_, by unfold putE; rw [if_neg hne], hne, by rw [hl]; split <;> omega, fun h => by rw [hl, if_pos h], fun h => by rw [hl]; split <;> omega⟩
  unfold putD
  rw [if_neg hne, h.app, hw, journal_snoc]

/-- A put at which the store crashes. -/
theorem put_torn {G : List (List Int)} (hG : GoodR G) (f : Nat) (b : List Int) (hf : f ≤ b.length + 8) :
    appL (journalL G) f b = journalL G ++ (recL b).take f ∧ putD (journalL G) (journalL G).length f b = (journalL G).length ∧ putE f b = 19 ∧ leftF f (recL b) = 0 := by
  have hr := rec_len b
  have hl : leftF f (recL b) = 0 := by
    unfold leftF
    rw [if_neg (by omega)]
    split
    · omega
    · rfl
  refine ⟨?_, ?_, by unfold putE; rw [if_pos hl], hl⟩
  · rw [(holds_journal hG).app]
    unfold wrote
    rw [if_neg (by omega), Int.toNat_natCast]
  · unfold putD
    rw [if_pos hl, (holds_journal hG).1, journalL_len, Int.min_self]

/-- What is read after the crash. -/
theorem crash_torn {G : List (List Int)} (hG : GoodR G) (b : List Int) (hb : ∀ x, x ∈ b → Byte x) (hl : b.length ≤ 66) (m N : Nat) (hm : m ≤ b.length + 8) (h1 : (journalL G).length ≤ N) (h2 : N ≤ (journalL G).length + m) :
    (HoldsR ((journalL G ++ (recL b).take m).take N) G ∧ recordsL ((journalL G ++ (recL b).take m).take N) = G) ∨
    (HoldsR ((journalL G ++ (recL b).take m).take N) (G ++ [b]) ∧ recordsL ((journalL G ++ (recL b).take m).take N) = G ++ [b]) := by
  have e : (journalL G ++ (recL b).take m).take N = journalL G ++ (recL b).take (N - (journalL G).length) := by
    rw [List.take_append, List.take_of_length_le h1, List.take_take, Nat.min_eq_left (by omega)]
  rw [e]
  by_cases hq : N - (journalL G).length < b.length + 8
  · exact .inl ⟨holds_part hG b _ hb hl hq, (holds_part hG b _ hb hl hq).1⟩
  · rw [List.take_of_length_le (by rw [rec_len]; omega), ← journal_snoc]
    have := holds_journal (hG.append (fun r hr => by obtain rfl := List.mem_singleton.1 hr; exact ⟨hb, hl⟩) : GoodR (G ++ [b]))
    exact .inr ⟨this, this.1⟩

theorem crash_all (q : Nat) (K : Nat) : crashN q q K = q := by unfold crashN; split <;> omega
theorem crashN_ge (n D K : Nat) (h : D ≤ n) : D ≤ crashN n D K := by unfold crashN; split <;> omega

/-- The check ahead of a put. -/
theorem check_holds {C : List Int} {G : List (List Int)} (h : HoldsR C G) (hG : GoodR G) (hn : G.length ≤ 100) (d f : Int) (m : Nat) (hm : m ≤ 66) (hv : validJ C.length d f = true) : checkN C d f m = 0 := by
  have h1 := hG.len
  have hf : fullB C m = false := by unfold fullB; rw [h.1, Bool.or_eq_false_iff, decide_eq_false_iff_not, decide_eq_false_iff_not]; omega
  unfold checkN
  rw [hv, hf]
  rfl
theorem valid_at (n : Nat) (d f : Int) (h1 : n ≤ 163840) (h2 : 0 ≤ d) (h3 : d ≤ n) (h4 : -1 ≤ f) (h5 : f ≤ 1073741824) : validJ n d f = true := by
  simp [validJ]; omega
theorem journal_small {G : List (List Int)} (hG : GoodR G) (hn : G.length ≤ 100) : (journalL G).length ≤ 7400 := by
  rw [journalL_len]; have := hG.len; omega

/-! ### Items -/
def stampsOf (l : List (Int × List Int)) : List (List Int) := l.map fun x => stampL x.1 x.2
theorem right_parts {p : Int} {vs : List Int} (h : rightB p vs = true) : 0 ≤ p ∧ p < 8 ∧ vs.length ≤ 8 ∧ vs.any outS = false := by
  simp only [rightB, Bool.and_eq_true, decide_eq_true_eq, Bool.not_eq_true'] at h
  exact h
theorem stamps_len (l : List (Int × List Int)) : (stampsOf l).length = l.length := by simp [stampsOf]
theorem stamps_good {l : List (Int × List Int)} (h : ∀ x, x ∈ l → rightB x.1 x.2 = true) : GoodR (stampsOf l) := by
  intro r hr
  obtain ⟨x, hx, rfl⟩ := List.mem_map.1 hr
  obtain ⟨h1, h2, h3, h4⟩ := right_parts (h x hx)
  exact ⟨stampL_byte ⟨h1, by omega⟩ (by omega), by rw [stampL_len]; omega⟩
theorem stamps_get (l : List (Int × List Int)) (k : Nat) (hk : k < l.length) : (stampsOf l)[k]! = stampL l[k]!.1 l[k]!.2 := by
  rw [getElem!_pos _ k (by rw [stamps_len]; exact hk), getElem!_pos l k hk]
  simp [stampsOf]
theorem stamps_snoc (l : List (Int × List Int)) (k : Nat) (hk : k < l.length) : (stampsOf l).take (k + 1) = (stampsOf l).take k ++ [stampL l[k]!.1 l[k]!.2] := by
  rw [take_snoc' _ k (by rw [stamps_len]; exact hk), stamps_get l k hk]

/-! ### A part of a row -/
theorem Row.take {w : World} {base : Nat} {e : TypeId} {size : Nat} {a : Option Addr} {n c : Nat} {xs : List Value} (h : Row w base e size (.slice a n c) n xs) (k : Nat) (hk : k ≤ n) : Row w base e size (.slice a k c) k (xs.take (k * size)) := by
  have hle : k * size ≤ n * size := Nat.mul_le_mul_right _ hk
  refine ⟨by rw [List.length_take, h.1]; omega, ?_⟩
  rcases h.2 with ⟨h1, h2⟩ | ⟨g, off, cap, cur, h1, h2, h3, h4, h5, h6, h7⟩
  · left
    simp only [Value.slice.injEq] at h1
    obtain ⟨rfl, h, rfl⟩ := h1
    obtain rfl : k = 0 := by omega
    exact ⟨rfl, rfl⟩
  · simp only [Value.slice.injEq] at h1
    obtain ⟨rfl, _, rfl⟩ := h1
    exact .inr ⟨g, off, c, cur, rfl, h2, h3, by omega, h5, h6, by rw [← h7, List.take_take, Nat.min_eq_left hle]⟩
theorem RowRows.take {w : World} {base : Nat} {e e' : TypeId} {enc : Int → Value} {a : Option Addr} {n c : Nat} {l : List (List Int)} (h : RowRows w base e e' enc (.slice a n c) l) (k : Nat) (hk : k ≤ n) (hn : n = l.length) : RowRows w base e e' enc (.slice a k c) (l.take k) := by
  obtain ⟨vs, h1, h2⟩ := h
  subst hn
  have hvl : vs.length = l.length := by have := h1.1; omega
  have hkl : (l.take k).length = k := by rw [List.length_take]; omega
  refine ⟨vs.take k, ?_, fun i hi => ?_⟩
  · rw [hkl]
    have := h1.take k hk
    rwa [Nat.mul_one] at this
  · have hi2 : i < k := by omega
    have := h2 i (by omega)
    rwa [getElem!_pos (l.take k) i hi, List.getElem_take, getElem!_pos (vs.take k) i (by rw [List.length_take]; omega), List.getElem_take, ← getElem!_pos l i (by omega), ← getElem!_pos vs i (by omega)]

end Go.Proofs.Ytggofkaakccoeaa
