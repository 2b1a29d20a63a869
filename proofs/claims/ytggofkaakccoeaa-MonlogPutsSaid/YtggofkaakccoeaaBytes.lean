/-
  Bytes that are read, and the numbers that are reckoned from them. No program is named here.
-/
import Derived.Test.YtggofkaakccoeaaRow
import Derived.Laws.BitsAllLaws
namespace Go.Proofs.Ytggofkaakccoeaa
open Go.RowKit
set_option linter.unusedVariables false

def Byte (x : Int) : Prop := 0 ≤ x ∧ x < 256

/-- The slice value v reads as the bytes l. -/
def Bys (w : World) (v : Value) (l : List Int) : Prop :=
  (∀ x, x ∈ l → Byte x) ∧ ∃ a c, v = .slice a l.length c ∧ l.length ≤ c ∧ (l ≠ [] → ∃ b off, a = some ⟨b, off, none⟩ ∧ b < w.heap.size ∧ ∀ i, i < l.length → w.cell? ⟨b, off + i, none⟩ = some (.int .u8 l[i]!))

theorem Bys.ext {w w' : World} {v : Value} {l : List Int} (h : Bys w v l) (e : Ext w w') : Bys w' v l := by
  obtain ⟨h0, a, c, rfl, hlc, h⟩ := h
  refine ⟨h0, a, c, rfl, hlc, fun hl => ?_⟩
  obtain ⟨b, off, rfl, hb, hc⟩ := h hl
  exact ⟨b, off, rfl, Nat.lt_of_lt_of_le hb e.size, fun i hi => (e.cell hb).trans (hc i hi)⟩

theorem Bys.take {w : World} {a : Option Addr} {n c : Nat} {l : List Int} (h : Bys w (.slice a n c) l) (k : Nat) (hk : k ≤ l.length) : Bys w (.slice a k c) (l.take k) := by
  obtain ⟨h0, a', c', he, hlc, h⟩ := h
  simp only [Value.slice.injEq] at he
  obtain ⟨rfl, rfl, rfl⟩ := he
  have hkl : (l.take k).length = k := by rw [List.length_take]; omega
  refine ⟨fun x hx => h0 x (List.mem_of_mem_take hx), a, c, by rw [hkl], by omega, fun hne => ?_⟩
  obtain ⟨b, off, rfl, hb, hc⟩ := h (by rintro rfl; simp at hne)
  refine ⟨b, off, rfl, hb, fun i hi => ?_⟩
  rw [hc i (by omega), getElem!_pos l i (by omega), getElem!_pos _ i hi, List.getElem_take]

theorem Bys.drop {w : World} {b off n c : Nat} {l : List Int} (h : Bys w (.slice (some ⟨b, off, none⟩) n c) l) (k : Nat) (hk : k ≤ l.length) : Bys w (.slice (some ⟨b, off + k, none⟩) (n - k) (c - k)) (l.drop k) := by
  obtain ⟨h0, a', c', he, hlc, h⟩ := h
  simp only [Value.slice.injEq] at he
  obtain ⟨rfl, rfl, rfl⟩ := he
  refine ⟨fun x hx => h0 x (List.mem_of_mem_drop hx), _, _, by rw [List.length_drop], by rw [List.length_drop]; omega, fun hne => ?_⟩
  obtain ⟨b', off', he, hb, hc⟩ := h (by rintro rfl; simp at hne)
  simp only [Option.some.injEq, Addr.mk.injEq, and_true] at he
  obtain ⟨rfl, rfl⟩ := he
  refine ⟨_, _, rfl, hb, fun i hi => ?_⟩
  rw [List.length_drop] at hi
  rw [Nat.add_assoc, hc (k + i) (by omega), getElem!_pos l (k + i) (by omega), getElem!_pos _ i (by rw [List.length_drop]; exact hi), List.getElem_drop]

theorem Bys.cells {w : World} {v : Value} {l : List Int} (h : Bys w v l) : CellsAt w v 1 l.length (l.map (Value.int .u8)) := by
  obtain ⟨_, a, c, rfl, hlc, h⟩ := h
  refine ⟨by simp, a, c, rfl, hlc, fun hn => ?_⟩
  obtain ⟨b, off, rfl, hb, hc⟩ := h (List.length_pos_iff.1 hn)
  refine ⟨b, off, rfl, hb, fun j hj => ?_⟩
  rw [hc j (by omega)]
  have : j < l.length := by omega
  simp [this]
theorem CellsAt.bys {w : World} {v : Value} {l : List Int} (h : CellsAt w v 1 l.length (l.map (Value.int .u8))) (h0 : ∀ x, x ∈ l → Byte x) : Bys w v l := by
  obtain ⟨_, a, c, rfl, hlc, h⟩ := h
  refine ⟨h0, a, c, rfl, hlc, fun hl => ?_⟩
  obtain ⟨b, off, rfl, hb, hc⟩ := h (List.length_pos_iff.2 hl)
  refine ⟨b, off, rfl, hb, fun i hi => ?_⟩
  rw [hc i (by omega)]
  simp [hi]
theorem Row.bys {w : World} {base n : Nat} {e : TypeId} {v : Value} {l : List Int} (h : Row w base e 1 v n (l.map (Value.int .u8))) (h0 : ∀ x, x ∈ l → Byte x) : Bys w v l := by
  have hn : n = l.length := by have := h.1; simpa using this.symm
  subst hn
  exact h.cells.bys h0
theorem byte_one (l : List Int) : ∀ u ∈ l.map (Value.int .u8), u.oneCell' = true := by
  intro u hu
  obtain ⟨x, _, rfl⟩ := List.mem_map.1 hu
  rfl
/-- What an append asks of the bytes that it takes over. -/
theorem Bys.news {w : World} {a : Option Addr} {n c : Nat} {l : List Int} (h : Bys w (.slice a n c) l) : 0 < n → ∃ ad, a = some ad ∧ ∀ j u, (l.map (Value.int .u8))[j]? = some u → w.cell? (ad.add j) = some u := by
  intro hn
  obtain ⟨h0, a', c', he, hlc, h⟩ := h
  simp only [Value.slice.injEq] at he
  obtain ⟨rfl, rfl, rfl⟩ := he
  obtain ⟨b, off, rfl, hb, hc⟩ := h (List.length_pos_iff.1 hn)
  refine ⟨_, rfl, fun j u hj => ?_⟩
  obtain ⟨hjl, rfl⟩ := List.getElem?_eq_some_iff.1 hj
  rw [List.length_map] at hjl
  rw [Addr.add_lit, hc j hjl, List.getElem_map, getElem!_pos l j hjl]

/-! ### The check sum -/
def sumStep (s x : Int) : Int := ((s.toNat ^^^ x.toNat : Nat) : Int) * 16777619 % 4294967296
def sumL (l : List Int) : Int := l.foldl sumStep 2166136261

theorem sumStep_lt (s x : Int) : 0 ≤ sumStep s x ∧ sumStep s x < 4294967296 := by unfold sumStep; omega
theorem foldl_snoc {α β : Type} [Inhabited α] (f : β → α → β) (z : β) (l : List α) (k : Nat) (hk : k < l.length) : (l.take (k + 1)).foldl f z = f ((l.take k).foldl f z) l[k]! := by
  rw [take_snoc' l k hk, List.foldl_append]; rfl
theorem sumTo_range (l : List Int) : 0 ≤ l.foldl sumStep 2166136261 ∧ l.foldl sumStep 2166136261 < 4294967296 := by
  have key : ∀ (l : List Int) (z : Int), 0 ≤ z → z < 4294967296 → 0 ≤ l.foldl sumStep z ∧ l.foldl sumStep z < 4294967296 := by
    intro l
    induction l with
    | nil => intro z h0 h1; exact ⟨h0, h1⟩
    | cons x l ih => intro z _ _; exact ih _ (sumStep_lt z x).1 (sumStep_lt z x).2
  exact key l _ (by omega) (by omega)

theorem xor_u32 (s x : Int) (h0 : 0 ≤ s) (h1 : s < 4294967296) (hx : Byte x) : bits .xor .u32 s x = ((s.toNat ^^^ x.toNat : Nat) : Int) := u32_xor s x h0 h1 hx.1 (by have := hx.2; omega)
theorem xor_lt (s x : Int) (h1 : s < 4294967296) (hx : Byte x) : s.toNat ^^^ x.toNat < 4294967296 :=
  Nat.xor_lt_two_pow (n := 32) (by omega) (by have := hx.2; omega)
theorem xor_i64 (s x : Int) (h0 : 0 ≤ s) (h1 : s < 4294967296) (hx : Byte x) : bits .xor .i64 s x = ((s.toNat ^^^ x.toNat : Nat) : Int) := by
  have hl := xor_lt s x h1 hx
  obtain ⟨A, rfl⟩ := Int.eq_ofNat_of_zero_le h0
  obtain ⟨B, rfl⟩ := Int.eq_ofNat_of_zero_le hx.1
  have hb := hx.2
  simp only [Int.toNat_natCast] at hl ⊢
  have hx64 : A ^^^ B < 2 ^ 64 := Nat.lt_trans hl (by omega)
  show IntKind.i64.wrap ((BitVec.ofInt 64 (A : Int) ^^^ BitVec.ofInt 64 (B : Int)).toNat : Int) = _
  rw [BitVec.toNat_xor, ofInt_u64 A (by omega), ofInt_u64 B (by omega), IntKind.wrap_i64]
  omega

/-! ### Numbers in bytes -/
def valL (l : List Int) : Int := l.foldl (fun n x => n * 256 + x) 0

theorem val_range (l : List Int) (hl : ∀ x, x ∈ l → Byte x) : 0 ≤ valL l ∧ valL l < 256 ^ l.length := by
  have key : ∀ (l : List Int) (z : Int) (m : Nat), (∀ x, x ∈ l → Byte x) → 0 ≤ z → z < 256 ^ m → 0 ≤ l.foldl (fun n x => n * 256 + x) z ∧ l.foldl (fun n x => n * 256 + x) z < 256 ^ (m + l.length) := by
    intro l
    induction l with
    | nil => intro z m _ h0 h1; exact ⟨h0, h1⟩
    | cons x l ih =>
      intro z m hl h0 h1
      have hx := hl x List.mem_cons_self
      have := ih (z * 256 + x) (m + 1) (fun y hy => hl y (List.mem_cons_of_mem _ hy)) (by have := hx.1; omega) (by have := hx.2; rw [Int.pow_succ]; omega)
      rw [List.foldl_cons, List.length_cons, show m + (l.length + 1) = m + 1 + l.length by omega]
      exact this
  have := key l 0 0 hl (by omega) (by decide)
  rwa [Nat.zero_add] at this

/-- The bytes of a number, the highest one first. -/
def wordL (n : Int) (size : Nat) : List Int := (List.range size).map fun i => n / 2 ^ (8 * (size - 1 - i)) % 256
def recL (l : List Int) : List Int := (wordL l.length 4 ++ l) ++ wordL (sumL (wordL l.length 4 ++ l)) 4

theorem word_get (n : Int) (k i : Nat) (hi : i < k) : (wordL n k)[i]! = n / 2 ^ (8 * (k - 1 - i)) % 256 := by
  rw [getElem!_pos _ i (by simp [wordL]; exact hi)]
  simp [wordL]
theorem word_len (n : Int) (k : Nat) : (wordL n k).length = k := by simp [wordL]
theorem word_byte (n : Int) (k : Nat) : ∀ x, x ∈ wordL n k → Byte x := by
  intro x hx
  obtain ⟨i, _, rfl⟩ := List.mem_map.1 hx
  exact ⟨by omega, by omega⟩

theorem sum_range (l : List Int) : 0 ≤ sumL l ∧ sumL l < 4294967296 := sumTo_range l
theorem rec_len (l : List Int) : (recL l).length = l.length + 8 := by unfold recL; rw [List.length_append, List.length_append, word_len, word_len]; omega
theorem rec_byte {l : List Int} (h : ∀ x, x ∈ l → Byte x) : ∀ x, x ∈ recL l → Byte x := by
  intro x hx
  unfold recL at hx
  rcases List.mem_append.1 hx with hx | hx
  · rcases List.mem_append.1 hx with hx | hx
    · exact word_byte _ _ x hx
    · exact h x hx
  · exact word_byte _ _ x hx

end Go.Proofs.Ytggofkaakccoeaa
