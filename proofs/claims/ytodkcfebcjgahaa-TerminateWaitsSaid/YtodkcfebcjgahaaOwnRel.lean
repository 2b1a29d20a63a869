/-
  Relations of the call's own on at most 64 numbers: a row of sets, each with one word of its own. No function is named here.
-/
import Derived.Test.YtodkcfebcjgahaaBoxG
import Derived.Test.YtodkcfebcjgahaaRelL
import Derived.Test.YtodkcfebcjgahaaTr
namespace Go.Proofs.Ytodkcfebcjgahaa
open Go.RowKit
set_option linter.unusedVariables false

theorem Row.stT {w : World} {base g o : Nat} {e t : TypeId} {size : Nat} {v : Value} {n : Nat} {xs : List Value} {cs : Array Value} {fr : Nat × Nat} (h : Row w base e size v n xs) (hg : w.heap[g]? = some (.cells cs t fr)) (hne : t ≠ e) (u : Value) : Row (w.setCell ⟨g, o, none⟩ u) base e size v n xs :=
  h.st (p := ⟨g, o, none⟩) (h.notBox hg hne) u
theorem row_heap {w : World} {base g off cap n m : Nat} {e : TypeId} {size : Nat} {xs : List Value} (h : Row w base e size (.slice (some ⟨g, off, none⟩) m cap) n xs) : ∃ cur fr, w.heap[g]? = some (.cells cur e fr) := by
  rcases h.2 with ⟨e, _⟩ | ⟨g', off', cap', cur, e, _, hgg, _⟩
  · cases e
  · simp only [Value.slice.injEq, Option.some.injEq, Addr.mk.injEq, and_true] at e
    obtain ⟨⟨rfl, _⟩, _⟩ := e
    exact ⟨_, _, hgg⟩
theorem heap_keptR {W W' : World} {row : Option Nat} {k : Nat} {o : Obj} (h : W.heap[k]? = some o) (hg : W.grownBy W' row) (hr : ∀ q, row = some q → q ≠ k) : W'.heap[k]? = some o :=
  (hg.block k (Array.getElem?_eq_some_iff.1 h).1 (fun e => hr k e.symm rfl)).trans h
theorem take_getR {cs xs : List Value} {a n : Nat} (h : (cs.drop a).take n = xs) {j : Nat} (hj : j < n) : cs[a + j]? = xs[j]? := by
  rw [← h, List.getElem?_take_of_lt hj, List.getElem?_drop]

def updR (va : Nat → Value) (k : Nat) (u : Value) : Nat → Value := fun j => if j = k then u else va j
theorem updR_at (va : Nat → Value) (k : Nat) (u : Value) : updR va k u k = u := if_pos rfl
theorem updR_ne {va : Nat → Value} {k j : Nat} {u : Value} (h : j ≠ k) : updR va k u j = va j := if_neg h
def setC (N : Nat) (u : Value) : List Value := [.int .i64 (N : Int), u]
def SetC (cs : List Value) (N n : Nat) (vw : Nat → Value) : Prop := cs.length = n * 2 ∧ ∀ k, k < n → (cs.drop (k * 2)).take 2 = setC N (vw k)
theorem SetC.snoc {cs : List Value} {N n : Nat} {vw : Nat → Value} (h : SetC cs N n vw) (u : Value) : SetC (cs ++ setC N u) N (n + 1) (updR vw n u) := by
  obtain ⟨h1, h2⟩ := h
  refine ⟨by rw [List.length_append, h1, Nat.add_mul]; rfl, fun k hk => ?_⟩
  by_cases e : k = n
  · subst e
    rw [updR_at, List.drop_left' h1, List.take_of_length_le (by show 2 ≤ 2; omega)]
  · rw [updR_ne e, List.drop_append_of_le_length (by rw [h1]; omega), List.take_append_of_le_length (by rw [List.length_drop, h1]; omega), h2 k (by omega)]

structure OwnRel (w : World) (base : Nat) (v : Value) (N : Nat) (M : List Nat) (vw : Nat → Value) : Prop where
  row : ∃ cs, Row w base 79 2 v M.length cs ∧ SetC cs N M.length vw
  word : ∀ k, k < M.length → Row w base 80 1 (vw k) 1 [.int .u64 (M[k]! : Int)]
  dis : ∀ i j, i < M.length → j < M.length → i ≠ j → (vw i).ownBlock ≠ (vw j).ownBlock
section
variable {w : World} {base : Nat} {v : Value} {N : Nat} {M : List Nat} {vw : Nat → Value}
theorem OwnRel.nil (w : World) (base N : Nat) (vw : Nat → Value) : OwnRel w base (.slice none 0 0) N [] vw :=
  ⟨⟨[], Row.mkNil _ _ _ _, rfl, fun k hk => absurd hk (by simp)⟩, fun k hk => absurd hk (by simp), fun i j hi => absurd hi (by simp)⟩
theorem OwnRel.ext {w' : World} (h : OwnRel w base v N M vw) (x : Ext w w') : OwnRel w' base v N M vw := by
  obtain ⟨⟨cs, h1, h2⟩, h3, h4⟩ := h
  exact ⟨⟨cs, h1.ext x, h2⟩, fun k hk => (h3 k hk).ext x, h4⟩
theorem OwnRel.mono {base' : Nat} (h : OwnRel w base v N M vw) (x : base' ≤ base) : OwnRel w base' v N M vw := by
  obtain ⟨⟨cs, h1, h2⟩, h3, h4⟩ := h
  exact ⟨⟨cs, h1.mono x, h2⟩, fun k hk => (h3 k hk).mono x, h4⟩
/-- A store into a block of another type. -/
theorem OwnRel.stO {g o : Nat} {t : TypeId} {cs : Array Value} {fr : Nat × Nat} (h : OwnRel w base v N M vw) (hg : w.heap[g]? = some (.cells cs t fr)) (h1 : t ≠ 79) (h2 : t ≠ 80) (u : Value) : OwnRel (w.setCell ⟨g, o, none⟩ u) base v N M vw := by
  obtain ⟨⟨cs, g1, g2⟩, g3, g4⟩ := h
  exact ⟨⟨cs, g1.stT hg h1 u, g2⟩, fun k hk => (g3 k hk).stT hg h2 u, g4⟩
theorem OwnRel.any (h : OwnRel w base v N M vw) : ∃ a c, v = .slice a M.length c := by
  obtain ⟨⟨cs, h1, h2⟩, _⟩ := h
  obtain ⟨a, c, e, _⟩ := h1.any
  exact ⟨a, c, e⟩
theorem OwnRel.shape (h : OwnRel w base v N M vw) (hn : 0 < M.length) : ∃ g o c, v = .slice (some ⟨g, o, none⟩) M.length c := by
  obtain ⟨⟨cs, h1, h2⟩, _⟩ := h
  obtain ⟨g, o, c, e, _⟩ := h1.shape hn
  exact ⟨g, o, c, e⟩
theorem OwnRel.wordAt (h : OwnRel w base v N M vw) {k : Nat} (hk : k < M.length) : ∃ g o c, vw k = .slice (some ⟨g, o, none⟩) 1 c ∧ base ≤ g ∧ g < w.heap.size ∧ 1 ≤ c ∧ w.cell? ⟨g, o, none⟩ = some (.int .u64 (M[k]! : Int)) ∧ w.frozen? ⟨g, o, none⟩ = false := by
  have h3 := h.word k hk
  obtain ⟨g, o, c, e, hb, hg, hc⟩ := h3.shape (by omega)
  rw [e] at h3
  have h4 := h3.cell 0 (by omega)
  exact ⟨g, o, c, e, hb, hg, hc, by simpa using h4, h3.free o⟩
theorem OwnRel.cellsAt {g o n c : Nat} (h : OwnRel w base (.slice (some ⟨g, o, none⟩) n c) N M vw) (hn : n = M.length) {k : Nat} (hk : k < M.length) : w.cell? ⟨g, o + k * 2, none⟩ = some (.int .i64 (N : Int)) ∧ w.cell? ⟨g, o + k * 2 + 1, none⟩ = some (vw k) := by
  subst hn
  obtain ⟨⟨cs, h1, h2⟩, _⟩ := h
  have e0 := h1.cell (k * 2 + 0) (by omega)
  have e1 := h1.cell (k * 2 + 1) (by omega)
  rw [take_getR (h2.2 k hk) (by omega)] at e0 e1
  exact ⟨e0, by rw [Nat.add_assoc]; exact e1⟩
/-- A word is set. -/
theorem OwnRel.set {k g o c : Nat} (h : OwnRel w base v N M vw) (hk : k < M.length) (hv : vw k = .slice (some ⟨g, o, none⟩) 1 c) (m : Nat) : OwnRel (w.setCell ⟨g, o, none⟩ (.int .u64 (m : Int))) base v N (M.set k m) vw := by
  obtain ⟨⟨cs, g1, g2⟩, g3, g4⟩ := h
  have hw := g3 k hk
  rw [hv] at hw
  obtain ⟨cur, fr, hg⟩ := row_heap hw
  refine ⟨⟨cs, by rw [List.length_set]; exact g1.stT hg (by decide) _, by rw [List.length_set]; exact g2⟩, fun j hj => ?_, fun i j hi hj => g4 i j (by rw [List.length_set] at hi; exact hi) (by rw [List.length_set] at hj; exact hj)⟩
  rw [List.length_set] at hj
  by_cases e : j = k
  · subst e
    rw [nat_set_at hj, hv]
    have := hw.set 0 (.int .u64 (m : Int)) (by omega)
    simpa using this
  · rw [nat_set_ne e]
    refine (g3 j hj).st (p := ⟨g, o, none⟩) ?_ _
    have := g4 j k hj hk e
    rw [hv] at this
    exact this
/-- One row more. -/
theorem OwnRel.snoc {w' : World} {v' u : Value} {cs : List Value} (h1 : Row w base 79 2 v M.length cs) (h2 : SetC cs N M.length vw) (h3 : ∀ k, k < M.length → Row w base 80 1 (vw k) 1 [.int .u64 (M[k]! : Int)]) (h4 : ∀ i j, i < M.length → j < M.length → i ≠ j → (vw i).ownBlock ≠ (vw j).ownBlock)
    {m : Nat} (hu : Row w base 80 1 u 1 [.int .u64 (m : Int)]) (hd : ∀ i, i < M.length → (vw i).ownBlock ≠ u.ownBlock) (hg : w.grownBy w' v.ownBlock) (ho : Row w' base 79 2 v' (M.length + 1) (cs ++ setC N u)) : OwnRel w' base v' N (M ++ [m]) (updR vw M.length u) := by
  have hl : (M ++ [m]).length = M.length + 1 := by simp
  refine ⟨⟨_, by rw [hl]; exact ho, by rw [hl]; exact h2.snoc u⟩, fun k hk => ?_, fun i j hi hj hij => ?_⟩
  · rw [hl] at hk
    by_cases e : k = M.length
    · subst e
      rw [updR_at, show (M ++ [m])[M.length]! = m by rw [getElem!_pos _ _ (by simp)]; simp]
      exact hu.grown hg (hu.apart h1 (by decide))
    · rw [updR_ne e, show (M ++ [m])[k]! = M[k]! by rw [getElem!_pos _ k (by simp; omega), getElem!_pos M k (by omega), List.getElem_append_left (by omega)]]
      exact (h3 k (by omega)).grown hg ((h3 k (by omega)).apart h1 (by decide))
  · rw [hl] at hi hj
    by_cases e1 : i = M.length
    · rw [e1, updR_at, updR_ne (by omega)]
      exact fun e => hd j (by omega) e.symm
    · by_cases e2 : j = M.length
      · rw [e2, updR_at, updR_ne e1]; exact hd i (by omega)
      · rw [updR_ne e1, updR_ne e2]; exact h4 i j (by omega) (by omega) hij
end

/-! ### A relation that is read -/
def RSet (N : Nat) (w : World) (vs : List Value) (m : Nat) : Prop := ∃ b o c, vs = [.int .i64 (N : Int), .slice (some ⟨b, o, none⟩) 1 c] ∧ b < w.heap.size ∧ 1 ≤ c ∧ w.cell? ⟨b, o, none⟩ = some (.int .u64 (m : Int))
theorem rset_lasts (N : Nat) : Lasts (RSet N) := fun _ _ _ _ ⟨b, o, c, h, hb, hc, hcell⟩ e => ⟨b, o, c, h, Nat.lt_of_lt_of_le hb e.size, hc, e.cl hcell⟩
theorem OwnRel.sl {w : World} {base : Nat} {v : Value} {N : Nat} {M : List Nat} {vw : Nat → Value} (h : OwnRel w base v N M vw) : Sl (RSet N) 2 w v M := by
  obtain ⟨cs, h1, h2⟩ := h.row
  refine h1.cells.sl fun i hi => ?_
  rw [h2.2 i hi]
  obtain ⟨g, o, c, e, _, hg, hc, hcell, _⟩ := h.wordAt hi
  exact ⟨g, o, c, by rw [setC, e], hg, hc, hcell⟩
theorem rset_at {w : World} {v : Value} {N : Nat} {M : List Nat} (h : Sl (RSet N) 2 w v M) (i : Nat) (hi : i < M.length) :
    ∃ B O C b o c, v = .slice (some ⟨B, O, none⟩) M.length C ∧ M.length ≤ C ∧ B < w.heap.size ∧ w.cell? ⟨B, O + i * 2, none⟩ = some (.int .i64 (N : Int)) ∧ w.cell? ⟨B, O + i * 2 + 1, none⟩ = some (.slice (some ⟨b, o, none⟩) 1 c) ∧ 1 ≤ c ∧ b < w.heap.size ∧ w.cell? ⟨b, o, none⟩ = some (.int .u64 (M[i]! : Int)) := by
  obtain ⟨B, O, C, vs, rfl, hlc, hB, h1, ⟨b, o, c, rfl, hb, hc, hcell⟩, h3⟩ := Sl.cellsOf h i hi
  exact ⟨B, O, C, b, o, c, rfl, hlc, hB, by simpa using h3 0 (by omega), by simpa using h3 1 (by omega), hc, hb, hcell⟩

end Go.Proofs.Ytodkcfebcjgahaa
