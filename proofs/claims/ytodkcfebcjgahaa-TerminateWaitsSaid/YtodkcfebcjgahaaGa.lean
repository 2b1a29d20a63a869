import Derived.Test.YtodkcfebcjgahaaOwnRel
/-
  Tables of the call's own: a row of rows of bools, each row with cells of its own. No function is named here.
-/
namespace Go.Proofs.Ytodkcfebcjgahaa
open Go.RowKit
set_option linter.unusedVariables false

def rowB (N m : Nat) : List Bool := (List.range N).map fun j => m.testBit j
theorem rowB_len (N m : Nat) : (rowB N m).length = N := by simp [rowB]
theorem rowB_at {N m j : Nat} (h : j < N) : (rowB N m)[j]! = m.testBit j := by
  rw [getElem!_pos _ j (by rw [rowB_len]; exact h)]; simp [rowB]
theorem rowB_set {N m j : Nat} (h : j < N) : (rowB N m).set j true = rowB N (m ||| 2 ^ j) := by
  refine List.ext_getElem (by rw [List.length_set, rowB_len, rowB_len]) fun i h1 h2 => ?_
  rw [List.getElem_set]
  simp only [rowB, List.getElem_map, List.getElem_range, Nat.testBit_or, Nat.testBit_two_pow]
  split
  · rename_i e; simp [e]
  · rename_i e; simp [e]
theorem rowB_zero (N : Nat) : rowB N 0 = List.replicate N false := by
  refine List.ext_getElem (by rw [rowB_len, List.length_replicate]) fun i h1 h2 => by simp [rowB]

structure OwnTab (w : World) (base : Nat) (v : Value) (N : Nat) (M : List Nat) (vw : Nat → Value) : Prop where
  row : Row w base 49 1 v M.length ((List.range M.length).map vw)
  word : ∀ k, k < M.length → Row w base 4 1 (vw k) N ((rowB N M[k]!).map Value.bool)
  dis : ∀ i j, i < M.length → j < M.length → i ≠ j → (vw i).ownBlock ≠ (vw j).ownBlock
section
variable {w : World} {base : Nat} {v : Value} {N : Nat} {M : List Nat} {vw : Nat → Value}
theorem OwnTab.nil (w : World) (base N : Nat) (vw : Nat → Value) : OwnTab w base (.slice none 0 0) N [] vw :=
  ⟨Row.mkNil _ _ _ _, fun k hk => absurd hk (by simp), fun i j hi => absurd hi (by simp)⟩
theorem OwnTab.ext {w' : World} (h : OwnTab w base v N M vw) (x : Ext w w') : OwnTab w' base v N M vw :=
  ⟨h.1.ext x, fun k hk => (h.2 k hk).ext x, h.3⟩
theorem OwnTab.mono {base' : Nat} (h : OwnTab w base v N M vw) (x : base' ≤ base) : OwnTab w base' v N M vw :=
  ⟨h.1.mono x, fun k hk => (h.2 k hk).mono x, h.3⟩
theorem OwnTab.any (h : OwnTab w base v N M vw) : ∃ a c, v = .slice a M.length c := by
  obtain ⟨a, c, e, _⟩ := h.row.any
  exact ⟨a, c, e⟩
theorem OwnTab.shape (h : OwnTab w base v N M vw) (hn : 0 < M.length) : ∃ g o c, v = .slice (some ⟨g, o, none⟩) M.length c := by
  obtain ⟨g, o, c, e, _⟩ := h.row.shape hn
  exact ⟨g, o, c, e⟩
/-- Where a row lies. -/
theorem OwnTab.rowAt {g o n c : Nat} (h : OwnTab w base (.slice (some ⟨g, o, none⟩) n c) N M vw) (hn : n = M.length) {k : Nat} (hk : k < M.length) : w.cell? ⟨g, o + k, none⟩ = some (vw k) := by
  subst hn
  have e0 := h.row.cell k (by omega)
  rw [e0]; simp [hk]
/-- A bit of a row. -/
theorem OwnTab.bitAt (h : OwnTab w base v N M vw) {k j : Nat} (hk : k < M.length) (hj : j < N) : ∃ g o c, vw k = .slice (some ⟨g, o, none⟩) N c ∧ base ≤ g ∧ g < w.heap.size ∧ N ≤ c ∧ w.cell? ⟨g, o + j, none⟩ = some (.bool (hasM M k j)) ∧ w.frozen? ⟨g, o + j, none⟩ = false := by
  have h3 := h.word k hk
  obtain ⟨g, o, c, e, hb, hg, hc⟩ := h3.shape (by omega)
  rw [e] at h3
  have h4 := h3.cell j (by omega)
  refine ⟨g, o, c, e, hb, hg, hc, ?_, h3.free _⟩
  rw [h4]; unfold hasM; simp [rowB, hj]
/-- A bit is set. -/
theorem OwnTab.put {k j g o c : Nat} (h : OwnTab w base v N M vw) (hk : k < M.length) (hj : j < N) (hv : vw k = .slice (some ⟨g, o, none⟩) N c) : OwnTab (w.setCell ⟨g, o + j, none⟩ (.bool true)) base v N (putM M k j) vw := by
  obtain ⟨g1, g3, g4⟩ := h
  have hw := g3 k hk
  rw [hv] at hw
  obtain ⟨cur, fr, hg⟩ := row_heap hw
  have hl : (putM M k j).length = M.length := by simp [putM]
  refine ⟨by rw [hl]; exact g1.stT hg (by decide) _, fun i hi => ?_, fun a b ha hb => g4 a b (by rw [hl] at ha; exact ha) (by rw [hl] at hb; exact hb)⟩
  rw [hl] at hi
  by_cases e : i = k
  · subst e
    unfold putM
    rw [nat_set_at hi, hv, ← rowB_set hj, List.map_set]
    exact hw.set j (.bool true) (by omega)
  · unfold putM
    rw [nat_set_ne e]
    refine (g3 i hi).st (p := ⟨g, o + j, none⟩) ?_ _
    have := g4 i k hi hk e
    rw [hv] at this
    exact this
/-- One row more. -/
theorem OwnTab.snoc {w' : World} {v' u : Value} (h : OwnTab w base v N M vw)
    {m : Nat} (hu : Row w base 4 1 u N ((rowB N m).map Value.bool)) (hd : ∀ i, i < M.length → (vw i).ownBlock ≠ u.ownBlock) (hg : w.grownBy w' v.ownBlock) (ho : Row w' base 49 1 v' (M.length + 1) ((List.range M.length).map vw ++ [u])) : OwnTab w' base v' N (M ++ [m]) (updR vw M.length u) := by
  obtain ⟨h1, h3, h4⟩ := h
  have hl : (M ++ [m]).length = M.length + 1 := by simp
  have he : (List.range (M.length + 1)).map (updR vw M.length u) = (List.range M.length).map vw ++ [u] := by
    rw [List.range_succ, List.map_append]
    congr 1
    · exact List.map_congr_left fun a ha => updR_ne (by have := List.mem_range.1 ha; omega)
    · simp [updR_at]
  refine ⟨by rw [hl, he]; exact ho, fun k hk => ?_, fun i j hi hj hij => ?_⟩
  · rw [hl] at hk
    by_cases e : k = M.length
    · subst e
      rw [updR_at, show (M ++ [m])[M.length]! = m by rw [getElem!_pos _ _ (by simp)]; simp]
      exact hu.grown hg (hu.apart h1 (by decide))
    · rw [updR_ne e, show (M ++ [m])[k]! = M[k]! by rw [getElem!_pos _ k (by simp; omega), getElem!_pos M k (by omega), List.getElem_append_left (by omega)]]
      exact (h3 k (by omega)).grown hg ((h3 k (by omega)).apart h1 (by decide))
  · rw [hl] at hi hj
    by_cases e1 : i = M.length
    · rw [e1, updR_at, updR_ne (by omega)]
      exact fun e => hd j (by omega) e.symm
    · by_cases e2 : j = M.length
      · rw [e2, updR_at, updR_ne e1]; exact hd i (by omega)
      · rw [updR_ne e1, updR_ne e2]; exact h4 i j (by omega) (by omega) hij
end

end Go.Proofs.Ytodkcfebcjgahaa

/-
  Rows of bits joined bit by bit. No function is named here.
-/
namespace Go.Proofs.Ytodkcfebcjgahaa
open Go.RowKit
set_option linter.unusedVariables false

def SameB (N : Nat) (S T : List Nat) : Prop := S.length = T.length ∧ ∀ a b, b < N → hasM S a b = hasM T a b
theorem SameB.trans {N : Nat} {S T U : List Nat} (h : SameB N S T) (g : SameB N T U) : SameB N S U := ⟨h.1.trans g.1, fun a b hb => (h.2 a b hb).trans (g.2 a b hb)⟩
theorem OwnTab.cong {w : World} {base : Nat} {v : Value} {N : Nat} {M T : List Nat} {vw : Nat → Value} (h : OwnTab w base v N M vw) (e : SameB N M T) : OwnTab w base v N T vw := by
  obtain ⟨h1, h2, h3⟩ := h
  rw [e.1] at h1 h2 h3
  refine ⟨h1, fun k hk => ?_, h3⟩
  have := h2 k hk
  have er : rowB N M[k]! = rowB N T[k]! := by
    unfold rowB
    exact List.map_congr_left fun j hj => e.2 k j (List.mem_range.1 hj)
  rw [er] at this; exact this
def orTo (M : List Nat) (i k j : Nat) : List Nat := M.set i (M[i]! ||| (M[k]! % 2 ^ j))
theorem orTo_len (M : List Nat) (i k j : Nat) : (orTo M i k j).length = M.length := by simp [orTo]
theorem orTo_has {M : List Nat} {i k j : Nat} (hi : i < M.length) (a b : Nat) : hasM (orTo M i k j) a b = (hasM M a b || (decide (a = i) && (decide (b < j) && hasM M k b))) := by
  unfold hasM orTo
  by_cases e : a = i
  · subst e
    rw [nat_set_at hi, Nat.testBit_or, Nat.testBit_mod_two_pow]; simp
  · rw [nat_set_ne e]; simp [e]
theorem orTo_zero {M : List Nat} {i k : Nat} (N : Nat) (hi : i < M.length) : SameB N M (orTo M i k 0) := ⟨(orTo_len ..).symm, fun a b _ => by rw [orTo_has hi]; simp⟩
theorem orTo_yes {M : List Nat} {i k j : Nat} (N : Nat) (hi : i < M.length) (h : hasM M k j = true) : SameB N (putM (orTo M i k j) i j) (orTo M i k (j + 1)) :=
  ⟨by simp [putM, orTo], fun a b _ => by
    rw [putM_has (by rw [orTo_len]; exact hi), orTo_has hi, orTo_has hi]
    by_cases e : a = i
    · by_cases e2 : b = j
      · subst e2; simp [e, h]
      · have : decide (b < j) = decide (b < j + 1) := by rw [decide_eq_decide]; omega
        simp [e, e2, this]
    · simp [e]⟩
theorem orTo_no {M : List Nat} {i k j : Nat} (N : Nat) (hi : i < M.length) (h : hasM M k j = false) : SameB N (orTo M i k j) (orTo M i k (j + 1)) :=
  ⟨by simp [orTo], fun a b _ => by
    rw [orTo_has hi, orTo_has hi]
    by_cases e2 : b = j
    · subst e2; simp [h]
    · have : decide (b < j) = decide (b < j + 1) := by rw [decide_eq_decide]; omega
      rw [this]⟩
theorem orTo_all {M : List Nat} {i k : Nat} (N : Nat) (hi : i < M.length) : SameB N (orTo M i k N) (mergeM M i k) :=
  ⟨by simp [orTo, mergeM], fun a b hb => by
    rw [orTo_has hi]
    unfold hasM mergeM
    by_cases e : a = i
    · subst e; rw [nat_set_at hi, Nat.testBit_or]; simp [hb]
    · rw [nat_set_ne e]; simp [e]⟩
theorem orTo_read {M : List Nat} {i k j : Nat} (hi : i < M.length) : hasM (orTo M i k j) k j = hasM M k j := by
  rw [orTo_has hi]; simp

end Go.Proofs.Ytodkcfebcjgahaa
