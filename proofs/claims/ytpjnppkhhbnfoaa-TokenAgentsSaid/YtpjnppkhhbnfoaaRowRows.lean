/-
  Rows of rows: a slice of the call's own whose elements are slices of its own. No program is named here.
-/
import Derived.Test.YtpjnppkhhbnfoaaRow
namespace Go.Proofs.Ytpjnppkhhbnfoaa
open Go.RowKit
set_option linter.unusedVariables false

/-- v owns its cells; each is a slice of its own that reads as a list. -/
def RowRows (w : World) (base : Nat) (e e' : TypeId) (enc : Int → Value) (v : Value) (l : List (List Int)) : Prop :=
  ∃ vs : List Value, Row w base e 1 v l.length vs ∧ ∀ i, i < l.length → Row w base e' 1 vs[i]! l[i]!.length (l[i]!.map enc)

theorem RowRows.mkNil (w : World) (base : Nat) (e e' : TypeId) (enc : Int → Value) : RowRows w base e e' enc (.slice none 0 0) [] :=
  ⟨[], Row.mkNil _ _ _ _, fun i hi => absurd hi (by simp)⟩

theorem RowRows.ext {w w' : World} {base : Nat} {e e' : TypeId} {enc : Int → Value} {v : Value} {l : List (List Int)} (h : RowRows w base e e' enc v l) (x : Ext w w') : RowRows w' base e e' enc v l := by
  obtain ⟨vs, h1, h2⟩ := h
  exact ⟨vs, h1.ext x, fun i hi => (h2 i hi).ext x⟩

theorem RowRows.mono {w : World} {base base' : Nat} {e e' : TypeId} {enc : Int → Value} {v : Value} {l : List (List Int)} (h : RowRows w base e e' enc v l) (hb : base' ≤ base) : RowRows w base' e e' enc v l := by
  obtain ⟨vs, h1, h2⟩ := h
  exact ⟨vs, h1.mono hb, fun i hi => (h2 i hi).mono hb⟩

theorem rowRows_push {W w2 : World} {base : Nat} {e e' : TypeId} {enc : Int → Value} {v v' u : Value} {l : List (List Int)} {vs : List Value} {x : List Int} (hrow : Row W base e 1 v l.length vs)
    (hel : ∀ i, i < l.length → Row W base e' 1 vs[i]! l[i]!.length (l[i]!.map enc)) (hu : Row W base e' 1 u x.length (x.map enc)) (hne : e' ≠ e)
    (hg : W.grownBy w2 v.ownBlock) (hR : Row w2 base e 1 v' (l.length + 1) (vs ++ [u])) : RowRows w2 base e e' enc v' (l ++ [x]) := by
  refine ⟨vs ++ [u], by rw [List.length_append]; exact hR, fun i hi => ?_⟩
  have hvl : vs.length = l.length := by have := hrow.1; omega
  rw [List.length_append, List.length_singleton] at hi
  by_cases h : i < l.length
  · rw [getElem!_pos (l ++ [x]) i (by simp; omega), getElem!_pos (vs ++ [u]) i (by simp; omega), List.getElem_append_left h, List.getElem_append_left (by omega)]
    have := hel i h
    rw [getElem!_pos l i h, getElem!_pos vs i (by omega)] at this
    exact this.grown hg (this.apart hrow hne)
  · obtain rfl : i = l.length := by omega
    rw [getElem!_pos (l ++ [x]) _ (by simp), getElem!_pos (vs ++ [u]) _ (by simp; omega), List.getElem_append_right (by omega), List.getElem_append_right (by omega)]
    simp only [Nat.sub_self, hvl, List.getElem_cons_zero]
    exact hu.grown hg (hu.apart hrow hne)

end Go.Proofs.Ytpjnppkhhbnfoaa
