/-
  Queues of stamps in memory of the call's own, three levels deep. No program is named here.
-/
import Derived.Test.YtpjnppkhhbnfoaaRowRows
import Derived.Test.YtpjnppkhhbnfoaaBoxG
import Derived.Test.YtpjnppkhhbnfoaaCkF
namespace Go.Proofs.Ytpjnppkhhbnfoaa
open Go.RowKit
set_option linter.unusedVariables false

theorem RowRows.lt {w : World} {base : Nat} {e e' : TypeId} {enc : Int → Value} {v : Value} {l : List (List Int)} (h : RowRows w base e e' enc v l) : ∀ k, v.ownBlock = some k → base ≤ k ∧ k < w.heap.size := by
  obtain ⟨vs, h1, _⟩ := h; exact h1.lt
/-- A store into a block of another type. -/
theorem Row.stO {w : World} {base g o : Nat} {e t : TypeId} {size : Nat} {v : Value} {n : Nat} {xs : List Value} {cs : Array Value} {fr : Nat × Nat} (h : Row w base e size v n xs) (hg : w.heap[g]? = some (.cells cs t fr)) (hne : t ≠ e) (u : Value) : Row (w.setCell ⟨g, o, none⟩ u) base e size v n xs :=
  h.st (p := ⟨g, o, none⟩) (h.notBox hg hne) u
theorem RowRows.stO {w : World} {base g o : Nat} {e e' t : TypeId} {enc : Int → Value} {v : Value} {l : List (List Int)} {cs : Array Value} {fr : Nat × Nat} (h : RowRows w base e e' enc v l) (hg : w.heap[g]? = some (.cells cs t fr)) (h1 : t ≠ e) (h2 : t ≠ e') (u : Value) : RowRows (w.setCell ⟨g, o, none⟩ u) base e e' enc v l := by
  obtain ⟨vs, k1, k2⟩ := h
  exact ⟨vs, k1.stO hg h1 u, fun i hi => (k2 i hi).stO hg h2 u⟩
/-- Growth of another row. -/
theorem RowRows.grown {w w' : World} {base : Nat} {e e' : TypeId} {enc : Int → Value} {v : Value} {l : List (List Int)} {row : Option Nat} (h : RowRows w base e e' enc v l) (hg : w.grownBy w' row) (h1 : v.ownBlock = none ∨ v.ownBlock ≠ row)
    (h2 : ∀ k, row = some k → ∃ cs t fr, w.heap[k]? = some (.cells cs t fr) ∧ t ≠ e') : RowRows w' base e e' enc v l := by
  obtain ⟨vs, k1, k2⟩ := h
  refine ⟨vs, k1.grown hg h1, fun i hi => (k2 i hi).grown hg ?_⟩
  cases row with
  | none => cases h : vs[i]!.ownBlock <;> simp
  | some k =>
    obtain ⟨cs, t, fr, hk, hne⟩ := h2 k rfl
    exact .inr ((k2 i hi).notBox hk hne)
theorem Row.block {w : World} {base : Nat} {e : TypeId} {size : Nat} {v : Value} {n : Nat} {xs : List Value} (h : Row w base e size v n xs) : ∀ k, v.ownBlock = some k → ∃ cs t fr, w.heap[k]? = some (.cells cs t fr) ∧ t = e := by
  intro k hk
  rcases h.2 with ⟨rfl, _⟩ | ⟨g, off, cap, cur, rfl, _, hg, _⟩
  · simp [Value.ownBlock] at hk
  · simp [Value.ownBlock] at hk
    subst hk
    exact ⟨cur, e, (0, 0), hg, rfl⟩
theorem Row.block' {w : World} {base : Nat} {e e' : TypeId} {size : Nat} {v : Value} {n : Nat} {xs : List Value} (h : Row w base e size v n xs) (hne : e ≠ e') : ∀ k, v.ownBlock = some k → ∃ cs t fr, w.heap[k]? = some (.cells cs t fr) ∧ t ≠ e' := by
  intro k hk
  obtain ⟨cs, t, fr, h1, rfl⟩ := h.block k hk
  exact ⟨cs, t, fr, h1, hne⟩

/-- The headers of the queues. -/
def QHs (w : World) (base : Nat) (e2 e3 : TypeId) (hs : List Value) (qs : List (List (List Int))) : Prop :=
  hs.length = qs.length ∧ (∀ p, p < qs.length → RowRows w base e2 e3 (Value.int .i64) hs[p]! qs[p]!) ∧
    ∀ p q, p < qs.length → q < qs.length → p ≠ q → hs[p]!.ownBlock = none ∨ hs[p]!.ownBlock ≠ hs[q]!.ownBlock
def OwnQs (w : World) (base : Nat) (e1 e2 e3 : TypeId) (uq : Value) (qs : List (List (List Int))) : Prop :=
  ∃ hs : List Value, Row w base e1 1 uq qs.length hs ∧ QHs w base e2 e3 hs qs

theorem QHs.ext {w w' : World} {base : Nat} {e2 e3 : TypeId} {hs : List Value} {qs : List (List (List Int))} (h : QHs w base e2 e3 hs qs) (x : Ext w w') : QHs w' base e2 e3 hs qs := ⟨h.1, fun p hp => (h.2.1 p hp).ext x, h.2.2⟩
theorem QHs.mono {w : World} {base base' : Nat} {e2 e3 : TypeId} {hs : List Value} {qs : List (List (List Int))} (h : QHs w base e2 e3 hs qs) (hb : base' ≤ base) : QHs w base' e2 e3 hs qs := ⟨h.1, fun p hp => (h.2.1 p hp).mono hb, h.2.2⟩
theorem QHs.mkNil (w : World) (base : Nat) (e2 e3 : TypeId) : QHs w base e2 e3 [] [] := ⟨rfl, fun p hp => absurd hp (by simp), fun p q hp => absurd hp (by simp)⟩
theorem OwnQs.ext {w w' : World} {base : Nat} {e1 e2 e3 : TypeId} {uq : Value} {qs : List (List (List Int))} (h : OwnQs w base e1 e2 e3 uq qs) (x : Ext w w') : OwnQs w' base e1 e2 e3 uq qs := by
  obtain ⟨hs, h1, h2⟩ := h; exact ⟨hs, h1.ext x, h2.ext x⟩
theorem OwnQs.mono {w : World} {base base' : Nat} {e1 e2 e3 : TypeId} {uq : Value} {qs : List (List (List Int))} (h : OwnQs w base e1 e2 e3 uq qs) (hb : base' ≤ base) : OwnQs w base' e1 e2 e3 uq qs := by
  obtain ⟨hs, h1, h2⟩ := h; exact ⟨hs, h1.mono hb, h2.mono hb⟩
theorem OwnQs.mkNil (w : World) (base : Nat) (e1 e2 e3 : TypeId) : OwnQs w base e1 e2 e3 (.slice none 0 0) [] := ⟨[], Row.mkNil _ _ _ _, QHs.mkNil _ _ _ _⟩
theorem QHs.stO {w : World} {base g o : Nat} {e2 e3 t : TypeId} {hs : List Value} {qs : List (List (List Int))} {cs : Array Value} {fr : Nat × Nat} (h : QHs w base e2 e3 hs qs) (hg : w.heap[g]? = some (.cells cs t fr)) (h2 : t ≠ e2) (h3 : t ≠ e3) (u : Value) : QHs (w.setCell ⟨g, o, none⟩ u) base e2 e3 hs qs :=
  ⟨h.1, fun p hp => (h.2.1 p hp).stO hg h2 h3 u, h.2.2⟩
theorem OwnQs.stO {w : World} {base g o : Nat} {e1 e2 e3 t : TypeId} {uq : Value} {qs : List (List (List Int))} {cs : Array Value} {fr : Nat × Nat} (h : OwnQs w base e1 e2 e3 uq qs) (hg : w.heap[g]? = some (.cells cs t fr)) (h1 : t ≠ e1) (h2 : t ≠ e2) (h3 : t ≠ e3) (u : Value) : OwnQs (w.setCell ⟨g, o, none⟩ u) base e1 e2 e3 uq qs := by
  obtain ⟨hs, k1, k2⟩ := h; exact ⟨hs, k1.stO hg h1 u, k2.stO hg h2 h3 u⟩

/-- One queue more: the header row has grown. -/
theorem QHs.push {w0 W w2 : World} {base : Nat} {e1 e2 e3 : TypeId} {hs : List Value} {qs : List (List (List Int))} {v uq : Value} {n : Nat} {xs : List Value} {q : List (List Int)} (h0 : QHs w0 base e2 e3 hs qs) (hx : Ext w0 W)
    (hv : RowRows W w0.heap.size e2 e3 (Value.int .i64) v q) (hb : base ≤ w0.heap.size) (hrow : Row W base e1 1 uq n xs) (hg : W.grownBy w2 uq.ownBlock) (h12 : e1 ≠ e2) (h13 : e1 ≠ e3) : QHs w2 base e2 e3 (hs ++ [v]) (qs ++ [q]) := by
  obtain ⟨h1, h2, h3⟩ := h0
  have keep : ∀ (u : Value) (l : List (List Int)), RowRows W base e2 e3 (Value.int .i64) u l → RowRows w2 base e2 e3 (Value.int .i64) u l := by
    intro u l hu
    refine hu.grown hg ?_ (hrow.block' h13)
    obtain ⟨vs, k1, _⟩ := hu
    exact k1.apart hrow (fun e => h12 e.symm)
  have hlt := hv.lt
  refine ⟨by simp [h1], fun p hp => ?_, fun p r hp hr hpr => ?_⟩
  · rw [List.length_append, List.length_singleton] at hp
    rw [snoc_at hs v p (by omega), snoc_at qs q p (by omega), h1]
    split
    · exact keep _ _ (hv.mono hb)
    · exact keep _ _ ((h2 p (by omega)).ext hx)
  · rw [List.length_append, List.length_singleton] at hp hr
    rw [snoc_at hs v p (by omega), snoc_at hs v r (by omega), h1]
    by_cases e1 : p = qs.length
    · rw [if_pos e1, if_neg (by omega)]
      cases hk : v.ownBlock with
      | none => exact .inl rfl
      | some k =>
        refine .inr fun h => ?_
        have := ((h2 r (by omega)).lt k h.symm).2
        have := (hlt k hk).1
        omega
    · rw [if_neg e1]
      by_cases e2 : r = qs.length
      · rw [if_pos e2]
        cases hk : hs[p]!.ownBlock with
        | none => exact .inl rfl
        | some k =>
          refine .inr fun h => ?_
          have := ((h2 p (by omega)).lt k hk).2
          have := (hlt k h.symm).1
          omega
      · rw [if_neg e2]
        exact h3 p r (by omega) (by omega) hpr

/-- One header is replaced. -/
theorem QHs.replace {w0 w2 : World} {base p : Nat} {e2 e3 : TypeId} {hs : List Value} {qs : List (List (List Int))} {v : Value} {q : List (List Int)} (h : QHs w0 base e2 e3 hs qs) (hp : p < qs.length)
    (hold : ∀ r, r < qs.length → r ≠ p → RowRows w2 base e2 e3 (Value.int .i64) hs[r]! qs[r]!) (hv : RowRows w2 base e2 e3 (Value.int .i64) v q)
    (hb : v.ownBlock = hs[p]!.ownBlock ∨ ∃ k, v.ownBlock = some k ∧ w0.heap.size ≤ k) : QHs w2 base e2 e3 (hs.set p v) (qs.set p q) := by
  obtain ⟨h1, h2, h3⟩ := h
  refine ⟨by simp [h1], fun r hr => ?_, fun r s hr hs' hrs => ?_⟩
  · rw [List.length_set] at hr
    rw [set_at hs p r v (by omega), set_at qs p r q hp]
    split
    · exact hv
    · rename_i hne; exact hold r hr hne
  · rw [List.length_set] at hr hs'
    rw [set_at hs p r v (by omega), set_at hs p s v (by omega)]
    by_cases e1 : r = p
    · rw [if_pos e1, if_neg (by omega)]
      rcases hb with hb | ⟨k, hk, hkb⟩
      · rw [hb]; exact h3 p s hp hs' (by omega)
      · rw [hk]
        refine .inr fun h => ?_
        have := ((h2 s hs').lt k h.symm).2
        omega
    · rw [if_neg e1]
      by_cases e2 : s = p
      · rw [if_pos e2]
        rcases hb with hb | ⟨k, hk, hkb⟩
        · rw [hb]; exact h3 r p hr hp (by omega)
        · rw [hk]
          cases hrb : hs[r]!.ownBlock with
          | none => exact .inl rfl
          | some k2 =>
            refine .inr fun h => ?_
            simp only [Option.some.injEq] at h
            subst h
            have := ((h2 r hr).lt _ hrb).2
            omega
      · rw [if_neg e2]; exact h3 r s hr hs' hrs

end Go.Proofs.Ytpjnppkhhbnfoaa
