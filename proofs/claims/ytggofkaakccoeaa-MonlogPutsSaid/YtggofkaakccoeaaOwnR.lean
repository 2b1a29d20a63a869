import Derived.Test.YtggofkaakccoeaaRowRows
import Derived.Test.YtggofkaakccoeaaBoxG
import Derived.Test.YtggofkaakccoeaaCkF
import Derived.Test.YtggofkaakccoeaaCkB
/-
  Queues of stamps in memory of the call's own, three levels deep. No program is named here.
-/
namespace Go.Proofs.Ytggofkaakccoeaa
open Go.RowKit
set_option linter.unusedVariables false

theorem RowRows.lt {w : World} {base : Nat} {e e' : TypeId} {enc : Int → Value} {v : Value} {l : List (List Int)} (h : RowRows w base e e' enc v l) : ∀ k, v.ownBlock = some k → base ≤ k ∧ k < w.heap.size := by
  obtain ⟨vs, h1, _⟩ := h; exact h1.lt
/-- A store into a block of another type. -/
theorem Row.stO {w : World} {base g o : Nat} {e t : TypeId} {size : Nat} {v : Value} {n : Nat} {xs : List Value} {cs : Array Value} {fr : Nat × Nat} (h : Row w base e size v n xs) (hg : w.heap[g]? = some (.cells cs t fr)) (hne : t ≠ e) (u : Value) : Row (w.setCell ⟨g, o, none⟩ u) base e size v n xs :=
  h.st (p := ⟨g, o, none⟩) (h.notBox hg hne) u
theorem RowRows.stO {w : World} {base g o : Nat} {e e' t : TypeId} {enc : Int → Value} {v : Value} {l : List (List Int)} {cs : Array Value} {fr : Nat × Nat} (h : RowRows w base e e' enc v l) (hg : w.heap[g]? = some (.cells cs t fr)) (h1 : t ≠ e) (h2 : t ≠ e') (u : Value) : RowRows (w.setCell ⟨g, o, none⟩ u) base e e' enc v l := by
  obtain ⟨vs, k1, k2⟩ := h
  exact ⟨vs, k1.stO hg h1 u, fun i hi => (k2 i hi).stO hg h2 u⟩
/-- Growth of another row. -/
theorem RowRows.grown {w w' : World} {base : Nat} {e e' : TypeId} {enc : Int → Value} {v : Value} {l : List (List Int)} {row : Option Nat} (h : RowRows w base e e' enc v l) (hg : w.grownBy w' row) (h1 : v.ownBlock = none ∨ v.ownBlock ≠ row)
    (h2 : ∀ k, row = some k → ∃ cs t fr, w.heap[k]? = some (.cells cs t fr) ∧ t ≠ e') : RowRows w' base e e' enc v l := by
  obtain ⟨vs, k1, k2⟩ := h
  refine ⟨vs, k1.grown hg h1, fun i hi => (k2 i hi).grown hg ?_⟩
  cases row with
  | none => cases h : vs[i]!.ownBlock <;> simp
  | some k =>
    obtain ⟨cs, t, fr, hk, hne⟩ := h2 k rfl
    exact .inr ((k2 i hi).notBox hk hne)
theorem Row.block {w : World} {base : Nat} {e : TypeId} {size : Nat} {v : Value} {n : Nat} {xs : List Value} (h : Row w base e size v n xs) : ∀ k, v.ownBlock = some k → ∃ cs t fr, w.heap[k]? = some (.cells cs t fr) ∧ t = e := by
  intro k hk
  rcases h.2 with ⟨rfl, _⟩ | ⟨g, off, cap, cur, rfl, _, hg, _⟩
  · simp [Value.ownBlock] at hk
  · simp [Value.ownBlock] at hk
    subst hk
    exact ⟨cur, e, (0, 0), hg, rfl⟩
theorem Row.block' {w : World} {base : Nat} {e e' : TypeId} {size : Nat} {v : Value} {n : Nat} {xs : List Value} (h : Row w base e size v n xs) (hne : e ≠ e') : ∀ k, v.ownBlock = some k → ∃ cs t fr, w.heap[k]? = some (.cells cs t fr) ∧ t ≠ e' := by
  intro k hk
  obtain ⟨cs, t, fr, h1, rfl⟩ := h.block k hk
  exact ⟨cs, t, fr, h1, hne⟩

/-- The headers of the queues. -/
def QHs (w : World) (base : Nat) (e2 e3 : TypeId) (hs : List Value) (qs : List (List (List Int))) : Prop :=
  hs.length = qs.length ∧ (∀ p, p < qs.length → RowRows w base e2 e3 (Value.int .i64) hs[p]! qs[p]!) ∧
    ∀ p q, p < qs.length → q < qs.length → p ≠ q → hs[p]!.ownBlock = none ∨ hs[p]!.ownBlock ≠ hs[q]!.ownBlock
def OwnQs (w : World) (base : Nat) (e1 e2 e3 : TypeId) (uq : Value) (qs : List (List (List Int))) : Prop :=
  ∃ hs : List Value, Row w base e1 1 uq qs.length hs ∧ QHs w base e2 e3 hs qs

theorem QHs.ext {w w' : World} {base : Nat} {e2 e3 : TypeId} {hs : List Value} {qs : List (List (List Int))} (h : QHs w base e2 e3 hs qs) (x : Ext w w') : QHs w' base e2 e3 hs qs := ⟨h.1, fun p hp => (h.2.1 p hp).ext x, h.2.2⟩
theorem QHs.mono {w : World} {base base' : Nat} {e2 e3 : TypeId} {hs : List Value} {qs : List (List (List Int))} (h : QHs w base e2 e3 hs qs) (hb : base' ≤ base) : QHs w base' e2 e3 hs qs := ⟨h.1, fun p hp => (h.2.1 p hp).mono hb, h.2.2⟩
theorem QHs.mkNil (w : World) (base : Nat) (e2 e3 : TypeId) : QHs w base e2 e3 [] [] := ⟨rfl, fun p hp => absurd hp (by simp), fun p q hp => absurd hp (by simp)⟩
theorem OwnQs.ext {w w' : World} {base : Nat} {e1 e2 e3 : TypeId} {uq : Value} {qs : List (List (List Int))} (h : OwnQs w base e1 e2 e3 uq qs) (x : Ext w w') : OwnQs w' base e1 e2 e3 uq qs := by
  obtain ⟨hs, h1, h2⟩ := h; exact ⟨hs, h1.ext x, h2.ext x⟩
theorem OwnQs.mono {w : World} {base base' : Nat} {e1 e2 e3 : TypeId} {uq : Value} {qs : List (List (List Int))} (h : OwnQs w base e1 e2 e3 uq qs) (hb : base' ≤ base) : OwnQs w base' e1 e2 e3 uq qs := by
  obtain ⟨hs, h1, h2⟩ := h; exact ⟨hs, h1.mono hb, h2.mono hb⟩
theorem OwnQs.mkNil (w : World) (base : Nat) (e1 e2 e3 : TypeId) : OwnQs w base e1 e2 e3 (.slice none 0 0) [] := ⟨[], Row.mkNil _ _ _ _, QHs.mkNil _ _ _ _⟩
theorem QHs.stO {w : World} {base g o : Nat} {e2 e3 t : TypeId} {hs : List Value} {qs : List (List (List Int))} {cs : Array Value} {fr : Nat × Nat} (h : QHs w base e2 e3 hs qs) (hg : w.heap[g]? = some (.cells cs t fr)) (h2 : t ≠ e2) (h3 : t ≠ e3) (u : Value) : QHs (w.setCell ⟨g, o, none⟩ u) base e2 e3 hs qs :=
  ⟨h.1, fun p hp => (h.2.1 p hp).stO hg h2 h3 u, h.2.2⟩
theorem OwnQs.stO {w : World} {base g o : Nat} {e1 e2 e3 t : TypeId} {uq : Value} {qs : List (List (List Int))} {cs : Array Value} {fr : Nat × Nat} (h : OwnQs w base e1 e2 e3 uq qs) (hg : w.heap[g]? = some (.cells cs t fr)) (h1 : t ≠ e1) (h2 : t ≠ e2) (h3 : t ≠ e3) (u : Value) : OwnQs (w.setCell ⟨g, o, none⟩ u) base e1 e2 e3 uq qs := by
  obtain ⟨hs, k1, k2⟩ := h; exact ⟨hs, k1.stO hg h1 u, k2.stO hg h2 h3 u⟩

/-- One queue more: the header row has grown. -/
theorem QHs.push {w0 W w2 : World} {base : Nat} {e1 e2 e3 : TypeId} {hs : List Value} {qs : List (List (List Int))} {v uq : Value} {n : Nat} {xs : List Value} {q : List (List Int)} (h0 : QHs w0 base e2 e3 hs qs) (hx : Ext w0 W)
    (hv : RowRows W w0.heap.size e2 e3 (Value.int .i64) v q) (hb : base ≤ w0.heap.size) (hrow : Row W base e1 1 uq n xs) (hg : W.grownBy w2 uq.ownBlock) (h12 : e1 ≠ e2) (h13 : e1 ≠ e3) : QHs w2 base e2 e3 (hs ++ [v]) (qs ++ [q]) := by
  obtain ⟨h1, h2, h3⟩ := h0
  have keep : ∀ (u : Value) (l : List (List Int)), RowRows W base e2 e3 (Value.int .i64) u l → RowRows w2 base e2 e3 (Value.int .i64) u l := by
    intro u l hu
    refine hu.grown hg ?_ (hrow.block' h13)
    obtain ⟨vs, k1, _⟩ := hu
    exact k1.apart hrow (fun e => h12 e.symm)
  have hlt := hv.lt
  refine ⟨by simp [h1], fun p hp => ?_, fun p r hp hr hpr => ?_⟩
  · rw [List.length_append, List.length_singleton] at hp
    rw [snoc_at hs v p (by omega), snoc_at qs q p (by omega), h1]
    split
    · exact keep _ _ (hv.mono hb)
    · exact keep _ _ ((h2 p (by omega)).ext hx)
  · rw [List.length_append, List.length_singleton] at hp hr
    rw [snoc_at hs v p (by omega), snoc_at hs v r (by omega), h1]
    by_cases e1 : p = qs.length
    · rw [if_pos e1, if_neg (by omega)]
      cases hk : v.ownBlock with
      | none => exact .inl rfl
      | some k =>
        refine .inr fun h => ?_
        have := ((h2 r (by omega)).lt k h.symm).2
        have := (hlt k hk).1
        omega
    · rw [if_neg e1]
      by_cases e2 : r = qs.length
      · rw [if_pos e2]
        cases hk : hs[p]!.ownBlock with
        | none => exact .inl rfl
        | some k =>
          refine .inr fun h => ?_
          have := ((h2 p (by omega)).lt k hk).2
          have := (hlt k h.symm).1
          omega
      · rw [if_neg e2]
        exact h3 p r (by omega) (by omega) hpr

/-- One header is replaced. -/
theorem QHs.replace {w0 w2 : World} {base p : Nat} {e2 e3 : TypeId} {hs : List Value} {qs : List (List (List Int))} {v : Value} {q : List (List Int)} (h : QHs w0 base e2 e3 hs qs) (hp : p < qs.length)
    (hold : ∀ r, r < qs.length → r ≠ p → RowRows w2 base e2 e3 (Value.int .i64) hs[r]! qs[r]!) (hv : RowRows w2 base e2 e3 (Value.int .i64) v q)
    (hb : v.ownBlock = hs[p]!.ownBlock ∨ ∃ k, v.ownBlock = some k ∧ w0.heap.size ≤ k) : QHs w2 base e2 e3 (hs.set p v) (qs.set p q) := by
  obtain ⟨h1, h2, h3⟩ := h
  refine ⟨by simp [h1], fun r hr => ?_, fun r s hr hs' hrs => ?_⟩
  · rw [List.length_set] at hr
    rw [set_at hs p r v (by omega), set_at qs p r q hp]
    split
    · exact hv
    · rename_i hne; exact hold r hr hne
  · rw [List.length_set] at hr hs'
    rw [set_at hs p r v (by omega), set_at hs p s v (by omega)]
    by_cases e1 : r = p
    · rw [if_pos e1, if_neg (by omega)]
      rcases hb with hb | ⟨k, hk, hkb⟩
      · rw [hb]; exact h3 p s hp hs' (by omega)
      · rw [hk]
        refine .inr fun h => ?_
        have := ((h2 s hs').lt k h.symm).2
        omega
    · rw [if_neg e1]
      by_cases e2 : s = p
      · rw [if_pos e2]
        rcases hb with hb | ⟨k, hk, hkb⟩
        · rw [hb]; exact h3 r p hr hp (by omega)
        · rw [hk]
          cases hrb : hs[r]!.ownBlock with
          | none => exact .inl rfl
          | some k2 =>
            refine .inr fun h => ?_
            simp only [Option.some.injEq] at h
            subst h
            have := ((h2 r hr).lt _ hrb).2
            omega
      · rw [if_neg e2]; exact h3 r s hr hs' hrs

end Go.Proofs.Ytggofkaakccoeaa

/-
  Queues of the call's own: one's first stamp taken away, one put behind, and reading them. No program is named here.
-/
namespace Go.Proofs.Ytggofkaakccoeaa
open Go.RowKit
set_option linter.unusedVariables false

theorem RowRows.tail {w : World} {base : Nat} {e e' : TypeId} {enc : Int → Value} {g o m cap : Nat} {l : List (List Int)} (h : RowRows w base e e' enc (.slice (some ⟨g, o, none⟩) (m + 1) cap) l) (hl : l.length = m + 1) :
    RowRows w base e e' enc (.slice (some ⟨g, o + 1, none⟩) m (cap - 1)) (l.drop 1) ∧ (m = 0 → RowRows w base e e' enc (.slice (some ⟨g, o, none⟩) 0 (cap - 1)) (l.drop 1)) := by
  obtain ⟨vs, h1, h2⟩ := h
  rw [hl] at h1
  have hvl : vs.length = m + 1 := by have := h1.1; omega
  obtain ⟨t1, t2⟩ := h1.tail
  constructor
  · refine ⟨vs.drop 1, by rw [List.length_drop, hl, Nat.add_sub_cancel]; exact t1, fun i hi => ?_⟩
    rw [List.length_drop] at hi
    rw [drop_at vs 1 i (by omega), drop_at l 1 i (by omega)]
    exact h2 (1 + i) (by omega)
  · intro hm
    subst hm
    have hd : l.drop 1 = [] := List.eq_nil_of_length_eq_zero (by rw [List.length_drop]; omega)
    rw [hd]
    exact ⟨[], t2, fun i hi => absurd hi (by simp)⟩

/-- The place of a header, and the queue behind it. -/
theorem OwnQs.at {w : World} {base : Nat} {e1 e2 e3 : TypeId} {uq : Value} {qs : List (List (List Int))} (h : OwnQs w base e1 e2 e3 uq qs) (p : Nat) (hp : p < qs.length) :
    ∃ G O C hs, uq = .slice (some ⟨G, O, none⟩) qs.length C ∧ w.cell? ⟨G, O + p, none⟩ = some hs[p]! ∧ w.frozen? ⟨G, O + p, none⟩ = false ∧ base ≤ G ∧ Row w base e1 1 uq qs.length hs ∧ QHs w base e2 e3 hs qs := by
  obtain ⟨hs, h1, h2⟩ := h
  have hl : hs.length = qs.length := h2.1
  obtain ⟨G, O, C, rfl, hb, _, _⟩ := h1.shape (by omega)
  refine ⟨G, O, C, hs, rfl, ?_, h1.free _, hb, h1, h2⟩
  rw [h1.cell p (by omega), List.getElem?_eq_getElem (by omega), getElem!_pos hs p (by omega)]

/-- One queue's first stamp is taken away. -/
theorem own_drop {w : World} {base G O C p : Nat} {e1 e2 e3 : TypeId} {qs : List (List (List Int))} {hs : List Value} {u : Value} (hrow : Row w base e1 1 (.slice (some ⟨G, O, none⟩) qs.length C) qs.length hs) (hq : QHs w base e2 e3 hs qs) (hp : p < qs.length) (h12 : e1 ≠ e2) (h13 : e1 ≠ e3)
    (hu : RowRows w base e2 e3 (Value.int .i64) u (qs[p]!.drop 1)) (hb : u.ownBlock = hs[p]!.ownBlock) : OwnQs (w.setCell ⟨G, O + p, none⟩ u) base e1 e2 e3 (.slice (some ⟨G, O, none⟩) qs.length C) (dropAt qs p) := by
  obtain ⟨cs, t, fr, hG, rfl⟩ := hrow.block G rfl
  refine ⟨hs.set p u, by rw [drop_len]; exact hrow.set p u (by omega), ?_⟩
  exact hq.replace hp (fun r hr _ => (hq.2.1 r hr).stO hG h12 h13 u) (hu.stO hG h12 h13 u) (.inl hb)

/-- One stamp more at one queue. -/
theorem own_put {W w2 : World} {base G O C p : Nat} {e1 e2 e3 : TypeId} {qs : List (List (List Int))} {hs vs : List Value} {u v' : Value} {x : List Int} (hrow : Row W base e1 1 (.slice (some ⟨G, O, none⟩) qs.length C) qs.length hs) (hq : QHs W base e2 e3 hs qs) (hp : p < qs.length)
    (h12 : e1 ≠ e2) (h13 : e1 ≠ e3) (h23 : e2 ≠ e3) (hv : Row W base e2 1 hs[p]! qs[p]!.length vs) (hel : ∀ i, i < qs[p]!.length → Row W base e3 1 vs[i]! qs[p]![i]!.length (qs[p]![i]!.map (Value.int .i64))) (hu : Row W base e3 1 u x.length (x.map (Value.int .i64)))
    (hg : W.grownBy w2 hs[p]!.ownBlock) (hR : Row w2 base e2 1 v' (qs[p]!.length + 1) (vs ++ [u])) (hb : v'.ownBlock = hs[p]!.ownBlock ∨ ∃ k, v'.ownBlock = some k ∧ W.heap.size ≤ k) :
    OwnQs (w2.setCell ⟨G, O + p, none⟩ v') base e1 e2 e3 (.slice (some ⟨G, O, none⟩) qs.length C) (qs.set p (qs[p]! ++ [x])) := by
  have hrow2 : Row w2 base e1 1 (.slice (some ⟨G, O, none⟩) qs.length C) qs.length hs := hrow.grown hg (hrow.apart hv h12)
  have hnew : RowRows w2 base e2 e3 (Value.int .i64) v' (qs[p]! ++ [x]) := rowRows_push hv hel hu (fun e => h23 e.symm) hg hR
  obtain ⟨cs, t, fr, hG, rfl⟩ := hrow2.block G rfl
  have hq2 : QHs w2 base e2 e3 (hs.set p v') (qs.set p (qs[p]! ++ [x])) := by
    refine hq.replace hp (fun r hr hne => ?_) hnew hb
    exact (hq.2.1 r hr).grown hg (hq.2.2 r p hr hp hne) (hv.block' h23)
  exact ⟨hs.set p v', by rw [List.length_set]; exact hrow2.set p v' (by omega), hq2.stO hG h12 h13 v'⟩

theorem RowRows.rints {w : World} {base : Nat} {e e' : TypeId} {v : Value} {l : List (List Int)} (h : RowRows w base e e' (Value.int .i64) v l) : Sl RInts 1 w v l := by
  obtain ⟨vs, h1, h2⟩ := h
  have hl : vs.length = l.length := by have := h1.1; omega
  refine h1.cells.sl fun i hi => ?_
  rw [Nat.mul_one]
  refine ⟨vs[i]!, ?_, (h2 i hi).ints⟩
  rw [List.drop_eq_getElem_cons (by omega), getElem!_pos vs i (by omega)]
  rfl
theorem OwnQs.read {w : World} {base : Nat} {e1 e2 e3 : TypeId} {uq : Value} {qs : List (List (List Int))} (h : OwnQs w base e1 e2 e3 uq qs) : Sl RQueue 1 w uq qs := by
  obtain ⟨hs, h1, h2, h3, _⟩ := h
  refine h1.cells.sl fun i hi => ?_
  rw [Nat.mul_one]
  refine ⟨hs[i]!, ?_, (h3 i hi).rints⟩
  rw [List.drop_eq_getElem_cons (by omega), getElem!_pos hs i (by omega)]
  rfl

/-- Bools of the call's own. -/
theorem Row.bools {w : World} {base : Nat} {e : TypeId} {v : Value} {n : Nat} {l : List Bool} (h : Row w base e 1 v n (l.map Value.bool)) : Sl RBool 1 w v l := by
  have hl : l.length = n := by simpa using h.1
  subst hl
  refine h.cells.sl fun i hi => ?_
  rw [Nat.mul_one, List.drop_eq_getElem_cons (by simpa using hi), List.getElem_map]
  simp [RBool, hi]
theorem Sl.boolCells {w : World} {v : Value} {l : List Bool} (h : Sl RBool 1 w v l) : CellsAt w v 1 l.length (l.map Value.bool) := by
  obtain ⟨a, c, rfl, hlc, h⟩ := h
  refine ⟨by simp, a, c, rfl, hlc, fun hn => ?_⟩
  obtain ⟨b, off, rfl, hb, hc⟩ := h (List.length_pos_iff.1 hn)
  refine ⟨b, off, rfl, hb, fun j hj => ?_⟩
  obtain ⟨vs, h1, h2, h3⟩ := hc j (by omega)
  have h4 := h3 0 (by omega)
  have e : vs = [.bool l[j]!] := h2
  rw [e] at h4
  have hj2 : j < l.length := by omega
  rw [List.getElem?_map, List.getElem?_eq_getElem hj2]
  simpa [hj2] using h4

end Go.Proofs.Ytggofkaakccoeaa
