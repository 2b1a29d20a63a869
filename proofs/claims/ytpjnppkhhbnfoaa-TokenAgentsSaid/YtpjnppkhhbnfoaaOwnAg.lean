/-
  Agents of the call's own: rows of three cells, each with a queue of its own. No function is named here.
-/
import Derived.Test.YtpjnppkhhbnfoaaOwnRq
namespace Go.Proofs.Ytpjnppkhhbnfoaa
open Go.RowKit
set_option linter.unusedVariables false

def queuesOf (l : List Ag) : List (List (List Int)) := l.map (·.queue)
theorem queuesOf_len (l : List Ag) : (queuesOf l).length = l.length := by simp [queuesOf]
theorem queuesOf_at (l : List Ag) (p : Nat) (hp : p < l.length) : (queuesOf l)[p]! = l[p]!.queue := by
  rw [getElem!_pos _ p (by rw [queuesOf_len]; exact hp), getElem!_pos l p hp]; simp [queuesOf]
theorem queuesOf_set (l : List Ag) (p : Nat) (a : Ag) : queuesOf (l.set p a) = (queuesOf l).set p a.queue := by simp [queuesOf, List.map_set]

/-- The cells of agents: their queues' headers hs, and what else they hold. -/
def AgC (cs hs : List Value) (l : List Ag) : Prop :=
  cs.length = l.length * 3 ∧ hs.length = l.length ∧ ∀ p, p < l.length → cs[p * 3]? = some hs[p]! ∧ cs[p * 3 + 1]? = some (.int .i64 l[p]!.dropped) ∧ cs[p * 3 + 2]? = some (.bool l[p]!.ended)

theorem AgC.three {cs hs : List Value} {l : List Ag} (h : AgC cs hs l) (p : Nat) (hp : p < l.length) : (cs.drop (p * 3)).take 3 = [hs[p]!, .int .i64 l[p]!.dropped, .bool l[p]!.ended] := by
  obtain ⟨h1, h2, h3⟩ := h
  obtain ⟨a, b, c⟩ := h3 p hp
  apply List.ext_getElem?
  intro j
  rw [List.getElem?_take, List.getElem?_drop]
  rcases j with _ | _ | _ | j
  · simpa using a
  · simpa using b
  · simpa using c
  · rw [if_neg (by omega)]; simp

theorem AgC.nil : AgC [] [] [] := ⟨rfl, rfl, fun p hp => absurd hp (by simp)⟩

theorem AgC.setQ {cs hs : List Value} {l : List Ag} (h : AgC cs hs l) (p : Nat) (hp : p < l.length) (u : Value) (q : List (List Int)) : AgC (cs.set (p * 3) u) (hs.set p u) (l.set p { l[p]! with queue := q }) := by
  obtain ⟨h1, h2, h3⟩ := h
  refine ⟨by simp [h1], by simp [h2], fun r hr => ?_⟩
  rw [List.length_set] at hr
  obtain ⟨a, b, c⟩ := h3 r hr
  rw [set_at hs p r u (by omega), set_at l p r _ hp]
  by_cases e : r = p
  · subst e
    rw [if_pos rfl, if_pos rfl]
    refine ⟨?_, ?_, ?_⟩
    · rw [List.getElem?_set]; simp; omega
    · rw [List.getElem?_set, if_neg (by omega)]; exact b
    · rw [List.getElem?_set, if_neg (by omega)]; exact c
  · rw [if_neg e, if_neg e]
    refine ⟨?_, ?_, ?_⟩
    · rw [List.getElem?_set, if_neg (by omega)]; exact a
    · rw [List.getElem?_set, if_neg (by omega)]; exact b
    · rw [List.getElem?_set, if_neg (by omega)]; exact c
theorem AgC.setE {cs hs : List Value} {l : List Ag} (h : AgC cs hs l) (p : Nat) (hp : p < l.length) (b : Bool) : AgC (cs.set (p * 3 + 2) (.bool b)) hs (l.set p { l[p]! with ended := b }) := by
  obtain ⟨h1, h2, h3⟩ := h
  refine ⟨by simp [h1], by simp [h2], fun r hr => ?_⟩
  rw [List.length_set] at hr
  obtain ⟨a, b2, c⟩ := h3 r hr
  rw [set_at l p r _ hp]
  by_cases e : r = p
  · subst e
    rw [if_pos rfl]
    refine ⟨?_, ?_, ?_⟩
    · rw [List.getElem?_set, if_neg (by omega)]; exact a
    · rw [List.getElem?_set, if_neg (by omega)]; exact b2
    · rw [List.getElem?_set]; simp; omega
  · rw [if_neg e]
    refine ⟨?_, ?_, ?_⟩
    · rw [List.getElem?_set, if_neg (by omega)]; exact a
    · rw [List.getElem?_set, if_neg (by omega)]; exact b2
    · rw [List.getElem?_set, if_neg (by omega)]; exact c
theorem AgC.setD {cs hs : List Value} {l : List Ag} (h : AgC cs hs l) (p : Nat) (hp : p < l.length) (d : Int) : AgC (cs.set (p * 3 + 1) (.int .i64 d)) hs (l.set p { l[p]! with dropped := d }) := by
  obtain ⟨h1, h2, h3⟩ := h
  refine ⟨by simp [h1], by simp [h2], fun r hr => ?_⟩
  rw [List.length_set] at hr
  obtain ⟨a, b2, c⟩ := h3 r hr
  rw [set_at l p r _ hp]
  by_cases e : r = p
  · subst e
    rw [if_pos rfl]
    refine ⟨?_, ?_, ?_⟩
    · rw [List.getElem?_set, if_neg (by omega)]; exact a
    · rw [List.getElem?_set]; simp; omega
    · rw [List.getElem?_set, if_neg (by omega)]; exact c
  · rw [if_neg e]
    refine ⟨?_, ?_, ?_⟩
    · rw [List.getElem?_set, if_neg (by omega)]; exact a
    · rw [List.getElem?_set, if_neg (by omega)]; exact b2
    · rw [List.getElem?_set, if_neg (by omega)]; exact c
theorem AgC.push {cs hs : List Value} {l : List Ag} (h : AgC cs hs l) (u : Value) (a : Ag) : AgC (cs ++ [u, .int .i64 a.dropped, .bool a.ended]) (hs ++ [u]) (l ++ [a]) := by
  obtain ⟨h1, h2, h3⟩ := h
  refine ⟨by simp [h1]; omega, by simp [h2], fun r hr => ?_⟩
  rw [List.length_append, List.length_singleton] at hr
  rw [snoc_at hs u r (by omega), snoc_at l a r (by omega), h2]
  by_cases e : r < l.length
  · obtain ⟨x, y, z⟩ := h3 r e
    rw [if_neg (by omega), if_neg (by omega)]
    refine ⟨?_, ?_, ?_⟩
    · rw [List.getElem?_append_left (by omega)]; exact x
    · rw [List.getElem?_append_left (by omega)]; exact y
    · rw [List.getElem?_append_left (by omega)]; exact z
  · obtain rfl : r = l.length := by omega
    rw [if_pos rfl, if_pos rfl]
    refine ⟨?_, ?_, ?_⟩
    · rw [List.getElem?_append_right (by omega), h1]; simp
    · rw [List.getElem?_append_right (by omega), h1, show l.length * 3 + 1 - l.length * 3 = 1 by omega]; simp
    · rw [List.getElem?_append_right (by omega), h1, show l.length * 3 + 2 - l.length * 3 = 2 by omega]; simp

/-- Agents of the call's own. -/
def OwnAg (w : World) (base : Nat) (e1 e2 e3 : TypeId) (v : Value) (l : List Ag) : Prop :=
  ∃ cs hs, Row w base e1 3 v l.length cs ∧ AgC cs hs l ∧ QHs w base e2 e3 hs (queuesOf l)
theorem OwnAg.ext {w w' : World} {base : Nat} {e1 e2 e3 : TypeId} {v : Value} {l : List Ag} (h : OwnAg w base e1 e2 e3 v l) (x : Ext w w') : OwnAg w' base e1 e2 e3 v l := by
  obtain ⟨cs, hs, h1, h2, h3⟩ := h; exact ⟨cs, hs, h1.ext x, h2, h3.ext x⟩
theorem OwnAg.mono {w : World} {base base' : Nat} {e1 e2 e3 : TypeId} {v : Value} {l : List Ag} (h : OwnAg w base e1 e2 e3 v l) (hb : base' ≤ base) : OwnAg w base' e1 e2 e3 v l := by
  obtain ⟨cs, hs, h1, h2, h3⟩ := h; exact ⟨cs, hs, h1.mono hb, h2, h3.mono hb⟩
theorem OwnAg.stO {w : World} {base g o : Nat} {e1 e2 e3 t : TypeId} {v : Value} {l : List Ag} {cs : Array Value} {fr : Nat × Nat} (h : OwnAg w base e1 e2 e3 v l) (hg : w.heap[g]? = some (.cells cs t fr)) (n1 : t ≠ e1) (n2 : t ≠ e2) (n3 : t ≠ e3) (u : Value) : OwnAg (w.setCell ⟨g, o, none⟩ u) base e1 e2 e3 v l := by
  obtain ⟨cs, hs, h1, h2, h3⟩ := h; exact ⟨cs, hs, h1.stO hg n1 u, h2, h3.stO hg n2 n3 u⟩
theorem OwnAg.nil (w : World) (base : Nat) (e1 e2 e3 : TypeId) : OwnAg w base e1 e2 e3 (.slice none 0 0) [] := ⟨[], [], Row.mkNil _ _ _ _, .nil, QHs.mkNil _ _ _ _⟩

theorem QHs.rints {w : World} {base : Nat} {e2 e3 : TypeId} {hs : List Value} {qs : List (List (List Int))} (h : QHs w base e2 e3 hs qs) (p : Nat) (hp : p < qs.length) : Sl RInts 1 w hs[p]! qs[p]! := (h.2.1 p hp).rints

theorem rowAg_read {w : World} {base : Nat} {e1 : TypeId} {v : Value} {l : List Ag} {cs hs : List Value} (h1 : Row w base e1 3 v l.length cs) (h2 : AgC cs hs l) (h3 : ∀ p, p < l.length → Sl RInts 1 w hs[p]! l[p]!.queue) : Sl RAgent 3 w v l := by
  refine h1.cells.sl fun i hi => ?_
  rw [h2.three i hi]
  exact ⟨_, rfl, h3 i hi⟩
theorem OwnAg.read {w : World} {base : Nat} {e1 e2 e3 : TypeId} {v : Value} {l : List Ag} (h : OwnAg w base e1 e2 e3 v l) : Sl RAgent 3 w v l := by
  obtain ⟨cs, hs, h1, h2, h3⟩ := h
  refine rowAg_read h1 h2 fun p hp => ?_
  have := h3.rints p (by rw [queuesOf_len]; exact hp)
  rwa [queuesOf_at l p hp] at this

/-- The place of an agent. -/
theorem OwnAg.at {w : World} {base : Nat} {e1 e2 e3 : TypeId} {v : Value} {l : List Ag} (h : OwnAg w base e1 e2 e3 v l) (p : Nat) (hp : p < l.length) :
    ∃ G O C cs hs, v = .slice (some ⟨G, O, none⟩) l.length C ∧ w.cell? ⟨G, O + p * 3, none⟩ = some hs[p]! ∧ (∀ j, w.frozen? ⟨G, j, none⟩ = false) ∧ base ≤ G ∧ G < w.heap.size ∧ Row w base e1 3 v l.length cs ∧ AgC cs hs l ∧ QHs w base e2 e3 hs (queuesOf l) := by
  obtain ⟨cs, hs, h1, h2, h3⟩ := h
  obtain ⟨G, O, C, rfl, hb, hG, _⟩ := h1.shape (by omega)
  refine ⟨G, O, C, cs, hs, rfl, ?_, h1.free, hb, hG, h1, h2, h3⟩
  rw [h1.cell (p * 3) (by omega)]
  exact (h2.2.2 p hp).1

/-- The cells of agents that are read. -/
theorem agents_cells {w : World} {v : Value} {l : List Ag} (h : Sl RAgent 3 w v l) : ∃ cs hs, CellsAt w v 3 l.length cs ∧ AgC cs hs l ∧ (∀ p, p < l.length → Sl RInts 1 w hs[p]! l[p]!.queue) ∧ ∀ u ∈ cs, u.oneCell' = true := by
  obtain ⟨cs, h1, h2⟩ := h.cells
  have hl := h1.1
  have key : ∀ p, p < l.length → ∃ q, cs[p * 3]? = some q ∧ cs[p * 3 + 1]? = some (.int .i64 l[p]!.dropped) ∧ cs[p * 3 + 2]? = some (.bool l[p]!.ended) ∧ Sl RInts 1 w q l[p]!.queue := by
    intro p hp
    obtain ⟨q, hq, hs⟩ := h2 p hp
    have g : ∀ j, j < 3 → cs[p * 3 + j]? = [q, .int .i64 l[p]!.dropped, .bool l[p]!.ended][j]? := fun j hj => by
      rw [← hq, List.getElem?_take_of_lt hj, List.getElem?_drop]
    exact ⟨q, by simpa using g 0 (by omega), by simpa using g 1 (by omega), by simpa using g 2 (by omega), hs⟩
  have hh : ∀ p, p < l.length → ((List.range l.length).map fun p => cs[p * 3]!)[p]! = cs[p * 3]! := fun p hp => by
    rw [getElem!_pos _ p (by simpa using hp)]; simp
  refine ⟨cs, (List.range l.length).map fun p => cs[p * 3]!, h1, ⟨hl, by simp, fun p hp => ?_⟩, fun p hp => ?_, fun u hu => ?_⟩
  · obtain ⟨q, a, b, c, _⟩ := key p hp
    rw [hh p hp]
    refine ⟨?_, b, c⟩
    rw [getElem!_pos cs _ (by omega), List.getElem?_eq_getElem (by omega)]
  · obtain ⟨q, a, b, c, hs⟩ := key p hp
    rw [hh p hp, getElem!_pos cs _ (by omega)]
    rw [List.getElem?_eq_getElem (by omega)] at a
    simp only [Option.some.injEq] at a
    rw [a]; exact hs
  · obtain ⟨i, hi, rfl⟩ := List.getElem_of_mem hu
    have hp : i / 3 < l.length := by omega
    obtain ⟨q, a, b, c, hs⟩ := key (i / 3) hp
    obtain ⟨x, y, rfl, _⟩ := hs
    have h3 : i = i / 3 * 3 ∨ i = i / 3 * 3 + 1 ∨ i = i / 3 * 3 + 2 := by omega
    rcases h3 with e | e | e
    · rw [← e, List.getElem?_eq_getElem hi] at a; simp only [Option.some.injEq] at a; rw [a]; rfl
    · rw [← e, List.getElem?_eq_getElem hi] at b; simp only [Option.some.injEq] at b; rw [b]; rfl
    · rw [← e, List.getElem?_eq_getElem hi] at c; simp only [Option.some.injEq] at c; rw [c]; rfl

/-- One stamp more at a queue, its header replaced. -/
theorem QHs.put {W w2 : World} {base p : Nat} {e2 e3 : TypeId} {qs : List (List (List Int))} {hs vs : List Value} {u v' : Value} {x : List Int} (hq : QHs W base e2 e3 hs qs) (hp : p < qs.length)
    (h23 : e2 ≠ e3) (hv : Row W base e2 1 hs[p]! qs[p]!.length vs) (hel : ∀ i, i < qs[p]!.length → Row W base e3 1 vs[i]! qs[p]![i]!.length (qs[p]![i]!.map (Value.int .i64))) (hu : Row W base e3 1 u x.length (x.map (Value.int .i64)))
    (hg : W.grownBy w2 hs[p]!.ownBlock) (hR : Row w2 base e2 1 v' (qs[p]!.length + 1) (vs ++ [u])) (hb : v'.ownBlock = hs[p]!.ownBlock ∨ ∃ k, v'.ownBlock = some k ∧ W.heap.size ≤ k) :
    QHs w2 base e2 e3 (hs.set p v') (qs.set p (qs[p]! ++ [x])) := by
  have hnew : RowRows w2 base e2 e3 (Value.int .i64) v' (qs[p]! ++ [x]) := rowRows_push hv hel hu (fun e => h23 e.symm) hg hR
  refine hq.replace hp (fun r hr hne => ?_) hnew hb
  exact (hq.2.1 r hr).grown hg (hq.2.2 r p hr hp hne) (hv.block' h23)

/-- One empty queue more. -/
theorem QHs.pushNil {w : World} {base : Nat} {e2 e3 : TypeId} {hs : List Value} {qs : List (List (List Int))} (h : QHs w base e2 e3 hs qs) : QHs w base e2 e3 (hs ++ [.slice none 0 0]) (qs ++ [[]]) := by
  obtain ⟨h1, h2, h3⟩ := h
  refine ⟨by simp [h1], fun p hp => ?_, fun p r hp hr hpr => ?_⟩
  · rw [List.length_append, List.length_singleton] at hp
    rw [snoc_at hs _ p (by omega), snoc_at qs _ p (by omega), h1]
    split
    · exact RowRows.mkNil _ _ _ _ _
    · exact h2 p (by omega)
  · rw [List.length_append, List.length_singleton] at hp hr
    rw [snoc_at hs _ p (by omega), snoc_at hs _ r (by omega), h1]
    by_cases e1 : p = qs.length
    · rw [if_pos e1]; exact .inl rfl
    · rw [if_neg e1]
      by_cases e2 : r = qs.length
      · rw [if_pos e2]
        cases hs[p]!.ownBlock with
        | none => exact .inl rfl
        | some k => exact .inr (by simp [Value.ownBlock])
      · rw [if_neg e2]; exact h3 p r (by omega) (by omega) hpr

end Go.Proofs.Ytpjnppkhhbnfoaa
