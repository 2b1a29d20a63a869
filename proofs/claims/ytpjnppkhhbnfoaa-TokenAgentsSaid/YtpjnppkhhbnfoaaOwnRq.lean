/-
  Queues of the call's own: one's first stamp taken away, one put behind, and reading them. No program is named here.
-/
import Derived.Test.YtpjnppkhhbnfoaaOwnQ
import Derived.Test.YtpjnppkhhbnfoaaRq
namespace Go.Proofs.Ytpjnppkhhbnfoaa
open Go.RowKit
set_option linter.unusedVariables false

theorem RowRows.tail {w : World} {base : Nat} {e e' : TypeId} {enc : Int → Value} {g o m cap : Nat} {l : List (List Int)} (h : RowRows w base e e' enc (.slice (some ⟨g, o, none⟩) (m + 1) cap) l) (hl : l.length = m + 1) :
    RowRows w base e e' enc (.slice (some ⟨g, o + 1, none⟩) m (cap - 1)) (l.drop 1) ∧ (m = 0 → RowRows w base e e' enc (.slice (some ⟨g, o, none⟩) 0 (cap - 1)) (l.drop 1)) := by
  obtain ⟨vs, h1, h2⟩ := h
  rw [hl] at h1
  have hvl : vs.length = m + 1 := by have := h1.1; omega
  obtain ⟨t1, t2⟩ := h1.tail
  constructor
  · refine ⟨vs.drop 1, by rw [List.length_drop, hl, Nat.add_sub_cancel]; exact t1, fun i hi => ?_⟩
    rw [List.length_drop] at hi
    rw [drop_at vs 1 i (by omega), drop_at l 1 i (by omega)]
    exact h2 (1 + i) (by omega)
  · intro hm
    subst hm
    have hd : l.drop 1 = [] := List.eq_nil_of_length_eq_zero (by rw [List.length_drop]; omega)
    rw [hd]
    exact ⟨[], t2, fun i hi => absurd hi (by simp)⟩

/-- The place of a header, and the queue behind it. -/
theorem OwnQs.at {w : World} {base : Nat} {e1 e2 e3 : TypeId} {uq : Value} {qs : List (List (List Int))} (h : OwnQs w base e1 e2 e3 uq qs) (p : Nat) (hp : p < qs.length) :
    ∃ G O C hs, uq = .slice (some ⟨G, O, none⟩) qs.length C ∧ w.cell? ⟨G, O + p, none⟩ = some hs[p]! ∧ w.frozen? ⟨G, O + p, none⟩ = false ∧ base ≤ G ∧ Row w base e1 1 uq qs.length hs ∧ QHs w base e2 e3 hs qs := by
  obtain ⟨hs, h1, h2⟩ := h
  have hl : hs.length = qs.length := h2.1
  obtain ⟨G, O, C, rfl, hb, _, _⟩ := h1.shape (by omega)
  refine ⟨G, O, C, hs, rfl, ?_, h1.free _, hb, h1, h2⟩
  rw [h1.cell p (by omega), List.getElem?_eq_getElem (by omega), getElem!_pos hs p (by omega)]

/-- One queue's first stamp is taken away. -/
theorem own_drop {w : World} {base G O C p : Nat} {e1 e2 e3 : TypeId} {qs : List (List (List Int))} {hs : List Value} {u : Value} (hrow : Row w base e1 1 (.slice (some ⟨G, O, none⟩) qs.length C) qs.length hs) (hq : QHs w base e2 e3 hs qs) (hp : p < qs.length) (h12 : e1 ≠ e2) (h13 : e1 ≠ e3)
    (hu : RowRows w base e2 e3 (Value.int .i64) u (qs[p]!.drop 1)) (hb : u.ownBlock = hs[p]!.ownBlock) : OwnQs (w.setCell ⟨G, O + p, none⟩ u) base e1 e2 e3 (.slice (some ⟨G, O, none⟩) qs.length C) (dropAt qs p) := by
  obtain ⟨cs, t, fr, hG, rfl⟩ := hrow.block G rfl
  refine ⟨hs.set p u, by rw [drop_len]; exact hrow.set p u (by omega), ?_⟩
  exact hq.replace hp (fun r hr _ => (hq.2.1 r hr).stO hG h12 h13 u) (hu.stO hG h12 h13 u) (.inl hb)

/-- One stamp more at one queue. -/
theorem own_put {W w2 : World} {base G O C p : Nat} {e1 e2 e3 : TypeId} {qs : List (List (List Int))} {hs vs : List Value} {u v' : Value} {x : List Int} (hrow : Row W base e1 1 (.slice (some ⟨G, O, none⟩) qs.length C) qs.length hs) (hq : QHs W base e2 e3 hs qs) (hp : p < qs.length)
    (h12 : e1 ≠ e2) (h13 : e1 ≠ e3) (h23 : e2 ≠ e3) (hv : Row W base e2 1 hs[p]! qs[p]!.length vs) (hel : ∀ i, i < qs[p]!.length → Row W base e3 1 vs[i]! qs[p]![i]!.length (qs[p]![i]!.map (Value.int .i64))) (hu : Row W base e3 1 u x.length (x.map (Value.int .i64)))
    (hg : W.grownBy w2 hs[p]!.ownBlock) (hR : Row w2 base e2 1 v' (qs[p]!.length + 1) (vs ++ [u])) (hb : v'.ownBlock = hs[p]!.ownBlock ∨ ∃ k, v'.ownBlock = some k ∧ W.heap.size ≤ k) :
    OwnQs (w2.setCell ⟨G, O + p, none⟩ v') base e1 e2 e3 (.slice (some ⟨G, O, none⟩) qs.length C) (qs.set p (qs[p]! ++ [x])) := by
  have hrow2 : Row w2 base e1 1 (.slice (some ⟨G, O, none⟩) qs.length C) qs.length hs := hrow.grown hg (hrow.apart hv h12)
  have hnew : RowRows w2 base e2 e3 (Value.int .i64) v' (qs[p]! ++ [x]) := rowRows_push hv hel hu (fun e => h23 e.symm) hg hR
  obtain ⟨cs, t, fr, hG, rfl⟩ := hrow2.block G rfl
  have hq2 : QHs w2 base e2 e3 (hs.set p v') (qs.set p (qs[p]! ++ [x])) := by
    refine hq.replace hp (fun r hr hne => ?_) hnew hb
    exact (hq.2.1 r hr).grown hg (hq.2.2 r p hr hp hne) (hv.block' h23)
  exact ⟨hs.set p v', by rw [List.length_set]; exact hrow2.set p v' (by omega), hq2.stO hG h12 h13 v'⟩

theorem RowRows.rints {w : World} {base : Nat} {e e' : TypeId} {v : Value} {l : List (List Int)} (h : RowRows w base e e' (Value.int .i64) v l) : Sl RInts 1 w v l := by
  obtain ⟨vs, h1, h2⟩ := h
  have hl : vs.length = l.length := by have := h1.1; omega
  refine h1.cells.sl fun i hi => ?_
  rw [Nat.mul_one]
  refine ⟨vs[i]!, ?_, (h2 i hi).ints⟩
  rw [List.drop_eq_getElem_cons (by omega), getElem!_pos vs i (by omega)]
  rfl
theorem OwnQs.read {w : World} {base : Nat} {e1 e2 e3 : TypeId} {uq : Value} {qs : List (List (List Int))} (h : OwnQs w base e1 e2 e3 uq qs) : Sl RQueue 1 w uq qs := by
  obtain ⟨hs, h1, h2, h3, _⟩ := h
  refine h1.cells.sl fun i hi => ?_
  rw [Nat.mul_one]
  refine ⟨hs[i]!, ?_, (h3 i hi).rints⟩
  rw [List.drop_eq_getElem_cons (by omega), getElem!_pos hs i (by omega)]
  rfl

/-- Bools of the call's own. -/
theorem Row.bools {w : World} {base : Nat} {e : TypeId} {v : Value} {n : Nat} {l : List Bool} (h : Row w base e 1 v n (l.map Value.bool)) : Sl RBool 1 w v l := by
  have hl : l.length = n := by simpa using h.1
  subst hl
  refine h.cells.sl fun i hi => ?_
  rw [Nat.mul_one, List.drop_eq_getElem_cons (by simpa using hi), List.getElem_map]
  simp [RBool, hi]
theorem Sl.boolCells {w : World} {v : Value} {l : List Bool} (h : Sl RBool 1 w v l) : CellsAt w v 1 l.length (l.map Value.bool) := by
  obtain ⟨a, c, rfl, hlc, h⟩ := h
  refine ⟨by simp, a, c, rfl, hlc, fun hn => ?_⟩
  obtain ⟨b, off, rfl, hb, hc⟩ := h (List.length_pos_iff.1 hn)
  refine ⟨b, off, rfl, hb, fun j hj => ?_⟩
  obtain ⟨vs, h1, h2, h3⟩ := hc j (by omega)
  have h4 := h3 0 (by omega)
  have e : vs = [.bool l[j]!] := h2
  rw [e] at h4
  have hj2 : j < l.length := by omega
  rw [List.getElem?_map, List.getElem?_eq_getElem hj2]
  simpa [hj2] using h4

end Go.Proofs.Ytpjnppkhhbnfoaa
