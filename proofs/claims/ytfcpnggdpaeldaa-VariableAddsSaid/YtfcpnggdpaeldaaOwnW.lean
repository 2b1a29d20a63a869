/-
  A trace of the call's own that is changed in place: a further variable of a process, a further assignment of an event. No function is named here.
-/
import Derived.Test.YtfcpnggdpaeldaaGr
namespace Go.Proofs.Ytfcpnggdpaeldaa
open Go.RowKit
set_option linter.unusedVariables false

theorem setCell_self {w : World} {g o : Nat} {u : Value} (h : w.cell? ⟨g, o, none⟩ = some u) : w.setCell ⟨g, o, none⟩ u = w := by
  have hh : (w.setCell ⟨g, o, none⟩ u).heap = w.heap := by
    refine Array.ext_getElem? fun k => ?_
    by_cases e : k = g
    · subst e
      unfold World.cell? at h
      cases hg : w.heap[k]? with
      | none => rw [hg] at h; cases h
      | some ob =>
        cases ob with
        | cells cs ty fr =>
          rw [hg] at h
          simp only [Option.isSome_none, Bool.false_eq_true, if_false] at h
          obtain ⟨hlt, hv⟩ := Array.getElem?_eq_some_iff.1 h
          simp only [World.setCell, Array.getElem?_modify, hg, if_true, Option.map_some, Option.isSome_none, Bool.false_eq_true, if_false]
          congr 2
          refine Array.ext_getElem? fun j => ?_
          rw [Array.getElem?_setIfInBounds]
          split
          · rename_i e; subst e; exact h.symm
          · rfl
        | _ => rw [hg] at h; cases h
    · exact Below.heap_setCell w ⟨g, o, none⟩ u k (by simpa using e)
  cases w
  simp only [World.setCell] at hh ⊢
  rw [hh]
theorem list_set_at {α : Type} [Inhabited α] {l : List α} {k : Nat} (hk : k < l.length) (b : α) : (l.set k b)[k]! = b := by
  rw [getElem!_pos _ k (by rw [List.length_set]; exact hk), List.getElem_set_self]
theorem list_set_ne {α : Type} [Inhabited α] {l : List α} {k j : Nat} (h : j ≠ k) (hj : j < l.length) (x : α) : (l.set k x)[j]! = l[j]! := by
  rw [getElem!_pos _ j (by rw [List.length_set]; exact hj), getElem!_pos l j hj, List.getElem_set_ne (fun e => h e.symm)]
theorem prC_setV {cs : List Value} {l : List Pr} {vv ve : Nat → Value} (h : PrC cs l vv ve) {p : Nat} (hp : p < l.length) (u : Value) (b : List Vr) : PrC (cs.set (p * 3 + 1) u) (l.set p { l[p]! with vars := b }) (updV vv p u) ve := by
  obtain ⟨h1, h2⟩ := h
  refine ⟨by rw [List.length_set, List.length_set]; exact h1, fun j hj => ?_⟩
  rw [List.length_set] at hj
  rw [List.drop_set]
  by_cases e : j = p
  · subst e
    rw [if_neg (by omega), List.take_set, h2 j hj, updV_at, show j * 3 + 1 - j * 3 = 1 by omega, list_set_at hj]
    rfl
  · rw [updV_ne e, list_set_ne e hj]
    by_cases hlt : p * 3 + 1 < j * 3
    · rw [if_pos hlt]; exact h2 j hj
    · rw [if_neg hlt, List.take_set, List.set_eq_of_length_le (by rw [List.length_take]; omega)]; exact h2 j hj
theorem prC_setE {cs : List Value} {l : List Pr} {vv ve : Nat → Value} (h : PrC cs l vv ve) {p : Nat} (b : List Ev) : PrC cs (l.set p { l[p]! with events := b }) vv ve := by
  obtain ⟨h1, h2⟩ := h
  refine ⟨by rw [List.length_set]; exact h1, fun j hj => ?_⟩
  rw [List.length_set] at hj
  rw [h2 j hj]
  by_cases e : j = p
  · subst e; rw [list_set_at hj]; rfl
  · rw [list_set_ne e hj]
/-- A row that grew, or moved to a block of its own, is no other row. -/
theorem Dis.moved {w : World} {base : Nat} {e : TypeId} {size n : Nat} {xs : List Value} {u v x : Value} (hd : Dis x v) (hx : Row w base e size x n xs) (hb : u.ownBlock = v.ownBlock ∨ ∃ k, u.ownBlock = some k ∧ w.heap.size ≤ k) : Dis x u := by
  unfold Dis at *
  rcases hb with hb | ⟨k, hk, hkw⟩
  · rw [hb]; exact hd
  · cases hxb : x.ownBlock with
    | none => exact .inl rfl
    | some j =>
      refine .inr fun e => ?_
      rw [hk] at e
      have := (hx.lt j hxb).2
      have e2 : j = k := by simpa using e
      omega
theorem OwnE.grown2 {w w' : World} {base : Nat} {v u : Value} {l : List Ev} {va : Nat → Value} (h : OwnE w base v l va) (hg : w.grownBy w' u.ownBlock) {b2 n : Nat} {xs : List Value} (hu : Row w b2 57 2 u n xs) (hd : ∀ j, j < l.length → Dis (va j) u) : OwnE w' base v l va := by
  obtain ⟨cs, h1, h2, h3⟩ := h
  exact ⟨cs, h1.grown hg (h1.apart hu (by decide)), h2, fun j hj => (h3 j hj).grown hg (hd j hj)⟩
theorem own_heap {w : World} {base g off cap n m : Nat} {e : TypeId} {size : Nat} {xs : List Value} (h : Row w base e size (.slice (some ⟨g, off, none⟩) m cap) n xs) : ∃ cur fr, w.heap[g]? = some (.cells cur e fr) := by
  rcases h.2 with ⟨e, _⟩ | ⟨g', off', cap', cur, e, _, hgg, _⟩
  · cases e
  · simp only [Value.slice.injEq, Option.some.injEq, Addr.mk.injEq, and_true] at e
    obtain ⟨⟨rfl, _⟩, _⟩ := e
    exact ⟨_, _, hgg⟩

/-- A further variable of a process. -/
theorem OwnP.vars {w w' : World} {base g off cap p : Nat} {l : List Pr} {vv ve : Nat → Value} {va : Nat → Nat → Value} {u : Value} {b : List Vr}
    (h : OwnP w base (.slice (some ⟨g, off, none⟩) l.length cap) l vv ve va) (hd : DisP l vv ve va) (hp : p < l.length) (hr : RowV w' base u b) (hg : w.grownBy w' (vv p).ownBlock)
    (hb : u.ownBlock = (vv p).ownBlock ∨ ∃ k, u.ownBlock = some k ∧ w.heap.size ≤ k) :
    OwnP (w'.setCell ⟨g, off + (p * 3 + 1), none⟩ u) base (.slice (some ⟨g, off, none⟩) l.length cap) (l.set p { l[p]! with vars := b }) (updV vv p u) ve va ∧ DisP (l.set p { l[p]! with vars := b }) (updV vv p u) ve va := by
  obtain ⟨cs, h1, h2, h3⟩ := h
  have hvp := (h3 p hp).1
  have h1' := h1.grown hg (h1.apart hvp (by decide))
  obtain ⟨cur, fr, hgc⟩ := own_heap h1'
  have hs := h1'.set (p * 3 + 1) u (by omega)
  have hev : ∀ j, j < l.length → (l.set p { l[p]! with vars := b })[j]!.events = l[j]!.events := fun j hj => by
    by_cases e : j = p
    · subst e; rw [list_set_at hj]
    · rw [list_set_ne e hj]
  refine ⟨⟨cs.set (p * 3 + 1) u, by rw [List.length_set]; exact hs, prC_setV h2 hp u b, fun j hj => ?_⟩, ?_⟩
  · rw [List.length_set] at hj
    rw [hev j hj]
    refine ⟨?_, ((h3 j hj).2.grown hvp (by decide) (by decide) hg).stO hgc (by decide) (by decide) u⟩
    by_cases e : j = p
    · subst e
      rw [updV_at, list_set_at hj]
      exact hr.stO hgc (by decide) u
    · rw [updV_ne e, list_set_ne e hj]
      exact ((h3 j hj).1.grown hg (hd.v j p hj hp e)).stO hgc (by decide) u
  · refine ⟨fun a c ha hc hac => ?_, fun a c ha hc hac => ?_, fun a c i j ha hc hi hj hac => ?_⟩
    · rw [List.length_set] at ha hc
      by_cases e1 : a = p
      · subst e1
        rw [updV_at, updV_ne (fun e => hac e.symm)]
        exact ((hd.v c a hc ha (fun e => hac e.symm)).moved (h3 c hc).1 hb).symm
      · rw [updV_ne e1]
        by_cases e2 : c = p
        · subst e2; rw [updV_at]; exact (hd.v a c ha hc hac).moved (h3 a ha).1 hb
        · rw [updV_ne e2]; exact hd.v a c ha hc hac
    · rw [List.length_set] at ha hc; exact hd.e a c ha hc hac
    · rw [List.length_set] at ha hc
      rw [hev a ha] at hi
      rw [hev c hc] at hj
      exact hd.a a c i j ha hc hi hj hac

def updW (va : Nat → Nat → Value) (p k : Nat) (u : Value) : Nat → Nat → Value := fun q => if q = p then updV (va p) k u else va q
theorem updW_at (va : Nat → Nat → Value) (p k : Nat) (u : Value) : updW va p k u p = updV (va p) k u := if_pos rfl
theorem updW_ne {va : Nat → Nat → Value} {p k q : Nat} {u : Value} (h : q ≠ p) : updW va p k u q = va q := if_neg h
/-- A further assignment of an event. -/
theorem OwnP.asg {w w' : World} {base g off cap p k n : Nat} {v : Value} {l : List Pr} {vv ve : Nat → Value} {va : Nat → Nat → Value} {u : Value} {b : List Asg}
    (h : OwnP w base v l vv ve va) (hd : DisP l vv ve va) (hp : p < l.length) (hn : n = l[p]!.events.length) (hk : k < n) (hve : ve p = .slice (some ⟨g, off, none⟩) n cap) (hr : RowA w' base u b) (hg : w.grownBy w' (va p k).ownBlock)
    (hb : u.ownBlock = (va p k).ownBlock ∨ ∃ k, u.ownBlock = some k ∧ w.heap.size ≤ k) :
    OwnP (w'.setCell ⟨g, off + (k * 5 + 4), none⟩ u) base v (l.set p { l[p]! with events := l[p]!.events.set k { l[p]!.events[k]! with asg := b } }) vv ve (updW va p k u) ∧ DisP (l.set p { l[p]! with events := l[p]!.events.set k { l[p]!.events[k]! with asg := b } }) vv ve (updW va p k u) := by
  subst hn
  obtain ⟨cs, h1, h2, h3⟩ := h
  obtain ⟨es, k1, k2, k3⟩ := (h3 p hp).2
  have hap := k3 k hk
  rw [hve] at k1
  have k1' := k1.grown hg (k1.apart hap (by decide))
  obtain ⟨cur, fr, hgc⟩ := own_heap k1'
  have hs := k1'.set (k * 5 + 4) u (by omega)
  have hvs : ∀ j, j < l.length → (l.set p { l[p]! with events := l[p]!.events.set k { l[p]!.events[k]! with asg := b } })[j]!.vars = l[j]!.vars := fun j hj => by
    by_cases e : j = p
    · subst e; rw [list_set_at hj]
    · rw [list_set_ne e hj]
  have hel : ∀ j, j < l.length → (l.set p { l[p]! with events := l[p]!.events.set k { l[p]!.events[k]! with asg := b } })[j]!.events.length = l[j]!.events.length := fun j hj => by
    by_cases e : j = p
    · subst e; rw [list_set_at hj, List.length_set]
    · rw [list_set_ne e hj]
  have h1' := (h1.grown hg (h1.apart hap (by decide))).stO hgc (by decide) u (o := off + (k * 5 + 4))
  refine ⟨⟨cs, by rw [List.length_set]; exact h1', prC_setE h2 _, fun j hj => ?_⟩, ?_⟩
  · rw [List.length_set] at hj
    refine ⟨by rw [hvs j hj]; exact ((h3 j hj).1.grown hg ((h3 j hj).1.apart hap (by decide))).stO hgc (by decide) u, ?_⟩
    by_cases e : j = p
    · subst e
      rw [updW_at, list_set_at hj, hve]
      refine ⟨es.set (k * 5 + 4) u, by rw [List.length_set]; exact hs, evC_set k2 hk u b, fun i hi => ?_⟩
      rw [List.length_set] at hi
      by_cases e2 : i = k
      · subst e2
        rw [updV_at, ev_set_at hi]
        exact hr.stO hgc (by decide) u
      · rw [updV_ne e2, ev_set_ne e2 hi]
        exact ((k3 i hi).grown hg (hd.a j j i k hj hj hi hk (.inr e2))).stO hgc (by decide) u
    · rw [updW_ne e, list_set_ne e hj]
      have hej := (h3 j hj).2.grown2 hg hap (fun i hi => hd.a j p i k hj hp hi hk (.inl e))
      obtain ⟨ds, d1, d2, d3⟩ := hej
      have hne : (ve j).ownBlock ≠ some g := by
        have hdd := hd.e j p hj hp e
        rw [hve] at hdd
        rcases hdd with hdd | hdd
        · rw [hdd]; simp
        · exact hdd
      exact ⟨ds, d1.st (p := ⟨g, off + (k * 5 + 4), none⟩) hne u, d2, fun i hi => (d3 i hi).stO hgc (by decide) u⟩
  · refine ⟨fun a c ha hc hac => ?_, fun a c ha hc hac => ?_, fun a c i j ha hc hi hj hac => ?_⟩
    · rw [List.length_set] at ha hc; exact hd.v a c ha hc hac
    · rw [List.length_set] at ha hc; exact hd.e a c ha hc hac
    · rw [List.length_set] at ha hc
      rw [hel a ha] at hi
      rw [hel c hc] at hj
      have old : ∀ q i, q < l.length → i < l[q]!.events.length → (q ≠ p ∨ i ≠ k) → Dis (va q i) u := fun q i hq hi hne => by
        obtain ⟨_, _, _, g3⟩ := (h3 q hq).2
        exact (hd.a q p i k hq hp hi hk hne).moved (g3 i hi) hb
      by_cases e1 : a = p ∧ i = k
      · obtain ⟨rfl, rfl⟩ := e1
        rw [updW_at, updV_at]
        by_cases e2 : c = a
        · subst e2
          have hji : j ≠ i := fun e => by rcases hac with h | h; exact h rfl; exact h e.symm
          rw [updW_at, updV_ne hji]
          exact (old c j hc hj (.inr hji)).symm
        · rw [updW_ne e2]
          exact (old c j hc hj (.inl e2)).symm
      · have hai : updW va p k u a i = va a i := by
          by_cases e3 : a = p
          · subst e3; rw [updW_at, updV_ne (fun e => e1 ⟨rfl, e⟩)]
          · rw [updW_ne e3]
        rw [hai]
        by_cases e2 : c = p ∧ j = k
        · obtain ⟨rfl, rfl⟩ := e2
          rw [updW_at, updV_at]
          exact old a i ha hi (by by_cases e3 : a = c; exact .inr (fun e => e1 ⟨e3, e⟩); exact .inl e3)
        · have hcj : updW va p k u c j = va c j := by
            by_cases e3 : c = p
            · subst e3; rw [updW_at, updV_ne (fun e => e2 ⟨rfl, e⟩)]
            · rw [updW_ne e3]
          rw [hcj]
          exact hd.a a c i j ha hc hi hj hac

/-! ### The trace with a further variable, in the making -/
def midP (s : ByteArray) (x : List Int) (y : Pr) (k : Nat) : Pr := { y with vars := y.vars ++ [⟨s, x[0]!⟩], events := mixV y.vars.length x y.events k }
def MixL (t : Tr) (s : ByteArray) (l : List (List Int)) (p : Nat) (L : Tr) : Prop := L.length = t.length ∧ (∀ q, q < p → q < t.length → L[q]! = withP s l[q]! t[q]!) ∧ ∀ q, p ≤ q → q < t.length → L[q]! = t[q]!
theorem MixL.zero (t : Tr) (s : ByteArray) (l : List (List Int)) : MixL t s l 0 t := ⟨rfl, fun q hq => absurd hq (Nat.not_lt_zero _), fun q _ _ => rfl⟩
theorem MixL.done {t L : Tr} {s : ByteArray} {l : List (List Int)} (h : MixL t s l t.length L) : L = withT s l t := list_ext! (by rw [h.1, withT_len]) fun j hj => by
  rw [h.1] at hj
  rw [h.2.1 j hj hj]
  rw [getElem!_pos (withT s l t) j (by rw [withT_len]; exact hj)]; simp [withT]
theorem midP_all (s : ByteArray) (x : List Int) (y : Pr) {k : Nat} (hk : y.events.length ≤ k) : midP s x y k = withP s x y := by
  unfold midP
  rw [mixV_all s x y hk]; rfl
theorem MixL.next {t L : Tr} {s : ByteArray} {l : List (List Int)} {p k : Nat} (h : MixL t s l p L) (hp : p < t.length) (hk : t[p]!.events.length ≤ k) : MixL t s l (p + 1) (L.set p (midP s l[p]! t[p]! k)) := by
  refine ⟨by rw [List.length_set]; exact h.1, fun q hq hqt => ?_, fun q hq hqt => ?_⟩
  · by_cases e : q = p
    · subst e; rw [list_set_at (by rw [h.1]; exact hqt), midP_all s _ _ hk]
    · rw [list_set_ne e (by rw [h.1]; exact hqt)]; exact h.2.1 q (by omega) hqt
  · rw [list_set_ne (by omega) (by rw [h.1]; exact hqt)]; exact h.2.2 q (by omega) hqt
theorem set_set {α : Type} (l : List α) (p : Nat) (x y : α) : (l.set p x).set p y = l.set p y := List.set_set ..
theorem MixL.mid {t L : Tr} {s : ByteArray} {l : List (List Int)} {p : Nat} (h : MixL t s l p L) (hp : p < t.length) : L.set p { L[p]! with vars := t[p]!.vars ++ [⟨s, l[p]![0]!⟩] } = L.set p (midP s l[p]! t[p]! 0) := by
  rw [h.2.2 p (Nat.le_refl _) hp]
  unfold midP
  rw [mixV_zero]
theorem mid_new {L : Tr} {s : ByteArray} {x : List Int} {y : Pr} {p k : Nat} (hp : p < L.length) (hk : k < y.events.length) (h : x[k + 1]! ≠ x[k]!) :
    (L.set p (midP s x y k)).set p { (L.set p (midP s x y k))[p]! with events := (L.set p (midP s x y k))[p]!.events.set k { (L.set p (midP s x y k))[p]!.events[k]! with asg := y.events[k]!.asg ++ [⟨(y.vars.length : Int), x[k + 1]!⟩] } } = L.set p (midP s x y (k + 1)) := by
  rw [set_set, list_set_at hp]
  unfold midP
  rw [mixV_new hk h]
theorem mid_same {s : ByteArray} {x : List Int} {y : Pr} {k : Nat} (h : x[k + 1]! = x[k]!) : midP s x y (k + 1) = midP s x y k := by
  unfold midP
  rw [mixV_same h]

/-! ### What is read -/
theorem drop_take_get {cs xs : List Value} {a n : Nat} (h : (cs.drop a).take n = xs) {j : Nat} (hj : j < n) : cs[a + j]? = xs[j]? := by
  rw [← h, List.getElem?_take_of_lt hj, List.getElem?_drop]
theorem OwnP.cellsAt {w : World} {base g off n cap p : Nat} {l : List Pr} {vv ve : Nat → Value} {va : Nat → Nat → Value} (h : OwnP w base (.slice (some ⟨g, off, none⟩) n cap) l vv ve va) (hn : n = l.length) (hp : p < l.length) :
    w.cell? ⟨g, off + p * 3 + 1, none⟩ = some (vv p) ∧ w.cell? ⟨g, off + p * 3 + 2, none⟩ = some (ve p) := by
  subst hn
  obtain ⟨cs, h1, h2, _⟩ := h
  have e1 := h1.cell (p * 3 + 1) (by omega)
  have e2 := h1.cell (p * 3 + 2) (by omega)
  rw [drop_take_get (h2.2 p hp) (by omega)] at e1 e2
  exact ⟨by rw [Nat.add_assoc]; exact e1, by rw [Nat.add_assoc]; exact e2⟩
theorem evCells {w : World} {base g off n cap k : Nat} {l : List Ev} {va : Nat → Value} {cs : List Value} (h1 : Row w base 55 5 (.slice (some ⟨g, off, none⟩) n cap) n cs) (h2 : EvC cs l va) (hn : n = l.length) (hk : k < l.length) :
    w.cell? ⟨g, off + k * 5, none⟩ = some (.int .i64 l[k]!.kind) ∧ w.cell? ⟨g, off + k * 5 + 1, none⟩ = some (.int .i64 l[k]!.peer) ∧ w.cell? ⟨g, off + k * 5 + 2, none⟩ = some (.int .i64 l[k]!.msg) ∧ w.cell? ⟨g, off + k * 5 + 3, none⟩ = some (.int .i64 l[k]!.time) ∧ w.cell? ⟨g, off + k * 5 + 4, none⟩ = some (va k) := by
  subst hn
  have e0 := h1.cell (k * 5 + 0) (by omega)
  have e1 := h1.cell (k * 5 + 1) (by omega)
  have e2 := h1.cell (k * 5 + 2) (by omega)
  have e3 := h1.cell (k * 5 + 3) (by omega)
  have e4 := h1.cell (k * 5 + 4) (by omega)
  rw [drop_take_get (h2.2 k hk) (by omega)] at e0 e1 e2 e3 e4
  refine ⟨e0, ?_, ?_, ?_, ?_⟩
  · rw [Nat.add_assoc]; exact e1
  · rw [Nat.add_assoc]; exact e2
  · rw [Nat.add_assoc]; exact e3
  · rw [Nat.add_assoc]; exact e4
/-- What a call made on the way, and what it wrote there, is not seen. -/
theorem grown_from {w wA w8 : World} {row : Option Nat} (hE : Ext w wA) (hg : wA.grownBy w8 row) : w.grownBy w8 row :=
  ⟨hg.os.trans hE.os, hg.tape.trans hE.tape, hg.output.trans hE.output, Nat.le_trans hE.size hg.size, fun k hk hne => (hg.block k (Nat.lt_of_lt_of_le hk hE.size) hne).trans (hE.block k hk)⟩
theorem grown_st {w w8 : World} {row : Option Nat} (h : w.grownBy w8 row) {X o : Nat} (hX : w.heap.size ≤ X) (u : Value) : w.grownBy (w8.setCell ⟨X, o, none⟩ u) row :=
  ⟨h.os, h.tape, h.output, by rw [size_setCell]; exact h.size, fun k hk hne => (Below.heap_setCell w8 ⟨X, o, none⟩ u k (by show k ≠ X; omega)).trans (h.block k hk hne)⟩

/-! ### How much was found full -/
def fullTo (t : Tr) (l : List (List Int)) (p : Nat) : Bool := (List.range p).any fun q => fullP l[q]! t[q]!
def fullIn (b : Bool) (x : List Int) (y : Pr) (k : Nat) : Bool := b || decide (8 ≤ y.vars.length) || (List.range k).any (fullE x y)
theorem fullTo_zero (t : Tr) (l : List (List Int)) : fullTo t l 0 = false := rfl
theorem fullTo_succ (t : Tr) (l : List (List Int)) (p : Nat) : fullTo t l (p + 1) = (fullTo t l p || fullP l[p]! t[p]!) := by
  unfold fullTo; rw [List.range_succ, List.any_append]; simp
theorem fullIn_zero (b : Bool) (x : List Int) (y : Pr) : fullIn b x y 0 = (b || decide (8 ≤ y.vars.length)) := by simp [fullIn]
theorem fullIn_succ (b : Bool) (x : List Int) (y : Pr) (k : Nat) : fullIn b x y (k + 1) = (fullIn b x y k || fullE x y k) := by
  unfold fullIn; rw [List.range_succ, List.any_append]; simp [Bool.or_assoc]
theorem fullIn_all (b : Bool) (x : List Int) (y : Pr) : fullIn b x y y.events.length = (b || fullP x y) := by
  unfold fullIn fullP; rw [Bool.or_assoc]

end Go.Proofs.Ytfcpnggdpaeldaa
