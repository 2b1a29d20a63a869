import Derived.Test.YtfcpnggdpaeldaaGa
import Derived.Test.YtfcpnggdpaeldaaProg
import Derived.Test.YtfcpnggdpaeldaaGn
import Derived.Test.YtfcpnggdpaeldaaGb
import Derived.Test.YtfcpnggdpaeldaaGj
import Derived.BigQuiet
import Derived.Deep.QuietTactic
import Derived.Deep.LoopGhost
import Derived.Shelf.Abstract
import Derived.Deep.DeepCutAuto
/-
  Rows of rows: a slice of the call's own whose elements are slices of its own. No program is named here.
-/
namespace Go.Proofs.Ytfcpnggdpaeldaa
open Go.RowKit
set_option linter.unusedVariables false

/-- v owns its cells; each is a slice of its own that reads as a list. -/
def RowRows (w : World) (base : Nat) (e e' : TypeId) (enc : Int → Value) (v : Value) (l : List (List Int)) : Prop :=
  ∃ vs : List Value, Row w base e 1 v l.length vs ∧ ∀ i, i < l.length → Row w base e' 1 vs[i]! l[i]!.length (l[i]!.map enc)

theorem RowRows.mkNil (w : World) (base : Nat) (e e' : TypeId) (enc : Int → Value) : RowRows w base e e' enc (.slice none 0 0) [] :=
  ⟨[], Row.mkNil _ _ _ _, fun i hi => absurd hi (by simp)⟩

theorem RowRows.ext {w w' : World} {base : Nat} {e e' : TypeId} {enc : Int → Value} {v : Value} {l : List (List Int)} (h : RowRows w base e e' enc v l) (x : Ext w w') : RowRows w' base e e' enc v l := by
  obtain ⟨vs, h1, h2⟩ := h
  exact ⟨vs, h1.ext x, fun i hi => (h2 i hi).ext x⟩

theorem RowRows.mono {w : World} {base base' : Nat} {e e' : TypeId} {enc : Int → Value} {v : Value} {l : List (List Int)} (h : RowRows w base e e' enc v l) (hb : base' ≤ base) : RowRows w base' e e' enc v l := by
  obtain ⟨vs, h1, h2⟩ := h
  exact ⟨vs, h1.mono hb, fun i hi => (h2 i hi).mono hb⟩

theorem rowRows_push {W w2 : World} {base : Nat} {e e' : TypeId} {enc : Int → Value} {v v' u : Value} {l : List (List Int)} {vs : List Value} {x : List Int} (hrow : Row W base e 1 v l.length vs)
    (hel : ∀ i, i < l.length → Row W base e' 1 vs[i]! l[i]!.length (l[i]!.map enc)) (hu : Row W base e' 1 u x.length (x.map enc)) (hne : e' ≠ e)
    (hg : W.grownBy w2 v.ownBlock) (hR : Row w2 base e 1 v' (l.length + 1) (vs ++ [u])) : RowRows w2 base e e' enc v' (l ++ [x]) := by
  refine ⟨vs ++ [u], by rw [List.length_append]; exact hR, fun i hi => ?_⟩
  have hvl : vs.length = l.length := by have := hrow.1; omega
  rw [List.length_append, List.length_singleton] at hi
  by_cases h : i < l.length
  · rw [getElem!_pos (l ++ [x]) i (by simp; omega), getElem!_pos (vs ++ [u]) i (by simp; omega), List.getElem_append_left h, List.getElem_append_left (by omega)]
    have := hel i h
    rw [getElem!_pos l i h, getElem!_pos vs i (by omega)] at this
    exact this.grown hg (this.apart hrow hne)
  · obtain rfl : i = l.length := by omega
    rw [getElem!_pos (l ++ [x]) _ (by simp), getElem!_pos (vs ++ [u]) _ (by simp; omega), List.getElem_append_right (by omega), List.getElem_append_right (by omega)]
    simp only [Nat.sub_self, hvl, List.getElem_cons_zero]
    exact hu.grown hg (hu.apart hrow hne)

end Go.Proofs.Ytfcpnggdpaeldaa

/-
  Queues of stamps in memory of the call's own, three levels deep. No program is named here.
-/
namespace Go.Proofs.Ytfcpnggdpaeldaa
open Go.RowKit
set_option linter.unusedVariables false

theorem RowRows.lt {w : World} {base : Nat} {e e' : TypeId} {enc : Int → Value} {v : Value} {l : List (List Int)} (h : RowRows w base e e' enc v l) : ∀ k, v.ownBlock = some k → base ≤ k ∧ k < w.heap.size := by
  obtain ⟨vs, h1, _⟩ := h; exact h1.lt
/-- A store into a block of another type. -/
theorem Row.stO {w : World} {base g o : Nat} {e t : TypeId} {size : Nat} {v : Value} {n : Nat} {xs : List Value} {cs : Array Value} {fr : Nat × Nat} (h : Row w base e size v n xs) (hg : w.heap[g]? = some (.cells cs t fr)) (hne : t ≠ e) (u : Value) : Row (w.setCell ⟨g, o, none⟩ u) base e size v n xs :=
  h.st (p := ⟨g, o, none⟩) (h.notBox hg hne) u
theorem RowRows.stO {w : World} {base g o : Nat} {e e' t : TypeId} {enc : Int → Value} {v : Value} {l : List (List Int)} {cs : Array Value} {fr : Nat × Nat} (h : RowRows w base e e' enc v l) (hg : w.heap[g]? = some (.cells cs t fr)) (h1 : t ≠ e) (h2 : t ≠ e') (u : Value) : RowRows (w.setCell ⟨g, o, none⟩ u) base e e' enc v l := by
  obtain ⟨vs, k1, k2⟩ := h
  exact ⟨vs, k1.stO hg h1 u, fun i hi => (k2 i hi).stO hg h2 u⟩
/-- Growth of another row. -/
theorem RowRows.grown {w w' : World} {base : Nat} {e e' : TypeId} {enc : Int → Value} {v : Value} {l : List (List Int)} {row : Option Nat} (h : RowRows w base e e' enc v l) (hg : w.grownBy w' row) (h1 : v.ownBlock = none ∨ v.ownBlock ≠ row)
    (h2 : ∀ k, row = some k → ∃ cs t fr, w.heap[k]? = some (.cells cs t fr) ∧ t ≠ e') : RowRows w' base e e' enc v l := by
  obtain ⟨vs, k1, k2⟩ := h
  refine ⟨vs, k1.grown hg h1, fun i hi => (k2 i hi).grown hg ?_⟩
  cases row with
  | none => cases h : vs[i]!.ownBlock <;> simp
  | some k =>
    obtain ⟨cs, t, fr, hk, hne⟩ := h2 k rfl
    exact .inr ((k2 i hi).notBox hk hne)
theorem Row.block {w : World} {base : Nat} {e : TypeId} {size : Nat} {v : Value} {n : Nat} {xs : List Value} (h : Row w base e size v n xs) : ∀ k, v.ownBlock = some k → ∃ cs t fr, w.heap[k]? = some (.cells cs t fr) ∧ t = e := by
  intro k hk
  rcases h.2 with ⟨rfl, _⟩ | ⟨g, off, cap, cur, rfl, _, hg, _⟩
  · simp [Value.ownBlock] at hk
  · simp [Value.ownBlock] at hk
    subst hk
    exact ⟨cur, e, (0, 0), hg, rfl⟩
theorem Row.block' {w : World} {base : Nat} {e e' : TypeId} {size : Nat} {v : Value} {n : Nat} {xs : List Value} (h : Row w base e size v n xs) (hne : e ≠ e') : ∀ k, v.ownBlock = some k → ∃ cs t fr, w.heap[k]? = some (.cells cs t fr) ∧ t ≠ e' := by
  intro k hk
  obtain ⟨cs, t, fr, h1, rfl⟩ := h.block k hk
  exact ⟨cs, t, fr, h1, hne⟩

/-- The headers of the queues. -/
def QHs (w : World) (base : Nat) (e2 e3 : TypeId) (hs : List Value) (qs : List (List (List Int))) : Prop :=
  hs.length = qs.length ∧ (∀ p, p < qs.length → RowRows w base e2 e3 (Value.int .i64) hs[p]! qs[p]!) ∧
    ∀ p q, p < qs.length → q < qs.length → p ≠ q → hs[p]!.ownBlock = none ∨ hs[p]!.ownBlock ≠ hs[q]!.ownBlock
def OwnQs (w : World) (base : Nat) (e1 e2 e3 : TypeId) (uq : Value) (qs : List (List (List Int))) : Prop :=
  ∃ hs : List Value, Row w base e1 1 uq qs.length hs ∧ QHs w base e2 e3 hs qs

theorem QHs.ext {w w' : World} {base : Nat} {e2 e3 : TypeId} {hs : List Value} {qs : List (List (List Int))} (h : QHs w base e2 e3 hs qs) (x : Ext w w') : QHs w' base e2 e3 hs qs := ⟨h.1, fun p hp => (h.2.1 p hp).ext x, h.2.2⟩
theorem QHs.mono {w : World} {base base' : Nat} {e2 e3 : TypeId} {hs : List Value} {qs : List (List (List Int))} (h : QHs w base e2 e3 hs qs) (hb : base' ≤ base) : QHs w base' e2 e3 hs qs := ⟨h.1, fun p hp => (h.2.1 p hp).mono hb, h.2.2⟩
theorem QHs.mkNil (w : World) (base : Nat) (e2 e3 : TypeId) : QHs w base e2 e3 [] [] := ⟨rfl, fun p hp => absurd hp (by simp), fun p q hp => absurd hp (by simp)⟩
theorem OwnQs.ext {w w' : World} {base : Nat} {e1 e2 e3 : TypeId} {uq : Value} {qs : List (List (List Int))} (h : OwnQs w base e1 e2 e3 uq qs) (x : Ext w w') : OwnQs w' base e1 e2 e3 uq qs := by
  obtain ⟨hs, h1, h2⟩ := h; exact ⟨hs, h1.ext x, h2.ext x⟩
theorem OwnQs.mono {w : World} {base base' : Nat} {e1 e2 e3 : TypeId} {uq : Value} {qs : List (List (List Int))} (h : OwnQs w base e1 e2 e3 uq qs) (hb : base' ≤ base) : OwnQs w base' e1 e2 e3 uq qs := by
  obtain ⟨hs, h1, h2⟩ := h; exact ⟨hs, h1.mono hb, h2.mono hb⟩
theorem OwnQs.mkNil (w : World) (base : Nat) (e1 e2 e3 : TypeId) : OwnQs w base e1 e2 e3 (.slice none 0 0) [] := ⟨[], Row.mkNil _ _ _ _, QHs.mkNil _ _ _ _⟩
theorem QHs.stO {w : World} {base g o : Nat} {e2 e3 t : TypeId} {hs : List Value} {qs : List (List (List Int))} {cs : Array Value} {fr : Nat × Nat} (h : QHs w base e2 e3 hs qs) (hg : w.heap[g]? = some (.cells cs t fr)) (h2 : t ≠ e2) (h3 : t ≠ e3) (u : Value) : QHs (w.setCell ⟨g, o, none⟩ u) base e2 e3 hs qs :=
  ⟨h.1, fun p hp => (h.2.1 p hp).stO hg h2 h3 u, h.2.2⟩
theorem OwnQs.stO {w : World} {base g o : Nat} {e1 e2 e3 t : TypeId} {uq : Value} {qs : List (List (List Int))} {cs : Array Value} {fr : Nat × Nat} (h : OwnQs w base e1 e2 e3 uq qs) (hg : w.heap[g]? = some (.cells cs t fr)) (h1 : t ≠ e1) (h2 : t ≠ e2) (h3 : t ≠ e3) (u : Value) : OwnQs (w.setCell ⟨g, o, none⟩ u) base e1 e2 e3 uq qs := by
  obtain ⟨hs, k1, k2⟩ := h; exact ⟨hs, k1.stO hg h1 u, k2.stO hg h2 h3 u⟩

/-- One queue more: the header row has grown. -/
theorem QHs.push {w0 W w2 : World} {base : Nat} {e1 e2 e3 : TypeId} {hs : List Value} {qs : List (List (List Int))} {v uq : Value} {n : Nat} {xs : List Value} {q : List (List Int)} (h0 : QHs w0 base e2 e3 hs qs) (hx : Ext w0 W)
    (hv : RowRows W w0.heap.size e2 e3 (Value.int .i64) v q) (hb : base ≤ w0.heap.size) (hrow : Row W base e1 1 uq n xs) (hg : W.grownBy w2 uq.ownBlock) (h12 : e1 ≠ e2) (h13 : e1 ≠ e3) : QHs w2 base e2 e3 (hs ++ [v]) (qs ++ [q]) := by
  obtain ⟨h1, h2, h3⟩ := h0
  have keep : ∀ (u : Value) (l : List (List Int)), RowRows W base e2 e3 (Value.int .i64) u l → RowRows w2 base e2 e3 (Value.int .i64) u l := by
    intro u l hu
    refine hu.grown hg ?_ (hrow.block' h13)
    obtain ⟨vs, k1, _⟩ := hu
    exact k1.apart hrow (fun e => h12 e.symm)
  have hlt := hv.lt
  refine ⟨by simp [h1], fun p hp => ?_, fun p r hp hr hpr => ?_⟩
  · rw [List.length_append, List.length_singleton] at hp
    rw [snoc_at hs v p (by omega), snoc_at qs q p (by omega), h1]
    split
    · exact keep _ _ (hv.mono hb)
    · exact keep _ _ ((h2 p (by omega)).ext hx)
  · rw [List.length_append, List.length_singleton] at hp hr
    rw [snoc_at hs v p (by omega), snoc_at hs v r (by omega), h1]
    by_cases e1 : p = qs.length
    · rw [if_pos e1, if_neg (by omega)]
      cases hk : v.ownBlock with
      | none => exact .inl rfl
      | some k =>
        refine .inr fun h => ?_
        have := ((h2 r (by omega)).lt k h.symm).2
        have := (hlt k hk).1
        omega
    · rw [if_neg e1]
      by_cases e2 : r = qs.length
      · rw [if_pos e2]
        cases hk : hs[p]!.ownBlock with
        | none => exact .inl rfl
        | some k =>
          refine .inr fun h => ?_
          have := ((h2 p (by omega)).lt k hk).2
          have := (hlt k h.symm).1
          omega
      · rw [if_neg e2]
        exact h3 p r (by omega) (by omega) hpr

/-- One header is replaced. -/
theorem QHs.replace {w0 w2 : World} {base p : Nat} {e2 e3 : TypeId} {hs : List Value} {qs : List (List (List Int))} {v : Value} {q : List (List Int)} (h : QHs w0 base e2 e3 hs qs) (hp : p < qs.length)
    (hold : ∀ r, r < qs.length → r ≠ p → RowRows w2 base e2 e3 (Value.int .i64) hs[r]! qs[r]!) (hv : RowRows w2 base e2 e3 (Value.int .i64) v q)
    (hb : v.ownBlock = hs[p]!.ownBlock ∨ ∃ k, v.ownBlock = some k ∧ w0.heap.size ≤ k) : QHs w2 base e2 e3 (hs.set p v) (qs.set p q) := by
  obtain ⟨h1, h2, h3⟩ := h
  refine ⟨by simp [h1], fun r hr => ?_, fun r s hr hs' hrs => ?_⟩
  · rw [List.length_set] at hr
    rw [set_at hs p r v (by omega), set_at qs p r q hp]
    split
    · exact hv
    · rename_i hne; exact hold r hr hne
  · rw [List.length_set] at hr hs'
    rw [set_at hs p r v (by omega), set_at hs p s v (by omega)]
    by_cases e1 : r = p
    · rw [if_pos e1, if_neg (by omega)]
      rcases hb with hb | ⟨k, hk, hkb⟩
      · rw [hb]; exact h3 p s hp hs' (by omega)
      · rw [hk]
        refine .inr fun h => ?_
        have := ((h2 s hs').lt k h.symm).2
        omega
    · rw [if_neg e1]
      by_cases e2 : s = p
      · rw [if_pos e2]
        rcases hb with hb | ⟨k, hk, hkb⟩
        · rw [hb]; exact h3 r p hr hp (by omega)
        · rw [hk]
          cases hrb : hs[r]!.ownBlock with
          | none => exact .inl rfl
          | some k2 =>
            refine .inr fun h => ?_
            simp only [Option.some.injEq] at h
            subst h
            have := ((h2 r hr).lt _ hrb).2
            omega
      · rw [if_neg e2]; exact h3 r s hr hs' hrs

end Go.Proofs.Ytfcpnggdpaeldaa

/-
  Traces of the call's own: rows of processes, of variables, of events and of assignments. No function is named here.
-/
namespace Go.Proofs.Ytfcpnggdpaeldaa
open Go.RowKit
set_option linter.unusedVariables false

def asC (a : Asg) : List Value := [.int .i64 a.var, .int .i64 a.value]
def vrC (x : Vr) : List Value := [.string x.name, .int .i64 x.init]
def evC (e : Ev) (u : Value) : List Value := [.int .i64 e.kind, .int .i64 e.peer, .int .i64 e.msg, .int .i64 e.time, u]
def prC3 (x : Pr) (u v : Value) : List Value := [.string x.name, u, v]

theorem flat_len {α : Type} {k : Nat} (f : α → List Value) (hf : ∀ x, (f x).length = k) (l : List α) : (l.flatMap f).length = l.length * k := by
  induction l with
  | nil => simp
  | cons a l ih => rw [List.flatMap_cons, List.length_append, hf, ih, List.length_cons, Nat.succ_mul]; omega
theorem flat_at {α : Type} [Inhabited α] {k : Nat} (f : α → List Value) (hf : ∀ x, (f x).length = k) : ∀ (l : List α) (i : Nat), i < l.length → ((l.flatMap f).drop (i * k)).take k = f l[i]! := by
  intro l
  induction l with
  | nil => intro i hi; exact absurd hi (by simp)
  | cons a l ih =>
    intro i hi
    rw [List.flatMap_cons]
    cases i with
    | zero => rw [Nat.zero_mul, List.drop_zero, List.take_left' (hf a)]; rfl
    | succ i =>
      rw [Nat.succ_mul, Nat.add_comm, ← List.drop_drop, List.drop_left' (hf a), ih i (by simpa using hi)]
      rw [getElem!_pos l i (by simpa using hi), getElem!_pos (a :: l) (i + 1) hi]; rfl

abbrev RowV (w : World) (base : Nat) (v : Value) (l : List Vr) : Prop := Row w base 52 2 v l.length (l.flatMap vrC)
abbrev RowA (w : World) (base : Nat) (v : Value) (l : List Asg) : Prop := Row w base 57 2 v l.length (l.flatMap asC)
theorem RowV.sl {w : World} {base : Nat} {v : Value} {l : List Vr} (h : RowV w base v l) : Sl RVr 2 w v l := h.cells.sl fun i hi => flat_at vrC (fun _ => rfl) l i hi
theorem RowA.sl {w : World} {base : Nat} {v : Value} {l : List Asg} (h : RowA w base v l) : Sl RAsg 2 w v l := h.cells.sl fun i hi => flat_at asC (fun _ => rfl) l i hi

/-- The cells of events; where their assignments lie. -/
def EvC (cs : List Value) (l : List Ev) (va : Nat → Value) : Prop := cs.length = l.length * 5 ∧ ∀ k, k < l.length → (cs.drop (k * 5)).take 5 = evC l[k]! (va k)
def PrC (cs : List Value) (l : List Pr) (vv ve : Nat → Value) : Prop := cs.length = l.length * 3 ∧ ∀ k, k < l.length → (cs.drop (k * 3)).take 3 = prC3 l[k]! (vv k) (ve k)
def OwnE (w : World) (base : Nat) (v : Value) (l : List Ev) (va : Nat → Value) : Prop :=
  ∃ cs, Row w base 55 5 v l.length cs ∧ EvC cs l va ∧ ∀ k, k < l.length → RowA w base (va k) l[k]!.asg
def OwnP (w : World) (base : Nat) (v : Value) (l : List Pr) (vv ve : Nat → Value) (va : Nat → Nat → Value) : Prop :=
  ∃ cs, Row w base 47 3 v l.length cs ∧ PrC cs l vv ve ∧ ∀ p, p < l.length → RowV w base (vv p) l[p]!.vars ∧ OwnE w base (ve p) l[p]!.events (va p)
/-- Two rows are no one block. -/
def Dis (u v : Value) : Prop := u.ownBlock = none ∨ u.ownBlock ≠ v.ownBlock
theorem Dis.symm {u v : Value} (h : Dis u v) : Dis v u := by
  unfold Dis at *
  by_cases hv : v.ownBlock = none
  · exact .inl hv
  · refine .inr fun e => ?_
    rcases h with h | h
    · rw [h] at e; exact hv e
    · exact h e.symm

theorem OwnE.nil (w : World) (base : Nat) (va : Nat → Value) : OwnE w base (.slice none 0 0) [] va := ⟨[], Row.mkNil _ _ _ _, ⟨rfl, fun k hk => absurd hk (by simp)⟩, fun k hk => absurd hk (by simp)⟩
theorem OwnP.nil (w : World) (base : Nat) (vv ve : Nat → Value) (va : Nat → Nat → Value) : OwnP w base (.slice none 0 0) [] vv ve va := ⟨[], Row.mkNil _ _ _ _, ⟨rfl, fun k hk => absurd hk (by simp)⟩, fun k hk => absurd hk (by simp)⟩
theorem OwnE.ext {w w' : World} {base : Nat} {v : Value} {l : List Ev} {va : Nat → Value} (h : OwnE w base v l va) (x : Ext w w') : OwnE w' base v l va := by
  obtain ⟨cs, h1, h2, h3⟩ := h; exact ⟨cs, h1.ext x, h2, fun k hk => (h3 k hk).ext x⟩
theorem OwnE.mono {w : World} {base base' : Nat} {v : Value} {l : List Ev} {va : Nat → Value} (h : OwnE w base v l va) (x : base' ≤ base) : OwnE w base' v l va := by
  obtain ⟨cs, h1, h2, h3⟩ := h; exact ⟨cs, h1.mono x, h2, fun k hk => (h3 k hk).mono x⟩
theorem OwnP.ext {w w' : World} {base : Nat} {v : Value} {l : List Pr} {vv ve : Nat → Value} {va : Nat → Nat → Value} (h : OwnP w base v l vv ve va) (x : Ext w w') : OwnP w' base v l vv ve va := by
  obtain ⟨cs, h1, h2, h3⟩ := h; exact ⟨cs, h1.ext x, h2, fun k hk => ⟨(h3 k hk).1.ext x, (h3 k hk).2.ext x⟩⟩
theorem OwnP.mono {w : World} {base base' : Nat} {v : Value} {l : List Pr} {vv ve : Nat → Value} {va : Nat → Nat → Value} (h : OwnP w base v l vv ve va) (x : base' ≤ base) : OwnP w base' v l vv ve va := by
  obtain ⟨cs, h1, h2, h3⟩ := h; exact ⟨cs, h1.mono x, h2, fun k hk => ⟨(h3 k hk).1.mono x, (h3 k hk).2.mono x⟩⟩

/-- A block of another type grows. -/
theorem OwnE.grown {w w' : World} {base b2 : Nat} {v : Value} {l : List Ev} {va : Nat → Value} {e : TypeId} {s n : Nat} {u : Value} {xs : List Value} (h : OwnE w base v l va) (hu : Row w b2 e s u n xs) (h1 : e ≠ 55) (h2 : e ≠ 57) (hg : w.grownBy w' u.ownBlock) : OwnE w' base v l va := by
  obtain ⟨cs, g1, g2, g3⟩ := h
  exact ⟨cs, g1.grown hg (g1.apart hu (fun e => h1 e.symm)), g2, fun k hk => (g3 k hk).grown hg ((g3 k hk).apart hu (fun e => h2 e.symm))⟩
/-- A store into a block of another type. -/
theorem OwnE.stO {w : World} {base g o : Nat} {t : TypeId} {v : Value} {l : List Ev} {va : Nat → Value} {cs : Array Value} {fr : Nat × Nat} (h : OwnE w base v l va) (hg : w.heap[g]? = some (.cells cs t fr)) (h1 : t ≠ 55) (h2 : t ≠ 57) (u : Value) : OwnE (w.setCell ⟨g, o, none⟩ u) base v l va := by
  obtain ⟨xs, g1, g2, g3⟩ := h
  exact ⟨xs, g1.stO hg h1 u, g2, fun k hk => (g3 k hk).stO hg h2 u⟩
theorem OwnP.stO {w : World} {base g o : Nat} {t : TypeId} {v : Value} {l : List Pr} {vv ve : Nat → Value} {va : Nat → Nat → Value} {cs : Array Value} {fr : Nat × Nat} (h : OwnP w base v l vv ve va) (hg : w.heap[g]? = some (.cells cs t fr)) (h1 : t ≠ 47) (h2 : t ≠ 52) (h3 : t ≠ 55) (h4 : t ≠ 57) (u : Value) : OwnP (w.setCell ⟨g, o, none⟩ u) base v l vv ve va := by
  obtain ⟨xs, g1, g2, g3⟩ := h
  exact ⟨xs, g1.stO hg h1 u, g2, fun k hk => ⟨(g3 k hk).1.stO hg h2 u, (g3 k hk).2.stO hg h3 h4 u⟩⟩
/-- The own block of the processes grows, or one is stored into. -/
theorem own_rest {w w' : World} {base b2 : Nat} {l : List Pr} {vv ve : Nat → Value} {va : Nat → Nat → Value} {v : Value} {n : Nat} {xs : List Value} (h : ∀ p, p < l.length → RowV w base (vv p) l[p]!.vars ∧ OwnE w base (ve p) l[p]!.events (va p)) (hr : Row w b2 47 3 v n xs) (hg : w.grownBy w' v.ownBlock) :
    ∀ p, p < l.length → RowV w' base (vv p) l[p]!.vars ∧ OwnE w' base (ve p) l[p]!.events (va p) := fun p hp =>
  ⟨(h p hp).1.grown hg ((h p hp).1.apart hr (by decide)), (h p hp).2.grown hr (by decide) (by decide) hg⟩

theorem EvC.snoc {cs : List Value} {l : List Ev} {va : Nat → Value} (h : EvC cs l va) (e : Ev) (u : Value) : EvC (cs ++ evC e u) (l ++ [e]) (fun k => if k = l.length then u else va k) := by
  obtain ⟨h1, h2⟩ := h
  refine ⟨by rw [List.length_append, h1, List.length_append, List.length_singleton, Nat.add_mul]; rfl, fun k hk => ?_⟩
  rw [List.length_append, List.length_singleton] at hk
  by_cases e1 : k = l.length
  · subst e1
    dsimp only
    rw [if_pos rfl, List.drop_left' h1, List.take_of_length_le (by rw [show (evC e u).length = 5 from rfl]; omega)]
    rw [getElem!_pos _ _ (by simp)]; simp
  · dsimp only
    rw [if_neg e1, List.drop_append_of_le_length (by rw [h1]; omega), List.take_append_of_le_length (by rw [List.length_drop, h1]; omega), h2 k (by omega)]
    rw [getElem!_pos (l ++ [e]) k (by simp; omega), getElem!_pos l k (by omega), List.getElem_append_left (by omega)]
theorem PrC.snoc {cs : List Value} {l : List Pr} {vv ve : Nat → Value} (h : PrC cs l vv ve) (x : Pr) (u y : Value) : PrC (cs ++ prC3 x u y) (l ++ [x]) (fun k => if k = l.length then u else vv k) (fun k => if k = l.length then y else ve k) := by
  obtain ⟨h1, h2⟩ := h
  refine ⟨by rw [List.length_append, h1, List.length_append, List.length_singleton, Nat.add_mul]; rfl, fun k hk => ?_⟩
  rw [List.length_append, List.length_singleton] at hk
  by_cases e1 : k = l.length
  · subst e1
    dsimp only
    rw [if_pos rfl, if_pos rfl, List.drop_left' h1, List.take_of_length_le (by rw [show (prC3 x u y).length = 3 from rfl]; omega)]
    rw [getElem!_pos _ _ (by simp)]; simp
  · dsimp only
    rw [if_neg e1, if_neg e1, List.drop_append_of_le_length (by rw [h1]; omega), List.take_append_of_le_length (by rw [List.length_drop, h1]; omega), h2 k (by omega)]
    rw [getElem!_pos (l ++ [x]) k (by simp; omega), getElem!_pos l k (by omega), List.getElem_append_left (by omega)]

theorem OwnE.snoc {w w' : World} {base : Nat} {v v' u : Value} {l : List Ev} {va : Nat → Value} {cs : List Value} {e : Ev} (h1 : Row w base 55 5 v l.length cs) (h2 : EvC cs l va) (h3 : ∀ k, k < l.length → RowA w base (va k) l[k]!.asg)
    (hu : RowA w base u e.asg) (hg : w.grownBy w' v.ownBlock) (ho : Row w' base 55 5 v' (l.length + 1) (cs ++ evC e u)) : OwnE w' base v' (l ++ [e]) (fun k => if k = l.length then u else va k) := by
  refine ⟨cs ++ evC e u, by rw [List.length_append, List.length_singleton]; exact ho, h2.snoc e u, fun k hk => ?_⟩
  rw [List.length_append, List.length_singleton] at hk
  by_cases e1 : k = l.length
  · subst e1
    rw [show (fun k => if k = l.length then u else va k) l.length = u from if_pos rfl]
    rw [show (l ++ [e])[l.length]! = e by rw [getElem!_pos _ _ (by simp)]; simp]
    exact hu.grown hg (hu.apart h1 (by decide))
  · rw [show (fun k => if k = l.length then u else va k) k = va k from if_neg e1]
    rw [show (l ++ [e])[k]! = l[k]! by rw [getElem!_pos _ k (by simp; omega), getElem!_pos l k (by omega), List.getElem_append_left (by omega)]]
    exact (h3 k (by omega)).grown hg ((h3 k (by omega)).apart h1 (by decide))
theorem OwnP.snoc {w w' : World} {base : Nat} {v v' u y : Value} {l : List Pr} {vv ve : Nat → Value} {va : Nat → Nat → Value} {ya : Nat → Value} {cs : List Value} {x : Pr} (h1 : Row w base 47 3 v l.length cs) (h2 : PrC cs l vv ve)
    (h3 : ∀ p, p < l.length → RowV w base (vv p) l[p]!.vars ∧ OwnE w base (ve p) l[p]!.events (va p)) (hu : RowV w base u x.vars) (hy : OwnE w base y x.events ya) (hg : w.grownBy w' v.ownBlock) (ho : Row w' base 47 3 v' (l.length + 1) (cs ++ prC3 x u y)) :
    OwnP w' base v' (l ++ [x]) (fun k => if k = l.length then u else vv k) (fun k => if k = l.length then y else ve k) (fun k => if k = l.length then ya else va k) := by
  refine ⟨cs ++ prC3 x u y, by rw [List.length_append, List.length_singleton]; exact ho, h2.snoc x u y, fun k hk => ?_⟩
  rw [List.length_append, List.length_singleton] at hk
  by_cases e1 : k = l.length
  · subst e1
    simp only [ite_true]
    rw [show (l ++ [x])[l.length]! = x by rw [getElem!_pos _ _ (by simp)]; simp]
    exact ⟨hu.grown hg (hu.apart h1 (by decide)), hy.grown h1 (by decide) (by decide) hg⟩
  · simp only [if_neg e1]
    rw [show (l ++ [x])[k]! = l[k]! by rw [getElem!_pos _ k (by simp; omega), getElem!_pos l k (by omega), List.getElem_append_left (by omega)]]
    exact own_rest h3 h1 hg k (by omega)

/-! ### Reading -/
theorem OwnE.sl {w : World} {base : Nat} {v : Value} {l : List Ev} {va : Nat → Value} (h : OwnE w base v l va) : Sl REv 5 w v l := by
  obtain ⟨cs, h1, h2, h3⟩ := h
  refine h1.cells.sl fun i hi => ?_
  rw [h2.2 i hi]
  exact ⟨_, rfl, (h3 i hi).sl⟩
theorem OwnP.tr {w : World} {base : Nat} {v : Value} {l : List Pr} {vv ve : Nat → Value} {va : Nat → Nat → Value} (h : OwnP w base v l vv ve va) : TrAt w v l := by
  obtain ⟨cs, h1, h2, h3⟩ := h
  refine h1.cells.sl fun i hi => ?_
  rw [h2.2 i hi]
  exact ⟨_, _, rfl, (h3 i hi).1.sl, (h3 i hi).2.sl⟩

/-! ### No two rows of one block -/
structure DisP (l : List Pr) (vv ve : Nat → Value) (va : Nat → Nat → Value) : Prop where
  v : ∀ p q, p < l.length → q < l.length → p ≠ q → Dis (vv p) (vv q)
  e : ∀ p q, p < l.length → q < l.length → p ≠ q → Dis (ve p) (ve q)
  a : ∀ p q i j, p < l.length → q < l.length → i < l[p]!.events.length → j < l[q]!.events.length → (p ≠ q ∨ i ≠ j) → Dis (va p i) (va q j)
theorem DisP.nil (vv ve : Nat → Value) (va : Nat → Nat → Value) : DisP [] vv ve va := ⟨fun p q h => absurd h (by simp), fun p q h => absurd h (by simp), fun p q i j h => absurd h (by simp)⟩
/-- Rows from a base on are no rows that lay before. -/
theorem dis_new {w w' : World} {b1 b2 : Nat} {e1 e2 : TypeId} {s1 s2 n1 n2 : Nat} {u v : Value} {x1 x2 : List Value} (h1 : Row w b1 e1 s1 u n1 x1) (h2 : Row w' b2 e2 s2 v n2 x2) (hb : w.heap.size ≤ b2) : Dis u v := by
  cases hu : u.ownBlock with
  | none => exact .inl hu
  | some k =>
    refine .inr fun e => ?_
    have := (h1.lt k hu).2
    have := (h2.lt k (by rw [← e]; exact hu)).1
    omega
theorem DisP.snoc {w w' : World} {b1 b2 : Nat} {l : List Pr} {vv ve : Nat → Value} {va : Nat → Nat → Value} {ya : Nat → Value} {u y : Value} {x : Pr} (h : DisP l vv ve va)
    (h3 : ∀ p, p < l.length → RowV w b1 (vv p) l[p]!.vars ∧ OwnE w b1 (ve p) l[p]!.events (va p)) (hu : RowV w' b2 u x.vars) (hy : OwnE w' b2 y x.events ya) (hb : w.heap.size ≤ b2)
    (hd : ∀ i j, i < x.events.length → j < x.events.length → i ≠ j → Dis (ya i) (ya j)) :
    DisP (l ++ [x]) (fun k => if k = l.length then u else vv k) (fun k => if k = l.length then y else ve k) (fun k => if k = l.length then ya else va k) := by
  have hat : ∀ k, k < l.length → (l ++ [x])[k]! = l[k]! := fun k hk => by rw [getElem!_pos _ k (by simp; omega), getElem!_pos l k (by omega), List.getElem_append_left (by omega)]
  have hend : (l ++ [x])[l.length]! = x := by rw [getElem!_pos _ _ (by simp)]; simp
  have nv : ∀ p, p < l.length → Dis (vv p) u := fun p hp => dis_new (h3 p hp).1 hu hb
  have ne : ∀ p, p < l.length → Dis (ve p) y := fun p hp => by
    obtain ⟨c1, g1, _⟩ := (h3 p hp).2
    obtain ⟨c2, g2, _⟩ := hy
    exact dis_new g1 g2 hb
  have na : ∀ p i j, p < l.length → i < l[p]!.events.length → j < x.events.length → Dis (va p i) (ya j) := fun p i j hp hi hj => by
    obtain ⟨c1, _, _, g1⟩ := (h3 p hp).2
    obtain ⟨c2, _, _, g2⟩ := hy
    exact dis_new (g1 i hi) (g2 j hj) hb
  refine ⟨fun p q hp hq hne => ?_, fun p q hp hq hne => ?_, fun p q i j hp hq hi hj hne => ?_⟩
  · rw [List.length_append, List.length_singleton] at hp hq
    by_cases e1 : p = l.length
    · simp only [if_pos e1, if_neg (show ¬ q = l.length by omega)]; exact (nv q (by omega)).symm
    · by_cases e2 : q = l.length
      · simp only [if_neg e1, if_pos e2]; exact nv p (by omega)
      · simp only [if_neg e1, if_neg e2]; exact h.v p q (by omega) (by omega) hne
  · rw [List.length_append, List.length_singleton] at hp hq
    by_cases e1 : p = l.length
    · simp only [if_pos e1, if_neg (show ¬ q = l.length by omega)]; exact (ne q (by omega)).symm
    · by_cases e2 : q = l.length
      · simp only [if_neg e1, if_pos e2]; exact ne p (by omega)
      · simp only [if_neg e1, if_neg e2]; exact h.e p q (by omega) (by omega) hne
  · rw [List.length_append, List.length_singleton] at hp hq
    by_cases e1 : p = l.length
    · rw [e1, hend] at hi
      by_cases e2 : q = l.length
      · rw [e2, hend] at hj
        simp only [if_pos e1, if_pos e2]
        exact hd i j hi hj (by rcases hne with h | h; exact absurd (e1.trans e2.symm) h; exact h)
      · rw [hat q (by omega)] at hj
        simp only [if_pos e1, if_neg e2]; exact (na q j i (by omega) hj hi).symm
    · rw [hat p (by omega)] at hi
      by_cases e2 : q = l.length
      · rw [e2, hend] at hj
        simp only [if_neg e1, if_pos e2]; exact na p i j (by omega) hi hj
      · rw [hat q (by omega)] at hj
        simp only [if_neg e1, if_neg e2]; exact h.a p q i j (by omega) (by omega) hi hj hne

end Go.Proofs.Ytfcpnggdpaeldaa

/-
  A copy of a trace, with the first events of each process: the reference's Copy.
-/
namespace Go.Proofs.Ytfcpnggdpaeldaa
open Go.RowKit
set_option linter.unusedVariables false

/-- A block that is not the one that grew. -/
theorem heap_keptT {W W' : World} {row : Option Nat} {k : Nat} {o : Obj} (h : W.heap[k]? = some o) (hg : W.grownBy W' row) (hr : ∀ q, row = some q → q ≠ k) : W'.heap[k]? = some o :=
  (hg.block k (Array.getElem?_eq_some_iff.1 h).1 (fun e => hr k e.symm rfl)).trans h
theorem kept_box {W W' : World} {base g : Nat} {e e' : TypeId} {size : Nat} {v : Value} {n : Nat} {xs : List Value} {cs : Array Value} {fr : Nat × Nat} (hb : W.heap[g]? = some (.cells cs e' fr)) (h : Row W base e size v n xs) (hne : e' ≠ e) (hg : W.grownBy W' v.ownBlock) : W'.heap[g]? = some (.cells cs e' fr) :=
  heap_keptT hb hg (fun q hq e => by have := h.notBox hb hne; rw [hq, e] at this; exact this rfl)
theorem info_proc : (Try.prog.info? 47).map (fun i => (i.zero, i.size, i.bytes)) = some (some (.agg #[.string ⟨#[]⟩, .slice none 0 0, .slice none 0 0]), 3, 64) := by kernel_rfl
theorem info_event : (Try.prog.info? 55).map (fun i => (i.zero, i.size, i.bytes)) = some (some (.agg #[.int .i64 0, .int .i64 0, .int .i64 0, .int .i64 0, .slice none 0 0]), 5, 56) := by kernel_rfl
theorem info_var : (Try.prog.info? 52).map (fun i => (i.zero, i.size, i.bytes)) = some (some (.agg #[.string ⟨#[]⟩, .int .i64 0]), 2, 24) := by kernel_rfl
theorem info_asg : (Try.prog.info? 57).map (fun i => (i.zero, i.size, i.bytes)) = some (some (.agg #[.int .i64 0, .int .i64 0]), 2, 16) := by kernel_rfl

/-- The out box, and what it owns. -/
def CpO (W : World) (B : Nat) (l : List Pr) : Prop := ∃ vo vv ve va, W.heap[B + 2]? = some (.cells #[vo] 24) ∧ OwnP W (B + 3) vo l vv ve va ∧ DisP l vv ve va
def CpI (w : World) (tv : Value) (l : List Pr) (W : World) : Prop := W.heap[w.heap.size]? = some (.cells #[tv] 24) ∧ W.heap[w.heap.size + 1]? = some (.cells #[.slice none 0 0] 24) ∧ CpO W w.heap.size l ∧ Ext w W ∧ w.heap.size + 3 ≤ W.heap.size
/-- The box of a process whose variables are being copied. -/
def CpV (ws : World) (nm : ByteArray) (l : List Vr) (W : World) : Prop := ∃ vx, W.heap[ws.heap.size]? = some (.cells #[.string nm, vx, .slice none 0 0] 47) ∧ RowV W ws.heap.size vx l
/-- The box of a process whose events are being copied. -/
def CpE (ws : World) (nm : ByteArray) (l : List Vr) (es : List Ev) (W : World) : Prop := ∃ vx vy va, W.heap[ws.heap.size]? = some (.cells #[.string nm, vx, vy] 47) ∧ RowV W ws.heap.size vx l ∧ OwnE W ws.heap.size vy es va ∧ ∀ i j, i < es.length → j < es.length → i ≠ j → Dis (va i) (va j)
/-- The boxes of an event, and of its copy. -/
def CpY (ws : World) (e : Ev) (ua : Value) (l : List Asg) (W : World) : Prop := W.heap[ws.heap.size]? = some (.cells (evC e ua).toArray 55) ∧ ∃ u, W.heap[ws.heap.size + 1]? = some (.cells (evC e u).toArray 55) ∧ RowA W ws.heap.size u l
/-- What Copy hands back. -/
def TrOut (w w' : World) (e : Ending) (l : List Pr) : Prop := ∃ v vv ve va, e = .returned (.agg #[v]) ∧ OwnP w' w.heap.size v l vv ve va ∧ DisP l vv ve va ∧ Ext w w'

set_option maxHeartbeats 16000000 in
set_option maxRecDepth 100000 in
theorem copyT_calls (v vc : Value) (t : Tr) (c : List Int) (w : World) (h : TrAt w v t) (hs : SmallTr t) (hc : Ints w vc c) (hr : RangeC t c) :
    Calls Try.prog 62 #[.agg #[v], vc] w fun e w' => TrOut w w' e (prefT t c) := by
  obtain ⟨ip, hip, ip0, ip1, ip2⟩ := info_parts info_proc
  obtain ⟨ie, hie, ie0, ie1, ie2⟩ := info_parts info_event
  obtain ⟨iv, hiv, iv0, iv1, iv2⟩ := info_parts info_var
  obtain ⟨ia, hia, ia0, ia1, ia2⟩ := info_parts info_asg
  have HT := Lib.hid h
  have HC := Lib.hid hc
  have HS := Lib.hid hs
  have HRG := Lib.hid hr
  obtain ⟨ta, tc, rfl, htc⟩ := h.sh
  obtain ⟨ca, cc, rfl, hlc, _⟩ := hc
  have hn1 := hs.1
  have hcl := hr.1
  have HPL := Lib.hid (prefT_len (t := t) (c := c))
  generalize hln : t.length = n at *
  generalize hlm : c.length = m at *
  subst hcl
  have HL := Lib.hid hln
  have HM := Lib.hid hlm
  clear h hs hln hlm hr
  go_enter Try.func62, Try.ntmps62
  go_wp2
  have HI0 : Hid (CpI w (.slice ta m tc) [] (((w.alloc (.cells #[.slice ta m tc] 24)).alloc (.cells #[.slice none 0 0] 24)).alloc (.cells #[.slice none 0 0] 24))) := Lib.hid ⟨allocs_at [.cells #[.slice ta m tc] 24, .cells #[.slice none 0 0] 24, .cells #[.slice none 0 0] 24] w 0 _ rfl, allocs_at [.cells #[.slice ta m tc] 24, .cells #[.slice none 0 0] 24, .cells #[.slice none 0 0] 24] w 1 _ rfl, ⟨_, fun _ => undef, fun _ => undef, fun _ _ => undef, allocs_at [.cells #[.slice ta m tc] 24, .cells #[.slice none 0 0] 24, .cells #[.slice none 0 0] 24] w 2 _ rfl, OwnP.nil _ _ _ _ _, DisP.nil _ _ _⟩, (by repeat (first | refine Ext.st ?_ (by first | exact Nat.le_refl _ | exact Nat.le_succ _ | assumption | omega) _ | refine Ext.al ?_ _ | refine Ext.dr ?_ | refine Ext.drN ?_ _ | exact Ext.rf _)), by simp⟩
  generalize ((w.alloc (.cells #[.slice ta m tc] 24)).alloc (.cells #[.slice none 0 0] 24)).alloc (.cells #[.slice none 0 0] 24) = w3 at *
  go_loopg [6] m (fun g s6 wr => ∃ p : Nat, p ≤ m ∧ m - p ≤ g ∧ s6 = .int .i64 p ∧ Aside (CpI w (.slice ta m tc) ((prefT t c).take p) wr))
  case atStart => exact ⟨0, Nat.zero_le _, by omega, rfl, (show CpI _ _ _ _ from by rw [List.take_zero]; exact HI0.out)⟩
  case round =>
    obtain ⟨p, hp, hg, rfl, HI⟩ := hrel
    obtain ⟨hb0, hb1, ⟨vo, vv, ve, va, hb2, hown, hdis⟩, hEW, hsz⟩ := HI.out
    have HB0 := Lib.hid hb0
    have HB1 := Lib.hid hb1
    have HB2 := Lib.hid hb2
    have HOW := Lib.hid hown
    have HDI := Lib.hid hdis
    have HEW := Lib.hid hEW
    have t0 := cellOf hb0 0
    simp only [List.getElem?_toArray, List.getElem?_cons_zero] at t0
    have HT00 := Lib.hid t0
    clear hb0 hb1 hb2 hown hdis hEW HI
    by_cases hlt : p < m
    · have hltz : (p : Int) < (m : Int) := by omega
      have hpz : (0 : Int) ≤ (p : Int) := by omega
      have HQ := Lib.hid (show p < t.length from by rw [HL.out]; exact hlt)
      obtain ⟨B, O, C, uv, ue, hve, hlC, hB, hn0, hv0, he0, hV, hE0⟩ := proc_at HT.out p HQ.out
      simp only [Value.slice.injEq] at hve
      obtain ⟨rfl, hzz, rfl⟩ := hve
      have HVV := Lib.hid hV
      have HEE := Lib.hid hE0
      obtain ⟨xa, xc, rfl, hxc⟩ := hV.sh
      obtain ⟨ea, ec, rfl, hec⟩ := hE0.sh
      have HV0 := Lib.hid hv0
      have HE0 := Lib.hid he0
      have n1 := HEW.out.cl hn0
      have hkr := HRG.out.at HQ.out
      obtain ⟨hnv, hne, hnas⟩ := HS.out.2 p HQ.out
      generalize hnm : t[p]!.name = nm at *
      generalize hnvv : t[p]!.vars.length = nv at *
      generalize hnee : t[p]!.events.length = ne at *
      have HNM := Lib.hid hnm
      have HNV := Lib.hid hnvv
      have HNE := Lib.hid hnee
      obtain ⟨k, hk⟩ : ∃ k : Nat, c[p]! = (k : Int) := ⟨c[p]!.toNat, by omega⟩
      have HK := Lib.hid hk
      rw [hk] at hkr
      have hkn : k ≤ ne := by omega
      obtain ⟨cb, co, rfl, hcb, hcp⟩ := ints_at HC.out p (by rw [HM.out]; exact hlt)
      have HCP := Lib.hid hcp
      rw [hk] at HCP
      clear hn0 hv0 he0 hV hE0 hzz hnm hnvv hnee hk hcp hkr
      go_wp2
      obtain ⟨ws, rfl⟩ : ∃ x, x = wr := ⟨_, rfl⟩
      have hX5 := heap_alloc_new ws (.cells #[.string nm, .slice none 0 0, .slice none 0 0] 47)
      have hE5 := (Ext.rf ws).al (.cells #[.string nm, .slice none 0 0, .slice none 0 0] 47)
      generalize ws.alloc (.cells #[.string nm, .slice none 0 0, .slice none 0 0] 47) = w5 at *
      have HV5 : Hid (CpV ws nm [] w5) := Lib.hid ⟨_, hX5, Row.mkNil _ _ _ _⟩
      have HE5 := Lib.hid hE5
      clear hX5 hE5
      go_loopg [8] nv (fun g s8 wx => ∃ i : Nat, i ≤ nv ∧ nv - i ≤ g ∧ s8 = .int .i64 i ∧ Aside (CpV ws nm (t[p]!.vars.take i) wx) ∧ Aside (Ext ws wx))
      case atStart => exact ⟨0, Nat.zero_le _, by omega, rfl, (show CpV _ _ _ _ from by rw [List.take_zero]; exact HV5.out), (show Ext _ _ from HE5.out)⟩
      case round =>
        obtain ⟨i, hi, hg2, rfl, HVI, HEX⟩ := hrel
        obtain ⟨vx, hx0, hrv⟩ := HVI.out
        have HX0 := Lib.hid hx0
        have HRV := Lib.hid hrv
        have HEW2 := Lib.hid (HEW.out.trans' HEX.out)
        have hw0 := HEX.out.hp HB0.out
        have y0 := cellOf hw0 0
        have x1 := cellOf hx0 1
        simp only [List.getElem?_toArray, List.getElem?_cons_zero, List.getElem?_cons_succ] at y0 x1
        have v1 := HEW2.out.cl HV0.out
        by_cases hlti : i < nv
        · have hltzi : (i : Int) < (nv : Int) := by omega
          have hiz : (0 : Int) ≤ (i : Int) := by omega
          obtain ⟨VB, VO, VC, hve, hlV, hVB, k0, k1⟩ := var_at HVV.out i (by rw [HNV.out]; exact hlti)
          simp only [Value.slice.injEq] at hve
          obtain ⟨rfl, hzz, rfl⟩ := hve
          have m0 := HEW2.out.cl k0
          have m1 := HEW2.out.cl k1
          have HTK := Lib.hid (take_snoc' t[p]!.vars i (by rw [HNV.out]; exact hlti))
          have htl : (t[p]!.vars.take i).length = i := by rw [List.length_take, HNV.out]; omega
          generalize hy : t[p]!.vars[i]! = y at *
          rw [RowV, htl] at hrv
          obtain ⟨xb, xcap, rfl, _⟩ := hrv.any
          have HRV := Lib.hid hrv
          have HX5 := Lib.hid (hx0)
          have fx := freeOf hx0 1
          have hxs := HEX.out.sz
          have hws : ws.heap.size < wr.heap.size := (Array.getElem?_eq_some_iff.1 hx0).1
          clear hrv hzz hw0 HVI hx0
          go_wp2
          refine wp_region_tail (fun w' => w'.cell? ⟨ws.heap.size, 1, none⟩ = some (.slice xb i xcap) ∧ w'.cell? ⟨w.heap.size, 0, none⟩ = some (.slice (some ⟨B, O, none⟩) m tc) ∧ w'.cell? ⟨B, O + p * 3 + 1, none⟩ = some (.slice (some ⟨VB, VO, none⟩) nv xc) ∧ w'.cell? ⟨VB, VO + i * 2, none⟩ = some (.string y.name) ∧ w'.cell? ⟨VB, VO + i * 2 + 1, none⟩ = some (.int .i64 y.init)) 14 (by kernel_rfl) ⟨x1, y0, v1, m0, m1⟩ (fun hHeld => ?_)
          have HET := Lib.hid (show Ext wr wr.drew from (Ext.rf wr).dr)
          generalize wr.drew = wT at *
          refine wpAnyT_take (i := 0) (d := some 38) (v := ?_) rfl rfl (by kernel_rfl) (by kernel_rfl) (by kernel_rfl) (by kernel_rfl) (fun _ _ _ h => h) (Or.inl ⟨by rfl, ?_⟩) (by assumption) ?_
          rotate_left
          · (intro w hSw; (try dsimp only at hSw); go_simp; try (with_reducible rfl))
          try simp only [Act.put]
          try simp only [List.setIfInBounds_toArray]
          try simp only [List.set_cons_zero, List.set_cons_succ]
          refine wpAnyT_take (i := 1) (d := some 39) (v := ?_) rfl rfl (by kernel_rfl) (by kernel_rfl) (by kernel_rfl) (by kernel_rfl) (fun _ _ _ h => h) (Or.inl ⟨by rfl, ?_⟩) (by assumption) ?_
          rotate_left
          · (intro w hSw; (try dsimp only at hSw); go_simp; try (with_reducible rfl))
          try simp only [Act.put]
          try simp only [List.setIfInBounds_toArray]
          try simp only [List.set_cons_zero, List.set_cons_succ]
          refine wpAnyT_take (i := 2) (d := some 40) (v := ?_) rfl rfl (by kernel_rfl) (by kernel_rfl) (by kernel_rfl) (by kernel_rfl) (fun _ _ _ h => h) (Or.inl ⟨by rfl, ?_⟩) (by assumption) ?_
          rotate_left
          · (intro w hSw; (try dsimp only at hSw); go_simp; try (with_reducible rfl))
          try simp only [Act.put]
          try simp only [List.setIfInBounds_toArray]
          try simp only [List.set_cons_zero, List.set_cons_succ]
          refine wpAnyT_take (i := 3) (d := some 41) (v := ?_) rfl rfl (by kernel_rfl) (by kernel_rfl) (by kernel_rfl) (by kernel_rfl) (fun _ _ _ h => h) (Or.inl ⟨by rfl, ?_⟩) (by assumption) ?_
          rotate_left
          · (intro w hSw; (try dsimp only at hSw); go_simp; try (with_reducible rfl))
          try simp only [Act.put]
          try simp only [List.setIfInBounds_toArray]
          try simp only [List.set_cons_zero, List.set_cons_succ]
          refine wpAnyT_take (i := 4) (d := some 42) (v := ?_) rfl rfl (by kernel_rfl) (by kernel_rfl) (by kernel_rfl) (by kernel_rfl) (fun _ _ _ h => h) (Or.inl ⟨by rfl, ?_⟩) (by assumption) ?_
          rotate_left
          · (intro w hSw; (try dsimp only at hSw); go_simp; try (with_reducible rfl))
          try simp only [Act.put]
          try simp only [List.setIfInBounds_toArray]
          try simp only [List.set_cons_zero, List.set_cons_succ]
          refine wpAnyT_take (i := 5) (d := some 43) (v := ?_) rfl rfl (by kernel_rfl) (by kernel_rfl) (by kernel_rfl) (by kernel_rfl) (fun _ _ _ h => h) (Or.inl ⟨by rfl, ?_⟩) (by assumption) ?_
          rotate_left
          · (intro w hSw; (try dsimp only at hSw); go_simp; try (with_reducible rfl))
          try simp only [Act.put]
          try simp only [List.setIfInBounds_toArray]
          try simp only [List.set_cons_zero, List.set_cons_succ]
          refine wpAnyT_take (i := 6) (d := some 44) (v := ?_) rfl rfl (by kernel_rfl) (by kernel_rfl) (by kernel_rfl) (by kernel_rfl) (fun _ _ _ h => h) (Or.inl ⟨by rfl, ?_⟩) (by assumption) ?_
          rotate_left
          · (intro w hSw; (try dsimp only at hSw); go_simp; try (with_reducible rfl))
          try simp only [Act.put]
          try simp only [List.setIfInBounds_toArray]
          try simp only [List.set_cons_zero, List.set_cons_succ]
          refine wpAnyT_take (i := 7) (d := some 45) (v := ?_) rfl rfl (by kernel_rfl) (by kernel_rfl) (by kernel_rfl) (by kernel_rfl) (fun _ _ _ h => h) (Or.inl ⟨by rfl, ?_⟩) (by assumption) ?_
          rotate_left
          · (intro w hSw; (try dsimp only at hSw); go_simp; try (with_reducible rfl))
          try simp only [Act.put]
          try simp only [List.setIfInBounds_toArray]
          try simp only [List.set_cons_zero, List.set_cons_succ]
          refine wpAnyT_take (i := 8) (d := some 46) (v := ?_) rfl rfl (by kernel_rfl) (by kernel_rfl) (by kernel_rfl) (by kernel_rfl) (fun _ _ _ h => h) (Or.inl ⟨by rfl, ?_⟩) (by assumption) ?_
          rotate_left
          · (intro w hSw; (try dsimp only at hSw); go_simp; try (with_reducible rfl))
          try simp only [Act.put]
          try simp only [List.setIfInBounds_toArray]
          try simp only [List.set_cons_zero, List.set_cons_succ]
          refine wpAnyT_take (i := 9) (d := some 47) (v := ?_) rfl rfl (by kernel_rfl) (by kernel_rfl) (by kernel_rfl) (by kernel_rfl) (fun _ _ _ h => h) (Or.inl ⟨by rfl, ?_⟩) (by assumption) ?_
          rotate_left
          · (intro w hSw; (try dsimp only at hSw); go_simp; try (with_reducible rfl))
          try simp only [Act.put]
          try simp only [List.setIfInBounds_toArray]
          try simp only [List.set_cons_zero, List.set_cons_succ]
          refine wpAnyT_take (i := 10) (d := some 48) (v := ?_) rfl rfl (by kernel_rfl) (by kernel_rfl) (by kernel_rfl) (by kernel_rfl) (fun _ _ _ h => h) (Or.inl ⟨by rfl, ?_⟩) (by assumption) ?_
          rotate_left
          · (intro w hSw; (try dsimp only at hSw); go_simp; try (with_reducible rfl))
          try simp only [Act.put]
          try simp only [List.setIfInBounds_toArray]
          try simp only [List.set_cons_zero, List.set_cons_succ]
          refine wpAnyT_step (i := 11) (by kernel_rfl) rfl (fun K hK => ?_)
          go_simp
          refine hK.out _ _ ?_ (fun hHeld => ?_)
          · (try dsimp only)
            go_keep
          clear hK K
          try simp only [Act.put]
          try simp only [List.setIfInBounds_toArray]
          try simp only [List.set_cons_zero, List.set_cons_succ]
          refine wpAnyT_step (i := 12) (by kernel_rfl) rfl (fun K hK => ?_)
          have hEA := Lib.hid (((HEX.out.trans' HET.out)).al (.cells #[.string y.name, .int .i64 y.init] 52))
          have hEB := Lib.hid ((HET.out).al (.cells #[.string y.name, .int .i64 y.init] 52))
          refine step_append_rowN rfl _ _ 44 rfl ws.heap.size 52 iv (.agg #[.string ⟨#[]⟩, .int .i64 0]) 2 24 Try.underlying44 hiv iv0 iv1 iv2 rfl (by decide) (.slice xb i xcap) i ((t[p]!.vars.take i).flatMap vrC) rfl (HRV.out.ext hEB.out) wT.heap.size 1 [.string y.name, .int .i64 y.init] rfl rfl ⟨_, heap_alloc_new _ _⟩ (by simp [Value.oneCell']) (by unfold maxLen; omega) (by omega) hEA.out.sz ?_
          intro v8 w8 hown8 hgrow8 hblk8
          obtain ⟨a8, c8, rfl, _⟩ := hown8.any
          have HOWN := Lib.hid hown8
          have hx8 := hEA.out.gr hgrow8 (fun q hq => (HRV.out.lt q hq).1)
          have hxb := heap_keptT (hEB.out.hp HX5.out) hgrow8 (fun q hq => by have := HRV.out.notBox HX5.out (by decide); exact fun e => this (by rw [hq, e]))
          have z1 := cellOf hxb 1
          have f8 := freeOf hxb 1
          simp only [List.getElem?_toArray, List.getElem?_cons_zero, List.getElem?_cons_succ] at z1
          have z0 := hx8.cl HT00.out
          have z2 := (HEW.out.trans' hx8).cl HV0.out
          have z3 := (HEW.out.trans' hx8).cl k0
          have z4 := (HEW.out.trans' hx8).cl k1
          have HX8 := Lib.hid hx8
          have HXB := Lib.hid hxb
          clear hown8 hgrow8 hblk8 hx8 hxb
          refine hK.out _ _ ?_ (fun hHeld => ?_)
          · (try dsimp only)
            exact ⟨z1, z0, z2, z3, z4⟩
          clear hK K
          try simp only [Act.put]
          try simp only [List.setIfInBounds_toArray]
          try simp only [List.set_cons_zero, List.set_cons_succ]
          refine wpAnyT_take (i := 13) (d := some 51) (v := ?_) rfl rfl (by kernel_rfl) (by kernel_rfl) (by kernel_rfl) (by kernel_rfl) (fun _ _ _ h => h) (Or.inl ⟨by rfl, ?_⟩) (by assumption) ?_
          rotate_left
          · (intro w hSw; (try dsimp only at hSw); go_simp; try (with_reducible rfl))
          try simp only [Act.put]
          try simp only [List.setIfInBounds_toArray]
          try simp only [List.set_cons_zero, List.set_cons_succ]
          refine wpAnyT_last (by kernel_rfl) rfl (by kernel_rfl) (fun K hK => ?_)
          go_simp
          refine hK.out _ _ ?_
          go_wp2_with fail
          go_roundg (nv - (i + 1))
          case measure => omega
          case rel =>
            refine ⟨i + 1, by omega, by omega, by go_num, (show CpV _ _ _ _ from ?_), (show Ext _ _ from HX8.out.st (by show ws.heap.size ≤ ws.heap.size; omega) _)⟩
            refine ⟨.slice a8 (i + 1) c8, ?_, ?_⟩
            · rw [heap_setCell_same HXB.out]; simp
            · rw [HTK.out, RowV, List.length_append, htl, List.length_singleton, List.flatMap_append]
              exact HOWN.out.stO HXB.out (by decide) _
        · have hltzi : ¬ (i : Int) < (nv : Int) := by omega
          obtain rfl : nv = i := by omega
          rw [List.take_of_length_le (by rw [HNV.out]; exact Nat.le_refl _)] at hrv
          have HE6 : Hid (CpE ws nm t[p]!.vars [] wr) := Lib.hid ⟨_, _, fun _ => undef, hx0, hrv, OwnE.nil _ _ _, fun i j hi => absurd hi (by simp)⟩
          clear hx0 hrv HX0 HRV HVI x1 hw0
          go_wp2
          clear y0 v1
          have HEX6 := Lib.hid HEX.out
          obtain ⟨wo, rfl⟩ : ∃ x, x = wr := ⟨_, rfl⟩
          go_loopg [9] k (fun g s9 wx => ∃ i : Nat, i ≤ k ∧ k - i ≤ g ∧ s9 = .int .i64 i ∧ Aside (CpE ws nm t[p]!.vars (t[p]!.events.take i) wx) ∧ Aside (Ext ws wx))
          case atStart => exact ⟨0, Nat.zero_le _, by omega, rfl, (show CpE _ _ _ _ _ from by rw [List.take_zero]; exact HE6.out), (show Ext _ _ from HEX6.out)⟩
          case round =>
            obtain ⟨i, hi, hg3, rfl, HEI, HEX⟩ := hrel
            obtain ⟨vx, vy, va', hx0, hrv, hoe, hdd⟩ := HEI.out
            have HX0 := Lib.hid hx0
            have HRV := Lib.hid hrv
            have HOE := Lib.hid hoe
            have HDD := Lib.hid hdd
            have HEW2 := Lib.hid (HEW.out.trans' HEX.out)
            have y0 := HEX.out.cl HT00.out
            have c1 := HEW2.out.cl HCP.out
            have e1 := HEW2.out.cl HE0.out
            clear hx0 hrv hoe hdd
            by_cases hlti : i < k
            · have hltzi : (i : Int) < (k : Int) := by omega
              have hiz : (0 : Int) ≤ (i : Int) := by omega
              have hine : (i : Int) < (ne : Int) := by omega
              obtain ⟨EB, EO, EC, ua, hee, hlE, hEB, k0, k1, k2, k3, k4, hA⟩ := event_at HEE.out i (by rw [HNE.out]; omega)
              simp only [Value.slice.injEq] at hee
              obtain ⟨rfl, hzz, rfl⟩ := hee
              have HAA := Lib.hid hA
              obtain ⟨aa, ac, rfl, hac⟩ := hA.sh
              have m0 := HEW2.out.cl k0
              have m1 := HEW2.out.cl k1
              have m2 := HEW2.out.cl k2
              have m3 := HEW2.out.cl k3
              have m4 := HEW2.out.cl k4
              have hna := hnas i (by omega)
              have HTK := Lib.hid (take_snoc' t[p]!.events i (by rw [HNE.out]; omega))
              have HTL : Hid ((t[p]!.events.take i).length = i) := Lib.hid (by rw [List.length_take, HNE.out]; omega)
              generalize hy : t[p]!.events[i]! = y at *
              generalize hnaa : y.asg.length = na at *
              have HNA := Lib.hid hnaa
              clear k0 k1 k2 k3 k4 hA hzz hy hnaa
              go_wp2
              obtain ⟨wv, rfl⟩ : ∃ x, x = wr := ⟨_, rfl⟩
              have HY6 : Hid (CpY wv y (.slice aa na ac) [] ((wv.alloc (.cells #[.int .i64 y.kind, .int .i64 y.peer, .int .i64 y.msg, .int .i64 y.time, .slice aa na ac] 55)).alloc (.cells #[.int .i64 y.kind, .int .i64 y.peer, .int .i64 y.msg, .int .i64 y.time, .slice none 0 0] 55))) := Lib.hid ⟨allocs_at [.cells #[.int .i64 y.kind, .int .i64 y.peer, .int .i64 y.msg, .int .i64 y.time, .slice aa na ac] 55, .cells #[.int .i64 y.kind, .int .i64 y.peer, .int .i64 y.msg, .int .i64 y.time, .slice none 0 0] 55] wv 0 _ rfl, _, allocs_at [.cells #[.int .i64 y.kind, .int .i64 y.peer, .int .i64 y.msg, .int .i64 y.time, .slice aa na ac] 55, .cells #[.int .i64 y.kind, .int .i64 y.peer, .int .i64 y.msg, .int .i64 y.time, .slice none 0 0] 55] wv 1 _ rfl, Row.mkNil _ _ _ _⟩
              have HE7 : Hid (Ext wv ((wv.alloc (.cells #[.int .i64 y.kind, .int .i64 y.peer, .int .i64 y.msg, .int .i64 y.time, .slice aa na ac] 55)).alloc (.cells #[.int .i64 y.kind, .int .i64 y.peer, .int .i64 y.msg, .int .i64 y.time, .slice none 0 0] 55))) := Lib.hid (by repeat (first | refine Ext.st ?_ (by first | exact Nat.le_refl _ | exact Nat.le_succ _ | assumption | omega) _ | refine Ext.al ?_ _ | refine Ext.dr ?_ | refine Ext.drN ?_ _ | exact Ext.rf _))
              generalize (wv.alloc (.cells #[.int .i64 y.kind, .int .i64 y.peer, .int .i64 y.msg, .int .i64 y.time, .slice aa na ac] 55)).alloc (.cells #[.int .i64 y.kind, .int .i64 y.peer, .int .i64 y.msg, .int .i64 y.time, .slice none 0 0] 55) = w7 at *
              clear m0 m1 m2 m3 m4 y0 c1 e1
              have HEXV := Lib.hid HEX.out
              have HEV2 := Lib.hid HEW2.out
              go_loopg [12] na (fun g s12 wx => ∃ j : Nat, j ≤ na ∧ na - j ≤ g ∧ s12 = .int .i64 j ∧ Aside (CpY wv y (.slice aa na ac) (y.asg.take j) wx) ∧ Aside (Ext wv wx))
              case atStart => exact ⟨0, Nat.zero_le _, by omega, rfl, (show CpY _ _ _ _ _ from by rw [List.take_zero]; exact HY6.out), (show Ext _ _ from HE7.out)⟩
              case round =>
                obtain ⟨j, hj, hg4, rfl, HYJ, HEJ⟩ := hrel
                obtain ⟨he8, uy, hy8, hra⟩ := HYJ.out
                have hEV := HEV2.out.trans' HEJ.out
                have HEV := Lib.hid hEV
                have HE8 := Lib.hid he8
                have b4 := cellOf he8 4
                have z4 := cellOf hy8 4
                simp only [evC, List.getElem?_toArray, List.getElem?_cons_zero, List.getElem?_cons_succ] at b4 z4
                by_cases hltj : j < na
                · have hltzj : (j : Int) < (na : Int) := by omega
                  have hjz : (0 : Int) ≤ (j : Int) := by omega
                  obtain ⟨AB, AO, AC, hae, hlA, hAB, a0, a1⟩ := asg_at HAA.out j (by rw [HNA.out]; exact hltj)
                  simp only [Value.slice.injEq] at hae
                  obtain ⟨rfl, hzz, rfl⟩ := hae
                  have q0 := hEV.cl a0
                  have q1 := hEV.cl a1
                  have HTJ := Lib.hid (take_snoc' y.asg j (by rw [HNA.out]; exact hltj))
                  have HTLJ : Hid ((y.asg.take j).length = j) := Lib.hid (by rw [List.length_take, HNA.out]; omega)
                  generalize hx : y.asg[j]! = x at *
                  rw [RowA, HTLJ.out] at hra
                  obtain ⟨xb, xcap, rfl, _⟩ := hra.any
                  have HRA := Lib.hid hra
                  have HYB := Lib.hid hy8
                  have fy := freeOf hy8 4
                  have hws1 : wv.heap.size + 1 < wr.heap.size := (Array.getElem?_eq_some_iff.1 hy8).1
                  have hws0 : wv.heap.size < wr.heap.size := by omega
                  clear hra hzz HYJ hy8 he8 hx hEV
                  go_wp2
                  refine wp_region_tail (fun w' => w'.cell? ⟨wv.heap.size + 1, 4, none⟩ = some (.slice xb j xcap) ∧ w'.cell? ⟨wv.heap.size, 4, none⟩ = some (.slice (some ⟨AB, AO, none⟩) na ac) ∧ w'.cell? ⟨AB, AO + j * 2, none⟩ = some (.int .i64 x.var) ∧ w'.cell? ⟨AB, AO + j * 2 + 1, none⟩ = some (.int .i64 x.value)) 10 (by kernel_rfl) ⟨z4, b4, q0, q1⟩ (fun hHeld => ?_)
                  have HET := Lib.hid (show Ext wr wr.drew from (Ext.rf wr).dr)
                  generalize wr.drew = wT at *
                  refine wpAnyT_take (i := 0) (d := some 85) (v := ?_) rfl rfl (by kernel_rfl) (by kernel_rfl) (by kernel_rfl) (by kernel_rfl) (fun _ _ _ h => h) (Or.inl ⟨by rfl, ?_⟩) (by assumption) ?_
                  rotate_left
                  · (intro w hSw; (try dsimp only at hSw); go_simp; try (with_reducible rfl))
                  try simp only [Act.put]
                  try simp only [List.setIfInBounds_toArray]
                  try simp only [List.set_cons_zero, List.set_cons_succ]
                  refine wpAnyT_take (i := 1) (d := some 86) (v := ?_) rfl rfl (by kernel_rfl) (by kernel_rfl) (by kernel_rfl) (by kernel_rfl) (fun _ _ _ h => h) (Or.inl ⟨by rfl, ?_⟩) (by assumption) ?_
                  rotate_left
                  · (intro w hSw; (try dsimp only at hSw); go_simp; try (with_reducible rfl))
                  try simp only [Act.put]
                  try simp only [List.setIfInBounds_toArray]
                  try simp only [List.set_cons_zero, List.set_cons_succ]
                  refine wpAnyT_take (i := 2) (d := some 87) (v := ?_) rfl rfl (by kernel_rfl) (by kernel_rfl) (by kernel_rfl) (by kernel_rfl) (fun _ _ _ h => h) (Or.inl ⟨by rfl, ?_⟩) (by assumption) ?_
                  rotate_left
                  · (intro w hSw; (try dsimp only at hSw); go_simp; try (with_reducible rfl))
                  try simp only [Act.put]
                  try simp only [List.setIfInBounds_toArray]
                  try simp only [List.set_cons_zero, List.set_cons_succ]
                  refine wpAnyT_take (i := 3) (d := some 88) (v := ?_) rfl rfl (by kernel_rfl) (by kernel_rfl) (by kernel_rfl) (by kernel_rfl) (fun _ _ _ h => h) (Or.inl ⟨by rfl, ?_⟩) (by assumption) ?_
                  rotate_left
                  · (intro w hSw; (try dsimp only at hSw); go_simp; try (with_reducible rfl))
                  try simp only [Act.put]
                  try simp only [List.setIfInBounds_toArray]
                  try simp only [List.set_cons_zero, List.set_cons_succ]
                  refine wpAnyT_take (i := 4) (d := some 89) (v := ?_) rfl rfl (by kernel_rfl) (by kernel_rfl) (by kernel_rfl) (by kernel_rfl) (fun _ _ _ h => h) (Or.inl ⟨by rfl, ?_⟩) (by assumption) ?_
                  rotate_left
                  · (intro w hSw; (try dsimp only at hSw); go_simp; try (with_reducible rfl))
                  try simp only [Act.put]
                  try simp only [List.setIfInBounds_toArray]
                  try simp only [List.set_cons_zero, List.set_cons_succ]
                  refine wpAnyT_take (i := 5) (d := some 90) (v := ?_) rfl rfl (by kernel_rfl) (by kernel_rfl) (by kernel_rfl) (by kernel_rfl) (fun _ _ _ h => h) (Or.inl ⟨by rfl, ?_⟩) (by assumption) ?_
                  rotate_left
                  · (intro w hSw; (try dsimp only at hSw); go_simp; try (with_reducible rfl))
                  try simp only [Act.put]
                  try simp only [List.setIfInBounds_toArray]
                  try simp only [List.set_cons_zero, List.set_cons_succ]
                  refine wpAnyT_take (i := 6) (d := some 91) (v := ?_) rfl rfl (by kernel_rfl) (by kernel_rfl) (by kernel_rfl) (by kernel_rfl) (fun _ _ _ h => h) (Or.inl ⟨by rfl, ?_⟩) (by assumption) ?_
                  rotate_left
                  · (intro w hSw; (try dsimp only at hSw); go_simp; try (with_reducible rfl))
                  try simp only [Act.put]
                  try simp only [List.setIfInBounds_toArray]
                  try simp only [List.set_cons_zero, List.set_cons_succ]
                  refine wpAnyT_step (i := 7) (by kernel_rfl) rfl (fun K hK => ?_)
                  go_simp
                  refine hK.out _ _ ?_ (fun hHeld => ?_)
                  · (try dsimp only)
                    go_keep
                  clear hK K
                  try simp only [Act.put]
                  try simp only [List.setIfInBounds_toArray]
                  try simp only [List.set_cons_zero, List.set_cons_succ]
                  refine wpAnyT_step (i := 8) (by kernel_rfl) rfl (fun K hK => ?_)
                  have hEA := Lib.hid (((HEJ.out.trans' HET.out)).al (.cells #[.int .i64 x.var, .int .i64 x.value] 57))
                  have hEB := Lib.hid ((HET.out).al (.cells #[.int .i64 x.var, .int .i64 x.value] 57))
                  refine step_append_rowN rfl _ _ 53 rfl wv.heap.size 57 ia (.agg #[.int .i64 0, .int .i64 0]) 2 16 Try.underlying53 hia ia0 ia1 ia2 rfl (by decide) (.slice xb j xcap) j ((y.asg.take j).flatMap asC) rfl (HRA.out.ext hEB.out) wT.heap.size 1 [.int .i64 x.var, .int .i64 x.value] rfl rfl ⟨_, heap_alloc_new _ _⟩ (by simp [Value.oneCell']) (by unfold maxLen; omega) (by omega) hEA.out.sz ?_
                  intro v8 w8 hown8 hgrow8 hblk8
                  obtain ⟨a8, c8, rfl, _⟩ := hown8.any
                  have HOWN := Lib.hid hown8
                  have hx8 := hEA.out.gr hgrow8 (fun q hq => (HRA.out.lt q hq).1)
                  have hyb := heap_keptT (hEB.out.hp HYB.out) hgrow8 (fun q hq => by have := HRA.out.notBox HYB.out (by decide); exact fun e => this (by rw [hq, e]))
                  have heb := heap_keptT (hEB.out.hp HE8.out) hgrow8 (fun q hq => by have := HRA.out.notBox HE8.out (by decide); exact fun e => this (by rw [hq, e]))
                  have p0 := cellOf hyb 4
                  have p1 := cellOf heb 4
                  have f8 := freeOf hyb 4
                  simp only [evC, List.getElem?_toArray, List.getElem?_cons_zero, List.getElem?_cons_succ] at p0 p1
                  have p2 := (HEV2.out.trans' hx8).cl a0
                  have p3 := (HEV2.out.trans' hx8).cl a1
                  have HX8 := Lib.hid hx8
                  have HYB8 := Lib.hid hyb
                  have HEB8 := Lib.hid heb
                  clear hown8 hgrow8 hblk8 hx8 hyb heb
                  refine hK.out _ _ ?_ (fun hHeld => ?_)
                  · (try dsimp only)
                    exact ⟨p0, p1, p2, p3⟩
                  clear hK K
                  try simp only [Act.put]
                  try simp only [List.setIfInBounds_toArray]
                  try simp only [List.set_cons_zero, List.set_cons_succ]
                  refine wpAnyT_take (i := 9) (d := some 94) (v := ?_) rfl rfl (by kernel_rfl) (by kernel_rfl) (by kernel_rfl) (by kernel_rfl) (fun _ _ _ h => h) (Or.inl ⟨by rfl, ?_⟩) (by assumption) ?_
                  rotate_left
                  · (intro w hSw; (try dsimp only at hSw); go_simp; try (with_reducible rfl))
                  try simp only [Act.put]
                  try simp only [List.setIfInBounds_toArray]
                  try simp only [List.set_cons_zero, List.set_cons_succ]
                  refine wpAnyT_last (by kernel_rfl) rfl (by kernel_rfl) (fun K hK => ?_)
                  go_simp
                  refine hK.out _ _ ?_
                  go_wp2_with fail
                  go_roundg (na - (j + 1))
                  case measure => omega
                  case rel =>
                    refine ⟨j + 1, by omega, by omega, by go_num, (show CpY _ _ _ _ _ from ?_), (show Ext _ _ from HX8.out.st (by show wv.heap.size ≤ wv.heap.size + 1; omega) _)⟩
                    refine ⟨?_, .slice a8 (j + 1) c8, ?_, ?_⟩
                    · rw [Below.heap_setCell w8 ⟨wv.heap.size + 1, 4, none⟩ _ wv.heap.size (by simp)]; exact HEB8.out
                    · rw [heap_setCell_same HYB8.out]; simp [evC]
                    · rw [HTJ.out, RowA, List.length_append, HTLJ.out, List.length_singleton, List.flatMap_append]
                      exact HOWN.out.stO HYB8.out (by decide) _
                · have hltzj : ¬ (j : Int) < (na : Int) := by omega
                  obtain rfl : na = j := by omega
                  rw [List.take_of_length_le (by rw [HNA.out]; exact Nat.le_refl _)] at hra
                  rw [RowA, HNA.out] at hra
                  obtain ⟨ub, ucap, rfl, _⟩ := hra.any
                  obtain ⟨xs, hxr, hxe, hxa⟩ := HOE.out.ext HEJ.out
                  rw [HTL.out] at hxr
                  obtain ⟨eb, ecap, rfl, _⟩ := hxr.any
                  have HXR := Lib.hid hxr
                  have HXE := Lib.hid hxe
                  have HXA := Lib.hid hxa
                  have HRA := Lib.hid hra
                  have hx9 := HEJ.out.hp HX0.out
                  have HX9 := Lib.hid hx9
                  have x2 := cellOf hx9 2
                  have fx := freeOf hx9 2
                  have y0 := cellOf hy8 0
                  have y1 := cellOf hy8 1
                  have y2 := cellOf hy8 2
                  have y3 := cellOf hy8 3
                  simp only [evC, List.getElem?_toArray, List.getElem?_cons_zero, List.getElem?_cons_succ] at x2 y0 y1 y2 y3
                  have hws1 : wv.heap.size + 1 < wr.heap.size := (Array.getElem?_eq_some_iff.1 hy8).1
                  have hws0 : ws.heap.size < wr.heap.size := (Array.getElem?_eq_some_iff.1 hx9).1
                  have hxw := HEXV.out.sz
                  clear hxr hxe hxa hra hx9 he8 hy8 HYJ hEV
                  go_wp2_with ((at_builtin; go_loud (refine wpList_append_one rfl _ _ 45 rfl ws.heap.size 55 ie (.agg #[.int .i64 0, .int .i64 0, .int .i64 0, .int .i64 0, .slice none 0 0]) 5 56 Try.underlying45 hie ie0 ie1 ie2 rfl (by decide) _ i xs rfl (HXR.out.al _) wr.heap.size 1 [.int .i64 y.kind, .int .i64 y.peer, .int .i64 y.msg, .int .i64 y.time, .slice ub na ucap] rfl rfl ⟨_, heap_alloc_new _ _⟩ (by simp [Value.oneCell']) (by unfold maxLen; omega) (by omega) (by simp; omega) ?_; intro v8 w8 hown8 hgrow8 hblk8; obtain ⟨a8, c8, rfl, _⟩ := hown8.any; have HOWN := Lib.hid hown8; have HG8 := Lib.hid hgrow8; have HXB := Lib.hid (kept_box (((Ext.rf wr).al (.cells #[.int .i64 y.kind, .int .i64 y.peer, .int .i64 y.msg, .int .i64 y.time, .slice ub na ucap] 55)).hp HX9.out) (HXR.out.al _) (by decide) HG8.out); have z2 := cellOf HXB.out 2; have f2 := freeOf HXB.out 2; simp only [List.getElem?_toArray, List.getElem?_cons_zero, List.getElem?_cons_succ] at z2; clear hown8 hgrow8 hblk8)))
                  go_roundg (k - (i + 1))
                  case measure => exact Nat.lt_of_lt_of_le (Nat.sub_lt_sub_left hlti (Nat.lt_succ_self i)) hg3
                  case rel =>
                    refine ⟨i + 1, by omega, by omega, by go_num, (show CpE _ _ _ _ _ from ?_), (show Ext _ _ from (((HEX.out.trans' HEJ.out).al _).gr HG8.out (fun q hq => (HXR.out.lt q hq).1)).st (by show ws.heap.size ≤ ws.heap.size; omega) _)⟩
                    have hel : (t[p]!.events.take (i + 1)) = t[p]!.events.take i ++ [y] := HTK.out
                    rw [hel]
                    have hrv9 := (HRV.out.ext (HEJ.out.al (.cells #[.int .i64 y.kind, .int .i64 y.peer, .int .i64 y.msg, .int .i64 y.time, .slice ub na ucap] 55)))
                    refine ⟨vx, .slice a8 (i + 1) c8, fun q => if q = (t[p]!.events.take i).length then .slice ub na ucap else va' q, ?_, ?_, ?_, ?_⟩
                    · rw [heap_setCell_same HXB.out]; simp
                    · exact (hrv9.grown HG8.out (hrv9.apart (HXR.out.al _) (by decide))).stO HXB.out (by decide) _
                    · refine OwnE.stO ?_ HXB.out (by decide) (by decide) _
                      exact OwnE.snoc (by rw [HTL.out]; exact HXR.out.al _) HXE.out (fun q hq => (HXA.out q hq).al _) (by rw [RowA, HNA.out]; exact (HRA.out.mono HEXV.out.sz).al _) HG8.out (by rw [HTL.out]; exact HOWN.out)
                    · intro a b ha hb hab
                      rw [List.length_append, List.length_singleton] at ha hb
                      dsimp only
                      have hold : ∀ q, q < (t[p]!.events.take i).length → Dis (va' q) (.slice ub na ucap) := fun q hq => by
                        obtain ⟨_, _, _, g⟩ := HOE.out
                        exact dis_new (g q hq) HRA.out (Nat.le_refl _)
                      by_cases e1 : a = (t[p]!.events.take i).length
                      · rw [if_pos e1, if_neg (by omega)]; exact (hold b (by omega)).symm
                      · by_cases e2 : b = (t[p]!.events.take i).length
                        · rw [if_neg e1, if_pos e2]; exact hold a (by omega)
                        · rw [if_neg e1, if_neg e2]; exact HDD.out a b (by omega) (by omega) hab
            · have hltzi : ¬ (i : Int) < (k : Int) := by omega
              obtain rfl : k = i := by omega
              obtain ⟨vx, vy, va', hx0, hrv, hoe, hdd⟩ := HEI.out
              obtain ⟨xb, xcap, rfl, _⟩ := hrv.any
              have hoe2 := hoe
              obtain ⟨_, hxr, _⟩ := hoe2
              obtain ⟨eb, ecap, rfl, _⟩ := hxr.any
              have HX0 := Lib.hid hx0
              have HRV := Lib.hid hrv
              have HOE := Lib.hid hoe
              have HDD := Lib.hid hdd
              obtain ⟨ps, hpr, hpc, hpx⟩ := HOW.out
              have HPTL : Hid (((prefT t c).take p).length = p) := Lib.hid (by rw [List.length_take, HPL.out]; omega)
              rw [HPTL.out] at hpr
              obtain ⟨pb, pcap, rfl, _⟩ := hpr.any
              have HPR := Lib.hid hpr
              have HPC := Lib.hid hpc
              have HPX := Lib.hid hpx
              have ho := HEX.out.hp HB2.out
              have HO9 := Lib.hid ho
              have o0 := cellOf ho 0
              have fo := freeOf ho 0
              have x0 := cellOf hx0 0
              have x1 := cellOf hx0 1
              have x2 := cellOf hx0 2
              simp only [List.getElem?_toArray, List.getElem?_cons_zero, List.getElem?_cons_succ] at o0 x0 x1 x2
              have hws0 : ws.heap.size < wr.heap.size := (Array.getElem?_eq_some_iff.1 hx0).1
              have hww : w.heap.size + 2 < ws.heap.size := (Array.getElem?_eq_some_iff.1 HB2.out).1
              have HVL := Lib.hid HNV.out
              have HEL : Hid ((t[p]!.events.take k).length = k) := Lib.hid (by rw [List.length_take, HNE.out]; omega)
              rw [HNV.out] at x1
              rw [HEL.out] at x2
              clear hxr hoe hrv hdd hx0 hpr hpc hpx ho HEI
              go_wp2_with ((at_builtin; go_loud (refine wpList_append_one rfl _ _ 22 rfl (w.heap.size + 3) 47 ip (.agg #[.string ⟨#[]⟩, .slice none 0 0, .slice none 0 0]) 3 64 Try.underlying22 hip ip0 ip1 ip2 rfl (by decide) _ p ps rfl ((HPR.out.ext HEX.out).al _) wr.heap.size 1 [.string nm, .slice xb nv xcap, .slice eb k ecap] rfl rfl ⟨_, heap_alloc_new _ _⟩ (by simp [Value.oneCell']) (by unfold maxLen; omega) (by omega) (by simp; omega) ?_; intro v8 w8 hown8 hgrow8 hblk8; obtain ⟨a8, c8, rfl, _⟩ := hown8.any; have HOWN := Lib.hid hown8; have HG8 := Lib.hid hgrow8; have HOB := Lib.hid (kept_box (((Ext.rf wr).al (.cells #[.string nm, .slice xb nv xcap, .slice eb k ecap] 47)).hp HO9.out) ((HPR.out.ext HEX.out).al _) (by decide) HG8.out); have z2 := cellOf HOB.out 0; have f2 := freeOf HOB.out 0; simp only [List.getElem?_toArray, List.getElem?_cons_zero] at z2; clear hown8 hgrow8 hblk8)))
              go_roundg (m - (p + 1))
              case measure => exact Nat.lt_of_lt_of_le (Nat.sub_lt_sub_left hlt (Nat.lt_succ_self p)) hg
              case rel =>
                refine ⟨p + 1, by omega, by omega, by go_num, (show CpI _ _ _ _ from ?_)⟩
                have hwA := (Ext.rf wr).al (.cells #[.string nm, .slice xb nv xcap, .slice eb k ecap] 47)
                have hwB : ∀ q, (Value.slice pb p pcap).ownBlock = some q → w.heap.size ≤ q := fun q hq => by have := (HPR.out.lt q hq).1; omega
                have hE8 : Ext w (w8.setCell ⟨w.heap.size + 1 + 1, 0, none⟩ (.slice a8 (p + 1) c8)) := ((HEW.out.trans' (HEX.out.trans' hwA)).gr HG8.out hwB).st (by show w.heap.size ≤ w.heap.size + 1 + 1; omega) _
                have keep : ∀ (q : Nat) (a : Value), q ≠ w.heap.size + 1 + 1 → ws.heap[q]? = some (.cells #[a] 24) → (w8.setCell ⟨w.heap.size + 1 + 1, 0, none⟩ (.slice a8 (p + 1) c8)).heap[q]? = some (.cells #[a] 24) := fun q a hq hh => by
                  rw [Below.heap_setCell w8 ⟨w.heap.size + 1 + 1, 0, none⟩ _ q hq]
                  exact kept_box (hwA.hp (HEX.out.hp hh)) ((HPR.out.ext HEX.out).ext hwA) (by decide) HG8.out
                have hsn : (prefT t c)[p]! = prefP k t[p]! := by rw [prefT_at (show p < t.length from HQ.out), HK.out, Int.toNat_natCast]
                have htk : (prefT t c).take (p + 1) = (prefT t c).take p ++ [prefP k t[p]!] := by rw [take_snoc' _ _ (by rw [HPL.out]; exact hlt), hsn]
                have hnmP : (prefP k t[p]!).name = nm := HNM.out
                have hrest : ∀ q, q < ((prefT t c).take p).length → RowV (wr.alloc (.cells #[.string nm, .slice xb nv xcap, .slice eb k ecap] 47)) (w.heap.size + 3) (vv q) ((prefT t c).take p)[q]!.vars ∧ OwnE (wr.alloc (.cells #[.string nm, .slice xb nv xcap, .slice eb k ecap] 47)) (w.heap.size + 3) (ve q) ((prefT t c).take p)[q]!.events (va q) := fun q hq => ⟨((HPX.out q hq).1.ext HEX.out).ext hwA, ((HPX.out q hq).2.ext HEX.out).ext hwA⟩
                have hnV : RowV (wr.alloc (.cells #[.string nm, .slice xb nv xcap, .slice eb k ecap] 47)) (w.heap.size + 3) (.slice xb nv xcap) (prefP k t[p]!).vars := by
                  have := HRV.out
                  rw [HNV.out] at this
                  exact (this.mono (by omega)).ext hwA
                have hnE : OwnE (wr.alloc (.cells #[.string nm, .slice xb nv xcap, .slice eb k ecap] 47)) (w.heap.size + 3) (.slice eb k ecap) (prefP k t[p]!).events va' := by
                  have := HOE.out
                  rw [HEL.out] at this
                  exact (this.mono (by omega)).ext hwA
                have hown := OwnP.snoc (w' := w8) (v' := .slice a8 (p + 1) c8) (x := prefP k t[p]!) (by rw [HPTL.out]; exact (HPR.out.ext HEX.out).ext hwA) HPC.out hrest hnV hnE HG8.out (by rw [HPTL.out]; simp only [prC3, hnmP]; exact HOWN.out)
                rw [htk]
                have hb8 : (w8.setCell ⟨w.heap.size + 1 + 1, 0, none⟩ (.slice a8 (p + 1) c8)).heap[w.heap.size + 2]? = some (.cells #[.slice a8 (p + 1) c8] 24) := by
                  rw [show w.heap.size + 2 = w.heap.size + 1 + 1 from rfl, heap_setCell_same HOB.out]; simp
                have hd8 := DisP.snoc (x := prefP k t[p]!) HDI.out HPX.out (by have := HRV.out; rw [HNV.out] at this; exact this) (by have := HOE.out; rw [HEL.out] at this; exact this) (Nat.le_refl ws.heap.size) HDD.out
                refine ⟨keep _ _ (by omega) HB0.out, keep _ _ (by omega) HB1.out, ⟨_, _, _, _, hb8, OwnP.stO hown HOB.out (by decide) (by decide) (by decide) (by decide) _, hd8⟩, hE8, ?_⟩
                · rw [size_setCell]; have := HG8.out.size; simp at this; omega
    · have hltz : ¬ (p : Int) < (m : Int) := by omega
      obtain rfl : m = p := by omega
      have o0 := cellOf HB2.out 0
      have r0 := cellOf HB1.out 0
      have fr := freeOf HB1.out 0
      simp only [List.getElem?_toArray, List.getElem?_cons_zero] at o0 r0
      have HOW2 := HOW.out
      have HDI2 := HDI.out
      rw [List.take_of_length_le (by rw [HPL.out]; exact Nat.le_refl _)] at HOW2 HDI2
      obtain ⟨ps, hpr, _⟩ := HOW.out
      obtain ⟨pb, pcap, rfl, _⟩ := hpr.any
      have HOW3 := Lib.hid HOW2
      have HDI3 := Lib.hid HDI2
      have hw2 : w.heap.size + 2 < wr.heap.size := (Array.getElem?_eq_some_iff.1 HB2.out).1
      have HPL2 : Hid ((List.take m (prefT t c)).length = m) := Lib.hid (by rw [List.length_take, HPL.out, Nat.min_self])
      rw [HPL2.out] at o0 HOW3
      clear hpr HOW2 HDI2
      go_wp2
      have r1 := cellOf (heap_setCell_same (o := 0) (u := .slice pb m pcap) HB1.out) 0
      simp only [Array.setIfInBounds, List.size_toArray, List.length_cons, List.length_nil, Nat.zero_lt_succ] at r1
      refine bodyPost_ret (v := .agg #[.slice pb m pcap]) (by simp [results, Try.results62, go_sem, r1]) rfl ?_
      exact ⟨_, _, _, _, rfl, OwnP.stO (HOW3.out.mono (by omega)) HB1.out (by decide) (by decide) (by decide) (by decide) _, HDI3.out, HEW.out.st (by show w.heap.size ≤ w.heap.size + 1; omega) _⟩

end Go.Proofs.Ytfcpnggdpaeldaa

/-
  The prefix of a trace at a consistent cut: the reference's Prefix.
-/
namespace Go.Proofs.Ytfcpnggdpaeldaa
open Go.RowKit
set_option linter.unusedVariables false

set_option maxHeartbeats 4000000 in
set_option maxRecDepth 100000 in
theorem prefixR_calls (v vc : Value) (t : Tr) (c : List Int) (w : World) (h : TrAt w v t) (hv : validT t = true) (hc : Ints w vc c) (hk : ConsC t c) :
    Calls Try.prog 37 #[.agg #[v], vc] w fun e w' => ∃ u, e = .returned (.tuple #[.agg #[u], .int .i64 0]) ∧ TrAt w' u (prefT t c) ∧ Ext w w' := by
  have hs := valid_small hv
  have HVC := Lib.hid (fun W (hW : Ext w W) => validR_calls v t W (h.ext hW) hs.loose)
  have HRC := Lib.hid (fun W (hW : Ext w W) => cutR_calls v vc t c W (h.ext hW) hs (hc.ext hW))
  have HCC := Lib.hid (fun W (hW : Ext w W) => consR_calls v vc t c W (h.ext hW) hv (hc.ext hW) hk.1)
  have HCP := Lib.hid (fun W (hW : Ext w W) => copyT_calls v vc t c W (h.ext hW) hs (hc.ext hW) hk.1)
  have e1 : validT t = true := hv
  have e2 : (fitsB t c && rangeB t c) = true := by rw [show fitsB t c = true from decide_eq_true hk.1.1, hk.1.2]; rfl
  have e3 : (missE t c).isNone = true := by rw [hk.2]; rfl
  rw [e1] at HVC
  rw [e2] at HRC
  rw [e3] at HCC
  have hcl := hk.1.1
  obtain ⟨ta, tc, rfl, htc⟩ := h.sh
  obtain ⟨ca, cc, rfl, hlc, _⟩ := hc
  generalize t.length = n at *
  generalize c.length = m at *
  subst hcl
  have d0 : ((m : Int) != (m : Int)) = false := by simp
  have HB := Lib.hid (fun k o => allocs_at [.cells #[.slice ta m tc] 24, .cells #[.slice none 0 0] 24] w k o)
  have HE1 : Hid (Ext w ((w.alloc (.cells #[.slice ta m tc] 24)).alloc (.cells #[.slice none 0 0] 24))) := Lib.hid (by repeat (first | refine Ext.st ?_ (by first | exact Nat.le_refl _ | exact Nat.le_succ _ | assumption | omega) _ | refine Ext.al ?_ _ | refine Ext.dr ?_ | refine Ext.drN ?_ _ | exact Ext.rf _))
  have HY1 : Hid (((w.alloc (.cells #[.slice ta m tc] 24)).alloc (.cells #[.slice none 0 0] 24)).heap[w.heap.size]? = some (.cells #[.slice ta m tc] 24)) := Lib.hid (HB.out 0 _ rfl)
  have HR1 : Hid (((w.alloc (.cells #[.slice ta m tc] 24)).alloc (.cells #[.slice none 0 0] 24)).heap[w.heap.size + 1]? = some (.cells #[.slice none 0 0] 24)) := Lib.hid (HB.out 1 _ rfl)
  have t1 : True := trivial
  clear h hs hv hk e1 e2 e3 hlc htc HB
  go_enter Try.func37, Try.ntmps37
  go_wp2_with fail
  refine (HVC.out _ HE1.out).mono ?_
  rintro e w2 ⟨rfl, hX⟩
  have HE2 := Lib.hid (HE1.out.trans' hX)
  have HY2 := Lib.hid (hX.hp HY1.out)
  have HR2 := Lib.hid (hX.hp HR1.out)
  have t2 := cellOf HY2.out 0
  simp only [List.getElem?_toArray, List.getElem?_cons_zero] at t2
  clear hX t1
  go_wp2_with fail
  refine (HRC.out _ HE2.out).mono ?_
  rintro e w3 ⟨rfl, hX⟩
  have HE3 := Lib.hid (HE2.out.trans' hX)
  have HY3 := Lib.hid (hX.hp HY2.out)
  have HR3 := Lib.hid (hX.hp HR2.out)
  have t3 := cellOf HY3.out 0
  simp only [List.getElem?_toArray, List.getElem?_cons_zero] at t3
  clear hX t2
  go_wp2_with fail
  refine (HCC.out _ HE3.out).mono ?_
  rintro e w4 ⟨rfl, hX⟩
  have HE4 := Lib.hid (HE3.out.trans' hX)
  have HY4 := Lib.hid (hX.hp HY3.out)
  have HR4 := Lib.hid (hX.hp HR3.out)
  have t4 := cellOf HY4.out 0
  simp only [List.getElem?_toArray, List.getElem?_cons_zero] at t4
  clear hX t3
  have f4 := freeOf HR4.out 0
  have r4 := cellOf HR4.out 0
  simp only [List.getElem?_toArray, List.getElem?_cons_zero] at r4
  go_wp2_with fail
  refine (HCP.out _ HE4.out).mono ?_
  rintro e w5 ⟨u, vv, ve, va, rfl, hown, _, hX⟩
  have hr5 := hX.hp HR4.out
  have f5 := freeOf hr5 0
  have r5 := cellOf hr5 0
  simp only [List.getElem?_toArray, List.getElem?_cons_zero] at r5
  have HR5 := Lib.hid hr5
  have HE5 := Lib.hid (HE4.out.trans' hX)
  obtain ⟨ua, uc, rfl, _⟩ := hown.tr.sh
  have HOW := Lib.hid hown
  generalize (prefT t c).length = L at *
  clear hown hX hr5 t4 f4 r4
  go_wp2
  have r6 := cellOf (heap_setCell_same (o := 0) (u := .slice ua L uc) HR5.out) 0
  simp only [Array.setIfInBounds, List.size_toArray, List.length_cons, List.length_nil, Nat.zero_lt_succ] at r6
  refine bodyPost_ret (v := .tuple #[.agg #[.slice ua L uc], .int .i64 0]) (by simp [results, Try.results37, go_sem, r6]) rfl ?_
  exact ⟨_, rfl, (HOW.out.stO HR5.out (by decide) (by decide) (by decide) (by decide) _).tr, HE5.out.st (by show w.heap.size ≤ w.heap.size + 1; omega) _⟩

end Go.Proofs.Ytfcpnggdpaeldaa
