import Derived.Test.YtfcpnggdpaeldaaProg
import Derived.WalkKit
import Derived.WalkSpells
import Derived.WalkLawsBesides
import Derived.Lib.Hide
import Derived.Deep.LoopGhost
import Derived.ArgAppend
import Derived.Deep.QuietTactic
import Derived.BigQuiet
import Derived.Shelf.Abstract
import Derived.Maps.Own
import Derived.Maps.OwnOps
import Derived.Maps.Keyed
import Derived.Maps.Views
import Derived.WalkArith
import Derived.Deep.RegionLaw
import Derived.Deep.RegionHeld3
/-
  Plain words on worlds: what a slice value holds, that it still holds it in a later world, and what the call's own rows hold. No program is named here.
-/
namespace Go.Proofs.Ytfcpnggdpaeldaa
open Go.RowKit
set_option linter.unusedVariables false

/-! ### Worlds that grow -/
/-- All that lay in w lies in w' as it lay. -/
abbrev Ext (w w' : World) : Prop := Below w.heap.size w w'

theorem Ext.rf (w : World) : Ext w w := Below.refl _ _
theorem Ext.trans' {a b c : World} (h : Ext a b) (k : Ext b c) : Ext a c := Below.trans h (k.mono h.size)
theorem Ext.al {w W : World} (h : Ext w W) (o : Obj) : Ext w (W.alloc o) := Below.alloc h h.size o
theorem Ext.dr {w W : World} (h : Ext w W) : Ext w W.drew := Below.drew h
theorem Ext.drN {w W : World} (h : Ext w W) (n : Nat) : Ext w (W.drewN n) := ⟨h.os, h.tape, h.output, h.size, h.block⟩
theorem Ext.st {w W : World} (h : Ext w W) {p : Addr} (hp : w.heap.size ≤ p.block) (u : Value) : Ext w (W.setCell p u) := Below.setCell h hp u
theorem Ext.gr {w W W' : World} {row : Option Nat} (h : Ext w W) (hg : W.grownBy W' row) (hr : ∀ k, row = some k → w.heap.size ≤ k) : Ext w W' := Below.grown h hg h.size hr
theorem Ext.cl {w W : World} (h : Ext w W) {b o : Nat} {v : Value} (hc : w.cell? ⟨b, o, none⟩ = some v) : W.cell? ⟨b, o, none⟩ = some v :=
  (Below.cell h (World.block_lt_of_cell? w _ hc)).trans hc
theorem Ext.hp {w W : World} (h : Ext w W) {b : Nat} {o : Obj} (hc : w.heap[b]? = some o) : W.heap[b]? = some o :=
  (h.block b (Array.getElem?_eq_some_iff.1 hc).1).trans hc
theorem Ext.sz {w W : World} (h : Ext w W) : w.heap.size ≤ W.heap.size := h.size

theorem cell_new (w : World) (c : Array Value) (t : TypeId) (i : Nat) (v : Value) (h : c[i]? = some v) : (w.alloc (.cells c t)).cell? ⟨w.heap.size, i, none⟩ = some v :=
  (World.cell?_alloc_at c t w.heap.size i rfl).trans h
theorem cell_new_eq {w : World} {c : Array Value} {t : TypeId} {b i : Nat} {v : Value} (hb : b = w.heap.size) (h : c[i]? = some v) : (w.alloc (.cells c t)).cell? ⟨b, i, none⟩ = some v :=
  (World.cell?_alloc_at c t b i hb).trans h

/-! ### Slices that are read -/
/-- The slice value v reads as the numbers l. -/
def Ints (w : World) (v : Value) (l : List Int) : Prop :=
  ∃ a c, v = .slice a l.length c ∧ l.length ≤ c ∧ (l ≠ [] → ∃ b off, a = some ⟨b, off, none⟩ ∧ b < w.heap.size ∧ ∀ i, i < l.length → w.cell? ⟨b, off + i, none⟩ = some (.int .i64 l[i]!))

theorem Ints.ext {w w' : World} {v : Value} {l : List Int} (h : Ints w v l) (e : Ext w w') : Ints w' v l := by
  obtain ⟨a, c, rfl, hlc, h⟩ := h
  refine ⟨a, c, rfl, hlc, fun hl => ?_⟩
  obtain ⟨b, off, rfl, hb, hc⟩ := h hl
  exact ⟨b, off, rfl, Nat.lt_of_lt_of_le hb e.size, fun i hi => (e.cell hb).trans (hc i hi)⟩

/-- A slice of elements of k cells each, which read by R. -/
def Sl {α : Type} [Inhabited α] (R : World → List Value → α → Prop) (k : Nat) (w : World) (v : Value) (l : List α) : Prop :=
  ∃ a c, v = .slice a l.length c ∧ l.length ≤ c ∧ (l ≠ [] → ∃ b off, a = some ⟨b, off, none⟩ ∧ b < w.heap.size ∧ ∀ i, i < l.length → ∃ vs, vs.length = k ∧ R w vs l[i]! ∧ ∀ j, j < k → w.cell? ⟨b, off + i * k + j, none⟩ = some vs[j]!)

/-- A reading that outlives growth. -/
def Lasts {α : Type} (R : World → List Value → α → Prop) : Prop := ∀ w W vs x, R w vs x → Ext w W → R W vs x

theorem Sl.ext {α : Type} [Inhabited α] {R : World → List Value → α → Prop} (hR : Lasts R) {k : Nat} {w w' : World} {v : Value} {l : List α} (h : Sl R k w v l) (e : Ext w w') : Sl R k w' v l := by
  obtain ⟨a, c, rfl, hlc, h⟩ := h
  refine ⟨a, c, rfl, hlc, fun hl => ?_⟩
  obtain ⟨b, off, rfl, hb, hc⟩ := h hl
  refine ⟨b, off, rfl, Nat.lt_of_lt_of_le hb e.size, fun i hi => ?_⟩
  obtain ⟨vs, h1, h2, h3⟩ := hc i hi
  exact ⟨vs, h1, hR _ _ _ _ h2 e, fun j hj => (e.cell hb).trans (h3 j hj)⟩

/-- The first k elements, as 's[:k]' has them. -/
theorem Ints.take {w : World} {a : Option Addr} {n c : Nat} {l : List Int} (h : Ints w (.slice a n c) l) (k : Nat) (hk : k ≤ l.length) : Ints w (.slice a k c) (l.take k) := by
  obtain ⟨a', c', he, hlc, h⟩ := h
  simp only [Value.slice.injEq] at he
  obtain ⟨rfl, rfl, rfl⟩ := he
  have hkl : (l.take k).length = k := by rw [List.length_take]; omega
  refine ⟨a, c, by rw [hkl], by omega, fun hne => ?_⟩
  obtain ⟨b, off, rfl, hb, hc⟩ := h (by rintro rfl; simp at hne)
  refine ⟨b, off, rfl, hb, fun i hi => ?_⟩
  rw [hc i (by omega), getElem!_pos l i (by omega), getElem!_pos _ i hi, List.getElem_take]

theorem Sl.take {α : Type} [Inhabited α] {R : World → List Value → α → Prop} {q : Nat} {w : World} {a : Option Addr} {n c : Nat} {l : List α} (h : Sl R q w (.slice a n c) l) (k : Nat) (hk : k ≤ l.length) : Sl R q w (.slice a k c) (l.take k) := by
  obtain ⟨a', c', he, hlc, h⟩ := h
  simp only [Value.slice.injEq] at he
  obtain ⟨rfl, rfl, rfl⟩ := he
  have hkl : (l.take k).length = k := by rw [List.length_take]; omega
  refine ⟨a, c, by rw [hkl], by omega, fun hne => ?_⟩
  obtain ⟨b, off, rfl, hb, hc⟩ := h (by rintro rfl; simp at hne)
  refine ⟨b, off, rfl, hb, fun i hi => ?_⟩
  have e : (l.take k)[i]! = l[i]! := by rw [getElem!_pos l i (by omega), getElem!_pos _ i hi, List.getElem_take]
  rw [e]
  exact hc i (by omega)

/-- What is asked of a function value over numbers: it says p, and leaves all that lay. -/
def Says (P : Program) (g : Nat) (cb : Array Value) (p : Int → Bool) (l : List Int) (w : World) : Prop :=
  ∀ x, x ∈ l → ∀ W, Ext w W → Calls P g (#[.int .i64 x] ++ cb) W fun e w' => e = .returned (.bool (p x)) ∧ Ext W w'

/-- The same over elements of several cells, handed over as one value. -/
def SaysOf {α : Type} (P : Program) (R : World → List Value → α → Prop) (enc : List Value → Value) (g : Nat) (cb : Array Value) (p : α → Bool) (l : List α) (w : World) : Prop :=
  ∀ x, x ∈ l → ∀ W vs, Ext w W → R W vs x → Calls P g (#[enc vs] ++ cb) W fun e w' => e = .returned (.bool (p x)) ∧ Ext W w'

def encAgg (vs : List Value) : Value := .agg vs.toArray
def encOne (vs : List Value) : Value := vs.headD undef

/-! ### The first place at which a test holds -/
/-- The place of the first element of which p holds; -1. -/
def firstAt {α : Type} (p : α → Bool) (l : List α) : Int := match l.findIdx? p with | some i => (i : Int) | none => -1

theorem firstAt_any {α : Type} (p : α → Bool) (l : List α) : decide (0 ≤ firstAt p l) = l.any p := by
  unfold firstAt
  cases h : l.findIdx? p with
  | some i =>
    have : l.any p = true := by
      rw [List.any_eq_true]
      have := List.findIdx?_eq_some_iff_getElem.1 h
      obtain ⟨hi, hp, _⟩ := this
      exact ⟨l[i], List.getElem_mem hi, hp⟩
    simp [this]
  | none =>
    have : l.any p = false := by
      rw [List.any_eq_false]
      intro x hx
      have := List.findIdx?_eq_none_iff.1 h x hx
      simp [this]
    simp [this]

theorem firstAt_hit {α : Type} [Inhabited α] (p : α → Bool) (l : List α) (k : Nat) (hk : k < l.length) (h : p l[k]! = true) (hn : ∀ j, j < k → p l[j]! = false) : firstAt p l = k := by
  unfold firstAt
  have : l.findIdx? p = some k := by
    rw [List.findIdx?_eq_some_iff_getElem]
    refine ⟨hk, by simpa [hk] using h, fun j hj => ?_⟩
    have := hn j hj
    have hjl : j < l.length := by omega
    simpa [hjl] using this
  rw [this]

theorem firstAt_miss {α : Type} [Inhabited α] (p : α → Bool) (l : List α) (hn : ∀ j, j < l.length → p l[j]! = false) : firstAt p l = -1 := by
  unfold firstAt
  have : l.findIdx? p = none := by
    rw [List.findIdx?_eq_none_iff]
    intro x hx
    obtain ⟨i, hi, rfl⟩ := List.getElem_of_mem hx
    have := hn i hi
    simpa [hi] using this
  rw [this]

theorem mem_at {α : Type} [Inhabited α] (l : List α) (k : Nat) (h : k < l.length) : l[k]! ∈ l := by
  rw [getElem!_pos l k h]; exact List.getElem_mem _

theorem any_hit {α : Type} [Inhabited α] (p : α → Bool) (l : List α) (k : Nat) (hk : k < l.length) (h : p l[k]! = true) : l.any p = true :=
  List.any_eq_true.2 ⟨_, mem_at l k hk, h⟩
theorem any_miss {α : Type} [Inhabited α] (p : α → Bool) (l : List α) (hn : ∀ j, j < l.length → p l[j]! = false) : l.any p = false := by
  rw [List.any_eq_false]
  intro x hx
  obtain ⟨i, hi, rfl⟩ := List.getElem_of_mem hx
  have := hn i hi
  simp only [hi, getElem!_pos] at this
  simp [this]
theorem all_hit {α : Type} [Inhabited α] (p : α → Bool) (l : List α) (hn : ∀ j, j < l.length → p l[j]! = true) : l.all p = true := by
  rw [List.all_eq_true]
  intro x hx
  obtain ⟨i, hi, rfl⟩ := List.getElem_of_mem hx
  have := hn i hi
  simpa [hi] using this
theorem all_miss {α : Type} [Inhabited α] (p : α → Bool) (l : List α) (k : Nat) (hk : k < l.length) (h : p l[k]! = false) : l.all p = false := by
  rw [List.all_eq_false]
  exact ⟨_, mem_at l k hk, by rw [h]; simp⟩

theorem take_snoc' {α : Type} [Inhabited α] (l : List α) (k : Nat) (h : k < l.length) : l.take (k + 1) = l.take k ++ [l[k]!] := by
  rw [List.take_succ_eq_append_getElem h, getElem!_pos l k h]

/-! ### Returned values, spelt -/
theorem ret_int {k : IntKind} {a b : Int} (h : a = b) : Ending.returned (.int k a) = .returned (.int k b) := by rw [h]
theorem ret_bool {a b : Bool} (h : a = b) : Ending.returned (.bool a) = .returned (.bool b) := by rw [h]

end Go.Proofs.Ytfcpnggdpaeldaa

/-
  Rows that the call itself has made: a slice value that owns a part of a block of the call's own, wherever in the block it begins. No program is named here.
-/
namespace Go.Proofs.Ytfcpnggdpaeldaa
open Go.RowKit
set_option linter.unusedVariables false

theorem heap_setCell_same {w : World} {g o : Nat} {u : Value} {cur : Array Value} {e : TypeId} {fr : Nat × Nat} (hg : w.heap[g]? = some (.cells cur e fr)) : (w.setCell ⟨g, o, none⟩ u).heap[g]? = some (.cells (cur.setIfInBounds o u) e fr) := by
  simp [World.setCell, Array.getElem?_modify, hg]
theorem size_setCell (w : World) (p : Addr) (u : Value) : (w.setCell p u).heap.size = w.heap.size := by simp [World.setCell]

/-- The slice value v, of n elements (type e, 'size' cells each), owns the cells xs: nil, or a part of a block from 'base' on. -/
def Row (w : World) (base : Nat) (e : TypeId) (size : Nat) (v : Value) (n : Nat) (xs : List Value) : Prop :=
  xs.length = n * size ∧
  ((v = .slice none 0 0 ∧ n = 0) ∨
   ∃ g off cap cur, v = .slice (some ⟨g, off, none⟩) n cap ∧ base ≤ g ∧ w.heap[g]? = some (.cells cur e (0, 0)) ∧ n ≤ cap ∧ cap ≤ maxLen ∧ off + cap * size ≤ cur.size ∧ (cur.toList.drop off).take (n * size) = xs)

theorem Row.ofOwns {w : World} {base : Nat} {e : TypeId} {size : Nat} {v : Value} {n : Nat} {xs : List Value} (h : w.ownsRow base e size v n xs) : Row w base e size v n xs := by
  refine ⟨h.1, ?_⟩
  rcases h.2 with h | ⟨g, cap, cur, rfl, h2, h3, h4, h5, h6, h7⟩
  · exact .inl h
  · exact .inr ⟨g, 0, cap, cur, rfl, h2, h3, h4, h5, by omega, by simpa using h7⟩

theorem Row.mkNil (w : World) (base : Nat) (e : TypeId) (size : Nat) : Row w base e size (.slice none 0 0) 0 [] := ⟨by simp, .inl ⟨rfl, rfl⟩⟩

theorem Row.mono {w : World} {base base' : Nat} {e : TypeId} {size : Nat} {v : Value} {n : Nat} {xs : List Value} (h : Row w base e size v n xs) (hb : base' ≤ base) : Row w base' e size v n xs :=
  ⟨h.1, h.2.imp id fun ⟨g, off, cap, cur, h1, h2, h3⟩ => ⟨g, off, cap, cur, h1, Nat.le_trans hb h2, h3⟩⟩

theorem Row.lt {w : World} {base : Nat} {e : TypeId} {size : Nat} {v : Value} {n : Nat} {xs : List Value} (h : Row w base e size v n xs) : ∀ k, v.ownBlock = some k → base ≤ k ∧ k < w.heap.size := by
  intro k hk
  rcases h.2 with ⟨rfl, _⟩ | ⟨g, off, cap, cur, rfl, hb, hg, _⟩
  · simp [Value.ownBlock] at hk
  · simp [Value.ownBlock] at hk
    subst hk
    exact ⟨hb, (Array.getElem?_eq_some_iff.1 hg).1⟩

/-- Where the own block lies as it lay, the row is kept. -/
theorem Row.heap {w w' : World} {base : Nat} {e : TypeId} {size : Nat} {v : Value} {n : Nat} {xs : List Value} (h : Row w base e size v n xs) (hh : ∀ k, v.ownBlock = some k → w'.heap[k]? = w.heap[k]?) : Row w' base e size v n xs := by
  refine ⟨h.1, h.2.imp id ?_⟩
  rintro ⟨g, off, cap, cur, rfl, h2, h3, rest⟩
  exact ⟨g, off, cap, cur, rfl, h2, by rw [hh g rfl]; exact h3, rest⟩

theorem Row.grown {w w' : World} {base : Nat} {e : TypeId} {size : Nat} {v : Value} {n : Nat} {xs : List Value} {row : Option Nat} (h : Row w base e size v n xs) (hg : w.grownBy w' row) (hne : v.ownBlock = none ∨ v.ownBlock ≠ row) : Row w' base e size v n xs :=
  h.heap fun k hk => hg.block k (h.lt k hk).2 (hne.elim (fun h1 => by simp [h1] at hk) (fun h1 => by rw [hk] at h1; exact h1))

theorem Row.ext {w w' : World} {base : Nat} {e : TypeId} {size : Nat} {v : Value} {n : Nat} {xs : List Value} (h : Row w base e size v n xs) (x : Ext w w') : Row w' base e size v n xs :=
  h.heap fun k hk => x.block k (h.lt k hk).2

theorem Row.al {w : World} {base : Nat} {e : TypeId} {size : Nat} {v : Value} {n : Nat} {xs : List Value} (h : Row w base e size v n xs) (o : Obj) : Row (w.alloc o) base e size v n xs :=
  h.ext ((Ext.rf w).al o)

/-- A store into another block. -/
theorem Row.st {w : World} {base : Nat} {e : TypeId} {size : Nat} {v : Value} {n : Nat} {xs : List Value} (h : Row w base e size v n xs) {p : Addr} (hp : v.ownBlock ≠ some p.block) (u : Value) : Row (w.setCell p u) base e size v n xs :=
  h.heap fun k hk => Below.heap_setCell w p u k (fun e => hp (e ▸ hk))

/-- A cell of the row. -/
theorem Row.cell {w : World} {base : Nat} {e : TypeId} {size g off n cap : Nat} {xs : List Value} (h : Row w base e size (.slice (some ⟨g, off, none⟩) n cap) n xs) (j : Nat) (hj : j < n * size) : w.cell? ⟨g, off + j, none⟩ = xs[j]? := by
  rcases h.2 with ⟨h, _⟩ | ⟨g', off', cap', cur, hv, _, hg, _, _, hs, hx⟩
  · simp at h
  · simp only [Value.slice.injEq, Option.some.injEq, Addr.mk.injEq, true_and, and_true] at hv
    obtain ⟨⟨rfl, rfl⟩, rfl⟩ := hv
    rw [← hx, List.getElem?_take_of_lt hj, List.getElem?_drop]
    simp [World.cell?, hg]

theorem Row.nil_of {w : World} {base : Nat} {e : TypeId} {size : Nat} {v : Value} {n : Nat} {xs : List Value} (h : Row w base e size v n xs) (hn : n = 0) : ∃ a c, v = .slice a 0 c := by
  subst hn
  rcases h.2 with ⟨rfl, _⟩ | ⟨g', off', cap', cur, rfl, _⟩ <;> exact ⟨_, _, rfl⟩

/-- The row's shape where there is an element. -/
theorem Row.shape {w : World} {base : Nat} {e : TypeId} {size : Nat} {v : Value} {n : Nat} {xs : List Value} (h : Row w base e size v n xs) (hn : 0 < n) : ∃ g off cap, v = .slice (some ⟨g, off, none⟩) n cap ∧ base ≤ g ∧ g < w.heap.size ∧ n ≤ cap := by
  rcases h.2 with ⟨_, h0⟩ | ⟨g, off, cap, cur, rfl, hb, hg, hn, _⟩
  · omega
  · exact ⟨g, off, cap, rfl, hb, (Array.getElem?_eq_some_iff.1 hg).1, hn⟩

/-- The row's shape, whatever its length. -/
theorem Row.any {w : World} {base : Nat} {e : TypeId} {size : Nat} {v : Value} {n : Nat} {xs : List Value} (h : Row w base e size v n xs) : ∃ a cap, v = .slice a n cap ∧ n ≤ cap ∧ (0 < n → ∃ g off, a = some ⟨g, off, none⟩ ∧ base ≤ g ∧ g < w.heap.size ∧ n ≤ cap) := by
  rcases h.2 with ⟨rfl, rfl⟩ | ⟨g, off, cap, cur, rfl, hb, hg, hn, _⟩
  · exact ⟨_, _, rfl, Nat.le_refl _, fun h => absurd h (by omega)⟩
  · exact ⟨_, _, rfl, hn, fun _ => ⟨g, off, rfl, hb, (Array.getElem?_eq_some_iff.1 hg).1, hn⟩⟩

/-- A row of numbers is read as numbers. -/
theorem Row.ints {w : World} {base : Nat} {e : TypeId} {v : Value} {n : Nat} {l : List Int} (h : Row w base e 1 v n (l.map (Value.int .i64))) : Ints w v l := by
  have hl : l.length = n := by simpa using h.1
  subst hl
  obtain ⟨a, cap, rfl, hlc, ha⟩ := h.any
  refine ⟨a, cap, rfl, hlc, fun hne => ?_⟩
  have h0 : 0 < l.length := List.length_pos_iff.2 hne
  obtain ⟨g, off, rfl, hb, hg, hc⟩ := ha h0
  refine ⟨g, off, rfl, hg, fun i hi => ?_⟩
  rw [h.cell i (by omega)]
  simp [hi]

/-- Some elements more. -/
theorem run_append_row {P : Program} (w : World) (base : Nat) (t ty e : TypeId) (i : TypeInfo) (z : Value) (size bytes : Nat) (ht : P.underlying t = some (.slice e)) (hi : P.info? e = some i) (hz : i.zero = some z)
    (hsize : i.size = size) (hby : i.bytes = bytes) (hzs : z.cells.size = size) (hsz : 0 < size)
    (v : Value) (n : Nat) (xs : List Value) (hown : Row w base e size v n xs)
    (ao : Option Addr) (m c : Nat) (news : List Value) (hl : news.length = m * size) (hm0 : 0 < m → ∃ ad, ao = some ad ∧ ∀ j u, news[j]? = some u → w.cell? (ad.add j) = some u) (h1 : ∀ u ∈ news, u.oneCell' = true)
    (h63 : n + m ≤ maxLen) (hbytes : (n + m) * bytes ≤ 140737488355328) (hbase : base ≤ w.heap.size) :
    ∃ v' w', (Builtin.append_ #[t, t] ty #[v, .slice ao m c]).run P w = .ok v' w' ∧ Row w' base e size v' (n + m) (xs ++ news) ∧ w.grownBy w' v.ownBlock ∧
      (v'.ownBlock = v.ownBlock ∨ ∃ k, v'.ownBlock = some k ∧ w.heap.size ≤ k) := by
  subst hsize
  subst hby
  by_cases hm : m = 0
  · -- nothing is appended
    subst hm
    obtain rfl : news = [] := List.eq_nil_of_length_eq_zero (by simpa using hl)
    have hfc : (Builtin.firstCells i.size 0 (.slice ao 0 c)).run P w = .ok #[] w := by
      cases ao <;> simp [Builtin.firstCells, loadCells, loadCellsFrom]
    refine ⟨v, w, ?_, by simpa using hown, ⟨rfl, rfl, rfl, Nat.le_refl _, fun _ _ _ => rfl⟩, .inl rfl⟩
    obtain ⟨a, cap, rfl, hnc, ha⟩ := hown.any
    have hst : ∀ ad : Addr, (storeCells ad []).run P w = .ok () w := fun ad => by simp [storeCells]
    cases a with
    | none => simp [Builtin.append_, run_underlying ht, sizeOf, typeInfo, hi, Builtin.lenOf, hnc, hfc]
    | some ad => simp [Builtin.append_, run_underlying ht, sizeOf, typeInfo, hi, Builtin.lenOf, hnc, hfc, hst]
  · obtain ⟨ad, rfl, hnews⟩ := hm0 (by omega)
    rcases hown.2 with ⟨rfl, rfl⟩ | ⟨g, off, cap, cur, rfl, hbg, hg, hnc, hcm, hcs, htake⟩
    · obtain rfl : xs = [] := List.eq_nil_of_length_eq_zero (by simpa using hown.1)
      obtain ⟨v', w', hr, h2, h3, _⟩ := run_append_own (P := P) w w.heap.size t ty e i z i.size i.bytes ht hi hz rfl rfl hzs hsz (.slice none 0 0) 0 [] (World.ownsRow_nil _ _ _ _) ad m c news hl hnews h1 h63 hbytes (Nat.le_refl _)
      refine ⟨v', w', hr, (Row.ofOwns h2).mono hbase, h3, ?_⟩
      rcases h2.2 with ⟨_, h0⟩ | ⟨g, _, _, rfl, hb, _⟩
      · omega
      · exact .inr ⟨g, rfl, hb⟩
    · by_cases hroom : n + m ≤ cap
      · have hsum : n * i.size + m * i.size ≤ cap * i.size := by rw [← Nat.add_mul]; exact Nat.mul_le_mul_right _ hroom
        have hcell : ∀ j, j < news.length → ∃ u, w.cell? ⟨g, off + n * i.size + j, none⟩ = some u := fun j hj => by
          refine ⟨cur[off + n * i.size + j]'(by omega), ?_⟩
          simp [World.cell?, hg]
        have hr := run_append_room_cells (P := P) w t ty e i ht hi g off n cap ad m c news hl hnews h1 hroom
          (fun j hj => by obtain ⟨u, hu⟩ := hcell j hj; rw [hu]; rfl) (fun j hj => by simp only [World.frozen?, hg]; simp)
        refine ⟨_, _, hr, ?_, ?_, .inl rfl⟩
        · -- what the block holds behind the store
          have hh : ∀ (vs : List Value) (o : Nat) (w : World) (cur : Array Value), w.heap[g]? = some (.cells cur e (0, 0)) → o + vs.length ≤ cur.size →
              ∃ cur', (w.setCells g o vs).heap[g]? = some (.cells cur' e (0, 0)) ∧ cur'.size = cur.size ∧ cur'.toList = cur.toList.take o ++ vs ++ cur.toList.drop (o + vs.length) := by
            intro vs
            induction vs with
            | nil => intro o w cur hg _; exact ⟨cur, hg, rfl, by simp⟩
            | cons x vs ih =>
              intro o w cur hg hle
              simp only [List.length_cons] at hle
              have hg1 : (w.setCell ⟨g, o, none⟩ x).heap[g]? = some (.cells (cur.setIfInBounds o x) e (0, 0)) := heap_setCell_same hg
              obtain ⟨cur', h1, h2, h3⟩ := ih (o + 1) (w.setCell ⟨g, o, none⟩ x) (cur.setIfInBounds o x) hg1 (by simp; omega)
              refine ⟨cur', h1, by simpa using h2, ?_⟩
              rw [h3]
              have : (cur.setIfInBounds o x).toList = cur.toList.set o x := by simp
              rw [this]
              have ho : o < cur.toList.length := by simp; omega
              rw [List.drop_set_of_lt (by omega), List.take_succ_eq_append_getElem (by simpa using ho), List.take_set_of_le (Nat.le_refl _)]
              simp only [List.getElem_set_self, List.length_cons, List.append_assoc, List.cons_append, List.nil_append]
              rw [show o + 1 + vs.length = o + (vs.length + 1) by omega]
          obtain ⟨cur', h1', h2', h3'⟩ := hh news (off + n * i.size) w cur hg (by omega)
          refine ⟨by rw [List.length_append, hown.1, hl, Nat.add_mul], .inr ⟨g, off, cap, cur', rfl, hbg, h1', hroom, hcm, by omega, ?_⟩⟩
          have hxl := hown.1
          have e1 : cur.toList.take (off + n * i.size) = cur.toList.take off ++ xs := by
            rw [← htake, ← List.take_add]
          have e2 : (cur.toList.take off).length = off := by simp; omega
          rw [h3', e1, List.append_assoc, List.append_assoc, List.drop_left' e2, ← List.append_assoc]
          exact List.take_left' (by rw [List.length_append, hxl, hl, Nat.add_mul])
        · have hb : ∀ (vs : List Value) (o : Nat) (w : World), w.grownBy (w.setCells g o vs) (some g) := by
            intro vs
            induction vs with
            | nil => intro o w; exact World.grownBy.refl w _
            | cons x vs ih =>
              intro o w
              have := ih (o + 1) (w.setCell ⟨g, o, none⟩ x)
              refine ⟨this.os, this.tape, this.output, ?_, fun k hk hne => ?_⟩
              · have h := this.size; rw [size_setCell] at h; exact h
              · have h2 := this.block k (by rw [size_setCell]; exact hk) hne
                rw [show (w.setCells g o (x :: vs)).heap[k]? = ((w.setCell ⟨g, o, none⟩ x).setCells g (o + 1) vs).heap[k]? from rfl, h2]
                exact Below.heap_setCell w _ x k (by simp only; intro e; exact hne (by rw [e]))
          exact hb news _ w
      · obtain ⟨v', w', hr, h2, h3⟩ := run_append_arg_grows (P := P) w t ty e i z i.size i.bytes ht hi hz rfl rfl hzs hsz ⟨g, off, none⟩ n cap xs hown.1
          (fun j u hj => by
            have hj' : j < n * i.size := by have := (List.getElem?_eq_some_iff.1 hj).1; rw [hown.1] at this; exact this
            rw [Addr.add_lit, hown.cell j hj']; exact hj) ad m c news hl hnews (by omega) h63 hbytes
        refine ⟨v', w', hr, (Row.ofOwns h2).mono hbase, ⟨h3.os, h3.tape, h3.output, h3.size, fun k hk _ => h3.block k hk (by simp)⟩, ?_⟩
        rcases h2.2 with ⟨_, h0⟩ | ⟨g', _, _, rfl, hb, _⟩
        · omega
        · exact .inr ⟨g', rfl, hb⟩

/-- The same for the walk. -/
theorem wpList_append_row {P : Program} {w : World} {ops : Array Oper} {rest : List Oper} {o : Oper} {a : Act} {Q : Exit → Act → World → Prop} (hgd : o.guard = none) (s x : Operand) (t : TypeId)
    (ho : o.op = .call { callee := .builtin .append, args := #[s, x], argTypes := #[t, t] })
    (base : Nat) (e : TypeId) (i : TypeInfo) (z : Value) (size bytes : Nat) (ht : P.underlying t = some (.slice e)) (hi : P.info? e = some i) (hz : i.zero = some z)
    (hsize : i.size = size) (hby : i.bytes = bytes) (hzs : z.cells.size = size) (hsz : 0 < size)
    (v : Value) (n : Nat) (xs : List Value) (hs : a.eval s = v) (hown : Row w base e size v n xs)
    (ao : Option Addr) (m c : Nat) (news : List Value) (hx : a.eval x = .slice ao m c) (hl : news.length = m * size) (hm0 : 0 < m → ∃ ad, ao = some ad ∧ ∀ j u, news[j]? = some u → w.cell? (ad.add j) = some u) (h1 : ∀ u ∈ news, u.oneCell' = true)
    (h63 : n + m ≤ maxLen) (hbytes : (n + m) * bytes ≤ 140737488355328) (hbase : base ≤ w.heap.size)
    (h : ∀ v' w', Row w' base e size v' (n + m) (xs ++ news) → w.grownBy w' v.ownBlock → (v'.ownBlock = v.ownBlock ∨ ∃ k, v'.ownBlock = some k ∧ w.heap.size ≤ k) → wpList P ops Q rest (a.put o.dst v') w') : wpList P ops Q (o :: rest) a w := by
  refine wpList_plain hgd fun K hK => ?_
  obtain ⟨v', w', hr, h2, h3, h4⟩ := run_append_row (P := P) w base t o.type e i z size bytes ht hi hz hsize hby hzs hsz v n xs hown ao m c news hl hm0 h1 h63 hbytes hbase
  unfold Oper.wp execOp
  simp only [ho, resolve, invoke, builtin, Sem.run_bind, Sem.run_pure, Result.andThen_ok, List.map_toArray, List.map_cons, List.map_nil, hs, hx, hr]
  exact hK _ _ (h v' w' h2 h3 h4)

/-- One element of one cell, that the call has just laid in a block of its own ('append(v, x)'). -/
theorem wpList_append_one {P : Program} {w : World} {ops : Array Oper} {rest : List Oper} {o : Oper} {a : Act} {Q : Exit → Act → World → Prop} (hgd : o.guard = none) (s x : Operand) (t : TypeId)
    (ho : o.op = .call { callee := .builtin .append, args := #[s, x], argTypes := #[t, t] })
    (base : Nat) (e : TypeId) (i : TypeInfo) (z : Value) (size bytes : Nat) (ht : P.underlying t = some (.slice e)) (hi : P.info? e = some i) (hz : i.zero = some z)
    (hsize : i.size = size) (hby : i.bytes = bytes) (hzs : z.cells.size = size) (hsz : 0 < size)
    (v : Value) (n : Nat) (xs : List Value) (hs : a.eval s = v) (hown : Row w base e size v n xs)
    (k c : Nat) (news : List Value) (hx : a.eval x = .slice (some ⟨k, 0, none⟩) 1 c) (hl : news.length = size) (hnews : ∃ fr, w.heap[k]? = some (.cells news.toArray e fr)) (h1 : ∀ u ∈ news, u.oneCell' = true)
    (h63 : n + 1 ≤ maxLen) (hbytes : (n + 1) * bytes ≤ 140737488355328) (hbase : base ≤ w.heap.size)
    (h : ∀ v' w', Row w' base e size v' (n + 1) (xs ++ news) → w.grownBy w' v.ownBlock → (v'.ownBlock = v.ownBlock ∨ ∃ k, v'.ownBlock = some k ∧ w.heap.size ≤ k) → wpList P ops Q rest (a.put o.dst v') w') : wpList P ops Q (o :: rest) a w :=
  wpList_append_row hgd s x t ho base e i z size bytes ht hi hz hsize hby hzs hsz v n xs hs hown (some ⟨k, 0, none⟩) 1 c news hx (by omega)
    (fun _ => ⟨_, rfl, fun j u hj => by
      obtain ⟨fr, hf⟩ := hnews
      have := (List.getElem?_eq_some_iff.1 hj)
      simp [Addr.add_lit, World.cell?, hf, hj]⟩) h1 h63 hbytes hbase h

/-- A row without its first element. -/
theorem Row.tail {w : World} {base : Nat} {e : TypeId} {size g off n cap : Nat} {xs : List Value} (h : Row w base e size (.slice (some ⟨g, off, none⟩) (n + 1) cap) (n + 1) xs) :
    Row w base e size (.slice (some ⟨g, off + size, none⟩) n (cap - 1)) n (xs.drop size) ∧ Row w base e size (.slice (some ⟨g, off, none⟩) 0 (cap - 1)) 0 [] := by
  rcases h.2 with ⟨h', _⟩ | ⟨g', off', cap', cur, hv, hb, hg, hn, hm, hs, hx⟩
  · simp at h'
  · simp only [Value.slice.injEq, Option.some.injEq, Addr.mk.injEq, true_and, and_true] at hv
    obtain ⟨⟨rfl, rfl⟩, rfl⟩ := hv
    have hcap : (cap - 1) * size + size = cap * size := by rw [← Nat.succ_mul]; congr 1; omega
    refine ⟨⟨by rw [List.length_drop, h.1, Nat.add_mul]; omega, .inr ⟨g, off + size, cap - 1, cur, rfl, hb, hg, by omega, by omega, by omega, ?_⟩⟩,
      ⟨by simp, .inr ⟨g, off, cap - 1, cur, rfl, hb, hg, by omega, by omega, by omega, by simp⟩⟩⟩
    rw [← hx, List.drop_take, List.drop_drop, Nat.add_mul]
    congr 1
    omega

/-- A store into the row. -/
theorem Row.set {w : World} {base : Nat} {e : TypeId} {size g off n cap : Nat} {xs : List Value} (h : Row w base e size (.slice (some ⟨g, off, none⟩) n cap) n xs) (j : Nat) (u : Value) (hj : j < n * size) :
    Row (w.setCell ⟨g, off + j, none⟩ u) base e size (.slice (some ⟨g, off, none⟩) n cap) n (xs.set j u) := by
  rcases h.2 with ⟨h', _⟩ | ⟨g', off', cap', cur, hv, hb, hg, hn, hm, hs, hx⟩
  · simp at h'
  · simp only [Value.slice.injEq, Option.some.injEq, Addr.mk.injEq, true_and, and_true] at hv
    obtain ⟨⟨rfl, rfl⟩, rfl⟩ := hv
    refine ⟨by rw [List.length_set, h.1], .inr ⟨g, off, cap, cur.setIfInBounds (off + j) u, rfl, hb, heap_setCell_same hg, hn, hm, by simpa using hs, ?_⟩⟩
    rw [← hx, Array.toList_setIfInBounds, List.drop_set, if_neg (by omega), Nat.add_sub_cancel_left, List.take_set]

/-- No cell of the row is frozen. -/
theorem Row.free {w : World} {base : Nat} {e : TypeId} {size g off n cap : Nat} {xs : List Value} (h : Row w base e size (.slice (some ⟨g, off, none⟩) n cap) n xs) (o : Nat) : w.frozen? ⟨g, o, none⟩ = false := by
  rcases h.2 with ⟨h', _⟩ | ⟨g', off', cap', cur, hv, hb, hg, _⟩
  · simp at h'
  · simp only [Value.slice.injEq, Option.some.injEq, Addr.mk.injEq, true_and, and_true] at hv
    obtain ⟨⟨rfl, rfl⟩, rfl⟩ := hv
    simp [World.frozen?, hg]

/-- Two rows of unlike element types are no one block. -/
theorem Row.apart {w : World} {b1 b2 : Nat} {e1 e2 : TypeId} {s1 s2 : Nat} {v1 v2 : Value} {n1 n2 : Nat} {x1 x2 : List Value} (h1 : Row w b1 e1 s1 v1 n1 x1) (h2 : Row w b2 e2 s2 v2 n2 x2) (hne : e1 ≠ e2) :
    v1.ownBlock = .none ∨ v1.ownBlock ≠ v2.ownBlock := by
  rcases h1.2 with ⟨rfl, _⟩ | ⟨g, off, cap, cur, rfl, _, hg, _⟩
  · exact .inl rfl
  · refine .inr fun hh => ?_
    rcases h2.2 with ⟨rfl, _⟩ | ⟨g', off', cap', cur', rfl, _, hg', _⟩
    · simp [Value.ownBlock] at hh
    · simp [Value.ownBlock] at hh
      subst hh
      rw [hg] at hg'
      simp at hg'
      exact hne hg'.2

/-! ### The cells of a slice that is read -/
/-- The slice value v has n elements of 'size' cells, the cells xs. -/
def CellsAt (w : World) (v : Value) (size n : Nat) (xs : List Value) : Prop :=
  xs.length = n * size ∧ ∃ a c, v = .slice a n c ∧ n ≤ c ∧ (0 < n → ∃ b off, a = some ⟨b, off, none⟩ ∧ b < w.heap.size ∧ ∀ j, j < n * size → w.cell? ⟨b, off + j, none⟩ = xs[j]?)

theorem CellsAt.ext {w w' : World} {v : Value} {size n : Nat} {xs : List Value} (h : CellsAt w v size n xs) (e : Ext w w') : CellsAt w' v size n xs := by
  obtain ⟨h0, a, c, rfl, hlc, h⟩ := h
  refine ⟨h0, a, c, rfl, hlc, fun hn => ?_⟩
  obtain ⟨b, off, rfl, hb, hc⟩ := h hn
  exact ⟨b, off, rfl, Nat.lt_of_lt_of_le hb e.size, fun i hi => (e.cell hb).trans (hc i hi)⟩

theorem Ints.cells {w : World} {v : Value} {l : List Int} (h : Ints w v l) : CellsAt w v 1 l.length (l.map (Value.int .i64)) := by
  obtain ⟨a, c, rfl, hlc, h⟩ := h
  refine ⟨by simp, a, c, rfl, hlc, fun hn => ?_⟩
  obtain ⟨b, off, rfl, hb, hc⟩ := h (List.length_pos_iff.1 hn)
  refine ⟨b, off, rfl, hb, fun j hj => ?_⟩
  rw [hc j (by omega)]
  have : j < l.length := by omega
  simp [this]

theorem Row.cells {w : World} {base : Nat} {e : TypeId} {size : Nat} {v : Value} {n : Nat} {xs : List Value} (h : Row w base e size v n xs) : CellsAt w v size n xs := by
  obtain ⟨a, cap, rfl, hlc, ha⟩ := h.any
  refine ⟨h.1, a, cap, rfl, hlc, fun hn => ?_⟩
  obtain ⟨g, off, rfl, hb, hg, hc⟩ := ha hn
  exact ⟨g, off, rfl, hg, fun j hj => h.cell j hj⟩

theorem Sl.cells {α : Type} [Inhabited α] {R : World → List Value → α → Prop} {k : Nat} {w : World} {v : Value} {l : List α} (h : Sl R k w v l) :
    ∃ xs, CellsAt w v k l.length xs ∧ ∀ i, i < l.length → R w ((xs.drop (i * k)).take k) l[i]! := by
  obtain ⟨a, c, rfl, hlc, h⟩ := h
  by_cases hl : l = []
  · subst hl
    exact ⟨[], ⟨by simp, a, c, rfl, hlc, fun h => absurd h (by simp)⟩, fun i hi => absurd hi (by simp)⟩
  obtain ⟨b, off, rfl, hb, hc⟩ := h hl
  -- the rows one behind the other
  have key : ∀ n, n ≤ l.length → ∃ xs : List Value, xs.length = n * k ∧ (∀ j, j < n * k → w.cell? ⟨b, off + j, none⟩ = xs[j]?) ∧ ∀ i, i < n → R w ((xs.drop (i * k)).take k) l[i]! := by
    intro n
    induction n with
    | zero => intro _; exact ⟨[], by simp, fun j hj => absurd hj (by simp), fun i hi => absurd hi (by simp)⟩
    | succ n ih =>
      intro hn
      obtain ⟨xs, h1, h2, h3⟩ := ih (by omega)
      obtain ⟨vs, g1, g2, g3⟩ := hc n (by omega)
      refine ⟨xs ++ vs, by rw [List.length_append, h1, g1, Nat.add_mul, Nat.one_mul], fun j hj => ?_, fun i hi => ?_⟩
      · by_cases hjn : j < n * k
        · rw [List.getElem?_append_left (by omega)]; exact h2 j hjn
        · rw [List.getElem?_append_right (by omega), h1]
          rw [Nat.add_mul, Nat.one_mul] at hj
          have := g3 (j - n * k) (by omega)
          rw [show off + n * k + (j - n * k) = off + j by omega] at this
          rw [this, getElem!_pos vs (j - n * k) (by omega), List.getElem?_eq_getElem (by omega)]
      · by_cases hin : i < n
        · have hle : i * k + k ≤ n * k := by rw [← Nat.succ_mul]; exact Nat.mul_le_mul_right _ hin
          rw [List.drop_append_of_le_length (by omega), List.take_append_of_le_length (by rw [List.length_drop]; omega)]
          exact h3 i hin
        · obtain rfl : i = n := by omega
          rw [List.drop_left' h1, List.take_of_length_le (by omega)]
          exact g2
  obtain ⟨xs, h1, h2, h3⟩ := key l.length (Nat.le_refl _)
  exact ⟨xs, ⟨h1, _, c, rfl, hlc, fun _ => ⟨b, off, rfl, hb, h2⟩⟩, h3⟩

theorem CellsAt.sl {α : Type} [Inhabited α] {R : World → List Value → α → Prop} {k : Nat} {w : World} {v : Value} {l : List α} {xs : List Value} (h : CellsAt w v k l.length xs)
    (hR : ∀ i, i < l.length → R w ((xs.drop (i * k)).take k) l[i]!) : Sl R k w v l := by
  obtain ⟨h0, a, c, rfl, hlc, h⟩ := h
  refine ⟨a, c, rfl, hlc, fun hl => ?_⟩
  obtain ⟨b, off, rfl, hb, hc⟩ := h (List.length_pos_iff.2 hl)
  refine ⟨b, off, rfl, hb, fun i hi => ⟨_, ?_, hR i hi, fun j hj => ?_⟩⟩
  · have hle : i * k + k ≤ l.length * k := by rw [← Nat.succ_mul]; exact Nat.mul_le_mul_right _ hi
    rw [List.length_take, List.length_drop]; omega
  · have hle : i * k + k ≤ l.length * k := by rw [← Nat.succ_mul]; exact Nat.mul_le_mul_right _ hi
    rw [Nat.add_assoc, hc _ (by omega)]
    rw [getElem!_pos _ j (by rw [List.length_take, List.length_drop]; omega), List.getElem_take, List.getElem_drop, List.getElem?_eq_getElem]

theorem CellsAt.ints {w : World} {v : Value} {l : List Int} (h : CellsAt w v 1 l.length (l.map (Value.int .i64))) : Ints w v l := by
  obtain ⟨h0, a, c, rfl, hlc, h⟩ := h
  refine ⟨a, c, rfl, hlc, fun hl => ?_⟩
  obtain ⟨b, off, rfl, hb, hc⟩ := h (List.length_pos_iff.2 hl)
  refine ⟨b, off, rfl, hb, fun i hi => ?_⟩
  rw [hc i (by omega)]
  simp [hi]

/-! ### What the call has just laid -/
theorem heap_new_eq {w : World} {o : Obj} {b : Nat} (hb : b = w.heap.size) : (w.alloc o).heap[b]? = some o := by subst hb; exact heap_alloc_new w o

theorem cells_laid {W : World} {b : Nat} {t : TypeId} {fr : Nat × Nat} (size n : Nat) {xs : List Value} (hb : W.heap[b]? = some (.cells xs.toArray t fr)) (hl : xs.length = n * size) : CellsAt W (.slice (some ⟨b, 0, none⟩) n n) size n xs := by
  refine ⟨hl, _, _, rfl, Nat.le_refl _, fun _ => ⟨b, 0, rfl, (Array.getElem?_eq_some_iff.1 hb).1, fun j hj => ?_⟩⟩
  simp [World.cell?, hb]

theorem ints_laid {W : World} {b : Nat} {t : TypeId} {fr : Nat × Nat} (l : List Int) (hb : W.heap[b]? = some (.cells (l.map (Value.int .i64)).toArray t fr)) : Ints W (.slice (some ⟨b, 0, none⟩) l.length l.length) l :=
  (cells_laid 1 l.length hb (by simp)).ints

end Go.Proofs.Ytfcpnggdpaeldaa

/-
  Boxes of cells: what they hold, and that rows of other types stay as they are when a box is written. No program is named here.
-/
namespace Go.Proofs.Ytfcpnggdpaeldaa
open Go.RowKit
set_option linter.unusedVariables false

theorem cellOf {w : World} {g : Nat} {cs : Array Value} {e : TypeId} {fr : Nat × Nat} (h : w.heap[g]? = some (.cells cs e fr)) (i : Nat) : w.cell? ⟨g, i, none⟩ = cs[i]? := by simp [World.cell?, h]
theorem freeOf {w : World} {g : Nat} {cs : Array Value} {e : TypeId} (h : w.heap[g]? = some (.cells cs e (0, 0))) (i : Nat) : w.frozen? ⟨g, i, none⟩ = false := by simp [World.frozen?, h]

/-- A block of another type is no row's own. -/
theorem Row.notBox {w : World} {base g : Nat} {e e' : TypeId} {size : Nat} {v : Value} {n : Nat} {xs : List Value} {cs : Array Value} {fr : Nat × Nat} (h : Row w base e size v n xs) (hg : w.heap[g]? = some (.cells cs e' fr)) (hne : e' ≠ e) : v.ownBlock ≠ some g := by
  intro hk
  rcases h.2 with ⟨rfl, _⟩ | ⟨g', off, cap, cur, rfl, _, hg', _⟩
  · simp [Value.ownBlock] at hk
  · simp [Value.ownBlock] at hk
    subst hk
    rw [hg] at hg'
    simp at hg'
    exact hne hg'.2.1
theorem grownKeep {W w5 : World} {row : Option Nat} {k : Nat} {X : Obj} (hg : W.grownBy w5 row) (hne : row ≠ some k) (h : W.heap[k]? = some X) : w5.heap[k]? = some X := by
  rw [hg.block k (Array.getElem?_eq_some_iff.1 h).1 (fun e => hne e.symm)]
  exact h

end Go.Proofs.Ytfcpnggdpaeldaa

/-
  Calls that only read: the world has drawn, nothing else. No program is named here.
-/
namespace Go.Proofs.Ytfcpnggdpaeldaa
open Go.RowKit
set_option linter.unusedVariables false

/-- w' is w, but for draws. -/
def Drawn (w w' : World) : Prop := ∃ n, w' = w.drewN n
theorem Drawn.rf (w : World) : Drawn w w := ⟨0, (World.drewN_zero w).symm⟩
theorem Drawn.drN {w w' : World} (h : Drawn w w') (n : Nat) : Drawn w (w'.drewN n) := by
  obtain ⟨m, rfl⟩ := h
  exact ⟨m + n, by rw [World.drewN_drewN]⟩
theorem Drawn.trans {a b c : World} (h : Drawn a b) (k : Drawn b c) : Drawn a c := by
  obtain ⟨m, rfl⟩ := k
  exact h.drN m
theorem Drawn.ext {w w' : World} (h : Drawn w w') : Ext w w' := by
  obtain ⟨n, rfl⟩ := h
  exact (Ext.rf w).drN n
theorem Drawn.cell {w w' : World} (h : Drawn w w') (a : Addr) : w'.cell? a = w.cell? a := by
  obtain ⟨n, rfl⟩ := h
  rfl
theorem Drawn.heap {w w' : World} (h : Drawn w w') : w'.heap = w.heap := by
  obtain ⟨n, rfl⟩ := h
  rfl
theorem drawn_quiet {P : Program} {f : FuncId} {args : Array Value} {w : World} {n : Nat} {v : Value} (h : Calls P f args (w.drewN n) fun e w' => e = .returned v ∧ Drawn (w.drewN n) w') :
    Calls P f args (w.drewN n) fun e w'' => e = .returned v ∧ ∃ m, w'' = w.drewN m :=
  h.mono fun _ _ ⟨he, m, hm⟩ => ⟨he, n + m, by rw [hm, World.drewN_drewN]⟩
theorem drawn_quiet_add {P : Program} {f : FuncId} {args : Array Value} {w : World} {a n : Nat} {v : Value} (h : Calls P f args (w.drewN (a + n)) fun e w' => e = .returned v ∧ Drawn (w.drewN (a + n)) w') :
    Calls P f args (w.drewN (a + n)) fun e w'' => e = .returned v ∧ ∃ m, w'' = w.drewN (a + m) :=
  h.mono fun _ _ ⟨he, m, hm⟩ => ⟨he, n + m, by rw [hm, World.drewN_drewN, Nat.add_assoc]⟩

end Go.Proofs.Ytfcpnggdpaeldaa

/-
  The central checker in plain words: queues of stamps, what is beaten, the conclusion. No program is named here.
-/
namespace Go.Proofs.Ytfcpnggdpaeldaa
set_option linter.unusedVariables false

structure Ck where
  qs : List (List (List Int))
  ended : List Bool
  done : Bool
  cut : List Int
deriving Inhabited

/-- A number that is none of an event. -/
def outC (x : Int) : Bool := decide (x < 0) || decide (64 < x)
def stampB (v : List Int) (n : Nat) : Bool := decide (v.length = n) && !v.any outC
/-- Each number of w is at least that of v. -/
def leqB (v w : List Int) : Bool := (List.range v.length).all fun i => decide (v[i]! ≤ w[i]!)
def afterB (v w : List Int) (p : Nat) : Bool := leqB v w && decide (v[p]! < w[p]!)
/-- The queue of o beats that of p. -/
def beatsB (qs : List (List (List Int))) (p o : Nat) : Bool :=
  decide (o ≠ p) && (decide (0 < qs[p]!.length) && (decide (0 < qs[o]!.length) && decide (qs[p]![0]![p]! < qs[o]![0]![p]!)))
def beatenAt (qs : List (List (List Int))) (p : Nat) : Bool := (List.range qs.length).any fun o => beatsB qs p o
def beatenL (qs : List (List (List Int))) : Int := firstAt (fun p => beatenAt qs p) (List.range qs.length)
def allB (qs : List (List (List Int))) : Bool := (List.range qs.length).all fun p => decide (0 < qs[p]!.length)
def overB (qs : List (List (List Int))) (ended : List Bool) : Bool := (List.range qs.length).any fun p => decide (qs[p]!.length = 0) && ended[p]!
def cutOf (qs : List (List (List Int))) : List Int := (List.range qs.length).map fun p => qs[p]![0]![p]!
def doneB (qs : List (List (List Int))) (ended : List Bool) : Bool := allB qs || overB qs ended
def cutB (qs : List (List (List Int))) : List Int := if allB qs then cutOf qs else []

def queueB (n p : Nat) (q : List (List Int)) : Bool :=
  decide (q.length ≤ 65) && (List.range q.length).all fun i => stampB q[i]! n && (decide (i = 0) || afterB q[i - 1]! q[i]! p)
/-- The queues are in order. -/
def formB (s : Ck) : Bool :=
  decide (1 ≤ s.qs.length) && (decide (s.qs.length ≤ 8) && (decide (s.ended.length = s.qs.length) && (List.range s.qs.length).all fun p => queueB s.qs.length p s.qs[p]!))
def validC (s : Ck) : Bool := formB s && (decide (beatenL s.qs < 0) && (decide (doneB s.qs s.ended = s.done) && decide (cutB s.qs = s.cut)))

/-! ### First places -/
theorem firstAt_lt {α : Type} (p : α → Bool) (l : List α) : -1 ≤ firstAt p l ∧ firstAt p l < l.length := by
  unfold firstAt
  cases h : l.findIdx? p with
  | some i => have := (List.findIdx?_eq_some_iff_getElem.1 h).1; simp only; omega
  | none => simp only; omega
theorem firstAt_some {α : Type} [Inhabited α] (p : α → Bool) (l : List α) (k : Nat) (h : firstAt p l = k) : k < l.length ∧ p l[k]! = true ∧ ∀ j, j < k → p l[j]! = false := by
  unfold firstAt at h
  cases hf : l.findIdx? p with
  | none => rw [hf] at h; simp only at h; omega
  | some i =>
    rw [hf] at h
    simp only at h
    obtain rfl : i = k := by omega
    obtain ⟨hi, hp, hn⟩ := List.findIdx?_eq_some_iff_getElem.1 hf
    refine ⟨hi, by rwa [getElem!_pos l i hi], fun j hj => ?_⟩
    have := hn j hj
    rw [getElem!_pos l j (by omega)]
    simpa using this
theorem firstAt_neg {α : Type} [Inhabited α] (p : α → Bool) (l : List α) (h : firstAt p l < 0) : ∀ j, j < l.length → p l[j]! = false := by
  intro j hj
  have := firstAt_any p l
  rw [decide_eq_false (by omega)] at this
  have := List.any_eq_false.1 this.symm _ (mem_at l j hj)
  simpa using this
theorem range_at (n k : Nat) (h : k < n) : (List.range n)[k]! = k := by rw [getElem!_pos _ k (by simpa using h)]; simp
theorem range_all (n : Nat) (p : Nat → Bool) : (List.range n).all p = true ↔ ∀ i, i < n → p i = true := by
  simp [List.all_eq_true]
theorem range_any (n : Nat) (p : Nat → Bool) : (List.range n).any p = true ↔ ∃ i, i < n ∧ p i = true := by
  simp [List.any_eq_true]
theorem range_any_false (n : Nat) (p : Nat → Bool) : (List.range n).any p = false ↔ ∀ i, i < n → p i = false := by
  simp [List.any_eq_false]
theorem beaten_none (qs : List (List (List Int))) (h : beatenL qs < 0) : ∀ p, p < qs.length → beatenAt qs p = false := by
  intro p hp
  have := firstAt_neg _ _ h p (by simpa using hp)
  rwa [range_at _ _ hp] at this
theorem beaten_some (qs : List (List (List Int))) (p : Nat) (h : beatenL qs = p) : p < qs.length ∧ beatenAt qs p = true ∧ ∀ j, j < p → beatenAt qs j = false := by
  obtain ⟨h1, h2, h3⟩ := firstAt_some _ _ p h
  rw [List.length_range] at h1
  rw [range_at _ _ h1] at h2
  exact ⟨h1, h2, fun j hj => by have := h3 j hj; rwa [range_at _ _ (by omega)] at this⟩
theorem beaten_hit (qs : List (List (List Int))) (p : Nat) (hp : p < qs.length) (h : beatenAt qs p = true) (hn : ∀ j, j < p → beatenAt qs j = false) : beatenL qs = p :=
  firstAt_hit _ _ p (by simpa using hp) (by rwa [range_at _ _ hp]) (fun j hj => by rw [range_at _ _ (by omega)]; exact hn j hj)
theorem beaten_miss (qs : List (List (List Int))) (hn : ∀ j, j < qs.length → beatenAt qs j = false) : beatenL qs = -1 :=
  firstAt_miss _ _ (fun j hj => by rw [List.length_range] at hj; rw [range_at _ _ hj]; exact hn j hj)

/-! ### Reducing -/
def total (qs : List (List (List Int))) : Nat := (qs.map List.length).sum
def dropAt (qs : List (List (List Int))) (p : Nat) : List (List (List Int)) := qs.set p (qs[p]!.drop 1)
def reduceF : Nat → List (List (List Int)) → List (List (List Int))
  | 0, qs => qs
  | k + 1, qs => if beatenL qs < 0 then qs else reduceF k (dropAt qs (beatenL qs).toNat)
def reduceL (qs : List (List (List Int))) : List (List (List Int)) := reduceF (total qs) qs

theorem drop_len (qs : List (List (List Int))) (p : Nat) : (dropAt qs p).length = qs.length := by simp [dropAt]
theorem sum_set (l : List Nat) (p x : Nat) (hp : p < l.length) : (l.set p x).sum + l[p]! = l.sum + x := by
  induction l generalizing p with
  | nil => simp at hp
  | cons y l ih =>
    cases p with
    | zero => simp; omega
    | succ p =>
      have := ih p (by simpa using hp)
      simp only [List.set_cons_succ, List.sum_cons, List.getElem!_cons_succ] at this ⊢
      omega
theorem total_drop (qs : List (List (List Int))) (p : Nat) (hp : p < qs.length) (h : 0 < qs[p]!.length) : total (dropAt qs p) + 1 = total qs := by
  unfold total dropAt
  rw [List.map_set]
  have := sum_set (qs.map List.length) p ((qs[p]!.drop 1).length) (by simpa using hp)
  rw [getElem!_pos (qs.map List.length) p (by simpa using hp), List.getElem_map, ← getElem!_pos qs p hp, List.length_drop] at this
  rw [List.length_drop]
  omega
theorem beaten_pos (qs : List (List (List Int))) (p : Nat) (h : beatenAt qs p = true) : 0 < qs[p]!.length := by
  obtain ⟨o, _, h⟩ := (range_any _ _).1 h
  simp only [beatsB, Bool.and_eq_true, decide_eq_true_eq] at h
  exact h.2.1
theorem reduceF_enough : ∀ (k m : Nat) (qs : List (List (List Int))), total qs ≤ k → total qs ≤ m → reduceF k qs = reduceF m qs := by
  intro k
  induction k with
  | zero =>
    intro m qs hk hm
    have hb : beatenL qs < 0 := by
      rcases Classical.em (beatenL qs < 0) with h | h
      · exact h
      · obtain ⟨h1, h2, _⟩ := beaten_some qs (beatenL qs).toNat (by omega)
        have := total_drop qs _ h1 (beaten_pos _ _ h2)
        omega
    cases m with
    | zero => rfl
    | succ m => simp [reduceF, hb]
  | succ k ih =>
    intro m qs hk hm
    by_cases hb : beatenL qs < 0
    · cases m <;> simp [reduceF, hb]
    · obtain ⟨h1, h2, _⟩ := beaten_some qs (beatenL qs).toNat (by omega)
      have h3 := total_drop qs _ h1 (beaten_pos _ _ h2)
      cases m with
      | zero => omega
      | succ m =>
        simp only [reduceF, if_neg hb]
        exact ih m _ (by omega) (by omega)
theorem reduce_done (qs : List (List (List Int))) (h : beatenL qs < 0) : reduceL qs = qs := by
  unfold reduceL
  cases total qs <;> simp [reduceF, h]
theorem reduce_step (qs : List (List (List Int))) (p : Nat) (h : beatenL qs = p) : reduceL qs = reduceL (dropAt qs p) := by
  obtain ⟨h1, h2, _⟩ := beaten_some qs p h
  have h3 := total_drop qs _ h1 (beaten_pos _ _ h2)
  unfold reduceL
  rw [← h3]
  simp only [reduceF]
  rw [if_neg (by omega), h, Int.toNat_natCast]

/-- What holds of the queues and is kept by taking one's first stamp away holds of the reduced ones. -/
theorem reduce_keeps (P : List (List (List Int)) → Prop) (hs : ∀ qs p, P qs → p < qs.length → beatenAt qs p = true → P (dropAt qs p)) (qs : List (List (List Int))) (h : P qs) : P (reduceL qs) ∧ beatenL (reduceL qs) < 0 := by
  have key : ∀ k qs, total qs ≤ k → P qs → P (reduceL qs) ∧ beatenL (reduceL qs) < 0 := by
    intro k
    induction k with
    | zero =>
      intro qs hk h
      rcases Classical.em (beatenL qs < 0) with hb | hb
      · rw [reduce_done qs hb]; exact ⟨h, hb⟩
      · obtain ⟨h1, h2, _⟩ := beaten_some qs (beatenL qs).toNat (by omega)
        have := total_drop qs _ h1 (beaten_pos _ _ h2)
        omega
    | succ k ih =>
      intro qs hk h
      rcases Classical.em (beatenL qs < 0) with hb | hb
      · rw [reduce_done qs hb]; exact ⟨h, hb⟩
      · obtain ⟨h1, h2, _⟩ := beaten_some qs (beatenL qs).toNat (by omega)
        have h3 := total_drop qs _ h1 (beaten_pos _ _ h2)
        rw [reduce_step qs (beatenL qs).toNat (by omega)]
        exact ih _ (by omega) (hs qs _ h h1 h2)
  exact key _ qs (Nat.le_refl _) h

def concludeC (qs : List (List (List Int))) (ended : List Bool) : Ck := ⟨qs, ended, doneB qs ended, cutB qs⟩

/-- The error of a put. -/
def putErr (s : Ck) (p : Int) (v : List Int) : Int :=
  if !validC s then 1
  else if p < 0 ∨ (s.qs.length : Int) ≤ p ∨ stampB v s.qs.length = false then 2
  else if s.done = true ∨ s.ended[p.toNat]! = true then 6
  else if 0 < s.qs[p.toNat]!.length ∧ afterB s.qs[p.toNat]![s.qs[p.toNat]!.length - 1]! v p.toNat = false then 11
  else if 65 ≤ s.qs[p.toNat]!.length then 5
  else 0
def putQs (s : Ck) (p : Nat) (v : List Int) : List (List (List Int)) := s.qs.set p (s.qs[p]! ++ [v])
def putC (s : Ck) (p : Nat) (v : List Int) : Ck := concludeC (reduceL (putQs s p v)) s.ended
def endC (s : Ck) (p : Nat) : Ck := concludeC s.qs (s.ended.set p true)

end Go.Proofs.Ytfcpnggdpaeldaa

/-
  What the central checker forgets is not needed: plain law. No program is named here.
-/
namespace Go.Proofs.Ytfcpnggdpaeldaa
set_option linter.unusedVariables false

theorem set_at {α : Type} [Inhabited α] (l : List α) (p q : Nat) (x : α) (hp : p < l.length) : (l.set p x)[q]! = if q = p then x else l[q]! := by
  by_cases h : q = p
  · subst h
    rw [if_pos rfl, getElem!_pos _ q (by simpa using hp), List.getElem_set_self]
  · rw [if_neg h]
    by_cases hq : q < l.length
    · rw [getElem!_pos _ q (by simpa using hq), List.getElem_set_ne (fun e => h e.symm), ← getElem!_pos l q hq]
    · rw [getElem!_neg _ q (by simpa using hq), getElem!_neg _ q (by simpa using hq)]
theorem drop_at {α : Type} [Inhabited α] (l : List α) (k i : Nat) (h : k + i < l.length) : (l.drop k)[i]! = l[k + i]! := by
  rw [getElem!_pos _ i (by rw [List.length_drop]; omega), getElem!_pos l (k + i) h, List.getElem_drop]
theorem snoc_at {α : Type} [Inhabited α] (l : List α) (x : α) (i : Nat) (h : i ≤ l.length) : (l ++ [x])[i]! = if i = l.length then x else l[i]! := by
  by_cases hi : i = l.length
  · subst hi
    rw [if_pos rfl, getElem!_pos _ _ (by simp), List.getElem_append_right (Nat.le_refl _)]
    simp
  · rw [if_neg hi, getElem!_pos _ i (by simp; omega), getElem!_pos l i (by omega), List.getElem_append_left (by omega)]

theorem queue_parts {n p : Nat} {q : List (List Int)} : queueB n p q = true ↔ q.length ≤ 65 ∧ ∀ i, i < q.length → stampB q[i]! n = true ∧ (i = 0 ∨ afterB q[i - 1]! q[i]! p = true) := by
  simp only [queueB, Bool.and_eq_true, decide_eq_true_eq, range_all, Bool.or_eq_true]
theorem queue_drop {n p : Nat} {q : List (List Int)} (h : queueB n p q = true) : queueB n p (q.drop 1) = true := by
  obtain ⟨h1, h2⟩ := queue_parts.1 h
  refine queue_parts.2 ⟨by rw [List.length_drop]; omega, fun i hi => ?_⟩
  rw [List.length_drop] at hi
  obtain ⟨g1, g2⟩ := h2 (1 + i) (by omega)
  rw [drop_at q 1 i (by omega)]
  refine ⟨g1, ?_⟩
  by_cases h0 : i = 0
  · exact .inl h0
  · right
    rw [drop_at q 1 (i - 1) (by omega), show 1 + (i - 1) = 1 + i - 1 from by omega]
    exact g2.resolve_left (by omega)
theorem queue_snoc {n p : Nat} {q : List (List Int)} {v : List Int} (h : queueB n p q = true) (hl : q.length < 65) (hv : stampB v n = true) (ha : q.length = 0 ∨ afterB q[q.length - 1]! v p = true) : queueB n p (q ++ [v]) = true := by
  obtain ⟨h1, h2⟩ := queue_parts.1 h
  refine queue_parts.2 ⟨by simp; omega, fun i hi => ?_⟩
  rw [List.length_append, List.length_singleton] at hi
  rw [snoc_at q v i (by omega)]
  by_cases e : i = q.length
  · subst e
    rw [if_pos rfl]
    refine ⟨hv, ?_⟩
    by_cases h0 : q.length = 0
    · exact .inl h0
    · rw [snoc_at q v _ (by omega), if_neg (by omega)]
      exact ha
  · rw [if_neg e]
    obtain ⟨g1, g2⟩ := h2 i (by omega)
    refine ⟨g1, g2.imp id fun h => ?_⟩
    by_cases h0 : i = 0
    · subst h0; rw [snoc_at q v (0 - 1) (by omega), if_neg (by omega)]; exact h
    · rw [snoc_at q v (i - 1) (by omega), if_neg (by omega)]; exact h

theorem form_parts {s : Ck} : formB s = true ↔ 1 ≤ s.qs.length ∧ s.qs.length ≤ 8 ∧ s.ended.length = s.qs.length ∧ ∀ p, p < s.qs.length → queueB s.qs.length p s.qs[p]! = true := by
  simp only [formB, Bool.and_eq_true, decide_eq_true_eq, range_all]
theorem valid_parts {s : Ck} : validC s = true ↔ formB s = true ∧ beatenL s.qs < 0 ∧ doneB s.qs s.ended = s.done ∧ cutB s.qs = s.cut := by
  simp only [validC, Bool.and_eq_true, decide_eq_true_eq]

theorem put_parts {s : Ck} {p : Int} {v : List Int} (h : putErr s p v = 0) : validC s = true ∧ 0 ≤ p ∧ p < s.qs.length ∧ stampB v s.qs.length = true ∧ s.done = false ∧ s.ended[p.toNat]! = false ∧ (s.qs[p.toNat]!.length = 0 ∨ afterB s.qs[p.toNat]![s.qs[p.toNat]!.length - 1]! v p.toNat = true) ∧ s.qs[p.toNat]!.length < 65 := by
  unfold putErr at h
  split at h
  · simp at h
  · split at h
    · simp at h
    · split at h
      · simp at h
      · split at h
        · simp at h
        · split at h
          · simp at h
          · rename_i h1 h2 h3 h4 h5
            simp only [not_or, not_and, Bool.not_eq_true, Bool.not_eq_false'] at h1 h2 h3 h4
            refine ⟨by simpa using h1, by omega, by omega, by simpa using h2.2.2, h3.1, h3.2, ?_, by omega⟩
            rcases Nat.eq_zero_or_pos s.qs[p.toNat]!.length with h0 | h0
            · exact .inl h0
            · exact .inr (by simpa using h4 h0)

section
variable {s : Ck} {p : Nat} {v : List Int} (h : putErr s p v = 0)
include h

theorem put_form : ∀ q, q < s.qs.length → queueB s.qs.length q (putQs s p v)[q]! = true := by
  obtain ⟨h1, h2, h3, h4, h5, h6, h7, h8⟩ := put_parts h
  obtain ⟨g1, g2, g3, g4⟩ := form_parts.1 (valid_parts.1 h1).1
  simp only [Int.toNat_natCast] at h6 h7 h8
  intro q hq
  unfold putQs
  rw [set_at _ _ _ _ (by omega)]
  split
  · rename_i e
    subst e
    exact queue_snoc (g4 q hq) h8 h4 h7
  · exact g4 q hq

/-- The queue of q, with what is put. -/
def allQ (s : Ck) (p : Nat) (v : List Int) (q : Nat) : List (List Int) := if q = p then s.qs[q]! ++ [v] else s.qs[q]!

theorem put_keeps : (reduceL (putQs s p v)).length = s.qs.length ∧ (∀ q, q < s.qs.length → queueB s.qs.length q (reduceL (putQs s p v))[q]! = true) ∧
    (∀ q, q < s.qs.length → ∃ k, k ≤ (allQ s p v q).length ∧ (reduceL (putQs s p v))[q]! = (allQ s p v q).drop k) ∧ total (reduceL (putQs s p v)) ≤ total s.qs + 1 ∧ beatenL (reduceL (putQs s p v)) < 0 := by
  have hf := put_form h
  obtain ⟨h1, h2, h3, h4, h5, h6, h7, h8⟩ := put_parts h
  have hp : p < s.qs.length := by omega
  have ht : total (putQs s p v) = total s.qs + 1 := by
    unfold total putQs
    rw [List.map_set]
    have := sum_set (s.qs.map List.length) p ((s.qs[p]! ++ [v]).length) (by simpa using hp)
    rw [getElem!_pos (s.qs.map List.length) p (by simpa using hp), List.getElem_map, ← getElem!_pos s.qs p hp, List.length_append, List.length_singleton] at this
    rw [List.length_append, List.length_singleton]
    omega
  have hl : (putQs s p v).length = s.qs.length := by simp [putQs]
  have key := reduce_keeps (fun qs => qs.length = s.qs.length ∧ (∀ q, q < s.qs.length → queueB s.qs.length q qs[q]! = true) ∧ (∀ q, q < s.qs.length → ∃ k, k ≤ (allQ s p v q).length ∧ qs[q]! = (allQ s p v q).drop k) ∧ total qs ≤ total s.qs + 1) ?_ (putQs s p v) ⟨hl, hf, ?_, by omega⟩
  · exact ⟨key.1.1, key.1.2.1, key.1.2.2.1, key.1.2.2.2, key.2⟩
  · rintro qs b ⟨k1, k2, k3, k4⟩ hb hbt
    refine ⟨by rw [drop_len]; exact k1, fun q hq => ?_, fun q hq => ?_, by have := total_drop qs b hb (beaten_pos _ _ hbt); omega⟩
    · unfold dropAt
      rw [set_at _ _ _ _ hb]
      split
      · rename_i e; subst e; exact queue_drop (k2 q hq)
      · exact k2 q hq
    · unfold dropAt
      rw [set_at _ _ _ _ hb]
      obtain ⟨k, g1, g2⟩ := k3 q hq
      split
      · rename_i e
        subst e
        have := beaten_pos _ _ hbt
        rw [g2, List.length_drop] at this
        exact ⟨k + 1, by omega, by rw [g2, List.drop_drop]⟩
      · exact ⟨k, g1, g2⟩
  · intro q hq
    refine ⟨0, Nat.zero_le _, ?_⟩
    unfold putQs allQ
    rw [set_at _ _ _ _ hp, List.drop_zero]
    split
    · rename_i e; subst e; rfl
    · rfl

theorem put_valid : validC (putC s p v) = true := by
  obtain ⟨k1, k2, k3, k4, k5⟩ := put_keeps h
  obtain ⟨h1, _⟩ := put_parts h
  obtain ⟨g1, g2, g3, g4⟩ := form_parts.1 (valid_parts.1 h1).1
  refine valid_parts.2 ⟨form_parts.2 ⟨?_, ?_, ?_, ?_⟩, k5, rfl, rfl⟩
  · show 1 ≤ (reduceL (putQs s p v)).length; omega
  · show (reduceL (putQs s p v)).length ≤ 8; omega
  · show s.ended.length = (reduceL (putQs s p v)).length; omega
  · show ∀ q, q < (reduceL (putQs s p v)).length → queueB (reduceL (putQs s p v)).length q (reduceL (putQs s p v))[q]! = true
    rw [k1]; exact k2
end

/-- The found cut is at least every stamp of its candidates. -/
theorem cut_over {s : Ck} (h : validC s = true) (hc : s.cut ≠ []) : s.done = true ∧ s.cut.length = s.qs.length ∧ ∀ q, q < s.qs.length → 0 < s.qs[q]!.length ∧ leqB s.qs[q]![0]! s.cut = true := by
  obtain ⟨h1, h2, h3, h4⟩ := valid_parts.1 h
  obtain ⟨g1, g2, g3, g4⟩ := form_parts.1 h1
  have ha : allB s.qs = true := by
    cases ha : allB s.qs with
    | true => rfl
    | false => rw [← h4] at hc; simp [cutB, ha] at hc
  have hcut : s.cut = cutOf s.qs := by rw [← h4, cutB, ha]; rfl
  have hall := (range_all _ _).1 ha
  refine ⟨by rw [← h3, doneB, ha]; rfl, by rw [hcut]; simp [cutOf], fun q hq => ?_⟩
  have hq0 := hall q hq
  rw [decide_eq_true_eq] at hq0
  refine ⟨hq0, (range_all _ _).2 fun i hi => ?_⟩
  obtain ⟨_, g5⟩ := queue_parts.1 (g4 q hq)
  have hst := (g5 0 hq0).1
  simp only [stampB, Bool.and_eq_true, decide_eq_true_eq] at hst
  rw [hst.1] at hi
  have hi0 := hall i hi
  rw [decide_eq_true_eq] at hi0
  have hci : s.cut[i]! = s.qs[i]![0]![i]! := by
    rw [hcut, getElem!_pos _ i (by simp [cutOf]; exact hi)]
    simp [cutOf]
  rw [hci, decide_eq_true_eq]
  by_cases e : q = i
  · subst e; exact Int.le_refl _
  have hb := (range_any_false _ _).1 (beaten_none s.qs h2 i hi) q hq
  simp only [beatsB, Bool.and_eq_false_iff, decide_eq_false_iff_not] at hb
  rcases hb with hb | hb | hb | hb
  · exact absurd e hb
  · exact absurd hi0 hb
  · exact absurd hq0 hb
  · omega
theorem cut_none {s : Ck} (h : validC s = true) (hd : s.done = false) : s.cut = [] := by
  obtain ⟨h1, h2, h3, h4⟩ := valid_parts.1 h
  rw [hd, doneB, Bool.or_eq_false_iff] at h3
  rw [← h4, cutB, h3.1]
  rfl

end Go.Proofs.Ytfcpnggdpaeldaa

/-
  Traces in plain words, and how they are read from memory. No program is named here.
-/
namespace Go.Proofs.Ytfcpnggdpaeldaa
open Go.RowKit
set_option linter.unusedVariables false

/-! ### Traces -/
structure Asg where
  var : Int
  value : Int
deriving Inhabited, DecidableEq
structure Ev where
  kind : Int
  peer : Int
  msg : Int
  time : Int
  asg : List Asg
deriving Inhabited, DecidableEq
structure Vr where
  name : ByteArray
  init : Int
deriving Inhabited
structure Pr where
  name : ByteArray
  vars : List Vr
  events : List Ev
deriving Inhabited
abbrev Tr := List Pr

/-! ### How they are read -/
def RAsg (w : World) (cs : List Value) (a : Asg) : Prop := cs = [.int .i64 a.var, .int .i64 a.value]
theorem rasg_lasts : Lasts RAsg := fun _ _ _ _ h _ => h
def REv (w : World) (cs : List Value) (e : Ev) : Prop := ∃ v, cs = [.int .i64 e.kind, .int .i64 e.peer, .int .i64 e.msg, .int .i64 e.time, v] ∧ Sl RAsg 2 w v e.asg
theorem rev_lasts : Lasts REv := fun _ _ _ _ ⟨v, h, hs⟩ e => ⟨v, h, hs.ext rasg_lasts e⟩
def RVr (w : World) (cs : List Value) (x : Vr) : Prop := cs = [.string x.name, .int .i64 x.init]
theorem rvr_lasts : Lasts RVr := fun _ _ _ _ h _ => h
def RPr (w : World) (cs : List Value) (x : Pr) : Prop := ∃ vv ve, cs = [.string x.name, vv, ve] ∧ Sl RVr 2 w vv x.vars ∧ Sl REv 5 w ve x.events
theorem rpr_lasts : Lasts RPr := fun _ _ _ _ ⟨a, b, h, h1, h2⟩ e => ⟨a, b, h, h1.ext rvr_lasts e, h2.ext rev_lasts e⟩
/-- The trace's one cell reads as t. -/
def TrAt (w : World) (v : Value) (t : Tr) : Prop := Sl RPr 3 w v t
theorem TrAt.ext {w w' : World} {v : Value} {t : Tr} (h : TrAt w v t) (e : Ext w w') : TrAt w' v t := Sl.ext rpr_lasts h e

/-- The cells of one element of several. -/
theorem Sl.cellsOf {α : Type} [Inhabited α] {R : World → List Value → α → Prop} {k : Nat} {w : World} {v : Value} {l : List α} (h : Sl R k w v l) (i : Nat) (hi : i < l.length) :
    ∃ b off c vs, v = .slice (some ⟨b, off, none⟩) l.length c ∧ l.length ≤ c ∧ b < w.heap.size ∧ vs.length = k ∧ R w vs l[i]! ∧ ∀ j, j < k → w.cell? ⟨b, off + i * k + j, none⟩ = some vs[j]! := by
  obtain ⟨a, c, rfl, hlc, h⟩ := h
  obtain ⟨b, off, rfl, hb, hc⟩ := h (by intro e; simp [e] at hi)
  obtain ⟨vs, h1, h2, h3⟩ := hc i hi
  exact ⟨b, off, c, vs, rfl, hlc, hb, h1, h2, h3⟩
theorem Sl.sh {α : Type} [Inhabited α] {R : World → List Value → α → Prop} {k : Nat} {w : World} {v : Value} {l : List α} (h : Sl R k w v l) : ∃ a c, v = .slice a l.length c ∧ l.length ≤ c := by
  obtain ⟨a, c, h1, h2, _⟩ := h; exact ⟨a, c, h1, h2⟩

/-- A process of a trace. -/
theorem proc_at {w : World} {v : Value} {t : Tr} (h : TrAt w v t) (p : Nat) (hp : p < t.length) :
    ∃ B O C vv ve, v = .slice (some ⟨B, O, none⟩) t.length C ∧ t.length ≤ C ∧ B < w.heap.size ∧ w.cell? ⟨B, O + p * 3, none⟩ = some (.string t[p]!.name) ∧ w.cell? ⟨B, O + p * 3 + 1, none⟩ = some vv ∧ w.cell? ⟨B, O + p * 3 + 2, none⟩ = some ve ∧ Sl RVr 2 w vv t[p]!.vars ∧ Sl REv 5 w ve t[p]!.events := by
  obtain ⟨B, O, C, vs, rfl, hlc, hB, h1, ⟨vv, ve, rfl, hv, he⟩, h3⟩ := Sl.cellsOf h p hp
  exact ⟨B, O, C, vv, ve, rfl, hlc, hB, by simpa using h3 0 (by omega), by simpa using h3 1 (by omega), by simpa using h3 2 (by omega), hv, he⟩
/-- An event of a process. -/
theorem event_at {w : World} {v : Value} {l : List Ev} (h : Sl REv 5 w v l) (i : Nat) (hi : i < l.length) :
    ∃ B O C va, v = .slice (some ⟨B, O, none⟩) l.length C ∧ l.length ≤ C ∧ B < w.heap.size ∧ w.cell? ⟨B, O + i * 5, none⟩ = some (.int .i64 l[i]!.kind) ∧ w.cell? ⟨B, O + i * 5 + 1, none⟩ = some (.int .i64 l[i]!.peer) ∧ w.cell? ⟨B, O + i * 5 + 2, none⟩ = some (.int .i64 l[i]!.msg) ∧
      w.cell? ⟨B, O + i * 5 + 3, none⟩ = some (.int .i64 l[i]!.time) ∧ w.cell? ⟨B, O + i * 5 + 4, none⟩ = some va ∧ Sl RAsg 2 w va l[i]!.asg := by
  obtain ⟨B, O, C, vs, rfl, hlc, hB, h1, ⟨va, rfl, ha⟩, h3⟩ := Sl.cellsOf h i hi
  exact ⟨B, O, C, va, rfl, hlc, hB, by simpa using h3 0 (by omega), by simpa using h3 1 (by omega), by simpa using h3 2 (by omega), by simpa using h3 3 (by omega), by simpa using h3 4 (by omega), ha⟩
theorem var_at {w : World} {v : Value} {l : List Vr} (h : Sl RVr 2 w v l) (i : Nat) (hi : i < l.length) :
    ∃ B O C, v = .slice (some ⟨B, O, none⟩) l.length C ∧ l.length ≤ C ∧ B < w.heap.size ∧ w.cell? ⟨B, O + i * 2, none⟩ = some (.string l[i]!.name) ∧ w.cell? ⟨B, O + i * 2 + 1, none⟩ = some (.int .i64 l[i]!.init) := by
  obtain ⟨B, O, C, vs, rfl, hlc, hB, h1, h2, h3⟩ := Sl.cellsOf h i hi
  have e : vs = [.string l[i]!.name, .int .i64 l[i]!.init] := h2
  subst e
  exact ⟨B, O, C, rfl, hlc, hB, by simpa using h3 0 (by omega), by simpa using h3 1 (by omega)⟩
theorem asg_at {w : World} {v : Value} {l : List Asg} (h : Sl RAsg 2 w v l) (i : Nat) (hi : i < l.length) :
    ∃ B O C, v = .slice (some ⟨B, O, none⟩) l.length C ∧ l.length ≤ C ∧ B < w.heap.size ∧ w.cell? ⟨B, O + i * 2, none⟩ = some (.int .i64 l[i]!.var) ∧ w.cell? ⟨B, O + i * 2 + 1, none⟩ = some (.int .i64 l[i]!.value) := by
  obtain ⟨B, O, C, vs, rfl, hlc, hB, h1, h2, h3⟩ := Sl.cellsOf h i hi
  have e : vs = [.int .i64 l[i]!.var, .int .i64 l[i]!.value] := h2
  subst e
  exact ⟨B, O, C, rfl, hlc, hB, by simpa using h3 0 (by omega), by simpa using h3 1 (by omega)⟩

/-! ### What makes a trace valid, but for its order -/
def letterB (c : UInt8) : Bool := (decide (97 ≤ c.toNat) && decide (c.toNat ≤ 122)) || (decide (65 ≤ c.toNat) && decide (c.toNat ≤ 90))
def digitB (c : UInt8) : Bool := decide (48 ≤ c.toNat) && decide (c.toNat ≤ 57)
def wordB (c : UInt8) : Bool := letterB c || digitB c || decide (c.toNat = 95)
def nameB (s : ByteArray) : Bool := decide (1 ≤ s.size) && (decide (s.size ≤ 16) && (letterB s[0]! && (List.range s.size).all fun i => wordB s[i]!))
def valueB (n : Int) : Bool := decide (-1073741824 ≤ n) && decide (n ≤ 1073741824)
def varB (l : List Vr) (i : Nat) : Bool := nameB l[i]!.name && ((List.range i).all fun j => !(l[j]!.name.toList == l[i]!.name.toList)) && valueB l[i]!.init
def headB (t : Tr) (p : Nat) : Bool :=
  nameB t[p]!.name && (((List.range p).all fun q => !(t[q]!.name.toList == t[p]!.name.toList)) && (decide (t[p]!.vars.length ≤ 8) && (((List.range t[p]!.vars.length).all fun i => varB t[p]!.vars i) && decide (t[p]!.events.length ≤ 64))))
def formedB (n p : Nat) (e : Ev) : Bool :=
  if e.kind = 1 then decide (e.peer = 0) && decide (e.msg = 0)
  else (decide (e.kind = 2) || decide (e.kind = 3)) && (decide (0 ≤ e.peer) && (decide (e.peer < n) && (decide (e.peer ≠ p) && (decide (0 ≤ e.msg) && decide (e.msg ≤ 199)))))
def asgB (nv : Nat) (l : List Asg) (i : Nat) : Bool := decide (0 ≤ l[i]!.var) && (decide (l[i]!.var < nv) && (valueB l[i]!.value && (List.range i).all fun j => !decide (l[j]!.var = l[i]!.var)))
def eventB (t : Tr) (p i : Nat) : Bool :=
  formedB t.length p t[p]!.events[i]! && (decide (0 ≤ t[p]!.events[i]!.time) && (decide (t[p]!.events[i]!.time ≤ 1099511627776) && (decide (i = 0 ∨ t[p]!.events[i - 1]!.time ≤ t[p]!.events[i]!.time) &&
    (decide (t[p]!.events[i]!.asg.length ≤ 8) && (List.range t[p]!.events[i]!.asg.length).all fun k => asgB t[p]!.vars.length t[p]!.events[i]!.asg k))))
/-- All but the messages and the order. -/
def shapeB (t : Tr) : Bool :=
  decide (1 ≤ t.length) && (decide (t.length ≤ 8) && (((List.range t.length).all fun p => headB t p) && (List.range t.length).all fun p => (List.range t[p]!.events.length).all fun i => eventB t p i))

end Go.Proofs.Ytfcpnggdpaeldaa

/-
  Small words on traces: an error that is 0 just where a test holds; what a process's and an event's tests are; lists of a bearable length. No program is named here.
-/
namespace Go.Proofs.Ytfcpnggdpaeldaa
open Go.RowKit
set_option linter.unusedVariables false

/-- An error that is 0 just where b holds. -/
def ErrIff (w w' : World) (e : Ending) (b : Bool) : Prop := ∃ E : Int, e = .returned (.int .i64 E) ∧ (E = 0 ↔ b = true) ∧ Ext w w'
theorem any_take {α : Type} [Inhabited α] (l : List α) (k : Nat) (hk : k ≤ l.length) (f : α → Bool) : (l.take k).any f = (List.range k).any fun i => f l[i]! := by
  rw [Bool.eq_iff_iff, range_any, List.any_eq_true]
  constructor
  · rintro ⟨x, hx, h⟩
    obtain ⟨i, hi, rfl⟩ := List.getElem_of_mem hx
    rw [List.length_take] at hi
    exact ⟨i, by omega, by rw [getElem!_pos l i (by omega)]; simpa using h⟩
  · rintro ⟨i, hi, h⟩
    exact ⟨l[i]!, by rw [getElem!_pos l i (by omega)]; exact List.mem_take_iff_getElem.2 ⟨i, by omega, rfl⟩, h⟩
theorem headB_parts {t : Tr} {p : Nat} : headB t p = true ↔ nameB t[p]!.name = true ∧ (∀ q, q < p → (t[q]!.name.toList == t[p]!.name.toList) = false) ∧ t[p]!.vars.length ≤ 8 ∧ (∀ i, i < t[p]!.vars.length → varB t[p]!.vars i = true) ∧ t[p]!.events.length ≤ 64 := by
  simp only [headB, Bool.and_eq_true, decide_eq_true_eq, range_all, Bool.not_eq_true']
theorem varB_parts {l : List Vr} {i : Nat} : varB l i = true ↔ (nameB l[i]!.name = true ∧ ∀ j, j < i → (l[j]!.name.toList == l[i]!.name.toList) = false) ∧ valueB l[i]!.init = true := by
  simp only [varB, Bool.and_eq_true, range_all, Bool.not_eq_true']
/-- No list of a trace is longer than a machine can bear. -/
def SmallTr (t : Tr) : Prop := t.length ≤ 1000000 ∧ ∀ p, p < t.length → t[p]!.vars.length ≤ 1000000 ∧ t[p]!.events.length ≤ 1000000 ∧ ∀ i, i < t[p]!.events.length → t[p]!.events[i]!.asg.length ≤ 1000000
/-- The same, but for the events of a process: these may be any number (the law's own count of them may run over). -/
def LooseTr (t : Tr) : Prop := t.length ≤ 1000000 ∧ ∀ p, p < t.length → t[p]!.vars.length ≤ 1000000 ∧ ∀ i, i < t[p]!.events.length → t[p]!.events[i]!.asg.length ≤ 1000000
theorem SmallTr.loose {t : Tr} (h : SmallTr t) : LooseTr t := ⟨h.1, fun p hp => ⟨(h.2 p hp).1, (h.2 p hp).2.2⟩⟩
theorem LooseTr.small {t : Tr} (h : LooseTr t) (he : ∀ p, p < t.length → headB t p = true) : SmallTr t :=
  ⟨h.1, fun p hp => ⟨(h.2 p hp).1, by have := (headB_parts.1 (he p hp)).2.2.2.2; omega, (h.2 p hp).2⟩⟩

end Go.Proofs.Ytfcpnggdpaeldaa

/-
  What makes a trace valid: its messages are paired, and no event happens before itself. No program is named here.
-/
namespace Go.Proofs.Ytfcpnggdpaeldaa
open Go.RowKit
set_option linter.unusedVariables false

/-! ### Events by their names: the process, and the place from 0 on -/
abbrev Eid := Nat × Nat
def Inn (t : Tr) (x : Eid) : Prop := x.1 < t.length ∧ x.2 < t[x.1]!.events.length
instance (t : Tr) (x : Eid) : Decidable (Inn t x) := inferInstanceAs (Decidable (_ ∧ _))
def ev (t : Tr) (x : Eid) : Ev := t[x.1]!.events[x.2]!
/-- The events ahead of (p, i), in order. -/
def idsTo (t : Tr) (p i : Nat) : List Eid := ((List.range p).flatMap fun q => (List.range t[q]!.events.length).map fun j => (q, j)) ++ (List.range i).map fun j => (p, j)
def ids (t : Tr) : List Eid := idsTo t t.length 0

theorem idsTo_zero (t : Tr) : idsTo t 0 0 = [] := rfl
theorem idsTo_succ (t : Tr) (p i : Nat) : idsTo t p (i + 1) = idsTo t p i ++ [(p, i)] := by
  simp [idsTo, List.range_succ, List.append_assoc]
theorem idsTo_next (t : Tr) (p : Nat) : idsTo t p t[p]!.events.length = idsTo t (p + 1) 0 := by
  simp [idsTo, List.range_succ, List.flatMap_append]
theorem mem_idsTo {t : Tr} {p i : Nat} {x : Eid} : x ∈ idsTo t p i ↔ (x.1 < p ∧ x.2 < t[x.1]!.events.length) ∨ (x.1 = p ∧ x.2 < i) := by
  obtain ⟨q, j⟩ := x
  simp only [idsTo, List.mem_append, List.mem_flatMap, List.mem_map, List.mem_range, Prod.mk.injEq]
  constructor
  · rintro (⟨q', h1, j', h2, rfl, rfl⟩ | ⟨j', h, rfl, rfl⟩)
    · exact .inl ⟨h1, h2⟩
    · exact .inr ⟨rfl, h⟩
  · rintro (⟨h1, h2⟩ | ⟨rfl, h⟩)
    · exact .inl ⟨q, h1, j, h2, rfl, rfl⟩
    · exact .inr ⟨j, h, rfl, rfl⟩
theorem mem_ids {t : Tr} {x : Eid} : x ∈ ids t ↔ Inn t x := by
  unfold ids; rw [mem_idsTo]; unfold Inn; omega

theorem idsTo_grow (t : Tr) (p i : Nat) : ∀ k, i ≤ k → idsTo t p i <+: idsTo t p k := by
  intro k hk
  induction k with
  | zero => obtain rfl : i = 0 := by omega
            exact List.prefix_rfl
  | succ k ih =>
    by_cases e : i = k + 1
    · subst e; exact List.prefix_rfl
    · rw [idsTo_succ]; exact (ih (by omega)).trans (List.prefix_append _ _)
theorem idsTo_row (t : Tr) (p : Nat) : ∀ q, p ≤ q → idsTo t p 0 <+: idsTo t q 0 := by
  intro q hq
  induction q with
  | zero => obtain rfl : p = 0 := by omega
            exact List.prefix_rfl
  | succ q ih =>
    by_cases e : p = q + 1
    · subst e; exact List.prefix_rfl
    · rw [← idsTo_next]; exact (ih (by omega)).trans (idsTo_grow t q 0 _ (by omega))
theorem idsTo_ids {t : Tr} {p i : Nat} (hp : p < t.length) (hi : i ≤ t[p]!.events.length) : idsTo t p i <+: ids t := by
  refine (idsTo_grow t p i _ hi).trans ?_
  rw [idsTo_next]
  exact idsTo_row t (p + 1) t.length (by omega)
/-- The order of the list. -/
def before (x y : Eid) : Prop := x.1 < y.1 ∨ (x.1 = y.1 ∧ x.2 < y.2)
theorem idsTo_sorted (t : Tr) : ∀ p i, (idsTo t p i).Pairwise before := by
  have inner : ∀ p i, (idsTo t p 0).Pairwise before → (idsTo t p i).Pairwise before := by
    intro p i h
    induction i with
    | zero => exact h
    | succ i ih =>
      rw [idsTo_succ, List.pairwise_append]
      refine ⟨ih, by simp, fun x hx y hy => ?_⟩
      rw [List.mem_singleton] at hy; subst hy
      rw [mem_idsTo] at hx
      unfold before; omega
  intro p i
  induction p generalizing i with
  | zero => exact inner 0 i (by simp [idsTo_zero])
  | succ p ih => exact inner (p + 1) i (by rw [← idsTo_next]; exact ih _)

/-! ### The first event of a kind with a number -/
def hit (t : Tr) (k m : Int) (x : Eid) : Bool := decide ((ev t x).kind = k) && decide ((ev t x).msg = m)
def firstIn (pre : List Eid) (t : Tr) (k m : Int) : Option Eid := pre.find? (hit t k m)
def findE (t : Tr) (k m : Int) : Option Eid := firstIn (ids t) t k m
theorem hit_iff {t : Tr} {k m : Int} {x : Eid} : hit t k m x = true ↔ (ev t x).kind = k ∧ (ev t x).msg = m := by
  simp only [hit, Bool.and_eq_true, decide_eq_true_eq]
theorem findE_some {t : Tr} {k m : Int} {x : Eid} (h : findE t k m = some x) : Inn t x ∧ (ev t x).kind = k ∧ (ev t x).msg = m := by
  unfold findE firstIn at h
  exact ⟨mem_ids.1 (List.mem_of_find?_eq_some h), hit_iff.1 (List.find?_some h)⟩
theorem findE_none {t : Tr} {k m : Int} (h : findE t k m = none) {x : Eid} (hx : Inn t x) : ¬ ((ev t x).kind = k ∧ (ev t x).msg = m) := by
  unfold findE firstIn at h
  intro e
  have := List.find?_eq_none.1 h x (mem_ids.2 hx)
  exact this (hit_iff.2 e)
theorem firstIn_snoc (pre : List Eid) (t : Tr) (k m : Int) (x : Eid) : firstIn (pre ++ [x]) t k m = (firstIn pre t k m).or (if (ev t x).kind = k ∧ (ev t x).msg = m then some x else none) := by
  unfold firstIn
  rw [List.find?_append]
  congr 1
  by_cases h : (ev t x).kind = k ∧ (ev t x).msg = m
  · rw [if_pos h]; simp [hit_iff.2 h]
  · rw [if_neg h]
    have : hit t k m x = false := by rw [Bool.eq_false_iff]; exact fun e => h (hit_iff.1 e)
    simp [this]

/-! ### Messages in pairs -/
/-- Process p sends number m to process q. -/
def sendsB (t : Tr) (p : Nat) (m q : Int) : Bool := t[p]!.events.any fun s => decide (s.kind = 2) && (decide (s.msg = m) && decide (s.peer = q))
/-- No event of the same kind with the same number is in the list; a receive has its send. -/
def pairStep (t : Tr) (pre : List Eid) (x : Eid) : Bool :=
  decide ((ev t x).kind = 1) || ((firstIn pre t (ev t x).kind (ev t x).msg).isNone && (decide ((ev t x).kind ≠ 3) || sendsB t (ev t x).peer.toNat (ev t x).msg x.1))
def pairOf (t : Tr) (x : Eid) : Bool :=
  decide ((ev t x).kind = 1) || (decide (findE t (ev t x).kind (ev t x).msg = some x) && (decide ((ev t x).kind ≠ 3) || sendsB t (ev t x).peer.toNat (ev t x).msg x.1))
def pairB (t : Tr) : Bool := (ids t).all (pairOf t)

theorem pairStep_of {t : Tr} {pre post : List Eid} {x : Eid} (h : ids t = pre ++ x :: post) : pairStep t pre x = pairOf t x := by
  have hs := idsTo_sorted t t.length 0
  have e : (firstIn pre t (ev t x).kind (ev t x).msg).isNone = decide (findE t (ev t x).kind (ev t x).msg = some x) := by
    unfold findE firstIn
    rw [h, List.find?_append, List.find?_cons, hit_iff.2 ⟨rfl, rfl⟩]
    cases hf : pre.find? (hit t (ev t x).kind (ev t x).msg) with
    | none => simp
    | some y =>
      have hy := List.mem_of_find?_eq_some hf
      have hl : ids t = pre ++ x :: post := h
      unfold ids at hl
      rw [hl, List.pairwise_append] at hs
      have hb := hs.2.2 y hy x (by simp)
      have hne : y ≠ x := by rintro rfl; unfold before at hb; omega
      simp [hne]
  unfold pairStep pairOf
  rw [e]

theorem pairB_no {t : Tr} {pre : List Eid} {x : Eid} (h : pre ++ [x] <+: ids t) (hb : pairStep t pre x = false) : pairB t = false := by
  obtain ⟨post, hp⟩ := h
  have hp : ids t = pre ++ x :: post := by rw [← hp]; simp
  rw [pairStep_of hp] at hb
  unfold pairB
  rw [List.all_eq_false]
  exact ⟨x, by rw [hp]; simp, by rw [hb]; simp⟩
/-- All steps of a list are good. -/
def okPre (t : Tr) (l : List Eid) : Prop := ∀ pre x, pre ++ [x] <+: l → pairStep t pre x = true
theorem okPre_nil (t : Tr) : okPre t [] := fun pre x h => by have := h.length_le; simp at this
theorem okPre_snoc {t : Tr} {l : List Eid} {x : Eid} (h : okPre t l) (hx : pairStep t l x = true) : okPre t (l ++ [x]) := by
  intro pre y hp
  rcases List.prefix_concat_iff.1 hp with e | hp
  · have := List.append_inj' e rfl
    obtain ⟨rfl, e2⟩ := this
    simp only [List.cons.injEq, and_true] at e2
    subst e2; exact hx
  · exact h pre y hp
theorem pairB_yes {t : Tr} (h : okPre t (ids t)) : pairB t = true := by
  unfold pairB
  rw [List.all_eq_true]
  intro x hx
  obtain ⟨pre, post, hp⟩ := List.append_of_mem hx
  rw [← pairStep_of hp]
  exact h pre x ⟨post, by rw [hp]; simp⟩

theorem pairB_at {t : Tr} (h : pairB t = true) {x : Eid} (hx : Inn t x) (hk : (ev t x).kind ≠ 1) :
    findE t (ev t x).kind (ev t x).msg = some x ∧ ((ev t x).kind = 3 → sendsB t (ev t x).peer.toNat (ev t x).msg x.1 = true) := by
  have := List.all_eq_true.1 h x (mem_ids.2 hx)
  unfold pairOf at this
  simp only [Bool.or_eq_true, Bool.and_eq_true, decide_eq_true_eq] at this
  rcases this with e | ⟨e, f⟩
  · exact absurd e hk
  · exact ⟨e, fun h3 => by rcases f with f | f; exact absurd h3 f; exact f⟩

/-! ### Directly before -/
def Dir (t : Tr) (y x : Eid) : Prop := Inn t x ∧ ((y.1 = x.1 ∧ y.2 + 1 = x.2) ∨ ((ev t x).kind = 3 ∧ findE t 2 (ev t x).msg = some y))
theorem Dir.inn {t : Tr} {y x : Eid} (h : Dir t y x) : Inn t y := by
  obtain ⟨hx, (⟨h1, h2⟩ | ⟨_, h⟩)⟩ := h
  · unfold Inn at *; rw [h1]; omega
  · exact (findE_some h).1
def Cyc (t : Tr) : Prop := ∃ x, Relation.TransGen (Dir t) x x
open Classical in
/-- A trace is valid. -/
noncomputable def validT (t : Tr) : Bool := shapeB t && (pairB t && decide (¬ Cyc t))

theorem tg_inn {t : Tr} {y x : Eid} (h : Relation.TransGen (Dir t) y x) : Inn t x := by
  induction h with
  | single h => exact h.1
  | tail _ h _ => exact h.1
theorem tg_inn_l {t : Tr} {y x : Eid} (h : Relation.TransGen (Dir t) y x) : Inn t y := by
  induction h with
  | single h => exact h.inn
  | tail _ _ ih => exact ih

/-- The reference's peeling: what was taken has an order. -/
theorem acc_no_cyc {t : Tr} (h : ∀ x, Inn t x → Acc (Dir t) x) : ¬ Cyc t := by
  rintro ⟨x, hx⟩
  have ha := (h x (tg_inn hx)).transGen
  induction ha with
  | intro y _ ih => exact ih y hx hx
theorem acc_step {t : Tr} {p i : Nat} (hprev : ∀ j, j < i → Acc (Dir t) (p, j)) (hs : ∀ s, (ev t (p, i)).kind = 3 → findE t 2 (ev t (p, i)).msg = some s → Acc (Dir t) s) : Acc (Dir t) (p, i) := by
  refine ⟨_, fun y hy => ?_⟩
  obtain ⟨_, (⟨h1, h2⟩ | ⟨h3, h⟩)⟩ := hy
  · obtain ⟨q, j⟩ := y
    simp only at h1 h2
    subst h1
    exact hprev j (by omega)
  · exact hs y h3 h

/-! ### Directly behind -/
/-- What the program takes for the events directly behind x. -/
def aft (t : Tr) (x : Eid) : List Eid :=
  (if x.2 + 1 < t[x.1]!.events.length then [(x.1, x.2 + 1)] else []) ++ (if (ev t x).kind = 2 then (findE t 3 (ev t x).msg).toList else [])
theorem mem_aft {t : Tr} (hp : pairB t = true) {x y : Eid} (hx : Inn t x) : y ∈ aft t x ↔ Dir t x y := by
  unfold aft
  rw [List.mem_append]
  constructor
  · rintro (h | h)
    · split at h
      · rename_i hlt
        rw [List.mem_singleton] at h; subst h
        exact ⟨⟨hx.1, hlt⟩, .inl ⟨rfl, rfl⟩⟩
      · simp at h
    · split at h
      · rename_i hk
        rw [Option.mem_toList] at h
        obtain ⟨h1, h2, h3⟩ := findE_some h
        refine ⟨h1, .inr ⟨h2, ?_⟩⟩
        rw [h3]
        have := (pairB_at hp hx (by rw [hk]; decide)).1
        rwa [hk] at this
      · simp at h
  · rintro ⟨hy, (⟨h1, h2⟩ | ⟨h3, h⟩)⟩
    · left
      have e : y = (x.1, x.2 + 1) := by obtain ⟨a, b⟩ := y; simp only at h1 h2; rw [← h2, ← h1]
      subst e
      rw [if_pos hy.2]; simp
    · right
      obtain ⟨_, h4, h5⟩ := findE_some h
      rw [if_pos h4, Option.mem_toList, h5]
      have := (pairB_at hp hy (by rw [h3]; decide)).1
      rwa [h3] at this

/-! ### The search for a way from an event to itself -/
/-- S: seen; R: still to be looked at; X: in work. -/
structure Srch (t : Tr) (a : Eid) (S R X : List Eid) : Prop where
  seen : ∀ y, y ∈ S → Relation.TransGen (Dir t) a y
  rest : ∀ y, y ∈ R → y = a ∨ y ∈ S
  work : ∀ y, y ∈ X → y = a ∨ y ∈ S
  none : a ∉ S
  all : ∀ z, z = a ∨ z ∈ S → z ∈ R ∨ z ∈ X ∨ ∀ y, Dir t z y → y ∈ S

theorem Srch.start (t : Tr) (a : Eid) : Srch t a [] [a] [] := ⟨by simp, by simp, by simp, by simp, by simp⟩
theorem Srch.take {t : Tr} {a x : Eid} {S R : List Eid} (h : Srch t a S (R ++ [x]) []) : Srch t a S R [x] where
  seen := h.seen
  rest := fun y hy => h.rest y (by simp [hy])
  work := fun y hy => h.rest y (by simp at hy; simp [hy])
  none := h.none
  all := fun z hz => by
    have := h.all z hz
    simp only [List.mem_append, List.mem_singleton, List.not_mem_nil, false_or] at this ⊢
    rcases this with (h | h) | h
    · exact .inl h
    · exact .inr (.inl h)
    · exact .inr (.inr h)
theorem Srch.push {t : Tr} {a x y : Eid} {S R : List Eid} (h : Srch t a S R [x]) (hd : Dir t x y) (hne : y ≠ a) : Srch t a (y :: S) (R ++ [y]) [x] where
  seen := fun z hz => by
    rcases List.mem_cons.1 hz with rfl | hz
    · rcases h.work x (by simp) with rfl | hx
      · exact .single hd
      · exact .tail (h.seen x hx) hd
    · exact h.seen z hz
  rest := fun z hz => by
    rcases List.mem_append.1 hz with hz | hz
    · rcases h.rest z hz with e | e
      · exact .inl e
      · exact .inr (by simp [e])
    · simp at hz; subst hz; exact .inr (by simp)
  work := fun z hz => by rcases h.work z hz with e | e; exact .inl e; exact .inr (by simp [e])
  none := fun hz => by
    rcases List.mem_cons.1 hz with e | e
    · exact hne e.symm
    · exact h.none e
  all := fun z hz => by
    have hz' : z = y ∨ (z = a ∨ z ∈ S) := by
      rcases hz with e | e
      · exact .inr (.inl e)
      · rcases List.mem_cons.1 e with e | e
        · exact .inl e
        · exact .inr (.inr e)
    rcases hz' with e | e
    · exact .inl (by simp [e])
    · rcases h.all z e with h1 | h1 | h1
      · exact .inl (by simp [h1])
      · exact .inr (.inl h1)
      · exact .inr (.inr fun v hv => by simp [h1 v hv])
theorem Srch.done {t : Tr} {a x : Eid} {S R : List Eid} (h : Srch t a S R [x]) (hall : ∀ y, Dir t x y → y ∈ S) : Srch t a S R [] where
  seen := h.seen
  rest := h.rest
  work := by simp
  none := h.none
  all := fun z hz => by
    rcases h.all z hz with h1 | h1 | h1
    · exact .inl h1
    · simp at h1; subst h1; exact .inr (.inr hall)
    · exact .inr (.inr h1)
theorem Srch.no {t : Tr} {a : Eid} {S : List Eid} (h : Srch t a S [] []) : ¬ Relation.TransGen (Dir t) a a := by
  have key : ∀ y, Relation.TransGen (Dir t) a y → y ∈ S := by
    intro y hy
    induction hy with
    | single hd => rcases h.all a (.inl rfl) with h1 | h1 | h1; simp at h1; simp at h1; exact h1 _ hd
    | tail _ hd ih => rcases h.all _ (.inr ih) with h1 | h1 | h1; simp at h1; simp at h1; exact h1 _ hd
  exact fun hc => h.none (key a hc)
theorem Srch.yes {t : Tr} {a x : Eid} {S R : List Eid} (h : Srch t a S R [x]) (hd : Dir t x a) : Relation.TransGen (Dir t) a a := by
  rcases h.work x (by simp) with rfl | hx
  · exact .single hd
  · exact .tail (h.seen x hx) hd

/-! ### What is not seen yet -/
def unseen (t : Tr) (S : List Eid) : Nat := ((ids t).filter fun y => !S.contains y).length
theorem filter_less {α : Type} (p q : α → Bool) (l : List α) (h : ∀ x, x ∈ l → q x = true → p x = true) : (l.filter q).length ≤ (l.filter p).length := by
  induction l with
  | nil => simp
  | cons a l ih =>
    have ih := ih fun x hx => h x (by simp [hx])
    have ha := h a (by simp)
    simp only [List.filter_cons]
    cases hq : q a with
    | true => rw [ha hq]; simpa using ih
    | false =>
      cases hp : p a with
      | true => simp; omega
      | false => simpa using ih
theorem filter_lt {α : Type} (p q : α → Bool) (l : List α) (h : ∀ x, x ∈ l → q x = true → p x = true) (a : α) (ha : a ∈ l) (h1 : p a = true) (h2 : q a = false) : (l.filter q).length < (l.filter p).length := by
  induction l with
  | nil => simp at ha
  | cons b l ih =>
    have hb := h b (by simp)
    have hl := filter_less p q l fun x hx => h x (by simp [hx])
    simp only [List.filter_cons]
    rcases List.mem_cons.1 ha with rfl | ha
    · rw [h1, h2]; simp; omega
    · have ih := ih (fun x hx => h x (by simp [hx])) ha
      cases hq : q b with
      | true => rw [hb hq]; simpa using ih
      | false =>
        cases hp : p b with
        | true => simp; omega
        | false => simpa using ih
theorem unseen_push {t : Tr} {S : List Eid} {y : Eid} (hy : Inn t y) (hn : y ∉ S) : unseen t (y :: S) < unseen t S := by
  refine filter_lt _ _ _ (fun x _ hx => ?_) y (mem_ids.2 hy) (by simpa using hn) (by simp)
  simp only [Bool.not_eq_true', List.contains_eq_mem, decide_eq_false_iff_not, List.mem_cons, not_or] at hx ⊢
  exact hx.2

/-! ### The search backwards, for the events before an event -/
structure Back (t : Tr) (a : Eid) (M Q : List Eid) : Prop where
  seen : ∀ y, y ∈ M → Relation.TransGen (Dir t) y a
  rest : ∀ y, y ∈ Q → Relation.TransGen (Dir t) y a
  all : ∀ z, z = a ∨ z ∈ M → ∀ y, Dir t y z → y ∈ M ∨ y ∈ Q
theorem Back.skip {t : Tr} {a x : Eid} {M Q : List Eid} (h : Back t a M (x :: Q)) (hx : x ∈ M) : Back t a M Q where
  seen := h.seen
  rest := fun y hy => h.rest y (by simp [hy])
  all := fun z hz y hy => by
    rcases h.all z hz y hy with e | e
    · exact .inl e
    · rcases List.mem_cons.1 e with rfl | e
      · exact .inl hx
      · exact .inr e
theorem Back.take {t : Tr} {a x : Eid} {M Q L : List Eid} (h : Back t a M (x :: Q)) (hL : ∀ y, y ∈ L ↔ Dir t y x) : Back t a (x :: M) (Q ++ L) where
  seen := fun y hy => by
    rcases List.mem_cons.1 hy with rfl | hy
    · exact h.rest _ (by simp)
    · exact h.seen y hy
  rest := fun y hy => by
    rcases List.mem_append.1 hy with hy | hy
    · exact h.rest y (by simp [hy])
    · exact .trans (.single ((hL y).1 hy)) (h.rest x (by simp))
  all := fun z hz y hy => by
    have hz' : z = x ∨ (z = a ∨ z ∈ M) := by
      rcases hz with e | e
      · exact .inr (.inl e)
      · rcases List.mem_cons.1 e with e | e
        · exact .inl e
        · exact .inr (.inr e)
    rcases hz' with e | e
    · subst e; exact .inr (by simp [(hL y).2 hy])
    · rcases h.all z e y hy with e | e
      · exact .inl (by simp [e])
      · rcases List.mem_cons.1 e with e | e
        · exact .inl (by simp [e])
        · exact .inr (by simp [e])
theorem Back.start {t : Tr} {a : Eid} {L : List Eid} (hL : ∀ y, y ∈ L ↔ Dir t y a) : Back t a [] L where
  seen := by simp
  rest := fun y hy => .single ((hL y).1 hy)
  all := fun z hz y hy => by
    simp at hz; subst hz; exact .inr ((hL y).2 hy)
theorem Back.fin {t : Tr} {a : Eid} {M : List Eid} (h : Back t a M []) (y : Eid) : y ∈ M ↔ Relation.TransGen (Dir t) y a := by
  refine ⟨h.seen y, fun hy => ?_⟩
  have key : ∀ x, Relation.TransGen (Dir t) y x → (x = a ∨ x ∈ M) → y ∈ M := by
    intro x hx
    induction hx with
    | single hd => intro hz; rcases h.all _ hz _ hd with e | e; exact e; simp at e
    | tail _ hd ih => intro hz; refine ih (.inr ?_); rcases h.all _ hz _ hd with e | e; exact e; simp at e
  exact key a hy (.inl rfl)

/-- What the reference takes for the events directly before x. -/
def bef (t : Tr) (x : Eid) : List Eid := (if 0 < x.2 then [(x.1, x.2 - 1)] else []) ++ (if (ev t x).kind = 3 then (findE t 2 (ev t x).msg).toList else [])
theorem mem_bef {t : Tr} {x y : Eid} (hx : Inn t x) : y ∈ bef t x ↔ Dir t y x := by
  unfold bef
  rw [List.mem_append]
  constructor
  · rintro (h | h)
    · split at h
      · rename_i hlt
        rw [List.mem_singleton] at h; subst h
        exact ⟨hx, .inl ⟨rfl, by simp; omega⟩⟩
      · simp at h
    · split at h
      · rename_i hk
        rw [Option.mem_toList] at h
        exact ⟨hx, .inr ⟨hk, h⟩⟩
      · simp at h
  · rintro ⟨_, (⟨h1, h2⟩ | ⟨h3, h⟩)⟩
    · left
      have e : y = (x.1, x.2 - 1) := by obtain ⟨a, b⟩ := y; simp only at h1 h2; rw [← h2, ← h1]; simp
      subst e
      rw [if_pos (by omega)]; simp
    · right
      rw [if_pos h3, Option.mem_toList]; exact h
/-- A receive of paired messages has its send. -/
theorem send_of {t : Tr} (hs : ∀ x, Inn t x → (ev t x).kind ≠ 1 → 0 ≤ (ev t x).peer ∧ (ev t x).peer < t.length) (hp : pairB t = true) {x : Eid} (hx : Inn t x) (hk : (ev t x).kind = 3) : ∃ s, findE t 2 (ev t x).msg = some s := by
  have h2 := (pairB_at hp hx (by rw [hk]; decide)).2 hk
  unfold sendsB at h2
  rw [List.any_eq_true] at h2
  obtain ⟨s, hs1, hs2⟩ := h2
  obtain ⟨j, hj, rfl⟩ := List.getElem_of_mem hs1
  simp only [Bool.and_eq_true, decide_eq_true_eq] at hs2
  have hpe := hs x hx (by rw [hk]; decide)
  cases hf : findE t 2 (ev t x).msg with
  | some s => exact ⟨s, rfl⟩
  | none =>
    have hI : Inn t ((ev t x).peer.toNat, j) := ⟨by simp only; omega, hj⟩
    exact absurd ⟨by simp only [ev]; rw [getElem!_pos _ j hj]; exact hs2.1, by simp only [ev]; rw [getElem!_pos _ j hj]; exact hs2.2.1⟩ (findE_none hf hI)

end Go.Proofs.Ytfcpnggdpaeldaa

/-
  The library's Clone on numbers.
-/
namespace Go.Proofs.Ytfcpnggdpaeldaa
open Go.RowKit
set_option linter.unusedVariables false

theorem info_cints : (Try.prog.info? 3).map (fun i => (i.zero, i.size, i.bytes)) = some (some (.int .i64 0), 1, 8) := by kernel_rfl

set_option maxHeartbeats 400000 in
theorem clone_cints (v : Value) (n : Nat) (xs : List Value) (w : World) (hv : CellsAt w v 1 n xs) (h1 : ∀ u ∈ xs, u.oneCell' = true) (hn : n ≤ 1000000) :
    Calls Try.prog 22 #[v] w fun e w' => ∃ v', e = .returned v' ∧ Row w' w.heap.size 3 1 v' n xs ∧ Ext w w' := by
  obtain ⟨i0, hi, hz0, hz1, hz2⟩ := info_parts info_cints
  obtain ⟨hl, a, c, rfl, hlc, hv⟩ := hv
  have HLC := Lib.hid hlc; clear hlc
  cases a with
  | none =>
    have hn0 : n = 0 := by
      rcases Nat.eq_zero_or_pos n with h | h
      · exact h
      · obtain ⟨_, _, h, _⟩ := hv h; simp at h
    subst hn0
    obtain rfl : xs = [] := List.eq_nil_of_length_eq_zero (by omega)
    clear hv h1 hn hl
    have heq := fun wx => Lib.run_eql_slice_nil (P := Try.prog) wx 30 3 none 0 c 0 0 Try.underlying30
    go_enter Try.func22, Try.ntmps22
    go_wp2
    go_ret
    exact ⟨_, rfl, Row.mkNil _ _ _ _, Ext.rf _⟩
  | some ad =>
    have heq := fun wx => Lib.run_eql_slice_nil (P := Try.prog) wx 30 3 (some ad) n c 0 0 Try.underlying30
    have HV := Lib.hid hv; clear hv
    have H1 := Lib.hid h1; clear h1
    have HL := Lib.hid hl; clear hl
    have hrow : Row (w.alloc (.cells #[] 3)) w.heap.size 3 1 (.slice (some ⟨w.heap.size, 0, none⟩) 0 0) 0 [] :=
      ⟨by simp, .inr ⟨w.heap.size, 0, 0, #[], rfl, Nat.le_refl _, heap_alloc_new w _, Nat.le_refl _, Nat.zero_le _, by simp, by simp⟩⟩
    have HR := Lib.hid hrow; clear hrow
    have hcs : 0 < n → ∃ ad', some ad = some ad' ∧ ∀ j u, xs[j]? = some u → (w.alloc (.cells #[] 3)).cell? (ad'.add j) = some u := by
      intro hp
      obtain ⟨b, off, hab, hb, hc⟩ := HV.out hp
      refine ⟨ad, rfl, fun j u hj => ?_⟩
      simp only [Option.some.injEq] at hab
      subst hab
      have hjl : j < n * 1 := by have := (List.getElem?_eq_some_iff.1 hj).1; rw [HL.out] at this; exact this
      rw [Addr.add_lit]
      exact ((Ext.rf w).al _).cl ((hc j hjl).trans hj)
    have HC := Lib.hid hcs; clear hcs
    go_enter Try.func22, Try.ntmps22
    go_wp2_with ((at_builtin; refine wpList_append_row rfl _ _ 30 rfl w.heap.size 3 i0 (.int .i64 0) 1 8 Try.underlying30 hi hz0 hz1 hz2 rfl (by decide) _ 0 [] rfl HR.out _ n c xs rfl HL.out HC.out H1.out (by unfold maxLen; omega) (by omega) (by simp) ?_; intro v' w1 hown1 hgrow1 hblk))
    go_ret
    exact ⟨_, rfl, by simpa using hown1, ((Ext.rf w).al _).gr hgrow1 (fun k hk => by have e : some w.heap.size = some k := hk; simp at e; omega)⟩

end Go.Proofs.Ytfcpnggdpaeldaa

/-
  Counts of events and consistent cuts, in plain words: what is missing in a cut, how it is repaired, and that the cuts are a lattice. No program is named here.
-/
namespace Go.Proofs.Ytfcpnggdpaeldaa
open Go.RowKit
set_option linter.unusedVariables false

/-! ### The events within counts, in order -/
def idsCTo (c : List Int) (p i : Nat) : List Eid := ((List.range p).flatMap fun q => (List.range c[q]!.toNat).map fun j => (q, j)) ++ (List.range i).map fun j => (p, j)
theorem idsCTo_zero (c : List Int) : idsCTo c 0 0 = [] := rfl
theorem idsCTo_succ (c : List Int) (p i : Nat) : idsCTo c p (i + 1) = idsCTo c p i ++ [(p, i)] := by
  simp [idsCTo, List.range_succ, List.append_assoc]
theorem idsCTo_next (c : List Int) (p : Nat) : idsCTo c p c[p]!.toNat = idsCTo c (p + 1) 0 := by
  simp [idsCTo, List.range_succ, List.flatMap_append]
theorem mem_idsCTo {c : List Int} {p i : Nat} {x : Eid} : x ∈ idsCTo c p i ↔ (x.1 < p ∧ x.2 < c[x.1]!.toNat) ∨ (x.1 = p ∧ x.2 < i) := by
  obtain ⟨q, j⟩ := x
  simp only [idsCTo, List.mem_append, List.mem_flatMap, List.mem_map, List.mem_range, Prod.mk.injEq]
  constructor
  · rintro (⟨q', h1, j', h2, rfl, rfl⟩ | ⟨j', h, rfl, rfl⟩)
    · exact .inl ⟨h1, h2⟩
    · exact .inr ⟨rfl, h⟩
  · rintro (⟨h1, h2⟩ | ⟨rfl, h⟩)
    · exact .inl ⟨q, h1, j, h2, rfl, rfl⟩
    · exact .inr ⟨j, h, rfl, rfl⟩
theorem idsCTo_grow (c : List Int) (p i : Nat) : ∀ k, i ≤ k → idsCTo c p i <+: idsCTo c p k := by
  intro k hk
  induction k with
  | zero => obtain rfl : i = 0 := by omega
            exact List.prefix_rfl
  | succ k ih =>
    by_cases e : i = k + 1
    · subst e; exact List.prefix_rfl
    · rw [idsCTo_succ]; exact (ih (by omega)).trans (List.prefix_append _ _)
theorem idsCTo_row (c : List Int) (p : Nat) : ∀ q, p ≤ q → idsCTo c p 0 <+: idsCTo c q 0 := by
  intro q hq
  induction q with
  | zero => obtain rfl : p = 0 := by omega
            exact List.prefix_rfl
  | succ q ih =>
    by_cases e : p = q + 1
    · subst e; exact List.prefix_rfl
    · rw [← idsCTo_next]; exact (ih (by omega)).trans (idsCTo_grow c q 0 _ (by omega))
theorem idsCTo_ids {c : List Int} {p i : Nat} (hp : p < c.length) (hi : i ≤ c[p]!.toNat) : idsCTo c p i <+: idsCTo c c.length 0 := by
  refine (idsCTo_grow c p i _ hi).trans ?_
  rw [idsCTo_next]
  exact idsCTo_row c (p + 1) c.length (by omega)

/-! ### What is missing -/
/-- The event is within the counts. -/
def InC (c : List Int) (x : Eid) : Prop := x.1 < c.length ∧ (x.2 : Int) < c[x.1]!
/-- The event is no receive, or its message is sent within the counts. -/
def sentB (t : Tr) (c : List Int) (x : Eid) : Bool :=
  !decide ((ev t x).kind = 3) || (match findE t 2 (ev t x).msg with | some s => decide ((s.2 : Int) + 1 ≤ c[s.1]!) | none => true)
theorem sentB_other {t : Tr} {c : List Int} {x : Eid} (h : (ev t x).kind ≠ 3) : sentB t c x = true := by simp [sentB, h]
theorem sentB_recv {t : Tr} {c : List Int} {x s : Eid} (h : (ev t x).kind = 3) (hs : findE t 2 (ev t x).msg = some s) : sentB t c x = decide ((s.2 : Int) + 1 ≤ c[s.1]!) := by simp [sentB, h, hs]
/-- The first of the events that are received and not sent. -/
def missTo (t : Tr) (c : List Int) (p i : Nat) : Option Eid := (idsCTo c p i).find? fun x => !sentB t c x
def missE (t : Tr) (c : List Int) : Option Eid := missTo t c c.length 0
theorem missTo_zero (t : Tr) (c : List Int) : missTo t c 0 0 = none := rfl
theorem missTo_next {t : Tr} {c : List Int} {p k : Nat} (h : missTo t c p k = none) (hk : k = c[p]!.toNat) : missTo t c (p + 1) 0 = none := by
  unfold missTo at *; rw [← idsCTo_next, ← hk]; exact h
theorem missTo_succ {t : Tr} {c : List Int} {p i : Nat} (h : missTo t c p i = none) (hs : sentB t c (p, i) = true) : missTo t c p (i + 1) = none := by
  unfold missTo at *; rw [idsCTo_succ, List.find?_append, h]; simp [hs]
theorem missTo_hit {t : Tr} {c : List Int} {p i : Nat} (h : missTo t c p i = none) (hs : sentB t c (p, i) = false) (hp : p < c.length) (hi : (i : Int) < c[p]!) : missE t c = some (p, i) := by
  obtain ⟨post, hpost⟩ := idsCTo_ids (c := c) (p := p) (i := i + 1) hp (by omega)
  unfold missE missTo at *
  rw [← hpost, List.find?_append, idsCTo_succ, List.find?_append, h]
  simp [hs]
theorem missE_some {t : Tr} {c : List Int} {x : Eid} (h : missE t c = some x) : InC c x ∧ sentB t c x = false := by
  unfold missE missTo at h
  have h1 := List.mem_of_find?_eq_some h
  have h2 := List.find?_some h
  rw [mem_idsCTo] at h1
  refine ⟨?_, by simpa using h2⟩
  unfold InC; omega
theorem missE_none {t : Tr} {c : List Int} : missE t c = none ↔ ∀ x, InC c x → sentB t c x = true := by
  unfold missE missTo
  rw [List.find?_eq_none]
  constructor
  · intro h x hx
    have := h x (mem_idsCTo.2 (.inl ⟨hx.1, by have := hx.2; omega⟩))
    simpa using this
  · intro h x hx
    rw [mem_idsCTo] at hx
    have := h x ⟨by omega, by omega⟩
    simp [this]

/-! ### Counts in range, and consistent cuts -/
def rangeB (t : Tr) (c : List Int) : Bool := (List.range c.length).all fun p => decide (0 ≤ c[p]!) && decide (c[p]! ≤ (t[p]!.events.length : Int))
theorem rangeB_iff {t : Tr} {c : List Int} : rangeB t c = true ↔ ∀ p, p < c.length → 0 ≤ c[p]! ∧ c[p]! ≤ (t[p]!.events.length : Int) := by
  simp only [rangeB, List.all_eq_true, List.mem_range, Bool.and_eq_true, decide_eq_true_eq]
def fitsB (t : Tr) (c : List Int) : Bool := decide (c.length = t.length)
/-- Counts that fit and are in range. -/
def RangeC (t : Tr) (c : List Int) : Prop := c.length = t.length ∧ rangeB t c = true
/-- A consistent cut of a trace. -/
def ConsC (t : Tr) (c : List Int) : Prop := RangeC t c ∧ missE t c = none
noncomputable def consB (t : Tr) (c : List Int) : Bool := validT t && (fitsB t c && (rangeB t c && (missE t c).isNone))
theorem consB_iff {t : Tr} {c : List Int} : consB t c = true ↔ validT t = true ∧ ConsC t c := by
  simp only [consB, fitsB, ConsC, RangeC, Bool.and_eq_true, decide_eq_true_eq, Option.isNone_iff_eq_none, and_assoc]
theorem RangeC.at {t : Tr} {c : List Int} (h : RangeC t c) {p : Nat} (hp : p < t.length) : 0 ≤ c[p]! ∧ c[p]! ≤ (t[p]!.events.length : Int) := rangeB_iff.1 h.2 p (by rw [h.1]; exact hp)
theorem RangeC.inn {t : Tr} {c : List Int} (h : RangeC t c) {x : Eid} (hx : InC c x) : Inn t x := by
  have h1 := h.1
  have h2 := h.at (p := x.1) (by have := hx.1; omega)
  have h3 := hx.2
  exact ⟨by have := hx.1; omega, by omega⟩

/-! ### What is changed at a place -/
theorem setC_at {c : List Int} {p : Nat} {v : Int} (hp : p < c.length) : (c.set p v)[p]! = v := by
  rw [getElem!_pos _ p (by simpa using hp)]; simp
theorem setC_ne {c : List Int} {p q : Nat} {v : Int} (h : q ≠ p) : (c.set p v)[q]! = c[q]! := by
  by_cases hq : q < c.length
  · rw [getElem!_pos _ q (by simpa using hq), getElem!_pos c q hq, List.getElem_set_ne (by omega)]
  · rw [getElem!_neg _ q (by simpa using hq), getElem!_neg c q hq]
theorem set_range {t : Tr} {c : List Int} (h : RangeC t c) {p : Nat} {v : Int} (h0 : 0 ≤ v) (h1 : v ≤ (t[p]!.events.length : Int)) : RangeC t (c.set p v) := by
  refine ⟨by rw [List.length_set]; exact h.1, rangeB_iff.2 fun q hq => ?_⟩
  rw [List.length_set] at hq
  by_cases e : q = p
  · subst e; rw [setC_at hq]; exact ⟨h0, h1⟩
  · rw [setC_ne e]; exact rangeB_iff.1 h.2 q hq

/-! ### Repairing -/
def upS (t : Tr) (c : List Int) (x : Eid) : List Int := match findE t 2 (ev t x).msg with | some s => c.set s.1 ((s.2 : Int) + 1) | none => c
def dnS (_t : Tr) (c : List Int) (x : Eid) : List Int := c.set x.1 (x.2 : Int)
/-- After n steps nothing is missing any more. -/
def FixN (t : Tr) (f : List Int → Eid → List Int) : Nat → List Int → List Int → Prop
  | 0, c, d => missE t c = none ∧ d = c
  | n + 1, c, d => ∃ x, missE t c = some x ∧ FixN t f n (f c x) d
theorem FixN.same {t : Tr} {f : List Int → Eid → List Int} {n m : Nat} {c d e : List Int} (h : FixN t f n c d) (k : FixN t f m c e) : d = e ∧ n = m := by
  induction n generalizing m c with
  | zero =>
    cases m with
    | zero => exact ⟨h.2.trans k.2.symm, rfl⟩
    | succ m => obtain ⟨x, hx, _⟩ := k; rw [h.1] at hx; cases hx
  | succ n ih =>
    obtain ⟨x, hx, h⟩ := h
    cases m with
    | zero => rw [k.1] at hx; cases hx
    | succ m =>
      obtain ⟨y, hy, k⟩ := k
      obtain rfl : x = y := Option.some.inj (hx.symm.trans hy)
      obtain ⟨h1, h2⟩ := ih h k
      exact ⟨h1, by omega⟩
/-- A sum of numbers, one for each of n places. -/
def sumTo (f : Nat → Nat) : Nat → Nat
  | 0 => 0
  | n + 1 => sumTo f n + f n
theorem sumTo_le {f g : Nat → Nat} : ∀ n, (∀ i, i < n → f i ≤ g i) → sumTo f n ≤ sumTo g n
  | 0, _ => Nat.le_refl _
  | n + 1, h => Nat.add_le_add (sumTo_le n fun i hi => h i (by omega)) (h n (by omega))
theorem sumTo_lt {f g : Nat → Nat} : ∀ n, (∀ i, i < n → f i ≤ g i) → (∃ i, i < n ∧ f i < g i) → sumTo f n < sumTo g n
  | 0, _, ⟨i, hi, _⟩ => absurd hi (Nat.not_lt_zero _)
  | n + 1, h, ⟨i, hi, hlt⟩ => by
    unfold sumTo
    have h1 := sumTo_le n fun i hi => h i (by omega)
    have h2 := h n (by omega)
    by_cases e : i = n
    · subst e; omega
    · have := sumTo_lt n (fun i hi => h i (by omega)) ⟨i, by omega, hlt⟩; omega
theorem upS_eq {t : Tr} {c : List Int} {x s : Eid} (h : findE t 2 (ev t x).msg = some s) : upS t c x = c.set s.1 ((s.2 : Int) + 1) := by unfold upS; rw [h]
/-- What is missing is a receive whose send is behind the counts. -/
theorem miss_parts {t : Tr} {c : List Int} {x : Eid} (h : missE t c = some x) : InC c x ∧ (ev t x).kind = 3 ∧ ∃ s, findE t 2 (ev t x).msg = some s ∧ c[s.1]! < (s.2 : Int) + 1 ∧ Inn t s := by
  obtain ⟨h1, h2⟩ := missE_some h
  by_cases hk : (ev t x).kind = 3
  · refine ⟨h1, hk, ?_⟩
    cases hf : findE t 2 (ev t x).msg with
    | none => simp [sentB, hk, hf] at h2
    | some s =>
      rw [sentB_recv hk hf] at h2
      exact ⟨s, rfl, by simpa using h2, (findE_some hf).1⟩
  · rw [sentB_other hk] at h2; cases h2
theorem upS_range {t : Tr} {c : List Int} {x : Eid} (hr : RangeC t c) (h : missE t c = some x) : RangeC t (upS t c x) := by
  obtain ⟨_, _, s, hs, _, hi⟩ := miss_parts h
  rw [upS_eq hs]
  exact set_range hr (by omega) (by have := hi.2; omega)
theorem dnS_range {t : Tr} {c : List Int} {x : Eid} (hr : RangeC t c) (h : missE t c = some x) : RangeC t (dnS t c x) := by
  obtain ⟨h1, _⟩ := miss_parts h
  exact set_range hr (by omega) (by have := (hr.inn h1).2; omega)
theorem up_ends {t : Tr} : ∀ (m : Nat) (c : List Int), RangeC t c → sumTo (fun p => t[p]!.events.length - c[p]!.toNat) t.length ≤ m → ∃ n d, n ≤ m ∧ FixN t (upS t) n c d := by
  intro m
  induction m with
  | zero =>
    intro c hr hm
    cases h : missE t c with
    | none => exact ⟨0, c, Nat.le_refl _, h, rfl⟩
    | some x =>
      exfalso
      obtain ⟨_, _, s, hs, hlt, hi⟩ := miss_parts h
      have := sumTo_lt (f := fun _ => 0) (g := fun p => t[p]!.events.length - c[p]!.toNat) t.length (fun _ _ => Nat.zero_le _) ⟨s.1, hi.1, by have := hi.2; have := (hr.at hi.1).1; omega⟩
      omega
  | succ m ih =>
    intro c hr hm
    cases h : missE t c with
    | none => exact ⟨0, c, Nat.zero_le _, h, rfl⟩
    | some x =>
      obtain ⟨_, _, s, hs, hlt, hi⟩ := miss_parts h
      have hcl : s.1 < c.length := by have := hi.1; have := hr.1; omega
      have h2 := sumTo_lt (f := fun p => t[p]!.events.length - (upS t c x)[p]!.toNat) (g := fun p => t[p]!.events.length - c[p]!.toNat) t.length
        (fun p hp => by
          simp only [upS_eq hs]
          by_cases e : p = s.1
          · subst e; rw [setC_at hcl]; omega
          · rw [setC_ne e]; omega)
        ⟨s.1, hi.1, by simp only [upS_eq hs]; rw [setC_at hcl]; have := hi.2; have := (hr.at hi.1).1; omega⟩
      obtain ⟨n, d, hn, hf⟩ := ih (upS t c x) (upS_range hr h) (by omega)
      exact ⟨n + 1, d, by omega, x, h, hf⟩
theorem dn_ends {t : Tr} : ∀ (m : Nat) (c : List Int), RangeC t c → sumTo (fun p => c[p]!.toNat) t.length ≤ m → ∃ n d, n ≤ m ∧ FixN t (dnS t) n c d := by
  intro m
  induction m with
  | zero =>
    intro c hr hm
    cases h : missE t c with
    | none => exact ⟨0, c, Nat.le_refl _, h, rfl⟩
    | some x =>
      exfalso
      obtain ⟨h1, _⟩ := miss_parts h
      have := sumTo_lt (f := fun _ => 0) (g := fun p => c[p]!.toNat) t.length (fun _ _ => Nat.zero_le _) ⟨x.1, (hr.inn h1).1, by have := h1.2; omega⟩
      omega
  | succ m ih =>
    intro c hr hm
    cases h : missE t c with
    | none => exact ⟨0, c, Nat.zero_le _, h, rfl⟩
    | some x =>
      obtain ⟨h1, _⟩ := miss_parts h
      have h2 := sumTo_lt (f := fun p => (dnS t c x)[p]!.toNat) (g := fun p => c[p]!.toNat) t.length
        (fun p hp => by
          unfold dnS
          by_cases e : p = x.1
          · subst e; rw [setC_at h1.1]; have := h1.2; omega
          · rw [setC_ne e]; omega)
        ⟨x.1, (hr.inn h1).1, by unfold dnS; rw [setC_at h1.1]; have := h1.2; omega⟩
      obtain ⟨n, d, hn, hf⟩ := ih (dnS t c x) (dnS_range hr h) (by omega)
      exact ⟨n + 1, d, by omega, x, h, hf⟩
theorem sumTo_bound {f : Nat → Nat} {b : Nat} : ∀ n, (∀ i, i < n → f i ≤ b) → sumTo f n ≤ n * b
  | 0, _ => Nat.zero_le _
  | n + 1, h => by
    unfold sumTo; rw [Nat.add_mul]
    have := sumTo_bound n fun i hi => h i (by omega)
    have := h n (by omega)
    omega

/-! ### The order of counts -/
def LeC (a b : List Int) : Prop := ∀ p, p < a.length → a[p]! ≤ b[p]!
def leCB (a b : List Int) : Bool := decide (a.length = b.length) && (List.range a.length).all fun p => decide (a[p]! ≤ b[p]!)
theorem leCB_iff {a b : List Int} : leCB a b = true ↔ a.length = b.length ∧ LeC a b := by
  simp only [leCB, LeC, Bool.and_eq_true, decide_eq_true_eq, List.all_eq_true, List.mem_range]
theorem LeC.refl (a : List Int) : LeC a a := fun _ _ => Int.le_refl _
theorem LeC.trans {a b c : List Int} (h : LeC a b) (k : LeC b c) (hl : a.length = b.length) : LeC a c := fun p hp => Int.le_trans (h p hp) (k p (by omega))
theorem list_ext {a b : List Int} (hl : a.length = b.length) (h : ∀ p, p < a.length → a[p]! = b[p]!) : a = b := by
  refine List.ext_getElem hl fun i h1 h2 => ?_
  have := h i h1
  rwa [getElem!_pos a i h1, getElem!_pos b i h2] at this
theorem LeC.antisymm {a b : List Int} (h : LeC a b) (k : LeC b a) (hl : a.length = b.length) : a = b :=
  list_ext hl fun p hp => Int.le_antisymm (h p hp) (k p (by omega))

/-- What the closing yields: the least consistent cut that contains the counts. -/
theorem up_least {t : Tr} {n : Nat} {c d : List Int} (h : FixN t (upS t) n c d) (hr : RangeC t c) : ConsC t d ∧ LeC c d ∧ ∀ e, ConsC t e → LeC c e → LeC d e := by
  induction n generalizing c with
  | zero => obtain ⟨h1, rfl⟩ := h; exact ⟨⟨hr, h1⟩, LeC.refl _, fun e _ he => he⟩
  | succ n ih =>
    obtain ⟨x, hx, h⟩ := h
    obtain ⟨h1, hk, s, hs, hlt, hi⟩ := miss_parts hx
    have hcl : s.1 < c.length := by have := hi.1; have := hr.1; omega
    obtain ⟨k1, k2, k3⟩ := ih h (upS_range hr hx)
    have e1 := upS_eq (c := c) hs
    refine ⟨k1, ?_, fun e he hce => k3 e he ?_⟩
    · refine LeC.trans (b := upS t c x) (fun p hp => ?_) k2 (by rw [e1, List.length_set])
      rw [e1]
      by_cases e : p = s.1
      · subst e; rw [setC_at hcl]; omega
      · rw [setC_ne e]; omega
    · intro p hp
      rw [e1] at hp ⊢
      rw [List.length_set] at hp
      by_cases ep : p = s.1
      · subst ep
        rw [setC_at hcl]
        have hin : InC e x := ⟨by have := h1.1; have := hr.1; have := he.1.1; omega, by have := hce x.1 h1.1; have := h1.2; omega⟩
        have := missE_none.1 he.2 x hin
        rw [sentB_recv hk hs] at this
        simpa using this
      · rw [setC_ne ep]; exact hce p hp
/-- What the opening yields: the greatest consistent cut within the counts. -/
theorem dn_greatest {t : Tr} {n : Nat} {c d : List Int} (h : FixN t (dnS t) n c d) (hr : RangeC t c) : ConsC t d ∧ LeC d c ∧ ∀ e, ConsC t e → LeC e c → LeC e d := by
  induction n generalizing c with
  | zero => obtain ⟨h1, rfl⟩ := h; exact ⟨⟨hr, h1⟩, LeC.refl _, fun e _ he => he⟩
  | succ n ih =>
    obtain ⟨x, hx, h⟩ := h
    obtain ⟨h1, hk, s, hs, hlt, hi⟩ := miss_parts hx
    have hcl : s.1 < c.length := by have := hi.1; have := hr.1; omega
    obtain ⟨k1, k2, k3⟩ := ih h (dnS_range hr hx)
    have hdl : d.length = c.length := k1.1.1.trans hr.1.symm
    refine ⟨k1, ?_, fun e he hec => k3 e he ?_⟩
    · refine LeC.trans (b := dnS t c x) k2 (fun p hp => ?_) (by rw [hdl]; unfold dnS; rw [List.length_set])
      unfold dnS at hp ⊢
      rw [List.length_set] at hp
      by_cases e : p = x.1
      · subst e; rw [setC_at h1.1]; have := h1.2; omega
      · rw [setC_ne e]; omega
    · intro p hp
      unfold dnS
      by_cases ep : p = x.1
      · subst ep
        rw [setC_at h1.1]
        by_cases hgt : (x.2 : Int) < e[x.1]!
        · exfalso
          have hin : InC e x := ⟨hp, hgt⟩
          have := missE_none.1 he.2 x hin
          rw [sentB_recv hk hs] at this
          have h5 := of_decide_eq_true this
          have := hec s.1 (by have := he.1.1; have := hr.1; omega)
          omega
        · omega
      · rw [setC_ne ep]; exact hec p hp

/-! ### Joins and meets -/
def zipC (f : Int → Int → Int) (a b : List Int) : List Int := (List.range a.length).map fun p => f a[p]! b[p]!
theorem zipC_len (f : Int → Int → Int) (a b : List Int) : (zipC f a b).length = a.length := by simp [zipC]
theorem zipC_at {f : Int → Int → Int} {a b : List Int} {p : Nat} (hp : p < a.length) : (zipC f a b)[p]! = f a[p]! b[p]! := by
  rw [getElem!_pos _ p (by rw [zipC_len]; exact hp)]; simp [zipC]
def joinC := zipC max
def meetC := zipC min
theorem join_range {t : Tr} {a b : List Int} (ha : RangeC t a) (hb : RangeC t b) : RangeC t (joinC a b) := by
  refine ⟨by rw [joinC, zipC_len]; exact ha.1, rangeB_iff.2 fun p hp => ?_⟩
  rw [joinC, zipC_len] at hp
  have hp' : p < t.length := by have := ha.1; omega
  rw [joinC, zipC_at hp]
  have := ha.at hp'; have := hb.at hp'
  omega
theorem meet_range {t : Tr} {a b : List Int} (ha : RangeC t a) (hb : RangeC t b) : RangeC t (meetC a b) := by
  refine ⟨by rw [meetC, zipC_len]; exact ha.1, rangeB_iff.2 fun p hp => ?_⟩
  rw [meetC, zipC_len] at hp
  have hp' : p < t.length := by have := ha.1; omega
  rw [meetC, zipC_at hp]
  have := ha.at hp'; have := hb.at hp'
  omega
/-- Where the counts are greater, what is sent is still sent. -/
theorem sentB_mono {t : Tr} {a b : List Int} (hr : RangeC t a) (h : LeC a b) {x : Eid} (hx : sentB t a x = true) : sentB t b x = true := by
  by_cases hk : (ev t x).kind = 3
  · cases hf : findE t 2 (ev t x).msg with
    | none => simp [sentB, hf]
    | some s =>
      rw [sentB_recv hk hf] at hx ⊢
      have h1 := of_decide_eq_true hx
      have := h s.1 (by have := (findE_some hf).1.1; have := hr.1; omega)
      exact decide_eq_true (by omega)
  · exact sentB_other hk
theorem join_cons {t : Tr} {a b : List Int} (ha : ConsC t a) (hb : ConsC t b) : ConsC t (joinC a b) := by
  refine ⟨join_range ha.1 hb.1, missE_none.2 fun x hx => ?_⟩
  have hxl : x.1 < a.length := by have := hx.1; rwa [joinC, zipC_len] at this
  have hlb : b.length = a.length := hb.1.1.trans ha.1.1.symm
  have h2 := hx.2
  rw [joinC, zipC_at hxl] at h2
  by_cases h : (x.2 : Int) < a[x.1]!
  · refine sentB_mono ha.1 (fun p hp => ?_) (missE_none.1 ha.2 x ⟨hxl, h⟩)
    rw [joinC, zipC_at hp]; omega
  · refine sentB_mono hb.1 (fun p hp => ?_) (missE_none.1 hb.2 x ⟨by omega, by omega⟩)
    rw [joinC, zipC_at (by omega)]; omega
theorem meet_cons {t : Tr} {a b : List Int} (ha : ConsC t a) (hb : ConsC t b) : ConsC t (meetC a b) := by
  refine ⟨meet_range ha.1 hb.1, missE_none.2 fun x hx => ?_⟩
  have hxl : x.1 < a.length := by have := hx.1; rwa [meetC, zipC_len] at this
  have hlb : b.length = a.length := hb.1.1.trans ha.1.1.symm
  have h2 := hx.2
  rw [meetC, zipC_at hxl] at h2
  have ka := missE_none.1 ha.2 x ⟨hxl, by omega⟩
  have kb := missE_none.1 hb.2 x ⟨by omega, by omega⟩
  by_cases hk : (ev t x).kind = 3
  · cases hf : findE t 2 (ev t x).msg with
    | none => simp [sentB, hf]
    | some s =>
      rw [sentB_recv hk hf] at ka kb ⊢
      have h1 := of_decide_eq_true ka
      have h2 := of_decide_eq_true kb
      have hsl : s.1 < a.length := by have := (findE_some hf).1.1; have := ha.1.1; omega
      rw [meetC, zipC_at hsl]
      exact decide_eq_true (by omega)
  · exact sentB_other hk

end Go.Proofs.Ytfcpnggdpaeldaa

/-
  Lists of lists of numbers, as they are read. No program is named here.
-/
namespace Go.Proofs.Ytfcpnggdpaeldaa
open Go.RowKit
set_option linter.unusedVariables false

def RInts (w : World) (cs : List Value) (x : List Int) : Prop := ∃ u, cs = [u] ∧ Ints w u x
theorem rints_lasts : Lasts RInts := fun _ _ _ _ ⟨u, h, hb⟩ e => ⟨u, h, hb.ext e⟩
def RQueue (w : World) (cs : List Value) (x : List (List Int)) : Prop := ∃ u, cs = [u] ∧ Sl RInts 1 w u x
theorem rqueue_lasts : Lasts RQueue := fun _ _ _ _ ⟨u, h, hb⟩ e => ⟨u, h, hb.ext rints_lasts e⟩
def RBool (w : World) (cs : List Value) (x : Bool) : Prop := cs = [.bool x]
theorem rbool_lasts : Lasts RBool := fun _ _ _ _ h _ => h

theorem Sl.at1 {α : Type} [Inhabited α] {R : World → List Value → α → Prop} {w : World} {v : Value} {l : List α} (h : Sl R 1 w v l) (k : Nat) (hk : k < l.length) :
    ∃ b off c cv, v = .slice (some ⟨b, off, none⟩) l.length c ∧ l.length ≤ c ∧ b < w.heap.size ∧ w.cell? ⟨b, off + k, none⟩ = some cv ∧ R w [cv] l[k]! := by
  obtain ⟨a, c, rfl, hlc, h⟩ := h
  obtain ⟨b, off, rfl, hb, hc⟩ := h (by intro e; simp [e] at hk)
  obtain ⟨vs, h1, h2, h3⟩ := hc k hk
  match vs, h1 with
  | [cv], _ => exact ⟨b, off, c, cv, rfl, hlc, hb, by have := h3 0 (by omega); simpa using this, h2⟩
theorem Ints.at1 {w : World} {v : Value} {l : List Int} (h : Ints w v l) (k : Nat) (hk : k < l.length) :
    ∃ b off c, v = .slice (some ⟨b, off, none⟩) l.length c ∧ l.length ≤ c ∧ b < w.heap.size ∧ w.cell? ⟨b, off + k, none⟩ = some (.int .i64 l[k]!) := by
  obtain ⟨a, c, rfl, hlc, h⟩ := h
  obtain ⟨b, off, rfl, hb, hc⟩ := h (by intro e; simp [e] at hk)
  exact ⟨b, off, c, rfl, hlc, hb, hc k hk⟩
theorem Sl.shape {α : Type} [Inhabited α] {R : World → List Value → α → Prop} {k : Nat} {w : World} {v : Value} {l : List α} (h : Sl R k w v l) : ∃ a c, v = .slice a l.length c ∧ l.length ≤ c := by
  obtain ⟨a, c, h1, h2, _⟩ := h; exact ⟨a, c, h1, h2⟩

end Go.Proofs.Ytfcpnggdpaeldaa

/-
  A map from numbers to yes or no that the call has made: what it says at the numbers below a bound. No program is named here.
-/
namespace Go.Proofs.Ytfcpnggdpaeldaa
open Go.RowKit Go.Maps
set_option linter.unusedVariables false

/-- Block b says F at the numbers below N; at most n stores were made. -/
def BMap (w : World) (P : Program) (k e : TypeId) (b n N : Nat) (F : List Bool) : Prop :=
  ∃ D : DataW Unit, w.ownsMap P k (plainElem P e) b n D ∧ IsMap D ∧ ∀ y : Int, 0 ≤ y → y < (N : Int) → D.atKey (.int .i64 y) (.lit (.bool false)) = .lit (.bool F[y.toNat]!)

variable {P : Program} {k e t : TypeId} {b n N : Nat} {F : List Bool} {w : World}

theorem BMap.made (w : World) (hF : ∀ i : Nat, i < N → F[i]! = false) : BMap (w.alloc (.map #[] 0)) P k e w.heap.size 0 N F :=
  ⟨.map [], World.ownsMap_made _ _ _ _, isMap_empty, fun y h0 h1 => by rw [hF y.toNat (by omega)]; rfl⟩

theorem BMap.lt (h : BMap w P k e b n N F) : b < w.heap.size := by obtain ⟨D, h, _⟩ := h; exact h.lt

theorem BMap.ext {w' : World} (h : BMap w P k e b n N F) (x : Ext w w') : BMap w' P k e b n N F := by
  obtain ⟨D, ⟨es, clock, hb, r⟩, h2⟩ := h
  exact ⟨D, ⟨es, clock, x.hp hb, r⟩, h2⟩

theorem BMap.mono (h : BMap w P k e b n N F) {n' : Nat} (hn : n ≤ n') : BMap w P k e b n' N F := by
  obtain ⟨D, h, r⟩ := h
  exact ⟨D, h.mono hn, r⟩

theorem BMap.grown {w' : World} {row : Option Nat} (h : BMap w P k e b n N F) (hg : w.grownBy w' row) (hne : some b ≠ row) : BMap w' P k e b n N F := by
  obtain ⟨D, h, r⟩ := h
  exact ⟨D, h.kept hg hne, r⟩

theorem wf_at {y : Int} {N : Nat} (h0 : 0 ≤ y) (h1 : y < (N : Int)) (hN : N ≤ 1000000) : (Lit.int .i64 y).wf = true := by
  simp [Lit.wf, IntKind.min, IntKind.max, IntKind.signed, IntKind.bits]; omega

theorem BMap.look (h : BMap w P k e b n N F) (hk : P.underlying k = some (.int .i64)) (ht : P.underlying t = some (.map k e)) (he : P.underlying e = some .bool) (hz : ∀ w, (zeroValue e).run P w = .ok (.bool false) w)
    (y : Int) (h0 : 0 ≤ y) (h1 : y < (N : Int)) (hN : N ≤ 1000000) : (Instr.lookup t (.map (some b)) (.int .i64 y) false).run P w = .ok (.bool F[y.toNat]!) w := by
  obtain ⟨D, h, _, hD⟩ := h
  obtain ⟨v, ps, hr, hv⟩ := h.lookup (int_keyed hk) ht (hz w) (plainElem_bool he false) (keyOf_int_mk hk (wf_at h0 h1 hN))
  rw [hD y h0 h1] at hv
  unfold plainElem at hv
  rw [he] at hv
  cases v <;> simp at hv
  rw [hr, hv.1]; simp

theorem wpList_look_b {ops : Array Oper} {rest : List Oper} {o : Oper} {a : Act} {Q : Exit → Act → World → Prop}
    (hg : o.guard = none) (m x : Operand) (t : TypeId) (hop : o.op = Op.lookup t m x false) (k e : TypeId) (b n N : Nat) (F : List Bool) (hown : BMap w P k e b n N F)
    (hk : P.underlying k = some (.int .i64)) (ht : P.underlying t = some (.map k e)) (he : P.underlying e = some .bool) (hz : ∀ w, (zeroValue e).run P w = .ok (.bool false) w)
    (y : Int) (h0 : 0 ≤ y) (h1 : y < (N : Int)) (hN : N ≤ 1000000) (hm : a.eval m = .map (some b)) (hx : a.eval x = .int .i64 y)
    (hK : wpList P ops Q rest (a.put o.dst (.bool F[y.toNat]!)) w) :
    wpList P ops Q (o :: rest) a w := by
  refine wpList_plain hg fun K' hK' => ?_
  have hrun := hown.look hk ht he hz y h0 h1 hN
  unfold Oper.wp
  simp [execOp, hop, hm, hx, hrun, Result.andThen]
  exact hK' _ _ (by simpa using hK)

theorem wpList_put_b {ops : Array Oper} {rest : List Oper} {o : Oper} {a : Act} {Q : Exit → Act → World → Prop}
    (hg : o.guard = none) (m x v : Operand) (t : TypeId) (hop : o.op = Op.mapUpdate t m x v) (k e : TypeId) (b n N : Nat) (F : List Bool) (hown : BMap w P k e b n N F) (hn : n < maxLen) (hF : F.length = N)
    (hk : P.underlying k = some (.int .i64)) (ht : P.underlying t = some (.map k e)) (he : P.underlying e = some .bool)
    (y : Int) (h0 : 0 ≤ y) (h1 : y < (N : Int)) (hN : N ≤ 1000000) (hm : a.eval m = .map (some b)) (hx : a.eval x = .int .i64 y) (hv : a.eval v = .bool true)
    (hK : ∀ w', BMap w' P k e b (n + 1) N (F.set y.toNat true) → w.grownBy w' (some b) → wpList P ops Q rest (a.put o.dst undef) w') :
    wpList P ops Q (o :: rest) a w := by
  obtain ⟨D, h, hi, hD⟩ := hown
  refine wpList_mapUpdate_own w hg m x v t hop k e (int_keyed hk) ht _ b n D hm h hn _ _ (.int .i64 y) hx hv (keyOf_int_mk hk (wf_at h0 h1 hN)) (.lit (.bool true)) [] (plainElem_bool he true) ?_
  intro w' h' hg'
  refine hK w' ⟨_, h', hi.put _ _, fun z hz0 hz1 => ?_⟩ hg'
  have key : ((F.set y.toNat true)[z.toNat]!) = if z = y then true else F[z.toNat]! := by
    rw [getElem!_pos _ _ (by rw [List.length_set, hF]; omega), List.getElem_set, getElem!_pos F _ (by rw [hF]; omega)]
    by_cases e : z = y
    · rw [if_pos (by rw [e]), if_pos e]
    · rw [if_neg (by omega), if_neg e]
  rw [key]
  by_cases e : z = y
  · subst e
    rw [if_pos rfl]
    exact atKey_put_same hi (by trivial) _ _
  · rw [if_neg e, ← hD z hz0 hz1]
    exact atKey_put_other (by simp only [ne_eq, Lit.int.injEq, true_and]; exact e) _ _

end Go.Proofs.Ytfcpnggdpaeldaa

/-
  Laws for one step of a region that draws its order: an append to a row of the call's own; a call of a Go function, met by its contract. No program is named here.
-/
namespace Go.Proofs.Ytfcpnggdpaeldaa
open Go.RowKit
set_option linter.unusedVariables false

theorem step_append_rowN {P : Program} {ops : Array Oper} {o : Oper} {a : Act} {w : World} {K : Act → World → Prop} {Q : Exit → Act → World → Prop} {E : Prop}
    (hgd : o.guard = none) (s x : Operand) (t : TypeId)
    (ho : o.op = .call { callee := .builtin .append, args := #[s, x], argTypes := #[t, t] })
    (base : Nat) (e : TypeId) (i : TypeInfo) (z : Value) (size bytes : Nat) (ht : P.underlying t = some (.slice e)) (hi : P.info? e = some i) (hz : i.zero = some z)
    (hsize : i.size = size) (hby : i.bytes = bytes) (hzs : z.cells.size = size) (hsz : 0 < size)
    (v : Value) (n : Nat) (xs : List Value) (hs : a.eval s = v) (hown : Row w base e size v n xs)
    (k c : Nat) (news : List Value) (hx : a.eval x = .slice (some ⟨k, 0, none⟩) 1 c) (hl : news.length = size) (hnews : ∃ fr, w.heap[k]? = some (.cells news.toArray e fr)) (h1 : ∀ u ∈ news, u.oneCell' = true)
    (h63 : n + 1 ≤ maxLen) (hbytes : (n + 1) * bytes ≤ 140737488355328) (hbase : base ≤ w.heap.size)
    (h : ∀ v' w', Row w' base e size v' (n + 1) (xs ++ news) → w.grownBy w' v.ownBlock → (v'.ownBlock = v.ownBlock ∨ ∃ k, v'.ownBlock = some k ∧ w.heap.size ≤ k) → K (a.put o.dst v') w') :
    if Region.wanted o (yielded ops a.tmps) = true then Oper.wp P o a w K Q else E := by
  have hw : Region.wanted o (yielded ops a.tmps) = true := by simp [Region.wanted, hgd]
  rw [if_pos hw]
  obtain ⟨v', w', hr, h2, h3, h4⟩ := run_append_row (P := P) w base t o.type e i z size bytes ht hi hz hsize hby hzs hsz v n xs hown (some ⟨k, 0, none⟩) 1 c news (by omega)
    (fun _ => ⟨_, rfl, fun j u hj => by
      obtain ⟨fr, hf⟩ := hnews
      have := (List.getElem?_eq_some_iff.1 hj)
      simp [Addr.add_lit, World.cell?, hf, hj]⟩) h1 h63 hbytes hbase
  unfold Oper.wp execOp
  simp only [ho, resolve, invoke, builtin, Sem.run_bind, Sem.run_pure, Result.andThen_ok, List.map_toArray, List.map_cons, List.map_nil, hs, hx, hr]
  exact h v' w' h2 h3 h4

theorem step_call {P : Program} {ops : Array Oper} {o : Oper} {a : Act} {w : World} {K : Act → World → Prop} {Q : Exit → Act → World → Prop} {E : Prop}
    (hgd : o.guard = none) (f : FuncId) (args : Array Operand) (tys : Array TypeId) (ho : o.op = .call { callee := .value (.func f), args := args, argTypes := tys })
    (eg : ∀ args w, (callFunc f args).run P w = .ok (.enter f args) w) (vals : List Value) (hv : args.toList.map a.eval = vals) {R : Ending → World → Prop} (hc : Calls P f vals.toArray w R)
    (hK : ∀ e w', R e w' → ∃ v, e = .returned v ∧ K (a.put o.dst v) w') :
    if Region.wanted o (yielded ops a.tmps) = true then Oper.wp P o a w K Q else E := by
  have hw : Region.wanted o (yielded ops a.tmps) = true := by simp [Region.wanted, hgd]
  rw [if_pos hw]
  have hr : (execOp a.eval o).run P w = .ok (.enter f vals.toArray) w := by
    have hv' : args.map a.eval = vals.toArray := by rw [← hv]; cases args; simp
    have he : a.eval (.func f) = .func (.func f) #[] #[] := rfl
    unfold execOp
    simp only [ho, resolve, he, Deferred.ofValue, Sem.run_bind, Sem.run_pure, Result.andThen_ok, invoke, Array.append_empty, hv']
    simp [eg]
  unfold Oper.wp
  rw [hr, Oper.upon_enter]
  refine hc.mono fun e w' h => ?_
  obtain ⟨v, rfl, hk⟩ := hK e w' h
  exact hk

end Go.Proofs.Ytfcpnggdpaeldaa

/-
  A region that draws its order, whose last operation writes what another of its operations reads: the loads may be taken first all the same, where the last operation waits for them. No program is named here.
-/
namespace Go.Proofs.Ytfcpnggdpaeldaa
set_option linter.unusedVariables false

section
variable {P : Program} {ops : Array Oper} {Q : Exit → Act → World → Prop} {md : Region.Mode} {S : World → Prop} {st : Nat}

/-- Whatever order is picked from here on, and S holds behind every operation but st. -/
def wpAnyT (P : Program) (md : Region.Mode) (ops : Array Oper) (Q : Exit → Act → World → Prop) (S : World → Prop) (st : Nat) : Nat → Array Bool → Act → World → Prop
  | 0, listed, a, w => Region.ready md ops listed = [] ∧ Q .normal a w
  | fuel + 1, listed, a, w =>
    (Region.ready md ops listed = [] → Q .normal a w) ∧
    ∀ i ∈ Region.ready md ops listed, wpOp P ops Q i (fun a' w' => (i = st ∨ S w') ∧ wpAnyT P md ops Q S st fuel (listed.setIfInBounds i true) a' w') a w

theorem wpAny_of_T : ∀ (fuel : Nat) (listed : Array Bool) (a : Act) (w : World), wpAnyT P md ops Q S st fuel listed a w → wpAny P md ops Q fuel listed a w
  | 0, _, _, _, h => h
  | fuel + 1, _, _, _, h => ⟨h.1, fun i hi => wpOp_mono (fun a' w' h' => wpAny_of_T fuel _ a' w' h'.2) (h.2 i hi)⟩

theorem wpAnyT_first {i : Nat} {oi : Oper} {v : Value} (hi : ops[i]? = some oi) (hsel : ∀ (j : Nat) (o : Oper) cs b, ops[j]? = some o → o.op ≠ .select cs b)
    (hQ : ∀ c a w, Q (.panic c) (a.put oi.dst v) w → Q (.panic c) a w) (D : List Nat) (hst : st ∈ D)
    (hD : ∀ d ∈ D, d ≠ i → ∃ od, ops[d]? = some od ∧ ∃ e ∈ od.after, Region.binds md e = true ∧ e.on ∈ D) :
    ∀ (fuel : Nat) (listed : Array Bool) (a : Act) (w : World),
      (∀ j oj, ops[j]? = some oj → j ≠ i → listed.getD j true = false → (∀ e ∈ oj.after, Region.binds md e = true → e.on ≠ i) → oi.apart ops oj = true) →
      i ∈ Region.ready md ops listed → (∀ d ∈ D, listed.getD d true = false) → YieldsIf P ops S oi v a → S w →
      wpAnyT P md ops Q S st fuel (listed.setIfInBounds i true) (a.put oi.dst v) w → wpAnyT P md ops Q S st (fuel + 1) listed a w := by
  intro fuel
  induction fuel with
  | zero =>
    intro listed a w _ hr _ hy hS H
    refine ⟨fun h => (by rw [h] at hr; cases hr), fun j hj => ?_⟩
    by_cases hji : j = i
    · subst hji; exact hy.wpOp hi hS ⟨.inr hS, H⟩
    · have := ready_mono hj hji
      rw [H.1] at this
      cases this
  | succ fuel ih =>
    intro listed a w hfree hr hun hy hS H
    refine ⟨fun h => (by rw [h] at hr; cases hr), fun j hj => ?_⟩
    by_cases hji : j = i
    · subst hji; exact hy.wpOp hi hS ⟨.inr hS, H⟩
    · have h1 := H.2 j (ready_mono hj hji)
      obtain ⟨hjun, oj, hoj, hall⟩ := mem_ready.1 hj
      have flip : ∀ k, listed.getD k true = false → listed.getD k false = true → False := fun k h0 h1 => by
        rcases Nat.lt_or_ge k listed.size with h' | h'
        · simp [h'] at h0 h1; rw [h0] at h1; cases h1
        · simp [Array.getElem?_eq_none h'] at h1
      have hnot : ∀ e ∈ oj.after, Region.binds md e = true → e.on ≠ i := fun e he hb heq => by
        have h1 := hall e he hb
        rw [heq] at h1
        exact flip i (mem_ready.1 hr).1 h1
      have hjD : j ∉ D := fun hjd => by
        obtain ⟨od, hod, e, he, hb, hed⟩ := hD j hjd hji
        rw [hoj] at hod
        cases hod
        exact flip e.on (hun e.on hed) (hall e he hb)
      have hjst : j ≠ st := fun e => hjD (e ▸ hst)
      have h2 := wpOp_putIf hoj (hfree j oj hoj hji hjun hnot) (fun cs b => hsel i oi cs b hi) (fun cs b => hsel j oj cs b hoj) hQ hy h1
      have hfree' : ∀ k ok, ops[k]? = some ok → k ≠ i → (listed.setIfInBounds j true).getD k true = false →
          (∀ e ∈ ok.after, Region.binds md e = true → e.on ≠ i) → oi.apart ops ok = true := fun k ok hk hki hun hno => by
        refine hfree k ok hk hki ?_ hno
        by_cases hjk : j = k
        · subst hjk; exact hjun
        · rw [getD_set_ne true hjk] at hun; exact hun
      have hun' : ∀ d ∈ D, (listed.setIfInBounds j true).getD d true = false := fun d hd => by
        rw [getD_set_ne true (fun e => hjD (by rw [e]; exact hd))]; exact hun d hd
      refine wpOp_mono (fun a' w' h3 => ?_) h2
      have hSw : S w' := h3.2.1.resolve_left hjst
      refine ⟨.inr hSw, ih (listed.setIfInBounds j true) a' w' hfree' (ready_mono hr (Ne.symm hji)) hun' h3.1 hSw ?_⟩
      rw [Array.setIfInBounds_comm _ _ hji]
      exact h3.2.2

/-- What waits for number i, itself included. -/
def upOf (md : Region.Mode) (ops : Array Oper) (i : Nat) : List Nat :=
  (List.range ops.size).foldl (fun D j => if j == i || ((ops[j]?).map (·.after.any fun e => Region.binds md e && D.contains e.on)).getD false then D ++ [j] else D) []
def upOk (md : Region.Mode) (ops : Array Oper) (listed : Array Bool) (st i : Nat) : Bool :=
  (upOf md ops i).contains st && (upOf md ops i).all fun d => !(listed.getD d true) && (d == i || ((ops[d]?).map (·.after.any fun e => Region.binds md e && (upOf md ops i).contains e.on)).getD false)

/-- Take number i first, slot d := v. -/
theorem wpAnyT_take {i : Nat} {oi : Oper} {v : Value} {d : Option Tmp} {fuel : Nat} {listed : Array Bool} {a : Act} {w : World} (hi : ops[i]? = some oi) (hd : oi.dst = d)
    (hs : Region.noSelect ops = true) (hf : Region.free md ops listed i = true) (hr : (Region.ready md ops listed).contains i = true) (hu : upOk md ops listed st i = true)
    (hQ : ∀ c a w, Q (.panic c) (a.put d v) w → Q (.panic c) a w) (hy : YieldsIf P ops S oi v a) (hS : S w)
    (h : wpAnyT P md ops Q S st fuel (listed.setIfInBounds i true) (a.put d v) w) : wpAnyT P md ops Q S st (fuel + 1) listed a w := by
  subst hd
  unfold upOk at hu
  simp only [Bool.and_eq_true, List.all_eq_true, Bool.not_eq_true', Bool.or_eq_true, beq_iff_eq] at hu
  obtain ⟨h1, h2⟩ := hu
  refine wpAnyT_first hi (Region.noSelect_spec hs) hQ (upOf md ops i) (by simpa using h1) (fun d hd hne => ?_) fuel listed a w (Region.free_spec hi hf) (by simpa using hr) (fun d hd => (h2 d hd).1) hy hS h
  have h3 := (h2 d hd).2.resolve_left hne
  cases hod : ops[d]? with
  | none => rw [hod] at h3; simp at h3
  | some od =>
    rw [hod] at h3
    simp only [Option.map_some, Option.getD_some] at h3
    obtain ⟨e, he, hb⟩ := Array.any_eq_true'.1 h3
    rw [Bool.and_eq_true] at hb
    exact ⟨od, rfl, e, he, hb.1, by simpa using hb.2⟩

theorem wp_region_tail (S : World → Prop) (st : Nat) {id : Nat} {a : Act} {w : World} (hm : P.follows .mixedOrders = true) (hS : S w.drew)
    (h : S w.drew → wpAnyT P .any ops Q S st ops.size (Array.replicate ops.size false) a w.drew) : (Code.region id ops true).wp P Q a w :=
  wp_region_any hm (wpAny_of_T _ _ _ _ (h hS))

/-- The one operation that may come up is carried out. -/
theorem wpAnyT_step {i : Nat} {o : Oper} {fuel : Nat} {listed : Array Bool} {a : Act} {w : World} (hr : Region.ready md ops listed = [i]) (ho : ops[i]? = some o)
    (h : ∀ K' : Act → World → Prop, Shut (∀ a w, S w → (S w → wpAnyT P md ops Q S st fuel (listed.setIfInBounds i true) a w) → K' a w) → if Region.wanted o (yielded ops a.tmps) = true then Oper.wp P o a w K' Q else K' (a.put o.dst undef) w) :
    wpAnyT P md ops Q S st (fuel + 1) listed a w :=
  ⟨fun h0 => (by rw [hr] at h0; cases h0), fun j hj => by
    rw [hr] at hj
    obtain rfl : j = i := by simpa using hj
    exact wpOp_step ho (fun K' hK => h K' (fun a w hS hW => hK a w ⟨.inr hS, hW hS⟩))⟩

/-- The last one. -/
theorem wpAnyT_last {o : Oper} {fuel : Nat} {listed : Array Bool} {a : Act} {w : World} (hr : Region.ready md ops listed = [st]) (ho : ops[st]? = some o) (hr2 : Region.ready md ops (listed.setIfInBounds st true) = [])
    (h : ∀ K' : Act → World → Prop, Shut (∀ a w, Q .normal a w → K' a w) → if Region.wanted o (yielded ops a.tmps) = true then Oper.wp P o a w K' Q else K' (a.put o.dst undef) w) :
    wpAnyT P md ops Q S st (fuel + 1) listed a w :=
  ⟨fun h0 => (by rw [hr] at h0; cases h0), fun j hj => by
    rw [hr] at hj
    obtain rfl : j = st := by simpa using hj
    refine wpOp_step ho (fun K' hK => h K' (fun a w hq => hK a w ⟨.inl rfl, ?_⟩))
    cases fuel with
    | zero => exact ⟨hr2, hq⟩
    | succ n => exact ⟨fun _ => hq, by rw [hr2]; simp⟩⟩

/-! ### Several that may come up -/
def AllT (P : Program) (md : Region.Mode) (ops : Array Oper) (Q : Exit → Act → World → Prop) (S : World → Prop) (st : Nat) (fuel : Nat) (listed : Array Bool) (a : Act) (w : World) (rs : List Nat) : Prop :=
  ∀ i ∈ rs, wpOp P ops Q i (fun a' w' => (i = st ∨ S w') ∧ wpAnyT P md ops Q S st fuel (listed.setIfInBounds i true) a' w') a w
theorem AllT.nil {fuel : Nat} {listed : Array Bool} {a : Act} {w : World} : AllT P md ops Q S st fuel listed a w [] := fun _ h => by cases h
theorem AllT.cons {fuel : Nat} {listed : Array Bool} {a : Act} {w : World} {i : Nat} {o : Oper} {rs : List Nat} (ho : ops[i]? = some o)
    (h : ∀ K' : Act → World → Prop, Shut (∀ a w, S w → (S w → wpAnyT P md ops Q S st fuel (listed.setIfInBounds i true) a w) → K' a w) → if Region.wanted o (yielded ops a.tmps) = true then Oper.wp P o a w K' Q else K' (a.put o.dst undef) w)
    (hs : AllT P md ops Q S st fuel listed a w rs) : AllT P md ops Q S st fuel listed a w (i :: rs) := fun j hj => by
  rcases List.mem_cons.1 hj with rfl | hj
  · exact wpOp_step ho (fun K' hK => h K' (fun a w hS hW => hK a w ⟨.inr hS, hW hS⟩))
  · exact hs j hj
theorem wpAnyT_ready {rs : List Nat} {fuel : Nat} {listed : Array Bool} {a : Act} {w : World} (hr : Region.ready md ops listed = rs) (hne : rs ≠ [])
    (h : AllT P md ops Q S st fuel listed a w rs) : wpAnyT P md ops Q S st (fuel + 1) listed a w :=
  ⟨fun h0 => absurd (hr ▸ h0) hne, hr ▸ h⟩
end

end Go.Proofs.Ytfcpnggdpaeldaa

/-
  Numbers that a call hands back, with an error or without. No program is named here.
-/
namespace Go.Proofs.Ytfcpnggdpaeldaa
open Go.RowKit

def IntsRes (w w' : World) (e : Ending) (E : Int) (l : List Int) : Prop := ∃ v, e = .returned (.tuple #[v, .int .i64 E]) ∧ Row w' w.heap.size 3 1 v l.length (l.map (Value.int .i64)) ∧ Ext w w'
theorem IntsRes.none {w w' : World} {E : Int} (h : Ext w w') : IntsRes w w' (.returned (.tuple #[.slice none 0 0, .int .i64 E])) E [] := ⟨_, rfl, Row.mkNil _ _ _ _, h⟩
def IntsOut (w w' : World) (e : Ending) (l : List Int) : Prop := ∃ v, e = .returned v ∧ Row w' w.heap.size 3 1 v l.length (l.map (Value.int .i64)) ∧ Ext w w'

end Go.Proofs.Ytfcpnggdpaeldaa

/-
  The library's Equal on slices of numbers.
-/
namespace Go.Proofs.Ytfcpnggdpaeldaa
open Go.RowKit
set_option linter.unusedVariables false

theorem beq_at (l m : List Int) (h : l.length = m.length) : (∃ k, k < l.length ∧ l[k]! ≠ m[k]!) → (l == m) = false := by
  rintro ⟨k, hk, hne⟩
  rw [beq_eq_false_iff_ne]
  rintro rfl
  exact hne rfl
theorem beq_all (l m : List Int) (h : l.length = m.length) (hall : ∀ k, k < l.length → l[k]! = m[k]!) : (l == m) = true := by
  rw [beq_iff_eq]
  refine List.ext_getElem h fun i h1 h2 => ?_
  have := hall i h1
  rwa [getElem!_pos l i h1, getElem!_pos m i h2] at this
theorem beq_len (l m : List Int) (h : l.length ≠ m.length) : (l == m) = false := by
  rw [beq_eq_false_iff_ne]
  rintro rfl
  exact h rfl

set_option maxHeartbeats 400000 in
theorem equal_int (u v : Value) (l m : List Int) (w : World) (hu : Ints w u l) (hv : Ints w v m) (hn : l.length ≤ 1000000) (hm : m.length ≤ 1000000) :
    Calls Try.prog 17 #[u, v] w fun e w' => e = .returned (.bool (l == m)) ∧ Ext w w' := by
  obtain ⟨a, c, rfl, _, hu⟩ := hu
  obtain ⟨a2, c2, rfl, _, hv⟩ := hv
  have HU := Lib.hid hu; clear hu
  have HV := Lib.hid hv; clear hv
  generalize hln : l.length = n at hn
  generalize hlm : m.length = n2 at hm
  have HL := Lib.hid hln; clear hln
  have HM := Lib.hid hlm; clear hlm
  by_cases hne : n = n2
  · subst hne
    go_enter Try.func17, Try.ntmps17
    go_wp2
    go_loopg [5, 13] n (fun g _ s13 wr => ∃ k : Nat, k ≤ n ∧ n - k ≤ g ∧ s13 = .int .i64 k ∧ Ext w wr ∧ Aside (∀ j, j < k → l[j]! = m[j]!))
    case atStart => exact ⟨0, Nat.zero_le _, by omega, rfl, Ext.rf _, (fun j hj => absurd hj (Nat.not_lt_zero _))⟩
    case round =>
      obtain ⟨k, hk, hg, rfl, he, A⟩ := hrel
      have HE := Lib.hid he; clear he
      by_cases hlt : k < n
      · obtain ⟨b, off, rfl, hb, hc⟩ := HU.out (by intro e; have := HL.out; simp [e] at this; omega)
        obtain ⟨b2, off2, rfl, hb2, hc2⟩ := HV.out (by intro e; have := HM.out; simp [e] at this; omega)
        have hcell : wr.cell? ⟨b, off + k, none⟩ = some (.int .i64 l[k]!) := HE.out.cl (hc k (by rw [HL.out]; exact hlt))
        have hcell2 : wr.cell? ⟨b2, off2 + k, none⟩ = some (.int .i64 m[k]!) := HE.out.cl (hc2 k (by rw [HM.out]; exact hlt))
        have hltz : (k : Int) < (n : Int) := by omega
        have hkz : (0 : Int) ≤ (k : Int) := by omega
        clear hc HV hc2 HU
        generalize hy : l[k]! = y at hcell
        generalize hz : m[k]! = z at hcell2
        have B := Lib.hid hy
        have C := Lib.hid hz
        clear hy hz
        cases hq : (y != z) with
        | true =>
          go_wp2
          go_quiet (fail)
          go_wp2
          go_ret
          exact ⟨by rw [beq_at l m (by rw [HL.out, HM.out]) ⟨k, by rw [HL.out]; exact hlt, by rw [B.out, C.out]; simpa using hq⟩]; rfl, HE.out.drN _⟩
        | false =>
          go_wp2
          go_quiet (fail)
          go_wp2
          go_roundg (n - (k + 1))
          case measure => omega
          case rel =>
            refine ⟨k + 1, by omega, by omega, by go_num, HE.out.drN _, (show Aside _ from fun j hj => ?_)⟩
            by_cases e : j = k
            · subst e
              rw [B.out, C.out]; simpa using hq
            · exact A.out j (by omega)
      · have hltz : ¬ (k : Int) < (n : Int) := by omega
        go_wp2
        go_ret
        exact ⟨by rw [beq_all l m (by rw [HL.out, HM.out]) (fun j hj => A.out j (by rw [HL.out] at hj; omega))]; rfl, HE.out⟩
  · have h1 : ((n : Int) != (n2 : Int)) = true := by rw [bne_iff_ne]; omega
    go_enter Try.func17, Try.ntmps17
    go_wp2
    go_ret
    exact ⟨by rw [beq_len l m (by rw [HL.out, HM.out]; exact hne)]; rfl, Ext.rf _⟩

end Go.Proofs.Ytfcpnggdpaeldaa

/-
  Lists of lists of numbers that the call builds. No program is named here.
-/
namespace Go.Proofs.Ytfcpnggdpaeldaa
open Go.RowKit
set_option linter.unusedVariables false

/-- The value v owns a row of slices, each of which owns the numbers of one list. -/
def RowsOf (w : World) (base : Nat) (v : Value) (ls : List (List Int)) : Prop :=
  ∃ xs, Row w base 30 1 v ls.length xs ∧ ∀ i, i < ls.length → ∃ u, xs[i]? = some u ∧ Row w base 3 1 u ls[i]!.length (ls[i]!.map (Value.int .i64))
theorem RowsOf.nil (w : World) (base : Nat) : RowsOf w base (.slice none 0 0) [] := ⟨[], Row.mkNil _ _ _ _, fun i hi => absurd hi (by simp)⟩
theorem RowsOf.ext {w w' : World} {base : Nat} {v : Value} {ls : List (List Int)} (h : RowsOf w base v ls) (e : Ext w w') : RowsOf w' base v ls := by
  obtain ⟨xs, h1, h2⟩ := h
  exact ⟨xs, h1.ext e, fun i hi => by obtain ⟨u, g1, g2⟩ := h2 i hi; exact ⟨u, g1, g2.ext e⟩⟩
theorem RowsOf.mono {w : World} {base base' : Nat} {v : Value} {ls : List (List Int)} (h : RowsOf w base v ls) (e : base' ≤ base) : RowsOf w base' v ls := by
  obtain ⟨xs, h1, h2⟩ := h
  exact ⟨xs, h1.mono e, fun i hi => by obtain ⟨u, g1, g2⟩ := h2 i hi; exact ⟨u, g1, g2.mono e⟩⟩
theorem RowsOf.snoc {w w' : World} {base : Nat} {v v' u : Value} {ls : List (List Int)} {xs : List Value} {l : List Int} (hr : Row w base 30 1 v ls.length xs)
    (hel : ∀ i, i < ls.length → ∃ u, xs[i]? = some u ∧ Row w base 3 1 u ls[i]!.length (ls[i]!.map (Value.int .i64))) (hu : Row w base 3 1 u l.length (l.map (Value.int .i64)))
    (hg : w.grownBy w' v.ownBlock) (ho : Row w' base 30 1 v' (ls.length + 1) (xs ++ [u])) : RowsOf w' base v' (ls ++ [l]) := by
  have hx : xs.length = ls.length := by have := hr.1; omega
  refine ⟨xs ++ [u], by rw [List.length_append, List.length_singleton]; exact ho, fun i hi => ?_⟩
  rw [List.length_append, List.length_singleton] at hi
  by_cases h : i < ls.length
  · obtain ⟨z, g1, g2⟩ := hel i h
    refine ⟨z, by rw [List.getElem?_append_left (by omega)]; exact g1, ?_⟩
    rw [show (ls ++ [l])[i]! = ls[i]! by rw [getElem!_pos _ i (by rw [List.length_append]; omega), getElem!_pos ls i h, List.getElem_append_left h]]
    exact g2.grown hg (Row.apart g2 hr (by decide))
  · obtain rfl : i = ls.length := by omega
    refine ⟨u, by rw [List.getElem?_append_right (by omega), hx, Nat.sub_self]; rfl, ?_⟩
    rw [show (ls ++ [l])[ls.length]! = l by rw [getElem!_pos _ _ (by simp)]; simp]
    exact hu.grown hg (Row.apart hu hr (by decide))
theorem RowsOf.sl {w : World} {base : Nat} {v : Value} {ls : List (List Int)} (h : RowsOf w base v ls) : Sl RInts 1 w v ls := by
  obtain ⟨xs, h1, h2⟩ := h
  refine (h1.cells).sl fun i hi => ?_
  obtain ⟨u, g1, g2⟩ := h2 i hi
  refine ⟨u, ?_, g2.ints⟩
  have hx : i < xs.length := (List.getElem?_eq_some_iff.1 g1).1
  rw [Nat.mul_one, List.drop_eq_getElem_cons hx, List.take_succ_cons, List.take_zero]
  rw [List.getElem?_eq_getElem hx] at g1
  rw [Option.some.inj g1]
theorem sl_nilR (w : World) : Sl RInts 1 w (.slice none 0 0) [] := ⟨none, 0, rfl, Nat.le_refl _, fun h => absurd rfl h⟩

end Go.Proofs.Ytfcpnggdpaeldaa

/-
  The values of variables in the states of processes, in plain words. No program is named here.
-/
namespace Go.Proofs.Ytfcpnggdpaeldaa
open Go.RowKit
set_option linter.unusedVariables false

/-! ### The program's states -/
def initV (t : Tr) (p : Nat) : List Int := t[p]!.vars.map (·.init)
def putA (now : List Int) (a : Asg) : List Int := now.set a.var.toNat a.value
/-- The values behind the first j assignments of an event. -/
def stepTo (now : List Int) (e : Ev) (j : Nat) : List Int := (e.asg.take j).foldl putA now
def stepV (now : List Int) (e : Ev) : List Int := e.asg.foldl putA now
/-- The values of state k. -/
def stV (t : Tr) (p k : Nat) : List Int := (t[p]!.events.take k).foldl stepV (initV t p)
theorem foldl_putA_len (l : List Asg) : ∀ now : List Int, (l.foldl putA now).length = now.length := by
  induction l with
  | nil => intro now; rfl
  | cons a l ih => intro now; rw [List.foldl_cons, ih]; simp [putA]
theorem stepTo_zero (now : List Int) (e : Ev) : stepTo now e 0 = now := by simp [stepTo]
theorem stepTo_succ (now : List Int) (e : Ev) (j : Nat) (h : j < e.asg.length) : stepTo now e (j + 1) = putA (stepTo now e j) e.asg[j]! := by
  unfold stepTo
  rw [List.take_succ_eq_append_getElem h, List.foldl_append, getElem!_pos e.asg j h]; rfl
theorem stepTo_all (now : List Int) (e : Ev) (j : Nat) (h : j = e.asg.length) : stepTo now e j = stepV now e := by
  unfold stepTo stepV; rw [h, List.take_length]
theorem stepTo_len (now : List Int) (e : Ev) (j : Nat) : (stepTo now e j).length = now.length := foldl_putA_len _ _
theorem stV_zero (t : Tr) (p : Nat) : stV t p 0 = initV t p := by simp [stV]
theorem stV_succ (t : Tr) (p k : Nat) (h : k < t[p]!.events.length) : stV t p (k + 1) = stepV (stV t p k) t[p]!.events[k]! := by
  unfold stV
  rw [List.take_succ_eq_append_getElem h, List.foldl_append, getElem!_pos t[p]!.events k h]; rfl
theorem initV_len (t : Tr) (p : Nat) : (initV t p).length = t[p]!.vars.length := by simp [initV]
theorem stV_len (t : Tr) (p : Nat) : ∀ k, k ≤ t[p]!.events.length → (stV t p k).length = t[p]!.vars.length := by
  intro k hk
  induction k with
  | zero => rw [stV_zero, initV_len]
  | succ k ih => rw [stV_succ t p k (by omega)]; unfold stepV; rw [foldl_putA_len, ih (by omega)]

/-! ### The reference's value: the last assignment -/
/-- The value that the first assignment to v in the list gives, from place j on. -/
def findA (l : List Asg) (v : Int) : Option Int := (l.find? fun a => decide (a.var = v)).map (·.value)
def valR (t : Tr) (p : Nat) (v : Nat) : Nat → Int
  | 0 => t[p]!.vars[v]!.init
  | k + 1 => match findA t[p]!.events[k]!.asg (v : Int) with | some x => x | none => valR t p v k
/-- No variable is assigned twice. -/
def OnceA (l : List Asg) : Prop := l.Pairwise (fun a b => a.var ≠ b.var) ∧ ∀ a ∈ l, 0 ≤ a.var
theorem getSet {l : List Int} {i j : Nat} {x : Int} (hj : j < l.length) : (l.set i x)[j]! = if i = j then x else l[j]! := by
  rw [getElem!_pos _ j (by rw [List.length_set]; exact hj), List.getElem_set, getElem!_pos l j hj]
theorem fold_at (v : Nat) : ∀ (l : List Asg) (now : List Int), OnceA l → v < now.length → (l.foldl putA now)[v]! = (match findA l (v : Int) with | some x => x | none => now[v]!) := by
  intro l
  induction l with
  | nil => intro now _ _; rfl
  | cons a l ih =>
    intro now ⟨h1, h2⟩ hv
    rw [List.pairwise_cons] at h1
    have ha := h2 a (by simp)
    rw [List.foldl_cons, ih (putA now a) ⟨h1.2, fun b hb => h2 b (by simp [hb])⟩ (by simpa [putA] using hv)]
    unfold putA
    rw [getSet hv]
    unfold findA
    rw [List.find?_cons]
    by_cases e : a.var = (v : Int)
    · have hn : l.find? (fun b => decide (b.var = (v : Int))) = none := by
        rw [List.find?_eq_none]; intro b hb hc
        exact h1.1 b hb (by rw [e]; exact (of_decide_eq_true hc).symm)
      rw [hn, if_pos (by omega)]
      simp [e]
    · rw [if_neg (by omega)]
      simp [e]
/-- The values of both are the same. -/
theorem valR_stV {t : Tr} {p v : Nat} (ho : ∀ i, i < t[p]!.events.length → OnceA t[p]!.events[i]!.asg) (hv : v < t[p]!.vars.length) : ∀ k, k ≤ t[p]!.events.length → valR t p v k = (stV t p k)[v]! := by
  intro k hk
  induction k with
  | zero =>
    rw [stV_zero]; unfold valR initV
    rw [getElem!_pos t[p]!.vars v hv, getElem!_pos (t[p]!.vars.map (·.init)) v (by simpa using hv)]; simp
  | succ k ih =>
    rw [stV_succ t p k (by omega)]
    unfold stepV
    rw [fold_at v _ _ (ho k (by omega)) (by rw [stV_len t p k (by omega)]; exact hv), ← ih (by omega)]
    rfl

/-! ### What a valid trace has of assignments -/
theorem once_valid {t : Tr} (h : shapeB t = true) {p i : Nat} (hp : p < t.length) (hi : i < t[p]!.events.length) :
    OnceA t[p]!.events[i]!.asg ∧ ∀ a ∈ t[p]!.events[i]!.asg, 0 ≤ a.var ∧ a.var < t[p]!.vars.length ∧ valueB a.value = true := by
  unfold shapeB at h
  simp only [Bool.and_eq_true, decide_eq_true_eq, range_all] at h
  have he := h.2.2.2 p hp i hi
  unfold eventB at he
  simp only [Bool.and_eq_true, decide_eq_true_eq, range_all] at he
  have ha := he.2.2.2.2.2
  generalize t[p]!.events[i]!.asg = l at *
  have key : ∀ k, k < l.length → 0 ≤ l[k]!.var ∧ l[k]!.var < t[p]!.vars.length ∧ valueB l[k]!.value = true ∧ ∀ j, j < k → l[j]!.var ≠ l[k]!.var := by
    intro k hk
    have := ha k hk
    unfold asgB at this
    simp only [Bool.and_eq_true, decide_eq_true_eq, range_all, Bool.not_eq_true', decide_eq_false_iff_not] at this
    exact this
  have mem : ∀ a ∈ l, 0 ≤ a.var ∧ a.var < t[p]!.vars.length ∧ valueB a.value = true := by
    intro a hm
    obtain ⟨k, hk, rfl⟩ := List.getElem_of_mem hm
    have := key k hk
    rw [getElem!_pos l k hk] at this
    exact ⟨this.1, this.2.1, this.2.2.1⟩
  refine ⟨⟨List.pairwise_iff_getElem.2 fun j k hj hk hjk => ?_, fun a hm => (mem a hm).1⟩, mem⟩
  have := (key k hk).2.2.2 j hjk
  rw [getElem!_pos l j hj, getElem!_pos l k hk] at this
  exact this
theorem init_valid {t : Tr} (h : shapeB t = true) {p v : Nat} (hp : p < t.length) (hv : v < t[p]!.vars.length) : valueB t[p]!.vars[v]!.init = true := by
  unfold shapeB at h
  simp only [Bool.and_eq_true, decide_eq_true_eq, range_all] at h
  exact (varB_parts.1 ((headB_parts.1 (h.2.2.1 p hp)).2.2.2.1 v hv)).2
/-- Each value is in range. -/
theorem valR_in {t : Tr} (h : shapeB t = true) {p v : Nat} (hp : p < t.length) (hv : v < t[p]!.vars.length) : ∀ k, k ≤ t[p]!.events.length → valueB (valR t p v k) = true := by
  intro k hk
  induction k with
  | zero => exact init_valid h hp hv
  | succ k ih =>
    unfold valR
    cases hf : findA t[p]!.events[k]!.asg (v : Int) with
    | none => exact ih (by omega)
    | some x =>
      simp only
      unfold findA at hf
      rw [Option.map_eq_some_iff] at hf
      obtain ⟨a, ha, rfl⟩ := hf
      exact ((once_valid h hp (by omega)).2 a (List.mem_of_find?_eq_some ha)).2.2

/-! ### The values in all states, the least, the greatest, the changes -/
def valsTo (t : Tr) (p v k : Nat) : List Int := (List.range k).map fun i => (stV t p i)[v]!
theorem valsTo_succ (t : Tr) (p v k : Nat) : valsTo t p v (k + 1) = valsTo t p v k ++ [(stV t p k)[v]!] := by simp [valsTo, List.range_succ]
theorem valsTo_len (t : Tr) (p v k : Nat) : (valsTo t p v k).length = k := by simp [valsTo]
theorem valsTo_at {t : Tr} {p v k i : Nat} (h : i < k) : (valsTo t p v k)[i]! = (stV t p i)[v]! := by
  rw [getElem!_pos _ i (by rw [valsTo_len]; exact h)]; simp [valsTo]
/-- The least and the greatest of f 0 .. f k. -/
def lowF (f : Nat → Int) : Nat → Int
  | 0 => f 0
  | k + 1 => if f (k + 1) < lowF f k then f (k + 1) else lowF f k
def highF (f : Nat → Int) : Nat → Int
  | 0 => f 0
  | k + 1 => if highF f k < f (k + 1) then f (k + 1) else highF f k
theorem lowF_congr {f g : Nat → Int} : ∀ k, (∀ i, i ≤ k → f i = g i) → lowF f k = lowF g k := by
  intro k
  induction k with
  | zero => intro h; exact h 0 (Nat.le_refl _)
  | succ k ih => intro h; unfold lowF; rw [ih (fun i hi => h i (by omega)), h (k + 1) (Nat.le_refl _)]
theorem highF_congr {f g : Nat → Int} : ∀ k, (∀ i, i ≤ k → f i = g i) → highF f k = highF g k := by
  intro k
  induction k with
  | zero => intro h; exact h 0 (Nat.le_refl _)
  | succ k ih => intro h; unfold highF; rw [ih (fun i hi => h i (by omega)), h (k + 1) (Nat.le_refl _)]
/-- The states 1 .. k whose value is another one than before. -/
def chgF (f : Nat → Int) (k : Nat) : List Int := ((List.range k).filter fun i => f (i + 1) != f i).map fun (i : Nat) => ((i : Int) + 1)
theorem chgF_zero (f : Nat → Int) : chgF f 0 = [] := rfl
theorem chgF_yes {f : Nat → Int} {k : Nat} (h : (f (k + 1) != f k) = true) : chgF f (k + 1) = chgF f k ++ [(k : Int) + 1] := by
  unfold chgF; rw [List.range_succ, List.filter_append, List.filter_cons_of_pos (p := fun (i : Nat) => f (i + 1) != f i) (a := k) h, List.map_append]; rfl
theorem chgF_no {f : Nat → Int} {k : Nat} (h : (f (k + 1) != f k) = false) : chgF f (k + 1) = chgF f k := by
  unfold chgF; rw [List.range_succ, List.filter_append, List.filter_cons_of_neg (p := fun (i : Nat) => f (i + 1) != f i) (a := k) (by rw [h]; decide)]; simp
theorem chgF_len (f : Nat → Int) (k : Nat) : (chgF f k).length ≤ k := by
  unfold chgF; rw [List.length_map]; exact Nat.le_trans (List.length_filter_le _ _) (by simp)
theorem chgF_congr {f g : Nat → Int} {k : Nat} (h : ∀ i, i ≤ k → f i = g i) : chgF f k = chgF g k := by
  unfold chgF
  congr 1
  refine List.filter_congr fun i hi => ?_
  rw [List.mem_range] at hi
  rw [h (i + 1) (by omega), h i (by omega)]
/-- Neighbors differ by at most 1. -/
def unitF (f : Nat → Int) (k : Nat) : Bool := (List.range k).all fun i => decide (-1 ≤ f (i + 1) - f i) && decide (f (i + 1) - f i ≤ 1)
theorem unitF_zero (f : Nat → Int) : unitF f 0 = true := rfl
theorem unitF_succ (f : Nat → Int) (k : Nat) : unitF f (k + 1) = (unitF f k && (decide (-1 ≤ f (k + 1) - f k) && decide (f (k + 1) - f k ≤ 1))) := by
  unfold unitF; rw [List.range_succ, List.all_append]; simp
theorem unitF_congr {f g : Nat → Int} {k : Nat} (h : ∀ i, i ≤ k → f i = g i) : unitF f k = unitF g k := by
  unfold unitF
  rw [Bool.eq_iff_iff, range_all, range_all]
  constructor <;> intro hh i hi
  · rw [← h (i + 1) (by omega), ← h i (by omega)]; exact hh i hi
  · rw [h (i + 1) (by omega), h i (by omega)]; exact hh i hi
theorem unitF_no {f : Nat → Int} {k n : Nat} (hk : k < n) (h : (decide (-1 ≤ f (k + 1) - f k) && decide (f (k + 1) - f k ≤ 1)) = false) : unitF f n = false := by
  unfold unitF
  rw [List.all_eq_false]
  exact ⟨k, by rw [List.mem_range]; exact hk, by rw [h]; decide⟩

end Go.Proofs.Ytfcpnggdpaeldaa

/-
  The library's Min and Max on numbers.
-/
namespace Go.Proofs.Ytfcpnggdpaeldaa
open Go.RowKit
set_option linter.unusedVariables false

/-! ### Min and Max -/
set_option maxHeartbeats 1000000 in
theorem minP_calls (v : Value) (l : List Int) (w : World) (h : Ints w v l) (n : Nat) (hl : l.length = n + 1) (hn : n ≤ 1000000) :
    Calls Try.prog 44 #[v] w fun e w' => e = .returned (.int .i64 (lowF (fun i => l[i]!) n)) ∧ Ext w w' := by
  obtain ⟨a, c, rfl, hlc, hc⟩ := h
  obtain ⟨b, off, rfl, hb, hc⟩ := hc (by intro e; rw [e] at hl; simp at hl)
  rw [hl] at hlc ⊢
  have HC := Lib.hid hc
  have HL := Lib.hid hl
  have h0 := hc 0 (by omega)
  rw [Nat.add_zero] at h0
  obtain ⟨x0, hx0⟩ : ∃ x, l[0]! = x := ⟨_, rfl⟩
  rw [hx0] at h0
  have HX0 := Lib.hid hx0
  obtain ⟨R, hR⟩ : ∃ R, lowF (fun i => l[i]!) n = R := ⟨_, rfl⟩
  rw [hR]
  have HR := Lib.hid hR
  have d0 : decide (((n + 1 : Nat) : Int) < 1) = false := decide_eq_false (by omega)
  have hlz : (0 : Int) < ((n + 1 : Nat) : Int) := by omega
  clear hc hl hx0 hR
  go_enter Try.func44, Try.ntmps44
  go_wp2
  go_loopg [3, 4] n (fun g s3 s4 wr => ∃ k : Nat, 1 ≤ k ∧ k ≤ n + 1 ∧ n + 1 - k ≤ g ∧ s4 = .int .i64 k ∧ (∃ m, s3 = .int .i64 m ∧ Aside (lowF (fun i => l[i]!) (k - 1) = m)) ∧ wr = w)
  case atStart => exact ⟨1, by omega, by omega, by omega, rfl, ⟨x0, rfl, (show Aside _ from HX0.out)⟩, rfl⟩
  case round =>
    obtain ⟨k, hk1, hk, hg, rfl, ⟨m, rfl, HM⟩, rfl⟩ := hrel
    by_cases hlt : k < n + 1
    · have hltz : (k : Int) < ((n + 1 : Nat) : Int) := by omega
      have hkz : (0 : Int) ≤ (k : Int) := by omega
      have hck := HC.out k (by rw [HL.out]; exact hlt)
      obtain ⟨j, rfl⟩ : ∃ j, k = j + 1 := ⟨k - 1, by omega⟩
      have HF : Hid (lowF (fun i => l[i]!) (j + 1) = if l[j + 1]! < m then l[j + 1]! else m) := Lib.hid (by have := HM.out; rw [Nat.add_sub_cancel] at this; rw [← this]; rfl)
      generalize l[j + 1]! = y at *
      have hj1 : ((j + 1 : Nat) : Int) = (j : Int) + 1 := by omega
      rw [hj1] at hltz hkz
      go_wp2
      all_goals
        go_roundg (n + 1 - (j + 1 + 1))
        case measure => omega
        case rel =>
          refine ⟨j + 1 + 1, by omega, by omega, by omega, by go_num, ⟨_, rfl, (show Aside _ from ?_)⟩, rfl⟩
          rw [Nat.add_sub_cancel, HF.out]
          first | exact if_pos (by assumption) | exact if_neg (by omega)
    · have hltz : ¬ (k : Int) < ((n + 1 : Nat) : Int) := by omega
      obtain rfl : k = n + 1 := by omega
      obtain rfl : R = m := by rw [← HR.out, ← HM.out, Nat.add_sub_cancel]
      go_wp2
      go_ret
      exact ⟨rfl, Ext.rf _⟩

set_option maxHeartbeats 1000000 in
theorem maxP_calls (v : Value) (l : List Int) (w : World) (h : Ints w v l) (n : Nat) (hl : l.length = n + 1) (hn : n ≤ 1000000) :
    Calls Try.prog 45 #[v] w fun e w' => e = .returned (.int .i64 (highF (fun i => l[i]!) n)) ∧ Ext w w' := by
  obtain ⟨a, c, rfl, hlc, hc⟩ := h
  obtain ⟨b, off, rfl, hb, hc⟩ := hc (by intro e; rw [e] at hl; simp at hl)
  rw [hl] at hlc ⊢
  have HC := Lib.hid hc
  have HL := Lib.hid hl
  have h0 := hc 0 (by omega)
  rw [Nat.add_zero] at h0
  obtain ⟨x0, hx0⟩ : ∃ x, l[0]! = x := ⟨_, rfl⟩
  rw [hx0] at h0
  have HX0 := Lib.hid hx0
  obtain ⟨R, hR⟩ : ∃ R, highF (fun i => l[i]!) n = R := ⟨_, rfl⟩
  rw [hR]
  have HR := Lib.hid hR
  have d0 : decide (((n + 1 : Nat) : Int) < 1) = false := decide_eq_false (by omega)
  have hlz : (0 : Int) < ((n + 1 : Nat) : Int) := by omega
  clear hc hl hx0 hR
  go_enter Try.func45, Try.ntmps45
  go_wp2
  go_loopg [3, 4] n (fun g s3 s4 wr => ∃ k : Nat, 1 ≤ k ∧ k ≤ n + 1 ∧ n + 1 - k ≤ g ∧ s4 = .int .i64 k ∧ (∃ m, s3 = .int .i64 m ∧ Aside (highF (fun i => l[i]!) (k - 1) = m)) ∧ wr = w)
  case atStart => exact ⟨1, by omega, by omega, by omega, rfl, ⟨x0, rfl, (show Aside _ from HX0.out)⟩, rfl⟩
  case round =>
    obtain ⟨k, hk1, hk, hg, rfl, ⟨m, rfl, HM⟩, rfl⟩ := hrel
    by_cases hlt : k < n + 1
    · have hltz : (k : Int) < ((n + 1 : Nat) : Int) := by omega
      have hkz : (0 : Int) ≤ (k : Int) := by omega
      have hck := HC.out k (by rw [HL.out]; exact hlt)
      obtain ⟨j, rfl⟩ : ∃ j, k = j + 1 := ⟨k - 1, by omega⟩
      have HF : Hid (highF (fun i => l[i]!) (j + 1) = if m < l[j + 1]! then l[j + 1]! else m) := Lib.hid (by have := HM.out; rw [Nat.add_sub_cancel] at this; rw [← this]; rfl)
      generalize l[j + 1]! = y at *
      have hj1 : ((j + 1 : Nat) : Int) = (j : Int) + 1 := by omega
      rw [hj1] at hltz hkz
      go_wp2
      all_goals
        go_roundg (n + 1 - (j + 1 + 1))
        case measure => omega
        case rel =>
          refine ⟨j + 1 + 1, by omega, by omega, by omega, by go_num, ⟨_, rfl, (show Aside _ from ?_)⟩, rfl⟩
          rw [Nat.add_sub_cancel, HF.out]
          first | exact if_pos (by assumption) | exact if_neg (by omega)
    · have hltz : ¬ (k : Int) < ((n + 1 : Nat) : Int) := by omega
      obtain rfl : k = n + 1 := by omega
      obtain rfl : R = m := by rw [← HR.out, ← HM.out, Nat.add_sub_cancel]
      go_wp2
      go_ret
      exact ⟨rfl, Ext.rf _⟩

end Go.Proofs.Ytfcpnggdpaeldaa
