import Derived.WalkKit
import Derived.WalkSpells
import Derived.WalkLawsBesides
import Derived.Lib.Hide
import Derived.Deep.LoopGhost
namespace Go.Proofs.Ytfagfooggcinoaa
open Go.RowKit
set_option linter.unusedVariables false
abbrev Ext (w w' : World) : Prop := Below w.heap.size w w'
theorem Ext.rf (w : World) : Ext w w := Below.refl _ _
theorem Ext.trans' {a b c : World} (h : Ext a b) (k : Ext b c) : Ext a c := Below.trans h (k.mono h.size)
theorem Ext.al {w W : World} (h : Ext w W) (o : Obj) : Ext w (W.alloc o) := Below.alloc h h.size o
theorem Ext.dr {w W : World} (h : Ext w W) : Ext w W.drew := Below.drew h
theorem Ext.drN {w W : World} (h : Ext w W) (n : Nat) : Ext w (W.drewN n) := ⟨h.os, h.tape, h.output, h.size, h.block⟩
theorem Ext.st {w W : World} (h : Ext w W) {p : Addr} (hp : w.heap.size ≤ p.block) (u : Value) : Ext w (W.setCell p u) := Below.setCell h hp u
theorem Ext.gr {w W W' : World} {row : Option Nat} (h : Ext w W) (hg : W.grownBy W' row) (hr : ∀ k, row = some k → w.heap.size ≤ k) : Ext w W' := Below.grown h hg h.size hr
theorem Ext.cl {w W : World} (h : Ext w W) {b o : Nat} {v : Value} (hc : w.cell? ⟨b, o, none⟩ = some v) : W.cell? ⟨b, o, none⟩ = some v :=
 (Below.cell h (World.block_lt_of_cell? w _ hc)).trans hc
theorem Ext.hp {w W : World} (h : Ext w W) {b : Nat} {o : Obj} (hc : w.heap[b]? = some o) : W.heap[b]? = some o :=
 (h.block b (Array.getElem?_eq_some_iff.1 hc).1).trans hc
theorem Ext.sz {w W : World} (h : Ext w W) : w.heap.size ≤ W.heap.size := h.size
theorem cell_new (w : World) (c : Array Value) (t : TypeId) (i : Nat) (v : Value) (h : c[i]? = some v) : (w.alloc (.cells c t)).cell? ⟨w.heap.size, i, none⟩ = some v :=
 (World.cell?_alloc_at c t w.heap.size i rfl).trans h
def Ints (w : World) (v : Value) (l : List Int) : Prop :=
 ∃ a c, v = .slice a l.length c ∧ l.length ≤ c ∧ (l ≠ [] → ∃ b off, a = some ⟨b, off, none⟩ ∧ b < w.heap.size ∧ ∀ i, i < l.length → w.cell? ⟨b, off + i, none⟩ = some (.int .i64 l[i]!))
theorem Ints.ext {w w' : World} {v : Value} {l : List Int} (h : Ints w v l) (e : Ext w w') : Ints w' v l := by
 obtain ⟨a, c, rfl, hlc, h⟩ := h
 refine ⟨a, c, rfl, hlc, fun hl => ?_⟩
 obtain ⟨b, off, rfl, hb, hc⟩ := h hl
 exact ⟨b, off, rfl, Nat.lt_of_lt_of_le hb e.size, fun i hi => (e.cell hb).trans (hc i hi)⟩
def Sl {α : Type} [Inhabited α] (R : World → List Value → α → Prop) (k : Nat) (w : World) (v : Value) (l : List α) : Prop :=
 ∃ a c, v = .slice a l.length c ∧ l.length ≤ c ∧ (l ≠ [] → ∃ b off, a = some ⟨b, off, none⟩ ∧ b < w.heap.size ∧ ∀ i, i < l.length → ∃ vs, vs.length = k ∧ R w vs l[i]! ∧ ∀ j, j < k → w.cell? ⟨b, off + i * k + j, none⟩ = some vs[j]!)
def Lasts {α : Type} (R : World → List Value → α → Prop) : Prop := ∀ w W vs x, R w vs x → Ext w W → R W vs x
theorem Sl.ext {α : Type} [Inhabited α] {R : World → List Value → α → Prop} (hR : Lasts R) {k : Nat} {w w' : World} {v : Value} {l : List α} (h : Sl R k w v l) (e : Ext w w') : Sl R k w' v l := by
 obtain ⟨a, c, rfl, hlc, h⟩ := h
 refine ⟨a, c, rfl, hlc, fun hl => ?_⟩
 obtain ⟨b, off, rfl, hb, hc⟩ := h hl
 refine ⟨b, off, rfl, Nat.lt_of_lt_of_le hb e.size, fun i hi => ?_⟩
 obtain ⟨vs, h1, h2, h3⟩ := hc i hi
 exact ⟨vs, h1, hR _ _ _ _ h2 e, fun j hj => (e.cell hb).trans (h3 j hj)⟩
theorem Sl.take {α : Type} [Inhabited α] {R : World → List Value → α → Prop} {q : Nat} {w : World} {a : Option Addr} {n c : Nat} {l : List α} (h : Sl R q w (.slice a n c) l) (k : Nat) (hk : k ≤ l.length) : Sl R q w (.slice a k c) (l.take k) := by
 obtain ⟨a', c', he, hlc, h⟩ := h
 simp only [Value.slice.injEq] at he
 obtain ⟨rfl, rfl, rfl⟩ := he
 have hkl : (l.take k).length = k := by rw [List.length_take]; omega
 refine ⟨a, c, by rw [hkl], by omega, fun hne => ?_⟩
 obtain ⟨b, off, rfl, hb, hc⟩ := h (by rintro rfl; simp at hne)
 refine ⟨b, off, rfl, hb, fun i hi => ?_⟩
 have e : (l.take k)[i]! = l[i]! := by rw [getElem!_pos l i (by omega), getElem!_pos _ i hi, List.getElem_take]
 rw [e]
 exact hc i (by omega)
def Says (P : Program) (g : Nat) (cb : Array Value) (p : Int → Bool) (l : List Int) (w : World) : Prop :=
 ∀ x, x ∈ l → ∀ W, Ext w W → Calls P g (#[.int .i64 x] ++ cb) W fun e w' => e = .returned (.bool (p x)) ∧ Ext W w'
def SaysOf {α : Type} (P : Program) (R : World → List Value → α → Prop) (enc : List Value → Value) (g : Nat) (cb : Array Value) (p : α → Bool) (l : List α) (w : World) : Prop :=
 ∀ x, x ∈ l → ∀ W vs, Ext w W → R W vs x → Calls P g (#[enc vs] ++ cb) W fun e w' => e = .returned (.bool (p x)) ∧ Ext W w'
def encAgg (vs : List Value) : Value := .agg vs.toArray
def encOne (vs : List Value) : Value := vs.headD undef
def firstAt {α : Type} (p : α → Bool) (l : List α) : Int := match l.findIdx? p with | some i => (i : Int) | none => -1
theorem firstAt_any {α : Type} (p : α → Bool) (l : List α) : decide (0 ≤ firstAt p l) = l.any p := by
 unfold firstAt
 cases h : l.findIdx? p with
 | some i =>
   have : l.any p = true := by
    rw [List.any_eq_true]
    have := List.findIdx?_eq_some_iff_getElem.1 h
    obtain ⟨hi, hp, _⟩ := this
    exact ⟨l[i], List.getElem_mem hi, hp⟩
   simp [this]
 | none =>
   have : l.any p = false := by
    rw [List.any_eq_false]
    intro x hx
    have := List.findIdx?_eq_none_iff.1 h x hx
    simp [this]
   simp [this]
theorem firstAt_hit {α : Type} [Inhabited α] (p : α → Bool) (l : List α) (k : Nat) (hk : k < l.length) (h : p l[k]! = true) (hn : ∀ j, j < k → p l[j]! = false) : firstAt p l = k := by
 unfold firstAt
 have : l.findIdx? p = some k := by
  rw [List.findIdx?_eq_some_iff_getElem]
  refine ⟨hk, by simpa [hk] using h, fun j hj => ?_⟩
  have := hn j hj
  have hjl : j < l.length := by omega
  simpa [hjl] using this
 rw [this]
theorem firstAt_miss {α : Type} [Inhabited α] (p : α → Bool) (l : List α) (hn : ∀ j, j < l.length → p l[j]! = false) : firstAt p l = -1 := by
 unfold firstAt
 have : l.findIdx? p = none := by
  rw [List.findIdx?_eq_none_iff]
  intro x hx
  obtain ⟨i, hi, rfl⟩ := List.getElem_of_mem hx
  have := hn i hi
  simpa [hi] using this
 rw [this]
theorem mem_at {α : Type} [Inhabited α] (l : List α) (k : Nat) (h : k < l.length) : l[k]! ∈ l := by
 rw [getElem!_pos l k h]; exact List.getElem_mem _
theorem take_snoc' {α : Type} [Inhabited α] (l : List α) (k : Nat) (h : k < l.length) : l.take (k + 1) = l.take k ++ [l[k]!] := by
 rw [List.take_succ_eq_append_getElem h, getElem!_pos l k h]
end Go.Proofs.Ytfagfooggcinoaa
