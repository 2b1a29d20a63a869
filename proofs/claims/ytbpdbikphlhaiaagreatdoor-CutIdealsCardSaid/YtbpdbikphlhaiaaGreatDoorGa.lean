import Derived.WalkKit
import Derived.WalkSpells
import Derived.WalkLawsBesides
import Derived.Lib.Hide
import Derived.Deep.LoopGhost
import Derived.ArgAppend
namespace Go.Proofs.YtbpdbikphlhaiaaGreatDoor
open Go.RowKit
set_option linter.unusedVariables false
abbrev Ext (w w' : World) : Prop := Below w.heap.size w w'
theorem Ext.rf (w : World) : Ext w w := Below.refl _ _
theorem Ext.trans' {a b c : World} (h : Ext a b) (k : Ext b c) : Ext a c := Below.trans h (k.mono h.size)
theorem Ext.al {w W : World} (h : Ext w W) (o : Obj) : Ext w (W.alloc o) := Below.alloc h h.size o
theorem Ext.dr {w W : World} (h : Ext w W) : Ext w W.drew := Below.drew h
theorem Ext.drN {w W : World} (h : Ext w W) (n : Nat) : Ext w (W.drewN n) := ⟨h.os, h.tape, h.output, h.size, h.block⟩
theorem Ext.st {w W : World} (h : Ext w W) {p : Addr} (hp : w.heap.size ≤ p.block) (u : Value) : Ext w (W.setCell p u) := Below.setCell h hp u
theorem Ext.gr {w W W' : World} {row : Option Nat} (h : Ext w W) (hg : W.grownBy W' row) (hr : ∀ k, row = some k → w.heap.size ≤ k) : Ext w W' := Below.grown h hg h.size hr
theorem Ext.cl {w W : World} (h : Ext w W) {b o : Nat} {v : Value} (hc : w.cell? ⟨b, o, none⟩ = some v) : W.cell? ⟨b, o, none⟩ = some v :=
 (Below.cell h (World.block_lt_of_cell? w _ hc)).trans hc
theorem Ext.hp {w W : World} (h : Ext w W) {b : Nat} {o : Obj} (hc : w.heap[b]? = some o) : W.heap[b]? = some o :=
 (h.block b (Array.getElem?_eq_some_iff.1 hc).1).trans hc
theorem Ext.sz {w W : World} (h : Ext w W) : w.heap.size ≤ W.heap.size := h.size
theorem cell_new (w : World) (c : Array Value) (t : TypeId) (i : Nat) (v : Value) (h : c[i]? = some v) : (w.alloc (.cells c t)).cell? ⟨w.heap.size, i, none⟩ = some v :=
 (World.cell?_alloc_at c t w.heap.size i rfl).trans h
def Ints (w : World) (v : Value) (l : List Int) : Prop :=
 ∃ a c, v = .slice a l.length c ∧ l.length ≤ c ∧ (l ≠ [] → ∃ b off, a = some ⟨b, off, none⟩ ∧ b < w.heap.size ∧ ∀ i, i < l.length → w.cell? ⟨b, off + i, none⟩ = some (.int .i64 l[i]!))
theorem Ints.ext {w w' : World} {v : Value} {l : List Int} (h : Ints w v l) (e : Ext w w') : Ints w' v l := by
 obtain ⟨a, c, rfl, hlc, h⟩ := h
 refine ⟨a, c, rfl, hlc, fun hl => ?_⟩
 obtain ⟨b, off, rfl, hb, hc⟩ := h hl
 exact ⟨b, off, rfl, Nat.lt_of_lt_of_le hb e.size, fun i hi => (e.cell hb).trans (hc i hi)⟩
def Sl {α : Type} [Inhabited α] (R : World → List Value → α → Prop) (k : Nat) (w : World) (v : Value) (l : List α) : Prop :=
 ∃ a c, v = .slice a l.length c ∧ l.length ≤ c ∧ (l ≠ [] → ∃ b off, a = some ⟨b, off, none⟩ ∧ b < w.heap.size ∧ ∀ i, i < l.length → ∃ vs, vs.length = k ∧ R w vs l[i]! ∧ ∀ j, j < k → w.cell? ⟨b, off + i * k + j, none⟩ = some vs[j]!)
def Lasts {α : Type} (R : World → List Value → α → Prop) : Prop := ∀ w W vs x, R w vs x → Ext w W → R W vs x
theorem Sl.ext {α : Type} [Inhabited α] {R : World → List Value → α → Prop} (hR : Lasts R) {k : Nat} {w w' : World} {v : Value} {l : List α} (h : Sl R k w v l) (e : Ext w w') : Sl R k w' v l := by
 obtain ⟨a, c, rfl, hlc, h⟩ := h
 refine ⟨a, c, rfl, hlc, fun hl => ?_⟩
 obtain ⟨b, off, rfl, hb, hc⟩ := h hl
 refine ⟨b, off, rfl, Nat.lt_of_lt_of_le hb e.size, fun i hi => ?_⟩
 obtain ⟨vs, h1, h2, h3⟩ := hc i hi
 exact ⟨vs, h1, hR _ _ _ _ h2 e, fun j hj => (e.cell hb).trans (h3 j hj)⟩
theorem Sl.take {α : Type} [Inhabited α] {R : World → List Value → α → Prop} {q : Nat} {w : World} {a : Option Addr} {n c : Nat} {l : List α} (h : Sl R q w (.slice a n c) l) (k : Nat) (hk : k ≤ l.length) : Sl R q w (.slice a k c) (l.take k) := by
 obtain ⟨a', c', he, hlc, h⟩ := h
 simp only [Value.slice.injEq] at he
 obtain ⟨rfl, rfl, rfl⟩ := he
 have hkl : (l.take k).length = k := by rw [List.length_take]; omega
 refine ⟨a, c, by rw [hkl], by omega, fun hne => ?_⟩
 obtain ⟨b, off, rfl, hb, hc⟩ := h (by rintro rfl; simp at hne)
 refine ⟨b, off, rfl, hb, fun i hi => ?_⟩
 have e : (l.take k)[i]! = l[i]! := by rw [getElem!_pos l i (by omega), getElem!_pos _ i hi, List.getElem_take]
 rw [e]
 exact hc i (by omega)
def Says (P : Program) (g : Nat) (cb : Array Value) (p : Int → Bool) (l : List Int) (w : World) : Prop :=
 ∀ x, x ∈ l → ∀ W, Ext w W → Calls P g (#[.int .i64 x] ++ cb) W fun e w' => e = .returned (.bool (p x)) ∧ Ext W w'
def SaysOf {α : Type} (P : Program) (R : World → List Value → α → Prop) (enc : List Value → Value) (g : Nat) (cb : Array Value) (p : α → Bool) (l : List α) (w : World) : Prop :=
 ∀ x, x ∈ l → ∀ W vs, Ext w W → R W vs x → Calls P g (#[enc vs] ++ cb) W fun e w' => e = .returned (.bool (p x)) ∧ Ext W w'
def encAgg (vs : List Value) : Value := .agg vs.toArray
def encOne (vs : List Value) : Value := vs.headD undef
def firstAt {α : Type} (p : α → Bool) (l : List α) : Int := match l.findIdx? p with | some i => (i : Int) | none => -1
theorem firstAt_any {α : Type} (p : α → Bool) (l : List α) : decide (0 ≤ firstAt p l) = l.any p := by
 unfold firstAt
 cases h : l.findIdx? p with
 | some i =>
   have : l.any p = true := by
    rw [List.any_eq_true]
    have := List.findIdx?_eq_some_iff_getElem.1 h
    obtain ⟨hi, hp, _⟩ := this
    exact ⟨l[i], List.getElem_mem hi, hp⟩
   simp [this]
 | none =>
   have : l.any p = false := by
    rw [List.any_eq_false]
    intro x hx
    have := List.findIdx?_eq_none_iff.1 h x hx
    simp [this]
   simp [this]
theorem firstAt_hit {α : Type} [Inhabited α] (p : α → Bool) (l : List α) (k : Nat) (hk : k < l.length) (h : p l[k]! = true) (hn : ∀ j, j < k → p l[j]! = false) : firstAt p l = k := by
 unfold firstAt
 have : l.findIdx? p = some k := by
  rw [List.findIdx?_eq_some_iff_getElem]
  refine ⟨hk, by simpa [hk] using h, fun j hj => ?_⟩
  have := hn j hj
  have hjl : j < l.length := by omega
  simpa [hjl] using this
 rw [this]
theorem firstAt_miss {α : Type} [Inhabited α] (p : α → Bool) (l : List α) (hn : ∀ j, j < l.length → p l[j]! = false) : firstAt p l = -1 := by
 unfold firstAt
 have : l.findIdx? p = none := by
  rw [List.findIdx?_eq_none_iff]
  intro x hx
  obtain ⟨i, hi, rfl⟩ := List.getElem_of_mem hx
  have := hn i hi
  simpa [hi] using this
 rw [this]
theorem mem_at {α : Type} [Inhabited α] (l : List α) (k : Nat) (h : k < l.length) : l[k]! ∈ l := by
 rw [getElem!_pos l k h]; exact List.getElem_mem _
theorem take_snoc' {α : Type} [Inhabited α] (l : List α) (k : Nat) (h : k < l.length) : l.take (k + 1) = l.take k ++ [l[k]!] := by
 rw [List.take_succ_eq_append_getElem h, getElem!_pos l k h]
end Go.Proofs.YtbpdbikphlhaiaaGreatDoor
namespace Go.Proofs.YtbpdbikphlhaiaaGreatDoor
set_option linter.unusedVariables false
structure Ck where
 qs : List (List (List Int))
 ended : List Bool
 done : Bool
 cut : List Int
deriving Inhabited
def outC (x : Int) : Bool := decide (x < 0) || decide (64 < x)
def stampB (v : List Int) (n : Nat) : Bool := decide (v.length = n) && !v.any outC
def leqB (v w : List Int) : Bool := (List.range v.length).all fun i => decide (v[i]! ≤ w[i]!)
def afterB (v w : List Int) (p : Nat) : Bool := leqB v w && decide (v[p]! < w[p]!)
def beatsB (qs : List (List (List Int))) (p o : Nat) : Bool :=
 decide (o ≠ p) && (decide (0 < qs[p]!.length) && (decide (0 < qs[o]!.length) && decide (qs[p]![0]![p]! < qs[o]![0]![p]!)))
def beatenAt (qs : List (List (List Int))) (p : Nat) : Bool := (List.range qs.length).any fun o => beatsB qs p o
def beatenL (qs : List (List (List Int))) : Int := firstAt (fun p => beatenAt qs p) (List.range qs.length)
def allB (qs : List (List (List Int))) : Bool := (List.range qs.length).all fun p => decide (0 < qs[p]!.length)
def overB (qs : List (List (List Int))) (ended : List Bool) : Bool := (List.range qs.length).any fun p => decide (qs[p]!.length = 0) && ended[p]!
def cutOf (qs : List (List (List Int))) : List Int := (List.range qs.length).map fun p => qs[p]![0]![p]!
def doneB (qs : List (List (List Int))) (ended : List Bool) : Bool := allB qs || overB qs ended
def cutB (qs : List (List (List Int))) : List Int := if allB qs then cutOf qs else []
def queueB (n p : Nat) (q : List (List Int)) : Bool :=
 decide (q.length ≤ 65) && (List.range q.length).all fun i => stampB q[i]! n && (decide (i = 0) || afterB q[i - 1]! q[i]! p)
def formB (s : Ck) : Bool :=
 decide (1 ≤ s.qs.length) && (decide (s.qs.length ≤ 8) && (decide (s.ended.length = s.qs.length) && (List.range s.qs.length).all fun p => queueB s.qs.length p s.qs[p]!))
def validC (s : Ck) : Bool := formB s && (decide (beatenL s.qs < 0) && (decide (doneB s.qs s.ended = s.done) && decide (cutB s.qs = s.cut)))
theorem range_all (n : Nat) (p : Nat → Bool) : (List.range n).all p = true ↔ ∀ i, i < n → p i = true := by
 simp [List.all_eq_true]
theorem range_any (n : Nat) (p : Nat → Bool) : (List.range n).any p = true ↔ ∃ i, i < n ∧ p i = true := by
 simp [List.any_eq_true]
theorem range_any_false (n : Nat) (p : Nat → Bool) : (List.range n).any p = false ↔ ∀ i, i < n → p i = false := by
 simp [List.any_eq_false]
def total (qs : List (List (List Int))) : Nat := (qs.map List.length).sum
def dropAt (qs : List (List (List Int))) (p : Nat) : List (List (List Int)) := qs.set p (qs[p]!.drop 1)
def reduceF : Nat → List (List (List Int)) → List (List (List Int))
 | 0, qs => qs
 | k + 1, qs => if beatenL qs < 0 then qs else reduceF k (dropAt qs (beatenL qs).toNat)
def reduceL (qs : List (List (List Int))) : List (List (List Int)) := reduceF (total qs) qs
def concludeC (qs : List (List (List Int))) (ended : List Bool) : Ck := ⟨qs, ended, doneB qs ended, cutB qs⟩
def putErr (s : Ck) (p : Int) (v : List Int) : Int :=
 if !validC s then 1
 else if p < 0 ∨ (s.qs.length : Int) ≤ p ∨ stampB v s.qs.length = false then 2
 else if s.done = true ∨ s.ended[p.toNat]! = true then 6
 else if 0 < s.qs[p.toNat]!.length ∧ afterB s.qs[p.toNat]![s.qs[p.toNat]!.length - 1]! v p.toNat = false then 11
 else if 65 ≤ s.qs[p.toNat]!.length then 5
 else 0
def putQs (s : Ck) (p : Nat) (v : List Int) : List (List (List Int)) := s.qs.set p (s.qs[p]! ++ [v])
def putC (s : Ck) (p : Nat) (v : List Int) : Ck := concludeC (reduceL (putQs s p v)) s.ended
def endC (s : Ck) (p : Nat) : Ck := concludeC s.qs (s.ended.set p true)
end Go.Proofs.YtbpdbikphlhaiaaGreatDoor
namespace Go.Proofs.YtbpdbikphlhaiaaGreatDoor
set_option linter.unusedVariables false
section
variable {s : Ck} {p : Nat} {v : List Int} (h : putErr s p v = 0)
include h
def allQ (s : Ck) (p : Nat) (v : List Int) (q : Nat) : List (List Int) := if q = p then s.qs[q]! ++ [v] else s.qs[q]!
end
end Go.Proofs.YtbpdbikphlhaiaaGreatDoor
namespace Go.Proofs.YtbpdbikphlhaiaaGreatDoor
open Go.RowKit
set_option linter.unusedVariables false
structure Asg where
 var : Int
 value : Int
deriving Inhabited, DecidableEq
structure Ev where
 kind : Int
 peer : Int
 msg : Int
 time : Int
 asg : List Asg
deriving Inhabited, DecidableEq
structure Vr where
 name : ByteArray
 init : Int
deriving Inhabited
structure Pr where
 name : ByteArray
 vars : List Vr
 events : List Ev
deriving Inhabited
abbrev Tr := List Pr
def RAsg (w : World) (cs : List Value) (a : Asg) : Prop := cs = [.int .i64 a.var, .int .i64 a.value]
theorem rasg_lasts : Lasts RAsg := fun _ _ _ _ h _ => h
def REv (w : World) (cs : List Value) (e : Ev) : Prop := ∃ v, cs = [.int .i64 e.kind, .int .i64 e.peer, .int .i64 e.msg, .int .i64 e.time, v] ∧ Sl RAsg 2 w v e.asg
theorem rev_lasts : Lasts REv := fun _ _ _ _ ⟨v, h, hs⟩ e => ⟨v, h, hs.ext rasg_lasts e⟩
def RVr (w : World) (cs : List Value) (x : Vr) : Prop := cs = [.string x.name, .int .i64 x.init]
theorem rvr_lasts : Lasts RVr := fun _ _ _ _ h _ => h
def RPr (w : World) (cs : List Value) (x : Pr) : Prop := ∃ vv ve, cs = [.string x.name, vv, ve] ∧ Sl RVr 2 w vv x.vars ∧ Sl REv 5 w ve x.events
theorem rpr_lasts : Lasts RPr := fun _ _ _ _ ⟨a, b, h, h1, h2⟩ e => ⟨a, b, h, h1.ext rvr_lasts e, h2.ext rev_lasts e⟩
def TrAt (w : World) (v : Value) (t : Tr) : Prop := Sl RPr 3 w v t
theorem TrAt.ext {w w' : World} {v : Value} {t : Tr} (h : TrAt w v t) (e : Ext w w') : TrAt w' v t := Sl.ext rpr_lasts h e
theorem Sl.cellsOf {α : Type} [Inhabited α] {R : World → List Value → α → Prop} {k : Nat} {w : World} {v : Value} {l : List α} (h : Sl R k w v l) (i : Nat) (hi : i < l.length) :
  ∃ b off c vs, v = .slice (some ⟨b, off, none⟩) l.length c ∧ l.length ≤ c ∧ b < w.heap.size ∧ vs.length = k ∧ R w vs l[i]! ∧ ∀ j, j < k → w.cell? ⟨b, off + i * k + j, none⟩ = some vs[j]! := by
 obtain ⟨a, c, rfl, hlc, h⟩ := h
 obtain ⟨b, off, rfl, hb, hc⟩ := h (by intro e; simp [e] at hi)
 obtain ⟨vs, h1, h2, h3⟩ := hc i hi
 exact ⟨b, off, c, vs, rfl, hlc, hb, h1, h2, h3⟩
theorem Sl.sh {α : Type} [Inhabited α] {R : World → List Value → α → Prop} {k : Nat} {w : World} {v : Value} {l : List α} (h : Sl R k w v l) : ∃ a c, v = .slice a l.length c ∧ l.length ≤ c := by
 obtain ⟨a, c, h1, h2, _⟩ := h; exact ⟨a, c, h1, h2⟩
theorem proc_at {w : World} {v : Value} {t : Tr} (h : TrAt w v t) (p : Nat) (hp : p < t.length) :
  ∃ B O C vv ve, v = .slice (some ⟨B, O, none⟩) t.length C ∧ t.length ≤ C ∧ B < w.heap.size ∧ w.cell? ⟨B, O + p * 3, none⟩ = some (.string t[p]!.name) ∧ w.cell? ⟨B, O + p * 3 + 1, none⟩ = some vv ∧ w.cell? ⟨B, O + p * 3 + 2, none⟩ = some ve ∧ Sl RVr 2 w vv t[p]!.vars ∧ Sl REv 5 w ve t[p]!.events := by
 obtain ⟨B, O, C, vs, rfl, hlc, hB, h1, ⟨vv, ve, rfl, hv, he⟩, h3⟩ := Sl.cellsOf h p hp
 exact ⟨B, O, C, vv, ve, rfl, hlc, hB, by simpa using h3 0 (by omega), by simpa using h3 1 (by omega), by simpa using h3 2 (by omega), hv, he⟩
theorem event_at {w : World} {v : Value} {l : List Ev} (h : Sl REv 5 w v l) (i : Nat) (hi : i < l.length) :
  ∃ B O C va, v = .slice (some ⟨B, O, none⟩) l.length C ∧ l.length ≤ C ∧ B < w.heap.size ∧ w.cell? ⟨B, O + i * 5, none⟩ = some (.int .i64 l[i]!.kind) ∧ w.cell? ⟨B, O + i * 5 + 1, none⟩ = some (.int .i64 l[i]!.peer) ∧ w.cell? ⟨B, O + i * 5 + 2, none⟩ = some (.int .i64 l[i]!.msg) ∧
   w.cell? ⟨B, O + i * 5 + 3, none⟩ = some (.int .i64 l[i]!.time) ∧ w.cell? ⟨B, O + i * 5 + 4, none⟩ = some va ∧ Sl RAsg 2 w va l[i]!.asg := by
 obtain ⟨B, O, C, vs, rfl, hlc, hB, h1, ⟨va, rfl, ha⟩, h3⟩ := Sl.cellsOf h i hi
 exact ⟨B, O, C, va, rfl, hlc, hB, by simpa using h3 0 (by omega), by simpa using h3 1 (by omega), by simpa using h3 2 (by omega), by simpa using h3 3 (by omega), by simpa using h3 4 (by omega), ha⟩
theorem var_at {w : World} {v : Value} {l : List Vr} (h : Sl RVr 2 w v l) (i : Nat) (hi : i < l.length) :
  ∃ B O C, v = .slice (some ⟨B, O, none⟩) l.length C ∧ l.length ≤ C ∧ B < w.heap.size ∧ w.cell? ⟨B, O + i * 2, none⟩ = some (.string l[i]!.name) ∧ w.cell? ⟨B, O + i * 2 + 1, none⟩ = some (.int .i64 l[i]!.init) := by
 obtain ⟨B, O, C, vs, rfl, hlc, hB, h1, h2, h3⟩ := Sl.cellsOf h i hi
 have e : vs = [.string l[i]!.name, .int .i64 l[i]!.init] := h2
 subst e
 exact ⟨B, O, C, rfl, hlc, hB, by simpa using h3 0 (by omega), by simpa using h3 1 (by omega)⟩
theorem asg_at {w : World} {v : Value} {l : List Asg} (h : Sl RAsg 2 w v l) (i : Nat) (hi : i < l.length) :
  ∃ B O C, v = .slice (some ⟨B, O, none⟩) l.length C ∧ l.length ≤ C ∧ B < w.heap.size ∧ w.cell? ⟨B, O + i * 2, none⟩ = some (.int .i64 l[i]!.var) ∧ w.cell? ⟨B, O + i * 2 + 1, none⟩ = some (.int .i64 l[i]!.value) := by
 obtain ⟨B, O, C, vs, rfl, hlc, hB, h1, h2, h3⟩ := Sl.cellsOf h i hi
 have e : vs = [.int .i64 l[i]!.var, .int .i64 l[i]!.value] := h2
 subst e
 exact ⟨B, O, C, rfl, hlc, hB, by simpa using h3 0 (by omega), by simpa using h3 1 (by omega)⟩
def letterB (c : UInt8) : Bool := (decide (97 ≤ c.toNat) && decide (c.toNat ≤ 122)) || (decide (65 ≤ c.toNat) && decide (c.toNat ≤ 90))
def digitB (c : UInt8) : Bool := decide (48 ≤ c.toNat) && decide (c.toNat ≤ 57)
def wordB (c : UInt8) : Bool := letterB c || digitB c || decide (c.toNat = 95)
def nameB (s : ByteArray) : Bool := decide (1 ≤ s.size) && (decide (s.size ≤ 16) && (letterB s[0]! && (List.range s.size).all fun i => wordB s[i]!))
def valueB (n : Int) : Bool := decide (-1073741824 ≤ n) && decide (n ≤ 1073741824)
def varB (l : List Vr) (i : Nat) : Bool := nameB l[i]!.name && ((List.range i).all fun j => !(l[j]!.name.toList == l[i]!.name.toList)) && valueB l[i]!.init
def headB (t : Tr) (p : Nat) : Bool :=
 nameB t[p]!.name && (((List.range p).all fun q => !(t[q]!.name.toList == t[p]!.name.toList)) && (decide (t[p]!.vars.length ≤ 8) && (((List.range t[p]!.vars.length).all fun i => varB t[p]!.vars i) && decide (t[p]!.events.length ≤ 64))))
def formedB (n p : Nat) (e : Ev) : Bool :=
 if e.kind = 1 then decide (e.peer = 0) && decide (e.msg = 0)
 else (decide (e.kind = 2) || decide (e.kind = 3)) && (decide (0 ≤ e.peer) && (decide (e.peer < n) && (decide (e.peer ≠ p) && (decide (0 ≤ e.msg) && decide (e.msg ≤ 199)))))
def asgB (nv : Nat) (l : List Asg) (i : Nat) : Bool := decide (0 ≤ l[i]!.var) && (decide (l[i]!.var < nv) && (valueB l[i]!.value && (List.range i).all fun j => !decide (l[j]!.var = l[i]!.var)))
def eventB (t : Tr) (p i : Nat) : Bool :=
 formedB t.length p t[p]!.events[i]! && (decide (0 ≤ t[p]!.events[i]!.time) && (decide (t[p]!.events[i]!.time ≤ 1099511627776) && (decide (i = 0 ∨ t[p]!.events[i - 1]!.time ≤ t[p]!.events[i]!.time) &&
  (decide (t[p]!.events[i]!.asg.length ≤ 8) && (List.range t[p]!.events[i]!.asg.length).all fun k => asgB t[p]!.vars.length t[p]!.events[i]!.asg k))))
def shapeB (t : Tr) : Bool :=
 decide (1 ≤ t.length) && (decide (t.length ≤ 8) && (((List.range t.length).all fun p => headB t p) && (List.range t.length).all fun p => (List.range t[p]!.events.length).all fun i => eventB t p i))
end Go.Proofs.YtbpdbikphlhaiaaGreatDoor
namespace Go.Proofs.YtbpdbikphlhaiaaGreatDoor
open Go.RowKit
set_option linter.unusedVariables false
def ErrIff (w w' : World) (e : Ending) (b : Bool) : Prop := ∃ E : Int, e = .returned (.int .i64 E) ∧ (E = 0 ↔ b = true) ∧ Ext w w'
theorem any_take {α : Type} [Inhabited α] (l : List α) (k : Nat) (hk : k ≤ l.length) (f : α → Bool) : (l.take k).any f = (List.range k).any fun i => f l[i]! := by
 rw [Bool.eq_iff_iff, range_any, List.any_eq_true]
 constructor
 ·rintro ⟨x, hx, h⟩
  obtain ⟨i, hi, rfl⟩ := List.getElem_of_mem hx
  rw [List.length_take] at hi
  exact ⟨i, by omega, by rw [getElem!_pos l i (by omega)]; simpa using h⟩
 ·rintro ⟨i, hi, h⟩
  exact ⟨l[i]!, by rw [getElem!_pos l i (by omega)]; exact List.mem_take_iff_getElem.2 ⟨i, by omega, rfl⟩, h⟩
theorem headB_parts {t : Tr} {p : Nat} : headB t p = true ↔ nameB t[p]!.name = true ∧ (∀ q, q < p → (t[q]!.name.toList == t[p]!.name.toList) = false) ∧ t[p]!.vars.length ≤ 8 ∧ (∀ i, i < t[p]!.vars.length → varB t[p]!.vars i = true) ∧ t[p]!.events.length ≤ 64 := by
 simp only [headB, Bool.and_eq_true, decide_eq_true_eq, range_all, Bool.not_eq_true']
theorem varB_parts {l : List Vr} {i : Nat} : varB l i = true ↔ (nameB l[i]!.name = true ∧ ∀ j, j < i → (l[j]!.name.toList == l[i]!.name.toList) = false) ∧ valueB l[i]!.init = true := by
 simp only [varB, Bool.and_eq_true, range_all, Bool.not_eq_true']
def SmallTr (t : Tr) : Prop := t.length ≤ 1000000 ∧ ∀ p, p < t.length → t[p]!.vars.length ≤ 1000000 ∧ t[p]!.events.length ≤ 1000000 ∧ ∀ i, i < t[p]!.events.length → t[p]!.events[i]!.asg.length ≤ 1000000
def LooseTr (t : Tr) : Prop := t.length ≤ 1000000 ∧ ∀ p, p < t.length → t[p]!.vars.length ≤ 1000000 ∧ ∀ i, i < t[p]!.events.length → t[p]!.events[i]!.asg.length ≤ 1000000
theorem SmallTr.loose {t : Tr} (h : SmallTr t) : LooseTr t := ⟨h.1, fun p hp => ⟨(h.2 p hp).1, (h.2 p hp).2.2⟩⟩
theorem LooseTr.small {t : Tr} (h : LooseTr t) (he : ∀ p, p < t.length → headB t p = true) : SmallTr t :=
 ⟨h.1, fun p hp => ⟨(h.2 p hp).1, by have := (headB_parts.1 (he p hp)).2.2.2.2; omega, (h.2 p hp).2⟩⟩
end Go.Proofs.YtbpdbikphlhaiaaGreatDoor
namespace Go.Proofs.YtbpdbikphlhaiaaGreatDoor
open Go.RowKit
set_option linter.unusedVariables false
abbrev Eid := Nat × Nat
def Inn (t : Tr) (x : Eid) : Prop := x.1 < t.length ∧ x.2 < t[x.1]!.events.length
instance (t : Tr) (x : Eid) : Decidable (Inn t x) := inferInstanceAs (Decidable (_ ∧ _))
def ev (t : Tr) (x : Eid) : Ev := t[x.1]!.events[x.2]!
def idsTo (t : Tr) (p i : Nat) : List Eid := ((List.range p).flatMap fun q => (List.range t[q]!.events.length).map fun j => (q, j)) ++ (List.range i).map fun j => (p, j)
def ids (t : Tr) : List Eid := idsTo t t.length 0
theorem idsTo_zero (t : Tr) : idsTo t 0 0 = [] := rfl
theorem idsTo_succ (t : Tr) (p i : Nat) : idsTo t p (i + 1) = idsTo t p i ++ [(p, i)] := by
 simp [idsTo, List.range_succ, List.append_assoc]
theorem idsTo_next (t : Tr) (p : Nat) : idsTo t p t[p]!.events.length = idsTo t (p + 1) 0 := by
 simp [idsTo, List.range_succ, List.flatMap_append]
theorem mem_idsTo {t : Tr} {p i : Nat} {x : Eid} : x ∈ idsTo t p i ↔ (x.1 < p ∧ x.2 < t[x.1]!.events.length) ∨ (x.1 = p ∧ x.2 < i) := by
 obtain ⟨q, j⟩ := x
 simp only [idsTo, List.mem_append, List.mem_flatMap, List.mem_map, List.mem_range, Prod.mk.injEq]
 constructor
 ·rintro (⟨q', h1, j', h2, rfl, rfl⟩ | ⟨j', h, rfl, rfl⟩)
  ·exact .inl ⟨h1, h2⟩
  ·exact .inr ⟨rfl, h⟩
 ·rintro (⟨h1, h2⟩ | ⟨rfl, h⟩)
  ·exact .inl ⟨q, h1, j, h2, rfl, rfl⟩
  ·exact .inr ⟨j, h, rfl, rfl⟩
theorem mem_ids {t : Tr} {x : Eid} : x ∈ ids t ↔ Inn t x := by
 unfold ids; rw [mem_idsTo]; unfold Inn; omega
theorem idsTo_grow (t : Tr) (p i : Nat) : ∀ k, i ≤ k → idsTo t p i <+: idsTo t p k := by
 intro k hk
 induction k with
 | zero => obtain rfl : i = 0 := by omega
           exact List.prefix_rfl
 | succ k ih =>
   by_cases e : i = k + 1
   ·subst e; exact List.prefix_rfl
   ·rw [idsTo_succ]; exact (ih (by omega)).trans (List.prefix_append _ _)
theorem idsTo_row (t : Tr) (p : Nat) : ∀ q, p ≤ q → idsTo t p 0 <+: idsTo t q 0 := by
 intro q hq
 induction q with
 | zero => obtain rfl : p = 0 := by omega
           exact List.prefix_rfl
 | succ q ih =>
   by_cases e : p = q + 1
   ·subst e; exact List.prefix_rfl
   ·rw [← idsTo_next]; exact (ih (by omega)).trans (idsTo_grow t q 0 _ (by omega))
theorem idsTo_ids {t : Tr} {p i : Nat} (hp : p < t.length) (hi : i ≤ t[p]!.events.length) : idsTo t p i <+: ids t := by
 refine (idsTo_grow t p i _ hi).trans ?_
 rw [idsTo_next]
 exact idsTo_row t (p + 1) t.length (by omega)
def before (x y : Eid) : Prop := x.1 < y.1 ∨ (x.1 = y.1 ∧ x.2 < y.2)
theorem idsTo_sorted (t : Tr) : ∀ p i, (idsTo t p i).Pairwise before := by
 have inner : ∀ p i, (idsTo t p 0).Pairwise before → (idsTo t p i).Pairwise before := by
  intro p i h
  induction i with
  | zero => exact h
  | succ i ih =>
    rw [idsTo_succ, List.pairwise_append]
    refine ⟨ih, by simp, fun x hx y hy => ?_⟩
    rw [List.mem_singleton] at hy; subst hy
    rw [mem_idsTo] at hx
    unfold before; omega
 intro p i
 induction p generalizing i with
 | zero => exact inner 0 i (by simp [idsTo_zero])
 | succ p ih => exact inner (p + 1) i (by rw [← idsTo_next]; exact ih _)
def hit (t : Tr) (k m : Int) (x : Eid) : Bool := decide ((ev t x).kind = k) && decide ((ev t x).msg = m)
def firstIn (pre : List Eid) (t : Tr) (k m : Int) : Option Eid := pre.find? (hit t k m)
def findE (t : Tr) (k m : Int) : Option Eid := firstIn (ids t) t k m
theorem hit_iff {t : Tr} {k m : Int} {x : Eid} : hit t k m x = true ↔ (ev t x).kind = k ∧ (ev t x).msg = m := by
 simp only [hit, Bool.and_eq_true, decide_eq_true_eq]
theorem findE_some {t : Tr} {k m : Int} {x : Eid} (h : findE t k m = some x) : Inn t x ∧ (ev t x).kind = k ∧ (ev t x).msg = m := by
 unfold findE firstIn at h
 exact ⟨mem_ids.1 (List.mem_of_find?_eq_some h), hit_iff.1 (List.find?_some h)⟩
theorem findE_none {t : Tr} {k m : Int} (h : findE t k m = none) {x : Eid} (hx : Inn t x) : ¬ ((ev t x).kind = k ∧ (ev t x).msg = m) := by
 unfold findE firstIn at h
 intro e
 have := List.find?_eq_none.1 h x (mem_ids.2 hx)
 exact this (hit_iff.2 e)
theorem firstIn_snoc (pre : List Eid) (t : Tr) (k m : Int) (x : Eid) : firstIn (pre ++ [x]) t k m = (firstIn pre t k m).or (if (ev t x).kind = k ∧ (ev t x).msg = m then some x else none) := by
 unfold firstIn
 rw [List.find?_append]
 congr 1
 by_cases h : (ev t x).kind = k ∧ (ev t x).msg = m
 ·rw [if_pos h]; simp [hit_iff.2 h]
 ·rw [if_neg h]
  have : hit t k m x = false := by rw [Bool.eq_false_iff]; exact fun e => h (hit_iff.1 e)
  simp [this]
def sendsB (t : Tr) (p : Nat) (m q : Int) : Bool := t[p]!.events.any fun s => decide (s.kind = 2) && (decide (s.msg = m) && decide (s.peer = q))
def pairStep (t : Tr) (pre : List Eid) (x : Eid) : Bool :=
 decide ((ev t x).kind = 1) || ((firstIn pre t (ev t x).kind (ev t x).msg).isNone && (decide ((ev t x).kind ≠ 3) || sendsB t (ev t x).peer.toNat (ev t x).msg x.1))
def pairOf (t : Tr) (x : Eid) : Bool :=
 decide ((ev t x).kind = 1) || (decide (findE t (ev t x).kind (ev t x).msg = some x) && (decide ((ev t x).kind ≠ 3) || sendsB t (ev t x).peer.toNat (ev t x).msg x.1))
def pairB (t : Tr) : Bool := (ids t).all (pairOf t)
theorem pairStep_of {t : Tr} {pre post : List Eid} {x : Eid} (h : ids t = pre ++ x :: post) : pairStep t pre x = pairOf t x := by
 have hs := idsTo_sorted t t.length 0
 have e : (firstIn pre t (ev t x).kind (ev t x).msg).isNone = decide (findE t (ev t x).kind (ev t x).msg = some x) := by
  unfold findE firstIn
  rw [h, List.find?_append, List.find?_cons, hit_iff.2 ⟨rfl, rfl⟩]
  cases hf : pre.find? (hit t (ev t x).kind (ev t x).msg) with
  | none => simp
  | some y =>
    have hy := List.mem_of_find?_eq_some hf
    have hl : ids t = pre ++ x :: post := h
    unfold ids at hl
    rw [hl, List.pairwise_append] at hs
    have hb := hs.2.2 y hy x (by simp)
    have hne : y ≠ x := by rintro rfl; unfold before at hb; omega
    simp [hne]
 unfold pairStep pairOf
 rw [e]
theorem pairB_no {t : Tr} {pre : List Eid} {x : Eid} (h : pre ++ [x] <+: ids t) (hb : pairStep t pre x = false) : pairB t = false := by
 obtain ⟨post, hp⟩ := h
 have hp : ids t = pre ++ x :: post := by rw [← hp]; simp
 rw [pairStep_of hp] at hb
 unfold pairB
 rw [List.all_eq_false]
 exact ⟨x, by rw [hp]; simp, by rw [hb]; simp⟩
def okPre (t : Tr) (l : List Eid) : Prop := ∀ pre x, pre ++ [x] <+: l → pairStep t pre x = true
theorem okPre_nil (t : Tr) : okPre t [] := fun pre x h => by have := h.length_le; simp at this
theorem okPre_snoc {t : Tr} {l : List Eid} {x : Eid} (h : okPre t l) (hx : pairStep t l x = true) : okPre t (l ++ [x]) := by
 intro pre y hp
 rcases List.prefix_concat_iff.1 hp with e | hp
 ·have := List.append_inj' e rfl
  obtain ⟨rfl, e2⟩ := this
  simp only [List.cons.injEq, and_true] at e2
  subst e2; exact hx
 ·exact h pre y hp
theorem pairB_yes {t : Tr} (h : okPre t (ids t)) : pairB t = true := by
 unfold pairB
 rw [List.all_eq_true]
 intro x hx
 obtain ⟨pre, post, hp⟩ := List.append_of_mem hx
 rw [← pairStep_of hp]
 exact h pre x ⟨post, by rw [hp]; simp⟩
theorem pairB_at {t : Tr} (h : pairB t = true) {x : Eid} (hx : Inn t x) (hk : (ev t x).kind ≠ 1) :
  findE t (ev t x).kind (ev t x).msg = some x ∧ ((ev t x).kind = 3 → sendsB t (ev t x).peer.toNat (ev t x).msg x.1 = true) := by
 have := List.all_eq_true.1 h x (mem_ids.2 hx)
 unfold pairOf at this
 simp only [Bool.or_eq_true, Bool.and_eq_true, decide_eq_true_eq] at this
 rcases this with e | ⟨e, f⟩
 ·exact absurd e hk
 ·exact ⟨e, fun h3 => by rcases f with f | f; exact absurd h3 f; exact f⟩
def Dir (t : Tr) (y x : Eid) : Prop := Inn t x ∧ ((y.1 = x.1 ∧ y.2 + 1 = x.2) ∨ ((ev t x).kind = 3 ∧ findE t 2 (ev t x).msg = some y))
theorem Dir.inn {t : Tr} {y x : Eid} (h : Dir t y x) : Inn t y := by
 obtain ⟨hx, (⟨h1, h2⟩ | ⟨_, h⟩)⟩ := h
 ·unfold Inn at *; rw [h1]; omega
 ·exact (findE_some h).1
def Cyc (t : Tr) : Prop := ∃ x, Relation.TransGen (Dir t) x x
open Classical in
noncomputable def validT (t : Tr) : Bool := shapeB t && (pairB t && decide (¬ Cyc t))
theorem tg_inn {t : Tr} {y x : Eid} (h : Relation.TransGen (Dir t) y x) : Inn t x := by
 induction h with
 | single h => exact h.1
 | tail _ h _ => exact h.1
theorem tg_inn_l {t : Tr} {y x : Eid} (h : Relation.TransGen (Dir t) y x) : Inn t y := by
 induction h with
 | single h => exact h.inn
 | tail _ _ ih => exact ih
theorem acc_no_cyc {t : Tr} (h : ∀ x, Inn t x → Acc (Dir t) x) : ¬ Cyc t := by
 rintro ⟨x, hx⟩
 have ha := (h x (tg_inn hx)).transGen
 induction ha with
 | intro y _ ih => exact ih y hx hx
theorem acc_step {t : Tr} {p i : Nat} (hprev : ∀ j, j < i → Acc (Dir t) (p, j)) (hs : ∀ s, (ev t (p, i)).kind = 3 → findE t 2 (ev t (p, i)).msg = some s → Acc (Dir t) s) : Acc (Dir t) (p, i) := by
 refine ⟨_, fun y hy => ?_⟩
 obtain ⟨_, (⟨h1, h2⟩ | ⟨h3, h⟩)⟩ := hy
 ·obtain ⟨q, j⟩ := y
  simp only at h1 h2
  subst h1
  exact hprev j (by omega)
 ·exact hs y h3 h
def aft (t : Tr) (x : Eid) : List Eid :=
 (if x.2 + 1 < t[x.1]!.events.length then [(x.1, x.2 + 1)] else []) ++ (if (ev t x).kind = 2 then (findE t 3 (ev t x).msg).toList else [])
theorem mem_aft {t : Tr} (hp : pairB t = true) {x y : Eid} (hx : Inn t x) : y ∈ aft t x ↔ Dir t x y := by
 unfold aft
 rw [List.mem_append]
 constructor
 ·rintro (h | h)
  ·split at h
   ·rename_i hlt
    rw [List.mem_singleton] at h; subst h
    exact ⟨⟨hx.1, hlt⟩, .inl ⟨rfl, rfl⟩⟩
   ·simp at h
  ·split at h
   ·rename_i hk
    rw [Option.mem_toList] at h
    obtain ⟨h1, h2, h3⟩ := findE_some h
    refine ⟨h1, .inr ⟨h2, ?_⟩⟩
    rw [h3]
    have := (pairB_at hp hx (by rw [hk]; decide)).1
    rwa [hk] at this
   ·simp at h
 ·rintro ⟨hy, (⟨h1, h2⟩ | ⟨h3, h⟩)⟩
  ·left
   have e : y = (x.1, x.2 + 1) := by obtain ⟨a, b⟩ := y; simp only at h1 h2; rw [← h2, ← h1]
   subst e
   rw [if_pos hy.2]; simp
  ·right
   obtain ⟨_, h4, h5⟩ := findE_some h
   rw [if_pos h4, Option.mem_toList, h5]
   have := (pairB_at hp hy (by rw [h3]; decide)).1
   rwa [h3] at this
structure Srch (t : Tr) (a : Eid) (S R X : List Eid) : Prop where
 seen : ∀ y, y ∈ S → Relation.TransGen (Dir t) a y
 rest : ∀ y, y ∈ R → y = a ∨ y ∈ S
 work : ∀ y, y ∈ X → y = a ∨ y ∈ S
 none : a ∉ S
 all : ∀ z, z = a ∨ z ∈ S → z ∈ R ∨ z ∈ X ∨ ∀ y, Dir t z y → y ∈ S
theorem Srch.start (t : Tr) (a : Eid) : Srch t a [] [a] [] := ⟨by simp, by simp, by simp, by simp, by simp⟩
theorem Srch.take {t : Tr} {a x : Eid} {S R : List Eid} (h : Srch t a S (R ++ [x]) []) : Srch t a S R [x] where
 seen := h.seen
 rest := fun y hy => h.rest y (by simp [hy])
 work := fun y hy => h.rest y (by simp at hy; simp [hy])
 none := h.none
 all := fun z hz => by
  have := h.all z hz
  simp only [List.mem_append, List.mem_singleton, List.not_mem_nil, false_or] at this ⊢
  rcases this with (h | h) | h
  ·exact .inl h
  ·exact .inr (.inl h)
  ·exact .inr (.inr h)
theorem Srch.push {t : Tr} {a x y : Eid} {S R : List Eid} (h : Srch t a S R [x]) (hd : Dir t x y) (hne : y ≠ a) : Srch t a (y :: S) (R ++ [y]) [x] where
 seen := fun z hz => by
  rcases List.mem_cons.1 hz with rfl | hz
  ·rcases h.work x (by simp) with rfl | hx
   ·exact .single hd
   ·exact .tail (h.seen x hx) hd
  ·exact h.seen z hz
 rest := fun z hz => by
  rcases List.mem_append.1 hz with hz | hz
  ·rcases h.rest z hz with e | e
   ·exact .inl e
   ·exact .inr (by simp [e])
  ·simp at hz; subst hz; exact .inr (by simp)
 work := fun z hz => by rcases h.work z hz with e | e; exact .inl e; exact .inr (by simp [e])
 none := fun hz => by
  rcases List.mem_cons.1 hz with e | e
  ·exact hne e.symm
  ·exact h.none e
 all := fun z hz => by
  have hz' : z = y ∨ (z = a ∨ z ∈ S) := by
   rcases hz with e | e
   ·exact .inr (.inl e)
   ·rcases List.mem_cons.1 e with e | e
    ·exact .inl e
    ·exact .inr (.inr e)
  rcases hz' with e | e
  ·exact .inl (by simp [e])
  ·rcases h.all z e with h1 | h1 | h1
   ·exact .inl (by simp [h1])
   ·exact .inr (.inl h1)
   ·exact .inr (.inr fun v hv => by simp [h1 v hv])
theorem Srch.done {t : Tr} {a x : Eid} {S R : List Eid} (h : Srch t a S R [x]) (hall : ∀ y, Dir t x y → y ∈ S) : Srch t a S R [] where
 seen := h.seen
 rest := h.rest
 work := by simp
 none := h.none
 all := fun z hz => by
  rcases h.all z hz with h1 | h1 | h1
  ·exact .inl h1
  ·simp at h1; subst h1; exact .inr (.inr hall)
  ·exact .inr (.inr h1)
theorem Srch.no {t : Tr} {a : Eid} {S : List Eid} (h : Srch t a S [] []) : ¬ Relation.TransGen (Dir t) a a := by
 have key : ∀ y, Relation.TransGen (Dir t) a y → y ∈ S := by
  intro y hy
  induction hy with
  | single hd => rcases h.all a (.inl rfl) with h1 | h1 | h1; simp at h1; simp at h1; exact h1 _ hd
  | tail _ hd ih => rcases h.all _ (.inr ih) with h1 | h1 | h1; simp at h1; simp at h1; exact h1 _ hd
 exact fun hc => h.none (key a hc)
theorem Srch.yes {t : Tr} {a x : Eid} {S R : List Eid} (h : Srch t a S R [x]) (hd : Dir t x a) : Relation.TransGen (Dir t) a a := by
 rcases h.work x (by simp) with rfl | hx
 ·exact .single hd
 ·exact .tail (h.seen x hx) hd
def unseen (t : Tr) (S : List Eid) : Nat := ((ids t).filter fun y => !S.contains y).length
theorem filter_less {α : Type} (p q : α → Bool) (l : List α) (h : ∀ x, x ∈ l → q x = true → p x = true) : (l.filter q).length ≤ (l.filter p).length := by
 induction l with
 | nil => simp
 | cons a l ih =>
   have ih := ih fun x hx => h x (by simp [hx])
   have ha := h a (by simp)
   simp only [List.filter_cons]
   cases hq : q a with
   | true => rw [ha hq]; simpa using ih
   | false =>
     cases hp : p a with
     | true => simp; omega
     | false => simpa using ih
theorem filter_lt {α : Type} (p q : α → Bool) (l : List α) (h : ∀ x, x ∈ l → q x = true → p x = true) (a : α) (ha : a ∈ l) (h1 : p a = true) (h2 : q a = false) : (l.filter q).length < (l.filter p).length := by
 induction l with
 | nil => simp at ha
 | cons b l ih =>
   have hb := h b (by simp)
   have hl := filter_less p q l fun x hx => h x (by simp [hx])
   simp only [List.filter_cons]
   rcases List.mem_cons.1 ha with rfl | ha
   ·rw [h1, h2]; simp; omega
   ·have ih := ih (fun x hx => h x (by simp [hx])) ha
    cases hq : q b with
    | true => rw [hb hq]; simpa using ih
    | false =>
      cases hp : p b with
      | true => simp; omega
      | false => simpa using ih
theorem unseen_push {t : Tr} {S : List Eid} {y : Eid} (hy : Inn t y) (hn : y ∉ S) : unseen t (y :: S) < unseen t S := by
 refine filter_lt _ _ _ (fun x _ hx => ?_) y (mem_ids.2 hy) (by simpa using hn) (by simp)
 simp only [Bool.not_eq_true', List.contains_eq_mem, decide_eq_false_iff_not, List.mem_cons, not_or] at hx ⊢
 exact hx.2
structure Back (t : Tr) (a : Eid) (M Q : List Eid) : Prop where
 seen : ∀ y, y ∈ M → Relation.TransGen (Dir t) y a
 rest : ∀ y, y ∈ Q → Relation.TransGen (Dir t) y a
 all : ∀ z, z = a ∨ z ∈ M → ∀ y, Dir t y z → y ∈ M ∨ y ∈ Q
theorem Back.skip {t : Tr} {a x : Eid} {M Q : List Eid} (h : Back t a M (x :: Q)) (hx : x ∈ M) : Back t a M Q where
 seen := h.seen
 rest := fun y hy => h.rest y (by simp [hy])
 all := fun z hz y hy => by
  rcases h.all z hz y hy with e | e
  ·exact .inl e
  ·rcases List.mem_cons.1 e with rfl | e
   ·exact .inl hx
   ·exact .inr e
theorem Back.take {t : Tr} {a x : Eid} {M Q L : List Eid} (h : Back t a M (x :: Q)) (hL : ∀ y, y ∈ L ↔ Dir t y x) : Back t a (x :: M) (Q ++ L) where
 seen := fun y hy => by
  rcases List.mem_cons.1 hy with rfl | hy
  ·exact h.rest _ (by simp)
  ·exact h.seen y hy
 rest := fun y hy => by
  rcases List.mem_append.1 hy with hy | hy
  ·exact h.rest y (by simp [hy])
  ·exact .trans (.single ((hL y).1 hy)) (h.rest x (by simp))
 all := fun z hz y hy => by
  have hz' : z = x ∨ (z = a ∨ z ∈ M) := by
   rcases hz with e | e
   ·exact .inr (.inl e)
   ·rcases List.mem_cons.1 e with e | e
    ·exact .inl e
    ·exact .inr (.inr e)
  rcases hz' with e | e
  ·subst e; exact .inr (by simp [(hL y).2 hy])
  ·rcases h.all z e y hy with e | e
   ·exact .inl (by simp [e])
   ·rcases List.mem_cons.1 e with e | e
    ·exact .inl (by simp [e])
    ·exact .inr (by simp [e])
theorem Back.start {t : Tr} {a : Eid} {L : List Eid} (hL : ∀ y, y ∈ L ↔ Dir t y a) : Back t a [] L where
 seen := by simp
 rest := fun y hy => .single ((hL y).1 hy)
 all := fun z hz y hy => by
  simp at hz; subst hz; exact .inr ((hL y).2 hy)
theorem Back.fin {t : Tr} {a : Eid} {M : List Eid} (h : Back t a M []) (y : Eid) : y ∈ M ↔ Relation.TransGen (Dir t) y a := by
 refine ⟨h.seen y, fun hy => ?_⟩
 have key : ∀ x, Relation.TransGen (Dir t) y x → (x = a ∨ x ∈ M) → y ∈ M := by
  intro x hx
  induction hx with
  | single hd => intro hz; rcases h.all _ hz _ hd with e | e; exact e; simp at e
  | tail _ hd ih => intro hz; refine ih (.inr ?_); rcases h.all _ hz _ hd with e | e; exact e; simp at e
 exact key a hy (.inl rfl)
def bef (t : Tr) (x : Eid) : List Eid := (if 0 < x.2 then [(x.1, x.2 - 1)] else []) ++ (if (ev t x).kind = 3 then (findE t 2 (ev t x).msg).toList else [])
theorem mem_bef {t : Tr} {x y : Eid} (hx : Inn t x) : y ∈ bef t x ↔ Dir t y x := by
 unfold bef
 rw [List.mem_append]
 constructor
 ·rintro (h | h)
  ·split at h
   ·rename_i hlt
    rw [List.mem_singleton] at h; subst h
    exact ⟨hx, .inl ⟨rfl, by simp; omega⟩⟩
   ·simp at h
  ·split at h
   ·rename_i hk
    rw [Option.mem_toList] at h
    exact ⟨hx, .inr ⟨hk, h⟩⟩
   ·simp at h
 ·rintro ⟨_, (⟨h1, h2⟩ | ⟨h3, h⟩)⟩
  ·left
   have e : y = (x.1, x.2 - 1) := by obtain ⟨a, b⟩ := y; simp only at h1 h2; rw [← h2, ← h1]; simp
   subst e
   rw [if_pos (by omega)]; simp
  ·right
   rw [if_pos h3, Option.mem_toList]; exact h
theorem send_of {t : Tr} (hs : ∀ x, Inn t x → (ev t x).kind ≠ 1 → 0 ≤ (ev t x).peer ∧ (ev t x).peer < t.length) (hp : pairB t = true) {x : Eid} (hx : Inn t x) (hk : (ev t x).kind = 3) : ∃ s, findE t 2 (ev t x).msg = some s := by
 have h2 := (pairB_at hp hx (by rw [hk]; decide)).2 hk
 unfold sendsB at h2
 rw [List.any_eq_true] at h2
 obtain ⟨s, hs1, hs2⟩ := h2
 obtain ⟨j, hj, rfl⟩ := List.getElem_of_mem hs1
 simp only [Bool.and_eq_true, decide_eq_true_eq] at hs2
 have hpe := hs x hx (by rw [hk]; decide)
 cases hf : findE t 2 (ev t x).msg with
 | some s => exact ⟨s, rfl⟩
 | none =>
   have hI : Inn t ((ev t x).peer.toNat, j) := ⟨by simp only; omega, hj⟩
   exact absurd ⟨by simp only [ev]; rw [getElem!_pos _ j hj]; exact hs2.1, by simp only [ev]; rw [getElem!_pos _ j hj]; exact hs2.2.1⟩ (findE_none hf hI)
end Go.Proofs.YtbpdbikphlhaiaaGreatDoor
namespace Go.Proofs.YtbpdbikphlhaiaaGreatDoor
open Go.RowKit
set_option linter.unusedVariables false
theorem heap_setCell_same {w : World} {g o : Nat} {u : Value} {cur : Array Value} {e : TypeId} {fr : Nat × Nat} (hg : w.heap[g]? = some (.cells cur e fr)) : (w.setCell ⟨g, o, none⟩ u).heap[g]? = some (.cells (cur.setIfInBounds o u) e fr) := by
 simp [World.setCell, Array.getElem?_modify, hg]
theorem size_setCell (w : World) (p : Addr) (u : Value) : (w.setCell p u).heap.size = w.heap.size := by simp [World.setCell]
def Row (w : World) (base : Nat) (e : TypeId) (size : Nat) (v : Value) (n : Nat) (xs : List Value) : Prop :=
 xs.length = n * size ∧
 ((v = .slice none 0 0 ∧ n = 0) ∨
  ∃ g off cap cur, v = .slice (some ⟨g, off, none⟩) n cap ∧ base ≤ g ∧ w.heap[g]? = some (.cells cur e (0, 0)) ∧ n ≤ cap ∧ cap ≤ maxLen ∧ off + cap * size ≤ cur.size ∧ (cur.toList.drop off).take (n * size) = xs)
theorem Row.ofOwns {w : World} {base : Nat} {e : TypeId} {size : Nat} {v : Value} {n : Nat} {xs : List Value} (h : w.ownsRow base e size v n xs) : Row w base e size v n xs := by
 refine ⟨h.1, ?_⟩
 rcases h.2 with h | ⟨g, cap, cur, rfl, h2, h3, h4, h5, h6, h7⟩
 ·exact .inl h
 ·exact .inr ⟨g, 0, cap, cur, rfl, h2, h3, h4, h5, by omega, by simpa using h7⟩
theorem Row.mkNil (w : World) (base : Nat) (e : TypeId) (size : Nat) : Row w base e size (.slice none 0 0) 0 [] := ⟨by simp, .inl ⟨rfl, rfl⟩⟩
theorem Row.mono {w : World} {base base' : Nat} {e : TypeId} {size : Nat} {v : Value} {n : Nat} {xs : List Value} (h : Row w base e size v n xs) (hb : base' ≤ base) : Row w base' e size v n xs :=
 ⟨h.1, h.2.imp id fun ⟨g, off, cap, cur, h1, h2, h3⟩ => ⟨g, off, cap, cur, h1, Nat.le_trans hb h2, h3⟩⟩
theorem Row.lt {w : World} {base : Nat} {e : TypeId} {size : Nat} {v : Value} {n : Nat} {xs : List Value} (h : Row w base e size v n xs) : ∀ k, v.ownBlock = some k → base ≤ k ∧ k < w.heap.size := by
 intro k hk
 rcases h.2 with ⟨rfl, _⟩ | ⟨g, off, cap, cur, rfl, hb, hg, _⟩
 ·simp [Value.ownBlock] at hk
 ·simp [Value.ownBlock] at hk
  subst hk
  exact ⟨hb, (Array.getElem?_eq_some_iff.1 hg).1⟩
theorem Row.heap {w w' : World} {base : Nat} {e : TypeId} {size : Nat} {v : Value} {n : Nat} {xs : List Value} (h : Row w base e size v n xs) (hh : ∀ k, v.ownBlock = some k → w'.heap[k]? = w.heap[k]?) : Row w' base e size v n xs := by
 refine ⟨h.1, h.2.imp id ?_⟩
 rintro ⟨g, off, cap, cur, rfl, h2, h3, rest⟩
 exact ⟨g, off, cap, cur, rfl, h2, by rw [hh g rfl]; exact h3, rest⟩
theorem Row.grown {w w' : World} {base : Nat} {e : TypeId} {size : Nat} {v : Value} {n : Nat} {xs : List Value} {row : Option Nat} (h : Row w base e size v n xs) (hg : w.grownBy w' row) (hne : v.ownBlock = none ∨ v.ownBlock ≠ row) : Row w' base e size v n xs :=
 h.heap fun k hk => hg.block k (h.lt k hk).2 (hne.elim (fun h1 => by simp [h1] at hk) (fun h1 => by rw [hk] at h1; exact h1))
theorem Row.ext {w w' : World} {base : Nat} {e : TypeId} {size : Nat} {v : Value} {n : Nat} {xs : List Value} (h : Row w base e size v n xs) (x : Ext w w') : Row w' base e size v n xs :=
 h.heap fun k hk => x.block k (h.lt k hk).2
theorem Row.al {w : World} {base : Nat} {e : TypeId} {size : Nat} {v : Value} {n : Nat} {xs : List Value} (h : Row w base e size v n xs) (o : Obj) : Row (w.alloc o) base e size v n xs :=
 h.ext ((Ext.rf w).al o)
theorem Row.st {w : World} {base : Nat} {e : TypeId} {size : Nat} {v : Value} {n : Nat} {xs : List Value} (h : Row w base e size v n xs) {p : Addr} (hp : v.ownBlock ≠ some p.block) (u : Value) : Row (w.setCell p u) base e size v n xs :=
 h.heap fun k hk => Below.heap_setCell w p u k (fun e => hp (e ▸ hk))
theorem Row.cell {w : World} {base : Nat} {e : TypeId} {size g off n cap : Nat} {xs : List Value} (h : Row w base e size (.slice (some ⟨g, off, none⟩) n cap) n xs) (j : Nat) (hj : j < n * size) : w.cell? ⟨g, off + j, none⟩ = xs[j]? := by
 rcases h.2 with ⟨h, _⟩ | ⟨g', off', cap', cur, hv, _, hg, _, _, hs, hx⟩
 ·simp at h
 ·simp only [Value.slice.injEq, Option.some.injEq, Addr.mk.injEq, true_and, and_true] at hv
  obtain ⟨⟨rfl, rfl⟩, rfl⟩ := hv
  rw [← hx, List.getElem?_take_of_lt hj, List.getElem?_drop]
  simp [World.cell?, hg]
theorem Row.nil_of {w : World} {base : Nat} {e : TypeId} {size : Nat} {v : Value} {n : Nat} {xs : List Value} (h : Row w base e size v n xs) (hn : n = 0) : ∃ a c, v = .slice a 0 c := by
 subst hn
 rcases h.2 with ⟨rfl, _⟩ | ⟨g', off', cap', cur, rfl, _⟩ <;> exact ⟨_, _, rfl⟩
theorem Row.shape {w : World} {base : Nat} {e : TypeId} {size : Nat} {v : Value} {n : Nat} {xs : List Value} (h : Row w base e size v n xs) (hn : 0 < n) : ∃ g off cap, v = .slice (some ⟨g, off, none⟩) n cap ∧ base ≤ g ∧ g < w.heap.size ∧ n ≤ cap := by
 rcases h.2 with ⟨_, h0⟩ | ⟨g, off, cap, cur, rfl, hb, hg, hn, _⟩
 ·omega
 ·exact ⟨g, off, cap, rfl, hb, (Array.getElem?_eq_some_iff.1 hg).1, hn⟩
theorem Row.any {w : World} {base : Nat} {e : TypeId} {size : Nat} {v : Value} {n : Nat} {xs : List Value} (h : Row w base e size v n xs) : ∃ a cap, v = .slice a n cap ∧ n ≤ cap ∧ (0 < n → ∃ g off, a = some ⟨g, off, none⟩ ∧ base ≤ g ∧ g < w.heap.size ∧ n ≤ cap) := by
 rcases h.2 with ⟨rfl, rfl⟩ | ⟨g, off, cap, cur, rfl, hb, hg, hn, _⟩
 ·exact ⟨_, _, rfl, Nat.le_refl _, fun h => absurd h (by omega)⟩
 ·exact ⟨_, _, rfl, hn, fun _ => ⟨g, off, rfl, hb, (Array.getElem?_eq_some_iff.1 hg).1, hn⟩⟩
theorem Row.ints {w : World} {base : Nat} {e : TypeId} {v : Value} {n : Nat} {l : List Int} (h : Row w base e 1 v n (l.map (Value.int .i64))) : Ints w v l := by
 have hl : l.length = n := by simpa using h.1
 subst hl
 obtain ⟨a, cap, rfl, hlc, ha⟩ := h.any
 refine ⟨a, cap, rfl, hlc, fun hne => ?_⟩
 have h0 : 0 < l.length := List.length_pos_iff.2 hne
 obtain ⟨g, off, rfl, hb, hg, hc⟩ := ha h0
 refine ⟨g, off, rfl, hg, fun i hi => ?_⟩
 rw [h.cell i (by omega)]
 simp [hi]
theorem run_append_row {P : Program} (w : World) (base : Nat) (t ty e : TypeId) (i : TypeInfo) (z : Value) (size bytes : Nat) (ht : P.underlying t = some (.slice e)) (hi : P.info? e = some i) (hz : i.zero = some z)
  (hsize : i.size = size) (hby : i.bytes = bytes) (hzs : z.cells.size = size) (hsz : 0 < size)
  (v : Value) (n : Nat) (xs : List Value) (hown : Row w base e size v n xs)
  (ao : Option Addr) (m c : Nat) (news : List Value) (hl : news.length = m * size) (hm0 : 0 < m → ∃ ad, ao = some ad ∧ ∀ j u, news[j]? = some u → w.cell? (ad.add j) = some u) (h1 : ∀ u ∈ news, u.oneCell' = true)
  (h63 : n + m ≤ maxLen) (hbytes : (n + m) * bytes ≤ 140737488355328) (hbase : base ≤ w.heap.size) :
  ∃ v' w', (Builtin.append_ #[t, t] ty #[v, .slice ao m c]).run P w = .ok v' w' ∧ Row w' base e size v' (n + m) (xs ++ news) ∧ w.grownBy w' v.ownBlock ∧
   (v'.ownBlock = v.ownBlock ∨ ∃ k, v'.ownBlock = some k ∧ w.heap.size ≤ k) := by
 subst hsize
 subst hby
 by_cases hm : m = 0
 ·subst hm
  obtain rfl : news = [] := List.eq_nil_of_length_eq_zero (by simpa using hl)
  have hfc : (Builtin.firstCells i.size 0 (.slice ao 0 c)).run P w = .ok #[] w := by
   cases ao <;> simp [Builtin.firstCells, loadCells, loadCellsFrom]
  refine ⟨v, w, ?_, by simpa using hown, ⟨rfl, rfl, rfl, Nat.le_refl _, fun _ _ _ => rfl⟩, .inl rfl⟩
  obtain ⟨a, cap, rfl, hnc, ha⟩ := hown.any
  have hst : ∀ ad : Addr, (storeCells ad []).run P w = .ok () w := fun ad => by simp [storeCells]
  cases a with
  | none => simp [Builtin.append_, run_underlying ht, sizeOf, typeInfo, hi, Builtin.lenOf, hnc, hfc]
  | some ad => simp [Builtin.append_, run_underlying ht, sizeOf, typeInfo, hi, Builtin.lenOf, hnc, hfc, hst]
 ·obtain ⟨ad, rfl, hnews⟩ := hm0 (by omega)
  rcases hown.2 with ⟨rfl, rfl⟩ | ⟨g, off, cap, cur, rfl, hbg, hg, hnc, hcm, hcs, htake⟩
  ·obtain rfl : xs = [] := List.eq_nil_of_length_eq_zero (by simpa using hown.1)
   obtain ⟨v', w', hr, h2, h3, _⟩ := run_append_own (P := P) w w.heap.size t ty e i z i.size i.bytes ht hi hz rfl rfl hzs hsz (.slice none 0 0) 0 [] (World.ownsRow_nil _ _ _ _) ad m c news hl hnews h1 h63 hbytes (Nat.le_refl _)
   refine ⟨v', w', hr, (Row.ofOwns h2).mono hbase, h3, ?_⟩
   rcases h2.2 with ⟨_, h0⟩ | ⟨g, _, _, rfl, hb, _⟩
   ·omega
   ·exact .inr ⟨g, rfl, hb⟩
  ·by_cases hroom : n + m ≤ cap
   ·have hsum : n * i.size + m * i.size ≤ cap * i.size := by rw [← Nat.add_mul]; exact Nat.mul_le_mul_right _ hroom
    have hcell : ∀ j, j < news.length → ∃ u, w.cell? ⟨g, off + n * i.size + j, none⟩ = some u := fun j hj => by
     refine ⟨cur[off + n * i.size + j]'(by omega), ?_⟩
     simp [World.cell?, hg]
    have hr := run_append_room_cells (P := P) w t ty e i ht hi g off n cap ad m c news hl hnews h1 hroom
     (fun j hj => by obtain ⟨u, hu⟩ := hcell j hj; rw [hu]; rfl) (fun j hj => by simp only [World.frozen?, hg]; simp)
    refine ⟨_, _, hr, ?_, ?_, .inl rfl⟩
    ·have hh : ∀ (vs : List Value) (o : Nat) (w : World) (cur : Array Value), w.heap[g]? = some (.cells cur e (0, 0)) → o + vs.length ≤ cur.size →
       ∃ cur', (w.setCells g o vs).heap[g]? = some (.cells cur' e (0, 0)) ∧ cur'.size = cur.size ∧ cur'.toList = cur.toList.take o ++ vs ++ cur.toList.drop (o + vs.length) := by
      intro vs
      induction vs with
      | nil => intro o w cur hg _; exact ⟨cur, hg, rfl, by simp⟩
      | cons x vs ih =>
        intro o w cur hg hle
        simp only [List.length_cons] at hle
        have hg1 : (w.setCell ⟨g, o, none⟩ x).heap[g]? = some (.cells (cur.setIfInBounds o x) e (0, 0)) := heap_setCell_same hg
        obtain ⟨cur', h1, h2, h3⟩ := ih (o + 1) (w.setCell ⟨g, o, none⟩ x) (cur.setIfInBounds o x) hg1 (by simp; omega)
        refine ⟨cur', h1, by simpa using h2, ?_⟩
        rw [h3]
        have : (cur.setIfInBounds o x).toList = cur.toList.set o x := by simp
        rw [this]
        have ho : o < cur.toList.length := by simp; omega
        rw [List.drop_set_of_lt (by omega), List.take_succ_eq_append_getElem (by simpa using ho), List.take_set_of_le (Nat.le_refl _)]
        simp only [List.getElem_set_self, List.length_cons, List.append_assoc, List.cons_append, List.nil_append]
        rw [show o + 1 + vs.length = o + (vs.length + 1) by omega]
     obtain ⟨cur', h1', h2', h3'⟩ := hh news (off + n * i.size) w cur hg (by omega)
     refine ⟨by rw [List.length_append, hown.1, hl, Nat.add_mul], .inr ⟨g, off, cap, cur', rfl, hbg, h1', hroom, hcm, by omega, ?_⟩⟩
     have hxl := hown.1
     have e1 : cur.toList.take (off + n * i.size) = cur.toList.take off ++ xs := by
      rw [← htake, ← List.take_add]
     have e2 : (cur.toList.take off).length = off := by simp; omega
     rw [h3', e1, List.append_assoc, List.append_assoc, List.drop_left' e2, ← List.append_assoc]
     exact List.take_left' (by rw [List.length_append, hxl, hl, Nat.add_mul])
    ·have hb : ∀ (vs : List Value) (o : Nat) (w : World), w.grownBy (w.setCells g o vs) (some g) := by
      intro vs
      induction vs with
      | nil => intro o w; exact World.grownBy.refl w _
      | cons x vs ih =>
        intro o w
        have := ih (o + 1) (w.setCell ⟨g, o, none⟩ x)
        refine ⟨this.os, this.tape, this.output, ?_, fun k hk hne => ?_⟩
        ·have h := this.size; rw [size_setCell] at h; exact h
        ·have h2 := this.block k (by rw [size_setCell]; exact hk) hne
         rw [show (w.setCells g o (x :: vs)).heap[k]? = ((w.setCell ⟨g, o, none⟩ x).setCells g (o + 1) vs).heap[k]? from rfl, h2]
         exact Below.heap_setCell w _ x k (by simp only; intro e; exact hne (by rw [e]))
     exact hb news _ w
   ·obtain ⟨v', w', hr, h2, h3⟩ := run_append_arg_grows (P := P) w t ty e i z i.size i.bytes ht hi hz rfl rfl hzs hsz ⟨g, off, none⟩ n cap xs hown.1
     (fun j u hj => by
      have hj' : j < n * i.size := by have := (List.getElem?_eq_some_iff.1 hj).1; rw [hown.1] at this; exact this
      rw [Addr.add_lit, hown.cell j hj']; exact hj) ad m c news hl hnews (by omega) h63 hbytes
    refine ⟨v', w', hr, (Row.ofOwns h2).mono hbase, ⟨h3.os, h3.tape, h3.output, h3.size, fun k hk _ => h3.block k hk (by simp)⟩, ?_⟩
    rcases h2.2 with ⟨_, h0⟩ | ⟨g', _, _, rfl, hb, _⟩
    ·omega
    ·exact .inr ⟨g', rfl, hb⟩
theorem wpList_append_row {P : Program} {w : World} {ops : Array Oper} {rest : List Oper} {o : Oper} {a : Act} {Q : Exit → Act → World → Prop} (hgd : o.guard = none) (s x : Operand) (t : TypeId)
  (ho : o.op = .call { callee := .builtin .append, args := #[s, x], argTypes := #[t, t] })
  (base : Nat) (e : TypeId) (i : TypeInfo) (z : Value) (size bytes : Nat) (ht : P.underlying t = some (.slice e)) (hi : P.info? e = some i) (hz : i.zero = some z)
  (hsize : i.size = size) (hby : i.bytes = bytes) (hzs : z.cells.size = size) (hsz : 0 < size)
  (v : Value) (n : Nat) (xs : List Value) (hs : a.eval s = v) (hown : Row w base e size v n xs)
  (ao : Option Addr) (m c : Nat) (news : List Value) (hx : a.eval x = .slice ao m c) (hl : news.length = m * size) (hm0 : 0 < m → ∃ ad, ao = some ad ∧ ∀ j u, news[j]? = some u → w.cell? (ad.add j) = some u) (h1 : ∀ u ∈ news, u.oneCell' = true)
  (h63 : n + m ≤ maxLen) (hbytes : (n + m) * bytes ≤ 140737488355328) (hbase : base ≤ w.heap.size)
  (h : ∀ v' w', Row w' base e size v' (n + m) (xs ++ news) → w.grownBy w' v.ownBlock → (v'.ownBlock = v.ownBlock ∨ ∃ k, v'.ownBlock = some k ∧ w.heap.size ≤ k) → wpList P ops Q rest (a.put o.dst v') w') : wpList P ops Q (o :: rest) a w := by
 refine wpList_plain hgd fun K hK => ?_
 obtain ⟨v', w', hr, h2, h3, h4⟩ := run_append_row (P := P) w base t o.type e i z size bytes ht hi hz hsize hby hzs hsz v n xs hown ao m c news hl hm0 h1 h63 hbytes hbase
 unfold Oper.wp execOp
 simp only [ho, resolve, invoke, builtin, Sem.run_bind, Sem.run_pure, Result.andThen_ok, List.map_toArray, List.map_cons, List.map_nil, hs, hx, hr]
 exact hK _ _ (h v' w' h2 h3 h4)
theorem wpList_append_one {P : Program} {w : World} {ops : Array Oper} {rest : List Oper} {o : Oper} {a : Act} {Q : Exit → Act → World → Prop} (hgd : o.guard = none) (s x : Operand) (t : TypeId)
  (ho : o.op = .call { callee := .builtin .append, args := #[s, x], argTypes := #[t, t] })
  (base : Nat) (e : TypeId) (i : TypeInfo) (z : Value) (size bytes : Nat) (ht : P.underlying t = some (.slice e)) (hi : P.info? e = some i) (hz : i.zero = some z)
  (hsize : i.size = size) (hby : i.bytes = bytes) (hzs : z.cells.size = size) (hsz : 0 < size)
  (v : Value) (n : Nat) (xs : List Value) (hs : a.eval s = v) (hown : Row w base e size v n xs)
  (k c : Nat) (news : List Value) (hx : a.eval x = .slice (some ⟨k, 0, none⟩) 1 c) (hl : news.length = size) (hnews : ∃ fr, w.heap[k]? = some (.cells news.toArray e fr)) (h1 : ∀ u ∈ news, u.oneCell' = true)
  (h63 : n + 1 ≤ maxLen) (hbytes : (n + 1) * bytes ≤ 140737488355328) (hbase : base ≤ w.heap.size)
  (h : ∀ v' w', Row w' base e size v' (n + 1) (xs ++ news) → w.grownBy w' v.ownBlock → (v'.ownBlock = v.ownBlock ∨ ∃ k, v'.ownBlock = some k ∧ w.heap.size ≤ k) → wpList P ops Q rest (a.put o.dst v') w') : wpList P ops Q (o :: rest) a w :=
 wpList_append_row hgd s x t ho base e i z size bytes ht hi hz hsize hby hzs hsz v n xs hs hown (some ⟨k, 0, none⟩) 1 c news hx (by omega)
  (fun _ => ⟨_, rfl, fun j u hj => by
   obtain ⟨fr, hf⟩ := hnews
   have := (List.getElem?_eq_some_iff.1 hj)
   simp [Addr.add_lit, World.cell?, hf, hj]⟩) h1 h63 hbytes hbase h
theorem Row.tail {w : World} {base : Nat} {e : TypeId} {size g off n cap : Nat} {xs : List Value} (h : Row w base e size (.slice (some ⟨g, off, none⟩) (n + 1) cap) (n + 1) xs) :
  Row w base e size (.slice (some ⟨g, off + size, none⟩) n (cap - 1)) n (xs.drop size) ∧ Row w base e size (.slice (some ⟨g, off, none⟩) 0 (cap - 1)) 0 [] := by
 rcases h.2 with ⟨h', _⟩ | ⟨g', off', cap', cur, hv, hb, hg, hn, hm, hs, hx⟩
 ·simp at h'
 ·simp only [Value.slice.injEq, Option.some.injEq, Addr.mk.injEq, true_and, and_true] at hv
  obtain ⟨⟨rfl, rfl⟩, rfl⟩ := hv
  have hcap : (cap - 1) * size + size = cap * size := by rw [← Nat.succ_mul]; congr 1; omega
  refine ⟨⟨by rw [List.length_drop, h.1, Nat.add_mul]; omega, .inr ⟨g, off + size, cap - 1, cur, rfl, hb, hg, by omega, by omega, by omega, ?_⟩⟩,
   ⟨by simp, .inr ⟨g, off, cap - 1, cur, rfl, hb, hg, by omega, by omega, by omega, by simp⟩⟩⟩
  rw [← hx, List.drop_take, List.drop_drop, Nat.add_mul]
  congr 1
  omega
theorem Row.set {w : World} {base : Nat} {e : TypeId} {size g off n cap : Nat} {xs : List Value} (h : Row w base e size (.slice (some ⟨g, off, none⟩) n cap) n xs) (j : Nat) (u : Value) (hj : j < n * size) :
  Row (w.setCell ⟨g, off + j, none⟩ u) base e size (.slice (some ⟨g, off, none⟩) n cap) n (xs.set j u) := by
 rcases h.2 with ⟨h', _⟩ | ⟨g', off', cap', cur, hv, hb, hg, hn, hm, hs, hx⟩
 ·simp at h'
 ·simp only [Value.slice.injEq, Option.some.injEq, Addr.mk.injEq, true_and, and_true] at hv
  obtain ⟨⟨rfl, rfl⟩, rfl⟩ := hv
  refine ⟨by rw [List.length_set, h.1], .inr ⟨g, off, cap, cur.setIfInBounds (off + j) u, rfl, hb, heap_setCell_same hg, hn, hm, by simpa using hs, ?_⟩⟩
  rw [← hx, Array.toList_setIfInBounds, List.drop_set, if_neg (by omega), Nat.add_sub_cancel_left, List.take_set]
theorem Row.free {w : World} {base : Nat} {e : TypeId} {size g off n cap : Nat} {xs : List Value} (h : Row w base e size (.slice (some ⟨g, off, none⟩) n cap) n xs) (o : Nat) : w.frozen? ⟨g, o, none⟩ = false := by
 rcases h.2 with ⟨h', _⟩ | ⟨g', off', cap', cur, hv, hb, hg, _⟩
 ·simp at h'
 ·simp only [Value.slice.injEq, Option.some.injEq, Addr.mk.injEq, true_and, and_true] at hv
  obtain ⟨⟨rfl, rfl⟩, rfl⟩ := hv
  simp [World.frozen?, hg]
theorem Row.apart {w : World} {b1 b2 : Nat} {e1 e2 : TypeId} {s1 s2 : Nat} {v1 v2 : Value} {n1 n2 : Nat} {x1 x2 : List Value} (h1 : Row w b1 e1 s1 v1 n1 x1) (h2 : Row w b2 e2 s2 v2 n2 x2) (hne : e1 ≠ e2) :
  v1.ownBlock = .none ∨ v1.ownBlock ≠ v2.ownBlock := by
 rcases h1.2 with ⟨rfl, _⟩ | ⟨g, off, cap, cur, rfl, _, hg, _⟩
 ·exact .inl rfl
 ·refine .inr fun hh => ?_
  rcases h2.2 with ⟨rfl, _⟩ | ⟨g', off', cap', cur', rfl, _, hg', _⟩
  ·simp [Value.ownBlock] at hh
  ·simp [Value.ownBlock] at hh
   subst hh
   rw [hg] at hg'
   simp at hg'
   exact hne hg'.2
def CellsAt (w : World) (v : Value) (size n : Nat) (xs : List Value) : Prop :=
 xs.length = n * size ∧ ∃ a c, v = .slice a n c ∧ n ≤ c ∧ (0 < n → ∃ b off, a = some ⟨b, off, none⟩ ∧ b < w.heap.size ∧ ∀ j, j < n * size → w.cell? ⟨b, off + j, none⟩ = xs[j]?)
theorem Ints.cells {w : World} {v : Value} {l : List Int} (h : Ints w v l) : CellsAt w v 1 l.length (l.map (Value.int .i64)) := by
 obtain ⟨a, c, rfl, hlc, h⟩ := h
 refine ⟨by simp, a, c, rfl, hlc, fun hn => ?_⟩
 obtain ⟨b, off, rfl, hb, hc⟩ := h (List.length_pos_iff.1 hn)
 refine ⟨b, off, rfl, hb, fun j hj => ?_⟩
 rw [hc j (by omega)]
 have : j < l.length := by omega
 simp [this]
theorem Row.cells {w : World} {base : Nat} {e : TypeId} {size : Nat} {v : Value} {n : Nat} {xs : List Value} (h : Row w base e size v n xs) : CellsAt w v size n xs := by
 obtain ⟨a, cap, rfl, hlc, ha⟩ := h.any
 refine ⟨h.1, a, cap, rfl, hlc, fun hn => ?_⟩
 obtain ⟨g, off, rfl, hb, hg, hc⟩ := ha hn
 exact ⟨g, off, rfl, hg, fun j hj => h.cell j hj⟩
theorem CellsAt.sl {α : Type} [Inhabited α] {R : World → List Value → α → Prop} {k : Nat} {w : World} {v : Value} {l : List α} {xs : List Value} (h : CellsAt w v k l.length xs)
  (hR : ∀ i, i < l.length → R w ((xs.drop (i * k)).take k) l[i]!) : Sl R k w v l := by
 obtain ⟨h0, a, c, rfl, hlc, h⟩ := h
 refine ⟨a, c, rfl, hlc, fun hl => ?_⟩
 obtain ⟨b, off, rfl, hb, hc⟩ := h (List.length_pos_iff.2 hl)
 refine ⟨b, off, rfl, hb, fun i hi => ⟨_, ?_, hR i hi, fun j hj => ?_⟩⟩
 ·have hle : i * k + k ≤ l.length * k := by rw [← Nat.succ_mul]; exact Nat.mul_le_mul_right _ hi
  rw [List.length_take, List.length_drop]; omega
 ·have hle : i * k + k ≤ l.length * k := by rw [← Nat.succ_mul]; exact Nat.mul_le_mul_right _ hi
  rw [Nat.add_assoc, hc _ (by omega)]
  rw [getElem!_pos _ j (by rw [List.length_take, List.length_drop]; omega), List.getElem_take, List.getElem_drop, List.getElem?_eq_getElem]
theorem CellsAt.ints {w : World} {v : Value} {l : List Int} (h : CellsAt w v 1 l.length (l.map (Value.int .i64))) : Ints w v l := by
 obtain ⟨h0, a, c, rfl, hlc, h⟩ := h
 refine ⟨a, c, rfl, hlc, fun hl => ?_⟩
 obtain ⟨b, off, rfl, hb, hc⟩ := h (List.length_pos_iff.2 hl)
 refine ⟨b, off, rfl, hb, fun i hi => ?_⟩
 rw [hc i (by omega)]
 simp [hi]
theorem heap_new_eq {w : World} {o : Obj} {b : Nat} (hb : b = w.heap.size) : (w.alloc o).heap[b]? = some o := by subst hb; exact heap_alloc_new w o
theorem cells_laid {W : World} {b : Nat} {t : TypeId} {fr : Nat × Nat} (size n : Nat) {xs : List Value} (hb : W.heap[b]? = some (.cells xs.toArray t fr)) (hl : xs.length = n * size) : CellsAt W (.slice (some ⟨b, 0, none⟩) n n) size n xs := by
 refine ⟨hl, _, _, rfl, Nat.le_refl _, fun _ => ⟨b, 0, rfl, (Array.getElem?_eq_some_iff.1 hb).1, fun j hj => ?_⟩⟩
 simp [World.cell?, hb]
theorem ints_laid {W : World} {b : Nat} {t : TypeId} {fr : Nat × Nat} (l : List Int) (hb : W.heap[b]? = some (.cells (l.map (Value.int .i64)).toArray t fr)) : Ints W (.slice (some ⟨b, 0, none⟩) l.length l.length) l :=
 (cells_laid 1 l.length hb (by simp)).ints
end Go.Proofs.YtbpdbikphlhaiaaGreatDoor
namespace Go.Proofs.YtbpdbikphlhaiaaGreatDoor
open Go.RowKit
set_option linter.unusedVariables false
theorem cellOf {w : World} {g : Nat} {cs : Array Value} {e : TypeId} {fr : Nat × Nat} (h : w.heap[g]? = some (.cells cs e fr)) (i : Nat) : w.cell? ⟨g, i, none⟩ = cs[i]? := by simp [World.cell?, h]
theorem freeOf {w : World} {g : Nat} {cs : Array Value} {e : TypeId} (h : w.heap[g]? = some (.cells cs e (0, 0))) (i : Nat) : w.frozen? ⟨g, i, none⟩ = false := by simp [World.frozen?, h]
theorem Row.notBox {w : World} {base g : Nat} {e e' : TypeId} {size : Nat} {v : Value} {n : Nat} {xs : List Value} {cs : Array Value} {fr : Nat × Nat} (h : Row w base e size v n xs) (hg : w.heap[g]? = some (.cells cs e' fr)) (hne : e' ≠ e) : v.ownBlock ≠ some g := by
 intro hk
 rcases h.2 with ⟨rfl, _⟩ | ⟨g', off, cap, cur, rfl, _, hg', _⟩
 ·simp [Value.ownBlock] at hk
 ·simp [Value.ownBlock] at hk
  subst hk
  rw [hg] at hg'
  simp at hg'
  exact hne hg'.2.1
theorem grownKeep {W w5 : World} {row : Option Nat} {k : Nat} {X : Obj} (hg : W.grownBy w5 row) (hne : row ≠ some k) (h : W.heap[k]? = some X) : w5.heap[k]? = some X := by
 rw [hg.block k (Array.getElem?_eq_some_iff.1 h).1 (fun e => hne e.symm)]
 exact h
end Go.Proofs.YtbpdbikphlhaiaaGreatDoor
