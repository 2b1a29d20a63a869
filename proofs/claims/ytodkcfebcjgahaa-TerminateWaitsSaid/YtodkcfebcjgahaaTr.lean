/-
  Traces in plain words, and how they are read from memory. No program is named here.
-/
import Derived.Test.YtodkcfebcjgahaaCkF
namespace Go.Proofs.Ytodkcfebcjgahaa
open Go.RowKit
set_option linter.unusedVariables false

/-! ### Traces -/
structure Asg where
  var : Int
  value : Int
deriving Inhabited, DecidableEq
structure Ev where
  kind : Int
  peer : Int
  msg : Int
  time : Int
  asg : List Asg
deriving Inhabited, DecidableEq
structure Vr where
  name : ByteArray
  init : Int
deriving Inhabited
structure Pr where
  name : ByteArray
  vars : List Vr
  events : List Ev
deriving Inhabited
abbrev Tr := List Pr

/-! ### How they are read -/
def RAsg (w : World) (cs : List Value) (a : Asg) : Prop := cs = [.int .i64 a.var, .int .i64 a.value]
theorem rasg_lasts : Lasts RAsg := fun _ _ _ _ h _ => h
def REv (w : World) (cs : List Value) (e : Ev) : Prop := ∃ v, cs = [.int .i64 e.kind, .int .i64 e.peer, .int .i64 e.msg, .int .i64 e.time, v] ∧ Sl RAsg 2 w v e.asg
theorem rev_lasts : Lasts REv := fun _ _ _ _ ⟨v, h, hs⟩ e => ⟨v, h, hs.ext rasg_lasts e⟩
def RVr (w : World) (cs : List Value) (x : Vr) : Prop := cs = [.string x.name, .int .i64 x.init]
theorem rvr_lasts : Lasts RVr := fun _ _ _ _ h _ => h
def RPr (w : World) (cs : List Value) (x : Pr) : Prop := ∃ vv ve, cs = [.string x.name, vv, ve] ∧ Sl RVr 2 w vv x.vars ∧ Sl REv 5 w ve x.events
theorem rpr_lasts : Lasts RPr := fun _ _ _ _ ⟨a, b, h, h1, h2⟩ e => ⟨a, b, h, h1.ext rvr_lasts e, h2.ext rev_lasts e⟩
/-- The trace's one cell reads as t. -/
def TrAt (w : World) (v : Value) (t : Tr) : Prop := Sl RPr 3 w v t
theorem TrAt.ext {w w' : World} {v : Value} {t : Tr} (h : TrAt w v t) (e : Ext w w') : TrAt w' v t := Sl.ext rpr_lasts h e

/-- The cells of one element of several. -/
theorem Sl.cellsOf {α : Type} [Inhabited α] {R : World → List Value → α → Prop} {k : Nat} {w : World} {v : Value} {l : List α} (h : Sl R k w v l) (i : Nat) (hi : i < l.length) :
    ∃ b off c vs, v = .slice (some ⟨b, off, none⟩) l.length c ∧ l.length ≤ c ∧ b < w.heap.size ∧ vs.length = k ∧ R w vs l[i]! ∧ ∀ j, j < k → w.cell? ⟨b, off + i * k + j, none⟩ = some vs[j]! := by
  obtain ⟨a, c, rfl, hlc, h⟩ := h
  obtain ⟨b, off, rfl, hb, hc⟩ := h (by intro e; simp [e] at hi)
  obtain ⟨vs, h1, h2, h3⟩ := hc i hi
  exact ⟨b, off, c, vs, rfl, hlc, hb, h1, h2, h3⟩
theorem Sl.sh {α : Type} [Inhabited α] {R : World → List Value → α → Prop} {k : Nat} {w : World} {v : Value} {l : List α} (h : Sl R k w v l) : ∃ a c, v = .slice a l.length c ∧ l.length ≤ c := by
  obtain ⟨a, c, h1, h2, _⟩ := h; exact ⟨a, c, h1, h2⟩

/-- A process of a trace. -/
theorem proc_at {w : World} {v : Value} {t : Tr} (h : TrAt w v t) (p : Nat) (hp : p < t.length) :
    ∃ B O C vv ve, v = .slice (some ⟨B, O, none⟩) t.length C ∧ t.length ≤ C ∧ B < w.heap.size ∧ w.cell? ⟨B, O + p * 3, none⟩ = some (.string t[p]!.name) ∧ w.cell? ⟨B, O + p * 3 + 1, none⟩ = some vv ∧ w.cell? ⟨B, O + p * 3 + 2, none⟩ = some ve ∧ Sl RVr 2 w vv t[p]!.vars ∧ Sl REv 5 w ve t[p]!.events := by
  obtain ⟨B, O, C, vs, rfl, hlc, hB, h1, ⟨vv, ve, rfl, hv, he⟩, h3⟩ := Sl.cellsOf h p hp
  exact ⟨B, O, C, vv, ve, rfl, hlc, hB, by simpa using h3 0 (by omega), by simpa using h3 1 (by omega), by simpa using h3 2 (by omega), hv, he⟩
/-- An event of a process. -/
theorem event_at {w : World} {v : Value} {l : List Ev} (h : Sl REv 5 w v l) (i : Nat) (hi : i < l.length) :
    ∃ B O C va, v = .slice (some ⟨B, O, none⟩) l.length C ∧ l.length ≤ C ∧ B < w.heap.size ∧ w.cell? ⟨B, O + i * 5, none⟩ = some (.int .i64 l[i]!.kind) ∧ w.cell? ⟨B, O + i * 5 + 1, none⟩ = some (.int .i64 l[i]!.peer) ∧ w.cell? ⟨B, O + i * 5 + 2, none⟩ = some (.int .i64 l[i]!.msg) ∧
      w.cell? ⟨B, O + i * 5 + 3, none⟩ = some (.int .i64 l[i]!.time) ∧ w.cell? ⟨B, O + i * 5 + 4, none⟩ = some va ∧ Sl RAsg 2 w va l[i]!.asg := by
  obtain ⟨B, O, C, vs, rfl, hlc, hB, h1, ⟨va, rfl, ha⟩, h3⟩ := Sl.cellsOf h i hi
  exact ⟨B, O, C, va, rfl, hlc, hB, by simpa using h3 0 (by omega), by simpa using h3 1 (by omega), by simpa using h3 2 (by omega), by simpa using h3 3 (by omega), by simpa using h3 4 (by omega), ha⟩
theorem var_at {w : World} {v : Value} {l : List Vr} (h : Sl RVr 2 w v l) (i : Nat) (hi : i < l.length) :
    ∃ B O C, v = .slice (some ⟨B, O, none⟩) l.length C ∧ l.length ≤ C ∧ B < w.heap.size ∧ w.cell? ⟨B, O + i * 2, none⟩ = some (.string l[i]!.name) ∧ w.cell? ⟨B, O + i * 2 + 1, none⟩ = some (.int .i64 l[i]!.init) := by
  obtain ⟨B, O, C, vs, rfl, hlc, hB, h1, h2, h3⟩ := Sl.cellsOf h i hi
  have e : vs = [.string l[i]!.name, .int .i64 l[i]!.init] := h2
  subst e
  exact ⟨B, O, C, rfl, hlc, hB, by simpa using h3 0 (by omega), by simpa using h3 1 (by omega)⟩
theorem asg_at {w : World} {v : Value} {l : List Asg} (h : Sl RAsg 2 w v l) (i : Nat) (hi : i < l.length) :
    ∃ B O C, v = .slice (some ⟨B, O, none⟩) l.length C ∧ l.length ≤ C ∧ B < w.heap.size ∧ w.cell? ⟨B, O + i * 2, none⟩ = some (.int .i64 l[i]!.var) ∧ w.cell? ⟨B, O + i * 2 + 1, none⟩ = some (.int .i64 l[i]!.value) := by
  obtain ⟨B, O, C, vs, rfl, hlc, hB, h1, h2, h3⟩ := Sl.cellsOf h i hi
  have e : vs = [.int .i64 l[i]!.var, .int .i64 l[i]!.value] := h2
  subst e
  exact ⟨B, O, C, rfl, hlc, hB, by simpa using h3 0 (by omega), by simpa using h3 1 (by omega)⟩

/-! ### What makes a trace valid, but for its order -/
def letterB (c : UInt8) : Bool := (decide (97 ≤ c.toNat) && decide (c.toNat ≤ 122)) || (decide (65 ≤ c.toNat) && decide (c.toNat ≤ 90))
def digitB (c : UInt8) : Bool := decide (48 ≤ c.toNat) && decide (c.toNat ≤ 57)
def wordB (c : UInt8) : Bool := letterB c || digitB c || decide (c.toNat = 95)
def nameB (s : ByteArray) : Bool := decide (1 ≤ s.size) && (decide (s.size ≤ 16) && (letterB s[0]! && (List.range s.size).all fun i => wordB s[i]!))
def valueB (n : Int) : Bool := decide (-1073741824 ≤ n) && decide (n ≤ 1073741824)
def varB (l : List Vr) (i : Nat) : Bool := nameB l[i]!.name && ((List.range i).all fun j => !(l[j]!.name.toList == l[i]!.name.toList)) && valueB l[i]!.init
def headB (t : Tr) (p : Nat) : Bool :=
  nameB t[p]!.name && (((List.range p).all fun q => !(t[q]!.name.toList == t[p]!.name.toList)) && (decide (t[p]!.vars.length ≤ 8) && (((List.range t[p]!.vars.length).all fun i => varB t[p]!.vars i) && decide (t[p]!.events.length ≤ 64))))
def formedB (n p : Nat) (e : Ev) : Bool :=
  if e.kind = 1 then decide (e.peer = 0) && decide (e.msg = 0)
  else (decide (e.kind = 2) || decide (e.kind = 3)) && (decide (0 ≤ e.peer) && (decide (e.peer < n) && (decide (e.peer ≠ p) && (decide (0 ≤ e.msg) && decide (e.msg ≤ 199)))))
def asgB (nv : Nat) (l : List Asg) (i : Nat) : Bool := decide (0 ≤ l[i]!.var) && (decide (l[i]!.var < nv) && (valueB l[i]!.value && (List.range i).all fun j => !decide (l[j]!.var = l[i]!.var)))
def eventB (t : Tr) (p i : Nat) : Bool :=
  formedB t.length p t[p]!.events[i]! && (decide (0 ≤ t[p]!.events[i]!.time) && (decide (t[p]!.events[i]!.time ≤ 1099511627776) && (decide (i = 0 ∨ t[p]!.events[i - 1]!.time ≤ t[p]!.events[i]!.time) &&
    (decide (t[p]!.events[i]!.asg.length ≤ 8) && (List.range t[p]!.events[i]!.asg.length).all fun k => asgB t[p]!.vars.length t[p]!.events[i]!.asg k))))
/-- All but the messages and the order. -/
def shapeB (t : Tr) : Bool :=
  decide (1 ≤ t.length) && (decide (t.length ≤ 8) && (((List.range t.length).all fun p => headB t p) && (List.range t.length).all fun p => (List.range t[p]!.events.length).all fun i => eventB t p i))

end Go.Proofs.Ytodkcfebcjgahaa
