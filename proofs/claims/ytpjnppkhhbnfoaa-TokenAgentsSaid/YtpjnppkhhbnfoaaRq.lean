/-
  Queues of stamps and agents, as they are read: no function is named here.
  (XCkB and XCkE hold the same words for the seats that have the checker: never import both.)
-/
import Derived.Test.YtpjnppkhhbnfoaaTokL
namespace Go.Proofs.Ytpjnppkhhbnfoaa
open Go.RowKit
set_option linter.unusedVariables false

def RInts (w : World) (cs : List Value) (x : List Int) : Prop := ∃ u, cs = [u] ∧ Ints w u x
theorem rints_lasts : Lasts RInts := fun _ _ _ _ ⟨u, h, hb⟩ e => ⟨u, h, hb.ext e⟩
def RQueue (w : World) (cs : List Value) (x : List (List Int)) : Prop := ∃ u, cs = [u] ∧ Sl RInts 1 w u x
theorem rqueue_lasts : Lasts RQueue := fun _ _ _ _ ⟨u, h, hb⟩ e => ⟨u, h, hb.ext rints_lasts e⟩
def RBool (w : World) (cs : List Value) (x : Bool) : Prop := cs = [.bool x]
theorem rbool_lasts : Lasts RBool := fun _ _ _ _ h _ => h

theorem Sl.at1 {α : Type} [Inhabited α] {R : World → List Value → α → Prop} {w : World} {v : Value} {l : List α} (h : Sl R 1 w v l) (k : Nat) (hk : k < l.length) :
    ∃ b off c cv, v = .slice (some ⟨b, off, none⟩) l.length c ∧ l.length ≤ c ∧ b < w.heap.size ∧ w.cell? ⟨b, off + k, none⟩ = some cv ∧ R w [cv] l[k]! := by
  obtain ⟨a, c, rfl, hlc, h⟩ := h
  obtain ⟨b, off, rfl, hb, hc⟩ := h (by intro e; simp [e] at hk)
  obtain ⟨vs, h1, h2, h3⟩ := hc k hk
  match vs, h1 with
  | [cv], _ => exact ⟨b, off, c, cv, rfl, hlc, hb, by have := h3 0 (by omega); simpa using this, h2⟩
theorem Ints.at1 {w : World} {v : Value} {l : List Int} (h : Ints w v l) (k : Nat) (hk : k < l.length) :
    ∃ b off c, v = .slice (some ⟨b, off, none⟩) l.length c ∧ l.length ≤ c ∧ b < w.heap.size ∧ w.cell? ⟨b, off + k, none⟩ = some (.int .i64 l[k]!) := by
  obtain ⟨a, c, rfl, hlc, h⟩ := h
  obtain ⟨b, off, rfl, hb, hc⟩ := h (by intro e; simp [e] at hk)
  exact ⟨b, off, c, rfl, hlc, hb, hc k hk⟩
theorem Sl.shape {α : Type} [Inhabited α] {R : World → List Value → α → Prop} {k : Nat} {w : World} {v : Value} {l : List α} (h : Sl R k w v l) : ∃ a c, v = .slice a l.length c ∧ l.length ≤ c := by
  obtain ⟨a, c, h1, h2, _⟩ := h; exact ⟨a, c, h1, h2⟩

theorem stamp_len {v : List Int} {n : Nat} (h : stampB v n = true) : v.length = n := by
  simp only [stampB, Bool.and_eq_true, decide_eq_true_eq] at h; exact h.1

/-- The cells of a stamp in a queue. -/
theorem stamp_at {w : World} {a : Option Addr} {m c : Nat} {q : List (List Int)} (h : Sl RInts 1 w (.slice a m c) q) (i : Nat) (hi : i < q.length) :
    ∃ b o sv, a = some ⟨b, o, none⟩ ∧ w.cell? ⟨b, o + i, none⟩ = some sv ∧ Ints w sv q[i]! := by
  obtain ⟨b, o, c2, cv, he, _, _, hc, ⟨u, hu, hi2⟩⟩ := h.at1 i hi
  simp only [List.cons.injEq, and_true] at hu
  subst hu
  simp only [Value.slice.injEq] at he
  exact ⟨b, o, _, he.1, hc, hi2⟩

/-- A queue and its place. -/
theorem queue_at {w : World} {uq : Value} {qs : List (List (List Int))} (h : Sl RQueue 1 w uq qs) (p : Nat) (hp : p < qs.length) :
    ∃ B O C a m c, uq = .slice (some ⟨B, O, none⟩) qs.length C ∧ w.cell? ⟨B, O + p, none⟩ = some (.slice a m c) ∧ m = qs[p]!.length ∧ m ≤ c ∧ Sl RInts 1 w (.slice a m c) qs[p]! := by
  obtain ⟨B, O, C, cv, rfl, _, hB, hc, ⟨u, hu, hs⟩⟩ := h.at1 p hp
  simp only [List.cons.injEq, and_true] at hu
  subst hu
  obtain ⟨a, c, rfl, hlc⟩ := hs.shape
  exact ⟨B, O, C, a, _, c, rfl, hc, rfl, hlc, hs⟩


def RAgent (w : World) (cs : List Value) (a : Ag) : Prop := ∃ q, cs = [q, .int .i64 a.dropped, .bool a.ended] ∧ Sl RInts 1 w q a.queue
theorem ragent_lasts : Lasts RAgent := fun _ _ _ _ ⟨u, h, hb⟩ e => ⟨u, h, hb.ext rints_lasts e⟩
theorem agent_at {w : World} {v : Value} {l : List Ag} (h : Sl RAgent 3 w v l) (p : Nat) (hp : p < l.length) :
    ∃ B O C a m c, v = .slice (some ⟨B, O, none⟩) l.length C ∧ B < w.heap.size ∧ w.cell? ⟨B, O + p * 3, none⟩ = some (.slice a m c) ∧ w.cell? ⟨B, O + p * 3 + 1, none⟩ = some (.int .i64 l[p]!.dropped) ∧ w.cell? ⟨B, O + p * 3 + 2, none⟩ = some (.bool l[p]!.ended) ∧ m = l[p]!.queue.length ∧ m ≤ c ∧ Sl RInts 1 w (.slice a m c) l[p]!.queue := by
  obtain ⟨a, c, rfl, hlc, h⟩ := h
  obtain ⟨b, off, rfl, hb, hc⟩ := h (by intro e; simp [e] at hp)
  obtain ⟨vs, h1, ⟨q, rfl, hq⟩, h3⟩ := hc p hp
  obtain ⟨a2, c2, rfl, hlc2⟩ := hq.shape
  exact ⟨b, off, c, a2, _, c2, rfl, hb, by simpa using h3 0 (by omega), by simpa using h3 1 (by omega), by simpa using h3 2 (by omega), rfl, hlc2, hq⟩

def SmallT (l : List Ag) : Prop := l.length ≤ 1000000 ∧ ∀ p, p < l.length → l[p]!.queue.length ≤ 1000000 ∧ ∀ i, i < l[p]!.queue.length → l[p]!.queue[i]!.length ≤ 1000000

theorem agent_parts {n p : Nat} {a : Ag} : agentB n p a = true ↔ a.queue.length ≤ 65 ∧ 0 ≤ a.dropped ∧ a.dropped ≤ 1000 ∧ queueB n p a.queue = true := by
  simp only [agentB, Bool.and_eq_true, decide_eq_true_eq]
theorem agents_parts {l : List Ag} : agentsB l = true ↔ 1 ≤ l.length ∧ l.length ≤ 8 ∧ ∀ p, p < l.length → agentB l.length p l[p]! = true := by
  simp only [agentsB, Bool.and_eq_true, decide_eq_true_eq, range_all]
theorem agents_no1 {l : List Ag} (h : l.length < 1) : agentsB l = false := by
  rw [Bool.eq_false_iff]; intro hv; have := (agents_parts.1 hv).1; omega
theorem agents_no2 {l : List Ag} (h : 8 < l.length) : agentsB l = false := by
  rw [Bool.eq_false_iff]; intro hv; have := (agents_parts.1 hv).2.1; omega
theorem agents_no3 {l : List Ag} (p : Nat) (hp : p < l.length) (h : 65 < l[p]!.queue.length) : agentsB l = false := by
  rw [Bool.eq_false_iff]; intro hv; have := (agent_parts.1 ((agents_parts.1 hv).2.2 p hp)).1; omega
theorem agents_no4 {l : List Ag} (p : Nat) (hp : p < l.length) (h : l[p]!.dropped < 0) : agentsB l = false := by
  rw [Bool.eq_false_iff]; intro hv; have := (agent_parts.1 ((agents_parts.1 hv).2.2 p hp)).2.1; omega
theorem agents_no5 {l : List Ag} (p : Nat) (hp : p < l.length) (h : 1000 < l[p]!.dropped) : agentsB l = false := by
  rw [Bool.eq_false_iff]; intro hv; have := (agent_parts.1 ((agents_parts.1 hv).2.2 p hp)).2.2.1; omega
theorem agents_no6 {l : List Ag} (p i : Nat) (hp : p < l.length) (hi : i < l[p]!.queue.length) (h : stampB l[p]!.queue[i]! l.length = false) : agentsB l = false := by
  rw [Bool.eq_false_iff]; intro hv
  have := ((queue_parts.1 (agent_parts.1 ((agents_parts.1 hv).2.2 p hp)).2.2.2).2 i hi).1
  rw [h] at this; simp at this
theorem agents_no7 {l : List Ag} (p i : Nat) (hp : p < l.length) (hi : i + 1 < l[p]!.queue.length) (h : afterB l[p]!.queue[i]! l[p]!.queue[i + 1]! p = false) : agentsB l = false := by
  rw [Bool.eq_false_iff]; intro hv
  have := ((queue_parts.1 (agent_parts.1 ((agents_parts.1 hv).2.2 p hp)).2.2.2).2 (i + 1) hi).2.resolve_left (by omega)
  rw [show i + 1 - 1 = i from by omega, h] at this; simp at this

end Go.Proofs.Ytpjnppkhhbnfoaa
