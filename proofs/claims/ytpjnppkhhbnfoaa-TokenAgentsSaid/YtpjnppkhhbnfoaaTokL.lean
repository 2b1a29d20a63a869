/-
  Tokens and agents in plain words. No program is named here.
-/
import Derived.Test.YtpjnppkhhbnfoaaCkF
namespace Go.Proofs.Ytpjnppkhhbnfoaa
open Go.RowKit
set_option linter.unusedVariables false

theorem any_out (l : List Int) : l.any outC = (List.range l.length).any fun i => outC l[i]! := by
  rw [Bool.eq_iff_iff, range_any, List.any_eq_true]
  constructor
  · rintro ⟨x, hx, h⟩
    obtain ⟨i, hi, rfl⟩ := List.getElem_of_mem hx
    exact ⟨i, hi, by rwa [getElem!_pos l i hi]⟩
  · rintro ⟨i, hi, h⟩
    exact ⟨_, mem_at l i hi, h⟩
theorem afterP_eq (l1 l2 : List Int) (p : Nat) (hp : p < l1.length) : afterB l1 l2 p = (List.range l1.length).all fun i => decide (l1[i]! ≤ l2[i]!) && !(decide (i = p) && decide (l2[i]! = l1[i]!)) := by
  rw [Bool.eq_iff_iff, range_all]
  simp only [afterB, leqB, Bool.and_eq_true, range_all, decide_eq_true_eq, Bool.not_eq_true', Bool.and_eq_false_iff, decide_eq_false_iff_not]
  constructor
  · rintro ⟨h1, h2⟩ i hi
    refine ⟨h1 i hi, ?_⟩
    by_cases e : i = p
    · subst e; right; omega
    · exact .inl e
  · intro h
    refine ⟨fun i hi => (h i hi).1, ?_⟩
    have := h p hp
    rcases this.2 with h2 | h2
    · exact absurd rfl h2
    · omega

/-- An agent of the token. -/
structure Ag where
  queue : List (List Int)
  dropped : Int
  ended : Bool
deriving Inhabited
/-- A token. -/
structure Ba where
  at_ : Int
  cut : List Int
  good : List Bool
  state : Int
deriving Inhabited

def agentB (n p : Nat) (a : Ag) : Bool :=
  decide (a.queue.length ≤ 65) && (decide (0 ≤ a.dropped) && (decide (a.dropped ≤ 1000) && queueB n p a.queue))
/-- Agents are in order. -/
def agentsB (l : List Ag) : Bool :=
  decide (1 ≤ l.length) && (decide (l.length ≤ 8) && (List.range l.length).all fun p => agentB l.length p l[p]!)
def validT (b : Ba) (l : List Ag) : Bool :=
  agentsB l && (decide (0 ≤ b.at_) && (decide (b.at_ < l.length) && (stampB b.cut l.length && (decide (b.good.length = l.length) && (decide (0 ≤ b.state) && (decide (b.state ≤ 2) &&
    ((decide (b.state = 1) == b.good.all id) && (decide (b.state ≠ 0) || !b.good[b.at_.toNat]!))))))))

def putTE (l : List Ag) (p : Int) (v : List Int) : Int :=
  if agentsB l = false then 1 else if p < 0 ∨ (l.length : Int) ≤ p ∨ stampB v l.length = false then 2
  else if l[p.toNat]!.ended = true then 6
  else if 0 < l[p.toNat]!.queue.length ∧ afterB l[p.toNat]!.queue[l[p.toNat]!.queue.length - 1]! v p.toNat = false then 11
  else if 65 ≤ l[p.toNat]!.queue.length then 5 else 0
def endTE (l : List Ag) (p : Int) : Int :=
  if agentsB l = false then 1 else if p < 0 ∨ (l.length : Int) ≤ p then 2 else if l[p.toNat]!.ended = true then 6 else 0
def putTL (l : List Ag) (p : Nat) (v : List Int) : List Ag := l.set p { l[p]! with queue := l[p]!.queue ++ [v] }
def endTL (l : List Ag) (p : Nat) : List Ag := l.set p { l[p]! with ended := true }

end Go.Proofs.Ytpjnppkhhbnfoaa
