/-
  A step of the token, in plain words. No program is named here.
-/
import Derived.Test.YtpjnppkhhbnfoaaTokL
namespace Go.Proofs.Ytpjnppkhhbnfoaa
open Go.RowKit
set_option linter.unusedVariables false

/-- What a stamp v of process p makes of the first k processes' counts and marks. -/
def mergeK (v : List Int) (p : Nat) : Nat → List Int × List Bool → List Int × List Bool
  | 0, s => s
  | k + 1, s => if k ≠ p ∧ (mergeK v p k s).1[k]! < v[k]! then ((mergeK v p k s).1.set k v[k]!, (mergeK v p k s).2.set k false) else mergeK v p k s
theorem mergeK_len (v : List Int) (p k : Nat) (s : List Int × List Bool) : (mergeK v p k s).1.length = s.1.length ∧ (mergeK v p k s).2.length = s.2.length := by
  induction k with
  | zero => exact ⟨rfl, rfl⟩
  | succ k ih =>
    rw [mergeK]
    split
    · simp [ih.1, ih.2]
    · exact ih

/-- How far the token moves on. -/
def turnBy (good : List Bool) (n at_ : Nat) : Nat := (List.range n).findIdx fun j => !good[(at_ + j) % n]!
def turnAt (good : List Bool) (n at_ : Nat) : Nat := (at_ + turnBy good n at_) % n
theorem turn_spec {good : List Bool} {n at_ : Nat} (hn : good.length = n) (ha : at_ < n) (h : good.all id = false) :
    turnBy good n at_ < n ∧ good[(at_ + turnBy good n at_) % n]! = false ∧ ∀ j, j < turnBy good n at_ → good[(at_ + j) % n]! = true := by
  have hex : ∃ j, j < n ∧ good[(at_ + j) % n]! = false := by
    obtain ⟨x, hx, hxf⟩ := List.all_eq_false.1 h
    obtain ⟨i, hi, rfl⟩ := List.getElem_of_mem hx
    have hif : good[i]! = false := by rw [getElem!_pos good i hi]; simpa using hxf
    by_cases hai : at_ ≤ i
    · refine ⟨i - at_, by omega, ?_⟩
      rw [show at_ + (i - at_) = i by omega, Nat.mod_eq_of_lt (by omega)]; exact hif
    · refine ⟨i + n - at_, by omega, ?_⟩
      rw [show at_ + (i + n - at_) = i + n by omega, Nat.add_mod_right, Nat.mod_eq_of_lt (by omega)]; exact hif
  obtain ⟨j, hj, hjf⟩ := hex
  have hlt : turnBy good n at_ < (List.range n).length := by
    unfold turnBy
    rw [List.findIdx_lt_length]
    exact ⟨j, by simpa using hj, by rw [hjf]; rfl⟩
  have hlt' : turnBy good n at_ < n := by simpa using hlt
  refine ⟨hlt', ?_, fun i hi => ?_⟩
  · have := List.findIdx_getElem (p := fun j => !good[(at_ + j) % n]!) (xs := List.range n) (w := hlt)
    have e : (List.range n)[turnBy good n at_]'hlt = turnBy good n at_ := by simp
    have this : (!good[(at_ + (List.range n)[turnBy good n at_]'hlt) % n]!) = true := this
    rw [e] at this
    simpa using this
  · have := List.not_of_lt_findIdx (p := fun j => !good[(at_ + j) % n]!) (xs := List.range n) (i := i) hi
    simpa using this
theorem turn_next (at_ j n : Nat) : ((at_ + j) % n + 1) % n = (at_ + (j + 1)) % n := by
  rw [Nat.mod_add_mod, Nat.add_assoc]

/-- The agents and the token after a step that takes a stamp. -/
def takeAg (l : List Ag) (p : Nat) : List Ag := l.set p { l[p]! with queue := l[p]!.queue.drop 1, dropped := l[p]!.dropped + 1 }
def stepM (b : Ba) (l : List Ag) (p : Nat) : List Int × List Bool := mergeK l[p]!.queue[0]! p l.length (b.cut.set p l[p]!.queue[0]![p]!, b.good.set p true)
def stepB (b : Ba) (l : List Ag) (p : Nat) : Ba :=
  if (stepM b l p).2.all id = true then { at_ := p, cut := (stepM b l p).1, good := (stepM b l p).2, state := 1 }
  else { at_ := turnAt (stepM b l p).2 l.length p, cut := (stepM b l p).1, good := (stepM b l p).2, state := 0 }

end Go.Proofs.Ytpjnppkhhbnfoaa
