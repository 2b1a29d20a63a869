import Derived.Test.YtfagfooggcinoaaGb
namespace Go.Proofs.Ytfagfooggcinoaa
set_option linter.unusedVariables false
theorem nodup_leV {α : Type} [DecidableEq α] : ∀ {l m : List α}, l.Nodup → (∀ x ∈ l, x ∈ m) → l.length ≤ m.length := by
 intro l
 induction l with
 | nil => intro m _ _; exact Nat.zero_le _
 | cons a l ih =>
   intro m hn hs
   rw [List.nodup_cons] at hn
   have ha := hs a (by simp)
   have := ih (m := m.erase a) hn.2 fun x hx => (List.mem_erase_of_ne (by rintro rfl; exact hn.1 hx)).2 (hs x (by simp [hx]))
   rw [List.length_erase_of_mem ha] at this
   have hp := List.length_pos_of_mem ha
   rw [List.length_cons]; omega
def msX (l : List Mk) (i j x : Nat) : List Int := (l.take i).flatMap (fun m => m.chan.flatten) ++ ((l[i]!.chan.take j).flatten ++ (l[i]!.chan[j]!).take x)
section
variable {l : List Mk} {i j x : Nat}
def OkMs (ms : List Int) : Prop := ms.Nodup ∧ ∀ y ∈ ms, 0 ≤ y ∧ y ≤ 199
def seenF (ms : List Int) : List Bool := (List.range 200).map fun (y : Nat) => decide ((y : Int) ∈ ms)
end
end Go.Proofs.Ytfagfooggcinoaa
