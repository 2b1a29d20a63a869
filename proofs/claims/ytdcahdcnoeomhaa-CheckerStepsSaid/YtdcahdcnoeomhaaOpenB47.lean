/-
  From a reading of a checker to what the walks ask of it.
-/
import Derived.Test.YtdcahdcnoeomhaaRows
import Derived.Test.YtdcahdcnoeomhaaBase
import Derived.Test.YtdcahdcnoeomhaaProg
import Derived.BigQuiet
import Derived.Deep.QuietTactic
import Derived.Deep.LoopGhost
import Derived.Shelf.Abstract
import Derived.Test.YtdcahdcnoeomhaaCkE
import Derived.Test.YtdcahdcnoeomhaaOpen
namespace Go.Proofs.Ytdcahdcnoeomhaa
open Go.RowKit
set_option linter.unusedVariables false
open Go.ChangeShapes Go.WideShapes

section
variable {H : Type} {enc : TypeId × Value → H} {w : World} {base : Nat} {spare : Nat → Bool} {held : Bool}

theorem lasts_gives {α : Type} {R : World → List Value → α → Prop} (h : ∀ w W vs x, R w vs x → Ext w W → R W vs x) : Lasts R := h

theorem gives_rows : Gives enc Try.prog w base spare held 34 (fun w cs (l : List (List Int)) => RQueue w cs l) := by
  intro fuel cs x h
  obtain ⟨l, v, rfl, hs, hl⟩ := gives_slice Try.underlying34 (show Try.prog.cellsOf 24 = 1 from by kernel_rfl) (by omega) (gives_ints Try.underlying24 Try.underlying3 (by kernel_rfl)) fuel cs x h
  refine ⟨l, v, rfl, ?_⟩
  obtain ⟨a, c, rfl, hlc, h⟩ := hs
  refine ⟨a, c, rfl, hlc, fun hl => ?_⟩
  obtain ⟨b, off, rfl, hb, hc⟩ := h hl
  refine ⟨b, off, rfl, hb, fun i hi => ?_⟩
  obtain ⟨vs, h1, ⟨v, h2, h4, _⟩, h3⟩ := hc i hi
  exact ⟨vs, h1, ⟨v, h2, h4⟩, h3⟩

theorem gives_queues : Gives enc Try.prog w base spare held 22 (fun w cs (l : List (List (List Int))) => ∃ v, cs = [v] ∧ Sl RQueue 1 w v l ∧ l.length ≤ 9223372036854775807) :=
  gives_slice Try.underlying22 (show Try.prog.cellsOf 34 = 1 from by kernel_rfl) (by omega) gives_rows

theorem gives_bool : Gives enc Try.prog w base spare held 4 RBool := by
  intro fuel cs x h
  obtain ⟨b, rfl, _⟩ := DataW.trod_bool Try.underlying4 h
  exact ⟨b, rfl⟩

theorem gives_bools : Gives enc Try.prog w base spare held 23 (fun w cs (l : List Bool) => ∃ v, cs = [v] ∧ Sl RBool 1 w v l ∧ l.length ≤ 9223372036854775807) :=
  gives_slice Try.underlying23 (show Try.prog.cellsOf 4 = 1 from by kernel_rfl) (by omega) gives_bool

set_option maxRecDepth 100000 in
theorem gives_checker : Gives enc Try.prog w base spare held 26 (fun w cs (s : Ck) => ∃ vq ve vc, cs = [vq, ve, .bool s.done, vc] ∧ CkAt w vq ve vc s) := by
  intro fuel cs x h
  obtain ⟨xs, n, _, _, hl, hxl, hf⟩ := DataW.trod_struct Try.underlying26 h
  have hk1 : Try.prog.cellsOf 22 = 1 := by kernel_rfl
  have hk2 : Try.prog.cellsOf 23 = 1 := by kernel_rfl
  have hk3 : Try.prog.cellsOf 4 = 1 := by kernel_rfl
  have hk4 : Try.prog.cellsOf 24 = 1 := by kernel_rfl
  rw [show Try.prog.cellsOf 26 = 4 from by kernel_rfl] at hl
  have hxl4 : xs.length = 4 := hxl
  match cs, hl with
  | [c0, c1, c2, c3], _ =>
    have h0 : DataW.trod enc Try.prog w base spare held n 22 (([c0, c1, c2, c3].drop 0).take (Try.prog.cellsOf 22)) = xs[0]? := hf 0 _ rfl
    have h1 : DataW.trod enc Try.prog w base spare held n 23 (([c0, c1, c2, c3].drop 1).take (Try.prog.cellsOf 23)) = xs[1]? := hf 1 _ rfl
    have h2 : DataW.trod enc Try.prog w base spare held n 4 (([c0, c1, c2, c3].drop 2).take (Try.prog.cellsOf 4)) = xs[2]? := hf 2 _ rfl
    have h3 : DataW.trod enc Try.prog w base spare held n 24 (([c0, c1, c2, c3].drop 3).take (Try.prog.cellsOf 24)) = xs[3]? := hf 3 _ rfl
    rw [hk1] at h0
    rw [hk2] at h1
    rw [hk3] at h2
    rw [hk4] at h3
    rw [List.getElem?_eq_getElem (by omega)] at h0 h1 h2 h3
    simp only [List.drop_zero, List.drop_succ_cons, List.take_succ_cons, List.take_zero] at h0 h1 h2 h3
    obtain ⟨qs, vq, e0, hq, _⟩ := gives_queues _ _ _ h0
    obtain ⟨es, ve, e1, he, _⟩ := gives_bools _ _ _ h1
    obtain ⟨d, e2⟩ := gives_bool _ _ _ h2
    obtain ⟨cl, vc, e3, hc, _⟩ := gives_ints Try.underlying24 Try.underlying3 (by kernel_rfl) _ _ _ h3
    have e2' : [c2] = [Value.bool d] := e2
    simp only [List.cons.injEq, and_true] at e0 e1 e2' e3
    exact ⟨⟨qs, es, d, cl⟩, vq, ve, vc, by rw [e0, e1, e2', e3], hq, he, hc⟩

end
end Go.Proofs.Ytdcahdcnoeomhaa
