/-
  From a reading of a token and of agents to what the walks ask of them.
-/
import Derived.Test.YtpjnppkhhbnfoaaRows
import Derived.Test.YtpjnppkhhbnfoaaBase
import Derived.Test.YtpjnppkhhbnfoaaProg
import Derived.BigQuiet
import Derived.Deep.QuietTactic
import Derived.Deep.LoopGhost
import Derived.Shelf.Abstract
import Derived.Test.YtpjnppkhhbnfoaaRq
import Derived.Test.YtpjnppkhhbnfoaaOpen
namespace Go.Proofs.Ytpjnppkhhbnfoaa
open Go.RowKit
set_option linter.unusedVariables false
open Go.ChangeShapes Go.WideShapes

section
variable {H : Type} {enc : TypeId × Value → H} {w : World} {base : Nat} {spare : Nat → Bool} {held : Bool}

theorem gives_rows : Gives enc Try.prog w base spare held 47 (fun w cs (l : List (List Int)) => RQueue w cs l) := by
  intro fuel cs x h
  obtain ⟨l, v, rfl, hs, hl⟩ := gives_slice Try.underlying47 (show Try.prog.cellsOf 22 = 1 from by kernel_rfl) (by omega) (gives_ints Try.underlying22 Try.underlying3 (by kernel_rfl)) fuel cs x h
  refine ⟨l, v, rfl, ?_⟩
  obtain ⟨a, c, rfl, hlc, h⟩ := hs
  refine ⟨a, c, rfl, hlc, fun hl => ?_⟩
  obtain ⟨b, off, rfl, hb, hc⟩ := h hl
  refine ⟨b, off, rfl, hb, fun i hi => ?_⟩
  obtain ⟨vs, h1, ⟨v, h2, h4, _⟩, h3⟩ := hc i hi
  exact ⟨vs, h1, ⟨v, h2, h4⟩, h3⟩
theorem gives_bool : Gives enc Try.prog w base spare held 4 RBool := by
  intro fuel cs x h
  obtain ⟨b, rfl, _⟩ := DataW.trod_bool Try.underlying4 h
  exact ⟨b, rfl⟩
theorem gives_bools : Gives enc Try.prog w base spare held 23 (fun w cs (l : List Bool) => ∃ v, cs = [v] ∧ Sl RBool 1 w v l ∧ l.length ≤ 9223372036854775807) :=
  gives_slice Try.underlying23 (show Try.prog.cellsOf 4 = 1 from by kernel_rfl) (by omega) gives_bool
theorem gives_num : Gives enc Try.prog w base spare held 3 (fun w cs (n : Int) => cs = [.int .i64 n]) := by
  intro fuel cs x h
  obtain ⟨n, rfl, _⟩ := DataW.trod_int Try.underlying3 h
  exact ⟨n, rfl⟩

set_option maxRecDepth 100000 in
theorem gives_agent : Gives enc Try.prog w base spare held 49 RAgent := by
  intro fuel cs x h
  obtain ⟨xs, n, _, _, hl, hxl, hf⟩ := DataW.trod_struct Try.underlying49 h
  have hk1 : Try.prog.cellsOf 47 = 1 := by kernel_rfl
  have hk2 : Try.prog.cellsOf 3 = 1 := by kernel_rfl
  have hk3 : Try.prog.cellsOf 4 = 1 := by kernel_rfl
  rw [show Try.prog.cellsOf 49 = 3 from by kernel_rfl] at hl
  have hxl3 : xs.length = 3 := hxl
  match cs, hl with
  | [c0, c1, c2], _ =>
    have h0 : DataW.trod enc Try.prog w base spare held n 47 (([c0, c1, c2].drop 0).take (Try.prog.cellsOf 47)) = xs[0]? := hf 0 _ rfl
    have h1 : DataW.trod enc Try.prog w base spare held n 3 (([c0, c1, c2].drop 1).take (Try.prog.cellsOf 3)) = xs[1]? := hf 1 _ rfl
    have h2 : DataW.trod enc Try.prog w base spare held n 4 (([c0, c1, c2].drop 2).take (Try.prog.cellsOf 4)) = xs[2]? := hf 2 _ rfl
    rw [hk1] at h0
    rw [hk2] at h1
    rw [hk3] at h2
    rw [List.getElem?_eq_getElem (by omega)] at h0 h1 h2
    simp only [List.drop_zero, List.drop_succ_cons, List.take_succ_cons, List.take_zero] at h0 h1 h2
    obtain ⟨q, v, e0, hq⟩ := gives_rows _ _ _ h0
    obtain ⟨d, e1⟩ := gives_num _ _ _ h1
    obtain ⟨b, e2⟩ := gives_bool _ _ _ h2
    have e2' : [c2] = [Value.bool b] := e2
    simp only [List.cons.injEq, and_true] at e0 e1 e2'
    exact ⟨⟨q, d, b⟩, v, by rw [e0, e1, e2'], hq⟩
theorem gives_agents : Gives enc Try.prog w base spare held 26 (fun w cs (l : List Ag) => ∃ v, cs = [v] ∧ Sl RAgent 3 w v l ∧ l.length ≤ 9223372036854775807) :=
  gives_slice Try.underlying26 (show Try.prog.cellsOf 49 = 3 from by kernel_rfl) (by omega) gives_agent

set_option maxRecDepth 100000 in
theorem gives_baton : Gives enc Try.prog w base spare held 25 (fun w cs (b : Ba) => ∃ vc vg, cs = [.int .i64 b.at_, vc, vg, .int .i64 b.state] ∧ Ints w vc b.cut ∧ Sl RBool 1 w vg b.good) := by
  intro fuel cs x h
  obtain ⟨xs, n, _, _, hl, hxl, hf⟩ := DataW.trod_struct Try.underlying25 h
  have hk1 : Try.prog.cellsOf 22 = 1 := by kernel_rfl
  have hk2 : Try.prog.cellsOf 3 = 1 := by kernel_rfl
  have hk3 : Try.prog.cellsOf 23 = 1 := by kernel_rfl
  rw [show Try.prog.cellsOf 25 = 4 from by kernel_rfl] at hl
  have hxl4 : xs.length = 4 := hxl
  match cs, hl with
  | [c0, c1, c2, c3], _ =>
    have h0 : DataW.trod enc Try.prog w base spare held n 3 (([c0, c1, c2, c3].drop 0).take (Try.prog.cellsOf 3)) = xs[0]? := hf 0 _ rfl
    have h1 : DataW.trod enc Try.prog w base spare held n 22 (([c0, c1, c2, c3].drop 1).take (Try.prog.cellsOf 22)) = xs[1]? := hf 1 _ rfl
    have h2 : DataW.trod enc Try.prog w base spare held n 23 (([c0, c1, c2, c3].drop 2).take (Try.prog.cellsOf 23)) = xs[2]? := hf 2 _ rfl
    have h3 : DataW.trod enc Try.prog w base spare held n 3 (([c0, c1, c2, c3].drop 3).take (Try.prog.cellsOf 3)) = xs[3]? := hf 3 _ rfl
    rw [hk2] at h0 h3
    rw [hk1] at h1
    rw [hk3] at h2
    rw [List.getElem?_eq_getElem (by omega)] at h0 h1 h2 h3
    simp only [List.drop_zero, List.drop_succ_cons, List.take_succ_cons, List.take_zero] at h0 h1 h2 h3
    obtain ⟨a, e0⟩ := gives_num _ _ _ h0
    obtain ⟨cl, vc, e1, hc, _⟩ := gives_ints Try.underlying22 Try.underlying3 (by kernel_rfl) _ _ _ h1
    obtain ⟨gl, vg, e2, hg, _⟩ := gives_bools _ _ _ h2
    obtain ⟨s, e3⟩ := gives_num _ _ _ h3
    simp only [List.cons.injEq, and_true] at e0 e1 e2 e3
    exact ⟨⟨a, cl, gl, s⟩, vc, vg, by rw [e0, e1, e2, e3], hc, hg⟩

end
end Go.Proofs.Ytpjnppkhhbnfoaa
