import Derived.Test.YtfagfooggcinoaaRows
import Derived.Test.YtfagfooggcinoaaJa
import Derived.Test.YtfagfooggcinoaaProg
import Derived.Test.YtfagfooggcinoaaGa
import Derived.Test.YtfagfooggcinoaaOpen
import Derived.Test.YtfagfooggcinoaaGb
import Derived.BigQuiet
import Derived.Deep.QuietTactic
import Derived.Deep.LoopGhost
import Derived.Shelf.Abstract
/-
  From a reading of a trace to what the walks ask of it.
-/
namespace Go.Proofs.Ytfagfooggcinoaa
open Go.RowKit
set_option linter.unusedVariables false
open Go.ChangeShapes Go.WideShapes

section
variable {H : Type} {enc : TypeId × Value → H} {w : World} {base : Nat} {spare : Nat → Bool} {held : Bool}

theorem gives_num : Gives enc Try.prog w base spare held 3 (fun w cs (n : Int) => cs = [.int .i64 n]) := by
  intro fuel cs x h
  obtain ⟨n, rfl, _⟩ := DataW.trod_int Try.underlying3 h
  exact ⟨n, rfl⟩
theorem gives_str : Gives enc Try.prog w base spare held 9 (fun w cs (s : ByteArray) => cs = [.string s]) := by
  intro fuel cs x h
  obtain ⟨n, rfl, _⟩ := DataW.trod_string Try.underlying9 h
  exact ⟨n, rfl⟩

set_option maxRecDepth 100000 in
theorem gives_asg : Gives enc Try.prog w base spare held 140 RAsg := by
  have hk2 : Try.prog.cellsOf 3 = 1 := by kernel_rfl
  intro fuel cs x h
  obtain ⟨xs, n, _, _, hl, hxl, hf⟩ := DataW.trod_struct Try.underlying140 h
  rw [show Try.prog.cellsOf 140 = 2 from by kernel_rfl] at hl
  have hxl3 : xs.length = 2 := hxl
  match cs, hl with
  | [c0, c1], _ =>
    have h0 : DataW.trod enc Try.prog w base spare held n 3 (([c0, c1].drop 0).take (Try.prog.cellsOf 3)) = xs[0]? := hf 0 _ rfl
    have h1 : DataW.trod enc Try.prog w base spare held n 3 (([c0, c1].drop 1).take (Try.prog.cellsOf 3)) = xs[1]? := hf 1 _ rfl
    rw [hk2, List.getElem?_eq_getElem (by omega)] at h0 h1
    simp only [List.drop_zero, List.drop_succ_cons, List.take_succ_cons, List.take_zero] at h0 h1
    obtain ⟨a, e0⟩ := gives_num _ _ _ h0
    obtain ⟨b, e1⟩ := gives_num _ _ _ h1
    simp only [List.cons.injEq, and_true] at e0 e1
    exact ⟨⟨a, b⟩, by unfold RAsg; rw [e0, e1]⟩
theorem gives_asgs : Gives enc Try.prog w base spare held 54 (fun w cs (l : List Asg) => ∃ v, cs = [v] ∧ Sl RAsg 2 w v l ∧ l.length ≤ 9223372036854775807) :=
  gives_slice Try.underlying54 (show Try.prog.cellsOf 140 = 2 from by kernel_rfl) (by omega) gives_asg

set_option maxRecDepth 100000 in
theorem gives_var : Gives enc Try.prog w base spare held 60 RVr := by
  have hk1 : Try.prog.cellsOf 9 = 1 := by kernel_rfl
  have hk2 : Try.prog.cellsOf 3 = 1 := by kernel_rfl
  intro fuel cs x h
  obtain ⟨xs, n, _, _, hl, hxl, hf⟩ := DataW.trod_struct Try.underlying60 h
  rw [show Try.prog.cellsOf 60 = 2 from by kernel_rfl] at hl
  have hxl3 : xs.length = 2 := hxl
  match cs, hl with
  | [c0, c1], _ =>
    have h0 : DataW.trod enc Try.prog w base spare held n 9 (([c0, c1].drop 0).take (Try.prog.cellsOf 9)) = xs[0]? := hf 0 _ rfl
    have h1 : DataW.trod enc Try.prog w base spare held n 3 (([c0, c1].drop 1).take (Try.prog.cellsOf 3)) = xs[1]? := hf 1 _ rfl
    rw [hk1] at h0
    rw [hk2] at h1
    rw [List.getElem?_eq_getElem (by omega)] at h0 h1
    simp only [List.drop_zero, List.drop_succ_cons, List.take_succ_cons, List.take_zero] at h0 h1
    obtain ⟨a, e0⟩ := gives_str _ _ _ h0
    obtain ⟨b, e1⟩ := gives_num _ _ _ h1
    simp only [List.cons.injEq, and_true] at e0 e1
    exact ⟨⟨a, b⟩, by unfold RVr; rw [e0, e1]⟩
theorem gives_vars : Gives enc Try.prog w base spare held 49 (fun w cs (l : List Vr) => ∃ v, cs = [v] ∧ Sl RVr 2 w v l ∧ l.length ≤ 9223372036854775807) :=
  gives_slice Try.underlying49 (show Try.prog.cellsOf 60 = 2 from by kernel_rfl) (by omega) gives_var

set_option maxRecDepth 100000 in
theorem gives_event : Gives enc Try.prog w base spare held 56 REv := by
  have hk1 : Try.prog.cellsOf 54 = 1 := by kernel_rfl
  have hk2 : Try.prog.cellsOf 3 = 1 := by kernel_rfl
  intro fuel cs x h
  obtain ⟨xs, n, _, _, hl, hxl, hf⟩ := DataW.trod_struct Try.underlying56 h
  rw [show Try.prog.cellsOf 56 = 5 from by kernel_rfl] at hl
  have hxl3 : xs.length = 5 := hxl
  match cs, hl with
  | [c0, c1, c2, c3, c4], _ =>
    have h0 : DataW.trod enc Try.prog w base spare held n 3 (([c0, c1, c2, c3, c4].drop 0).take (Try.prog.cellsOf 3)) = xs[0]? := hf 0 _ rfl
    have h1 : DataW.trod enc Try.prog w base spare held n 3 (([c0, c1, c2, c3, c4].drop 1).take (Try.prog.cellsOf 3)) = xs[1]? := hf 1 _ rfl
    have h2 : DataW.trod enc Try.prog w base spare held n 3 (([c0, c1, c2, c3, c4].drop 2).take (Try.prog.cellsOf 3)) = xs[2]? := hf 2 _ rfl
    have h3 : DataW.trod enc Try.prog w base spare held n 3 (([c0, c1, c2, c3, c4].drop 3).take (Try.prog.cellsOf 3)) = xs[3]? := hf 3 _ rfl
    have h4 : DataW.trod enc Try.prog w base spare held n 54 (([c0, c1, c2, c3, c4].drop 4).take (Try.prog.cellsOf 54)) = xs[4]? := hf 4 _ rfl
    rw [hk2] at h0 h1 h2 h3
    rw [hk1] at h4
    rw [List.getElem?_eq_getElem (by omega)] at h0 h1 h2 h3 h4
    simp only [List.drop_zero, List.drop_succ_cons, List.take_succ_cons, List.take_zero] at h0 h1 h2 h3 h4
    obtain ⟨a0, e0⟩ := gives_num _ _ _ h0
    obtain ⟨a1, e1⟩ := gives_num _ _ _ h1
    obtain ⟨a2, e2⟩ := gives_num _ _ _ h2
    obtain ⟨a3, e3⟩ := gives_num _ _ _ h3
    obtain ⟨l, v, e4, hv, _⟩ := gives_asgs _ _ _ h4
    simp only [List.cons.injEq, and_true] at e0 e1 e2 e3 e4
    exact ⟨⟨a0, a1, a2, a3, l⟩, v, by rw [e0, e1, e2, e3, e4], hv⟩
theorem gives_events : Gives enc Try.prog w base spare held 50 (fun w cs (l : List Ev) => ∃ v, cs = [v] ∧ Sl REv 5 w v l ∧ l.length ≤ 9223372036854775807) :=
  gives_slice Try.underlying50 (show Try.prog.cellsOf 56 = 5 from by kernel_rfl) (by omega) gives_event

/-- What a machine bears: no list has more elements than an index can name. -/
def TopPr (x : Pr) : Prop := x.vars.length ≤ 9223372036854775807 ∧ x.events.length ≤ 9223372036854775807
set_option maxRecDepth 100000 in
theorem gives_proc : Gives enc Try.prog w base spare held 52 (fun w cs (x : Pr) => RPr w cs x ∧ TopPr x) := by
  have hk1 : Try.prog.cellsOf 9 = 1 := by kernel_rfl
  have hk2 : Try.prog.cellsOf 49 = 1 := by kernel_rfl
  have hk3 : Try.prog.cellsOf 50 = 1 := by kernel_rfl
  intro fuel cs x h
  obtain ⟨xs, n, _, _, hl, hxl, hf⟩ := DataW.trod_struct Try.underlying52 h
  rw [show Try.prog.cellsOf 52 = 3 from by kernel_rfl] at hl
  have hxl3 : xs.length = 3 := hxl
  match cs, hl with
  | [c0, c1, c2], _ =>
    have h0 : DataW.trod enc Try.prog w base spare held n 9 (([c0, c1, c2].drop 0).take (Try.prog.cellsOf 9)) = xs[0]? := hf 0 _ rfl
    have h1 : DataW.trod enc Try.prog w base spare held n 49 (([c0, c1, c2].drop 1).take (Try.prog.cellsOf 49)) = xs[1]? := hf 1 _ rfl
    have h2 : DataW.trod enc Try.prog w base spare held n 50 (([c0, c1, c2].drop 2).take (Try.prog.cellsOf 50)) = xs[2]? := hf 2 _ rfl
    rw [hk1] at h0
    rw [hk2] at h1
    rw [hk3] at h2
    rw [List.getElem?_eq_getElem (by omega)] at h0 h1 h2
    simp only [List.drop_zero, List.drop_succ_cons, List.take_succ_cons, List.take_zero] at h0 h1 h2
    obtain ⟨s, e0⟩ := gives_str _ _ _ h0
    obtain ⟨vl, vv, e1, hv, hvl⟩ := gives_vars _ _ _ h1
    obtain ⟨el, ve, e2, he, hel⟩ := gives_events _ _ _ h2
    simp only [List.cons.injEq, and_true] at e0 e1 e2
    exact ⟨⟨s, vl, el⟩, ⟨vv, ve, by rw [e0, e1, e2], hv, he⟩, hvl, hel⟩
/-- No list of a trace has more elements than an index can name. -/
def TopTr (t : Tr) : Prop := t.length ≤ 9223372036854775807 ∧ ∀ p, p < t.length → TopPr t[p]!
set_option maxRecDepth 100000 in
theorem gives_trace : Gives enc Try.prog w base spare held 24 (fun w cs (t : Tr) => ∃ v, cs = [v] ∧ TrAt w v t ∧ TopTr t) := by
  have hk1 : Try.prog.cellsOf 22 = 1 := by kernel_rfl
  intro fuel cs x h
  obtain ⟨xs, n, _, _, hl, hxl, hf⟩ := DataW.trod_struct Try.underlying24 h
  rw [show Try.prog.cellsOf 24 = 1 from by kernel_rfl] at hl
  have hxl3 : xs.length = 1 := hxl
  match cs, hl with
  | [c0], _ =>
    have h0 : DataW.trod enc Try.prog w base spare held n 22 (([c0].drop 0).take (Try.prog.cellsOf 22)) = xs[0]? := hf 0 _ rfl
    rw [hk1, List.getElem?_eq_getElem (by omega)] at h0
    simp only [List.drop_zero, List.drop_succ_cons, List.take_succ_cons, List.take_zero] at h0
    obtain ⟨l, v, e0, hs, hl⟩ := gives_slice Try.underlying22 (show Try.prog.cellsOf 52 = 3 from by kernel_rfl) (by omega) gives_proc _ _ _ h0
    simp only [List.cons.injEq, and_true] at e0
    refine ⟨l, v, by rw [e0], ?_, hl, fun p hp => ?_⟩
    · obtain ⟨a, c, rfl, hlc, h⟩ := hs
      refine ⟨a, c, rfl, hlc, fun hl => ?_⟩
      obtain ⟨b, off, rfl, hb, hc⟩ := h hl
      refine ⟨b, off, rfl, hb, fun i hi => ?_⟩
      obtain ⟨vs, h1, ⟨h2, _⟩, h3⟩ := hc i hi
      exact ⟨vs, h1, h2, h3⟩
    · obtain ⟨a, c, rfl, hlc, h⟩ := hs
      obtain ⟨b, off, rfl, hb, hc⟩ := h (by rintro rfl; simp at hp)
      obtain ⟨vs, h1, ⟨_, h2⟩, h3⟩ := hc p hp
      exact h2

end
end Go.Proofs.Ytfagfooggcinoaa

/-
  From a reading of lists of lists of numbers to what the walks ask of it.
-/
namespace Go.Proofs.Ytfagfooggcinoaa
open Go.RowKit
set_option linter.unusedVariables false
open Go.ChangeShapes Go.WideShapes

section
variable {H : Type} {enc : TypeId × Value → H} {w : World} {base : Nat} {spare : Nat → Bool} {held : Bool}
theorem gives_oneI : Gives enc Try.prog w base spare held 25 (fun w cs (l : List Int) => RInts w cs l) := by
  intro fuel cs x h
  obtain ⟨l, v, e, hv, _⟩ := gives_ints Try.underlying25 Try.underlying3 (by kernel_rfl) _ _ _ h
  exact ⟨l, v, e, hv⟩
theorem gives_rowsI : Gives enc Try.prog w base spare held 43 (fun w cs (l : List (List Int)) => ∃ v, cs = [v] ∧ Sl RInts 1 w v l ∧ l.length ≤ 9223372036854775807) :=
  gives_slice Try.underlying43 (show Try.prog.cellsOf 25 = 1 from by kernel_rfl) (by omega) gives_oneI
end

end Go.Proofs.Ytfagfooggcinoaa

/-
  From a reading of marks to what the walks ask of it.
-/
namespace Go.Proofs.Ytfagfooggcinoaa
open Go.RowKit
set_option linter.unusedVariables false
open Go.ChangeShapes Go.WideShapes

theorem bools_sl {w : World} {v : Value} {l : List Bool} (h : Sl RBool 1 w v l) : Bools w v l := by
  obtain ⟨a, c, rfl, hlc, h⟩ := h
  refine ⟨by simp, a, c, rfl, hlc, fun hn => ?_⟩
  obtain ⟨b, off, rfl, hb, hc⟩ := h (by intro e; rw [e] at hn; simp at hn)
  refine ⟨b, off, rfl, hb, fun j hj => ?_⟩
  have hj : j < l.length := by simpa using hj
  obtain ⟨vs, h1, h2, h3⟩ := hc j hj
  have := h3 0 (by omega)
  rw [Nat.mul_one, Nat.add_zero] at this
  obtain rfl : vs = [.bool l[j]!] := h2
  rw [this, List.getElem?_map, List.getElem?_eq_getElem hj, getElem!_pos l j hj]; rfl
section
variable {H : Type} {enc : TypeId × Value → H} {w : World} {base : Nat} {spare : Nat → Bool} {held : Bool}
theorem gives_boolM : Gives enc Try.prog w base spare held 4 RBool := by
  intro fuel cs x h
  obtain ⟨b, rfl, _⟩ := DataW.trod_bool Try.underlying4 h
  exact ⟨b, rfl⟩
theorem gives_boolsM : Gives enc Try.prog w base spare held 46 (fun w cs (l : List Bool) => ∃ v, cs = [v] ∧ Sl RBool 1 w v l ∧ l.length ≤ 9223372036854775807) :=
  gives_slice Try.underlying46 (show Try.prog.cellsOf 4 = 1 from by kernel_rfl) (by omega) gives_boolM
theorem gives_numM : Gives enc Try.prog w base spare held 3 (fun w cs (n : Int) => cs = [.int .i64 n]) := by
  intro fuel cs x h
  obtain ⟨n, rfl, _⟩ := DataW.trod_int Try.underlying3 h
  exact ⟨n, rfl⟩
set_option maxRecDepth 100000 in
theorem gives_mark : Gives enc Try.prog w base spare held 48 RMk := by
  intro fuel cs x h
  obtain ⟨xs, n, _, _, hl, hxl, hf⟩ := DataW.trod_struct Try.underlying48 h
  have hk1 : Try.prog.cellsOf 3 = 1 := by kernel_rfl
  have hk2 : Try.prog.cellsOf 46 = 1 := by kernel_rfl
  have hk3 : Try.prog.cellsOf 43 = 1 := by kernel_rfl
  rw [show Try.prog.cellsOf 48 = 3 from by kernel_rfl] at hl
  have hxl3 : xs.length = 3 := hxl
  match cs, hl with
  | [c0, c1, c2], _ =>
    have h0 : DataW.trod enc Try.prog w base spare held n 3 (([c0, c1, c2].drop 0).take (Try.prog.cellsOf 3)) = xs[0]? := hf 0 _ rfl
    have h1 : DataW.trod enc Try.prog w base spare held n 46 (([c0, c1, c2].drop 1).take (Try.prog.cellsOf 46)) = xs[1]? := hf 1 _ rfl
    have h2 : DataW.trod enc Try.prog w base spare held n 43 (([c0, c1, c2].drop 2).take (Try.prog.cellsOf 43)) = xs[2]? := hf 2 _ rfl
    rw [hk1] at h0
    rw [hk2] at h1
    rw [hk3] at h2
    rw [List.getElem?_eq_getElem (by omega)] at h0 h1 h2
    simp only [List.drop_zero, List.drop_succ_cons, List.take_succ_cons, List.take_zero] at h0 h1 h2
    obtain ⟨d, e0⟩ := gives_numM _ _ _ h0
    obtain ⟨q, v, e1, hq, _⟩ := gives_boolsM _ _ _ h1
    obtain ⟨r, u, e2, hr, _⟩ := gives_rowsI _ _ _ h2
    simp only [List.cons.injEq, and_true] at e0 e1 e2
    exact ⟨⟨d, q, r⟩, v, u, by rw [e0, e1, e2], bools_sl hq, hr⟩
theorem gives_marks : Gives enc Try.prog w base spare held 28 (fun w cs (l : List Mk) => ∃ v, cs = [v] ∧ Sl RMk 3 w v l ∧ l.length ≤ 9223372036854775807) :=
  gives_slice Try.underlying28 (show Try.prog.cellsOf 48 = 3 from by kernel_rfl) (by omega) gives_mark
end

end Go.Proofs.Ytfagfooggcinoaa
