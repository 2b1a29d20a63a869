/-
  From a reading of bytes and journals to what the walks ask of them.
-/
import Derived.Test.YtggofkaakccoeaaRows
import Derived.Test.YtggofkaakccoeaaBase
import Derived.Test.YtggofkaakccoeaaProg
import Derived.BigQuiet
import Derived.Deep.QuietTactic
import Derived.Deep.LoopGhost
import Derived.Shelf.Abstract
import Derived.Test.YtggofkaakccoeaaRecW52
import Derived.Test.YtggofkaakccoeaaOpen
namespace Go.Proofs.Ytggofkaakccoeaa
open Go.RowKit
set_option linter.unusedVariables false
open Go.ChangeShapes Go.WideShapes

section
variable {H : Type} {enc : TypeId × Value → H} {w : World} {base : Nat} {spare : Nat → Bool} {held : Bool}

theorem gives_byte : Gives enc Try.prog w base spare held 5 (fun _ cs (n : Int) => cs = [.int .u8 n] ∧ Byte n) := by
  intro fuel cs x h
  obtain ⟨n, rfl, _, hw⟩ := DataW.trod_int Try.underlying5 h
  refine ⟨n, rfl, ?_⟩
  simp [Lit.wf, IntKind.min, IntKind.max, IntKind.signed, IntKind.bits] at hw
  unfold Byte
  omega

theorem gives_bytes : Gives enc Try.prog w base spare held 22 (fun w cs (l : List Int) => ∃ v, cs = [v] ∧ Bys w v l ∧ l.length ≤ 9223372036854775807) := by
  intro fuel cs x h
  obtain ⟨l, v, rfl, hs, hl⟩ := gives_slice Try.underlying22 (show Try.prog.cellsOf 5 = 1 from by kernel_rfl) (by omega) gives_byte fuel cs x h
  refine ⟨l, v, rfl, ?_, hl⟩
  obtain ⟨a, c, rfl, hlc, h⟩ := hs
  refine ⟨fun x hx => ?_, a, c, rfl, hlc, fun hl => ?_⟩
  · obtain ⟨i, hi, rfl⟩ := List.getElem_of_mem hx
    obtain ⟨b, off, rfl, hb, hc⟩ := h (by intro e; simp [e] at hi)
    obtain ⟨vs, _, ⟨_, hby⟩, _⟩ := hc i hi
    rwa [getElem!_pos l i hi] at hby
  · obtain ⟨b, off, rfl, hb, hc⟩ := h hl
    refine ⟨b, off, rfl, hb, fun i hi => ?_⟩
    obtain ⟨vs, _, ⟨rfl, _⟩, h3⟩ := hc i hi
    have := h3 0 (by omega)
    simpa using this

set_option maxRecDepth 100000 in
theorem gives_journal : Gives enc Try.prog w base spare held 24 (fun w cs (x : List Int × Int × Int) => ∃ v, cs = [v, .int .i64 x.2.1, .int .i64 x.2.2] ∧ Bys w v x.1 ∧ x.1.length ≤ 9223372036854775807) := by
  intro fuel cs x h
  obtain ⟨xs, n, _, _, hl, hxl, hf⟩ := DataW.trod_struct Try.underlying24 h
  have hk : Try.prog.cellsOf 3 = 1 := by kernel_rfl
  have hk2 : Try.prog.cellsOf 22 = 1 := by kernel_rfl
  rw [show Try.prog.cellsOf 24 = 3 from by kernel_rfl] at hl
  have hxl3 : xs.length = 3 := hxl
  match cs, hl with
  | [c0, c1, c2], _ =>
    have h0 : DataW.trod enc Try.prog w base spare held n 22 (([c0, c1, c2].drop 0).take (Try.prog.cellsOf 22)) = xs[0]? := hf 0 _ rfl
    have h1 : DataW.trod enc Try.prog w base spare held n 3 (([c0, c1, c2].drop 1).take (Try.prog.cellsOf 3)) = xs[1]? := hf 1 _ rfl
    have h2 : DataW.trod enc Try.prog w base spare held n 3 (([c0, c1, c2].drop 2).take (Try.prog.cellsOf 3)) = xs[2]? := hf 2 _ rfl
    rw [hk] at h1 h2
    rw [hk2] at h0
    rw [List.getElem?_eq_getElem (by omega)] at h0 h1 h2
    simp only [List.drop_zero, List.drop_succ_cons, List.take_succ_cons, List.take_zero] at h0 h1 h2
    obtain ⟨n1, e1, _⟩ := DataW.trod_int Try.underlying3 h1
    obtain ⟨n2, e2, _⟩ := DataW.trod_int Try.underlying3 h2
    obtain ⟨fl, v, e0, hi, hlen⟩ := gives_bytes _ _ _ h0
    simp only [List.cons.injEq, and_true] at e0 e1 e2
    exact ⟨⟨fl, n1, n2⟩, v, by rw [e0, e1, e2], hi, hlen⟩

end
end Go.Proofs.Ytggofkaakccoeaa
