import Derived.Test.YtfagfooggcinoaaJa
import Derived.ProofKit
import Derived.OpenShut
import Derived.ChangeArms
import Derived.ChangeSlices
namespace Go.Proofs.Ytfagfooggcinoaa
open Go.RowKit Go.ChangeShapes Go.WideShapes
set_option linter.unusedVariables false
section
variable {H : Type} {enc : TypeId × Value → H} {P : Program} {w : World} {base : Nat} {spare : Nat → Bool} {held : Bool}
def Gives {α : Type} (enc : TypeId × Value → H) (P : Program) (w : World) (base : Nat) (spare : Nat → Bool) (held : Bool) (t : TypeId) (R : World → List Value → α → Prop) : Prop :=
 ∀ fuel cs x, DataW.trod enc P w base spare held fuel t cs = some x → ∃ y, R w cs y
theorem gives_int {t : TypeId} (ht : P.underlying t = some (.int .i64)) : Gives enc P w base spare held t (fun _ cs (n : Int) => cs = [.int .i64 n] ∧ -9223372036854775808 ≤ n ∧ n ≤ 9223372036854775807) := by
 intro fuel cs x h
 obtain ⟨n, rfl, _, hw⟩ := DataW.trod_int ht h
 refine ⟨n, rfl, ?_⟩
 simpa [Lit.wf, IntKind.min, IntKind.max, IntKind.signed, IntKind.bits] using hw
theorem gives_slice {α : Type} [Inhabited α] {t e : TypeId} {R : World → List Value → α → Prop} {k : Nat} (ht : P.underlying t = some (.slice e)) (hk : P.cellsOf e = k) (hk0 : 0 < k) (hR : Gives enc P w base spare held e R) :
  Gives enc P w base spare held t (fun w cs (l : List α) => ∃ v, cs = [v] ∧ Sl R k w v l ∧ l.length ≤ 9223372036854775807) := by
 intro fuel cs x h
 rcases DataW.trod_slice ht h with ⟨rfl, _⟩ | ⟨a, len, cap, elems, rest, n, _, rfl, _, hb, hl, hm, hlen, hel, _, _⟩
 ·exact ⟨[], _, rfl, ⟨_, _, rfl, Nat.le_refl _, fun h => absurd rfl h⟩, by simp⟩
 ·have hlm : len ≤ 9223372036854775807 := by unfold maxLen at hm; omega
  have one : ∀ i, i < len → ∃ vs y, w.cells? base (a.add (i * k)) k = some vs ∧ R w vs y := by
   intro i hi
   have := hel i hi
   rw [List.getElem?_eq_getElem (by omega), hk] at this
   obtain ⟨cs', h1, h2⟩ := Option.bind_eq_some_iff.1 this
   obtain ⟨y, hy⟩ := hR _ _ _ h2
   exact ⟨cs', y, h1, hy⟩
  by_cases h0 : len = 0
  ·subst h0
   exact ⟨[], _, rfl, ⟨_, _, rfl, hl, fun h => absurd rfl h⟩, by simp⟩
  have haddr : ∃ b off, a = ⟨b, off, none⟩ ∧ b < w.heap.size := by
   obtain ⟨vs, y, h1, _⟩ := one 0 (by omega)
   obtain ⟨_, hlen', hc⟩ := World.cells?_some h1
   have hc0 := hc 0 (by omega)
   rw [List.getElem?_eq_getElem (by omega)] at hc0
   have hsp := World.cell?_spot hc0
   obtain ⟨b, off, sp⟩ := a
   simp only [Nat.zero_mul, Addr.add, if_true] at hsp hc0
   subst hsp
   exact ⟨b, off, rfl, World.block_lt_of_cell? w _ hc0⟩
  obtain ⟨b, off, rfl, hbw⟩ := haddr
  classical
  let f : Nat → α := fun i => if hi : i < len then Classical.choose (Classical.choose_spec (one i hi)) else default
  refine ⟨(List.range len).map f, _, rfl, ⟨_, cap, by simp, by simpa using hl, fun _ => ⟨b, off, rfl, hbw, fun i hi => ?_⟩⟩, by simpa using hlm⟩
  have hi' : i < len := by simpa using hi
  have hspec := Classical.choose_spec (Classical.choose_spec (one i hi'))
  refine ⟨Classical.choose (one i hi'), ?_, ?_, fun j hj => ?_⟩
  ·exact (World.cells?_some hspec.1).2.1
  ·have : ((List.range len).map f)[i]! = f i := by rw [getElem!_pos _ i hi]; simp
   rw [this]
   simp only [f, dif_pos hi']
   exact hspec.2
  ·obtain ⟨_, hl2, hc⟩ := World.cells?_some hspec.1
   have := hc j hj
   rw [getElem!_pos _ j (by rw [hl2]; exact hj)]
   rw [← List.getElem?_eq_getElem, ← this]
   congr 1
   by_cases hik : i * k = 0
   ·by_cases hj0 : j = 0
    ·simp [Addr.add, hik, hj0]
    ·simp [Addr.add, hik, hj0]
   ·by_cases hj0 : j = 0
    ·simp [Addr.add, hik, hj0]
    ·simp [Addr.add, hik, hj0]
theorem sl_ints {w : World} {v : Value} {l : List Int} (h : Sl (fun _ cs (n : Int) => cs = [.int .i64 n] ∧ -9223372036854775808 ≤ n ∧ n ≤ 9223372036854775807) 1 w v l) : Ints w v l := by
 obtain ⟨a, c, rfl, hlc, h⟩ := h
 refine ⟨a, c, rfl, hlc, fun hl => ?_⟩
 obtain ⟨b, off, rfl, hb, hc⟩ := h hl
 refine ⟨b, off, rfl, hb, fun i hi => ?_⟩
 obtain ⟨vs, _, ⟨rfl, _⟩, h3⟩ := hc i hi
 have := h3 0 (by omega)
 simpa using this
theorem gives_ints {t e : TypeId} (ht : P.underlying t = some (.slice e)) (he : P.underlying e = some (.int .i64)) (hk : P.cellsOf e = 1) :
  Gives enc P w base spare held t (fun w cs (l : List Int) => ∃ v, cs = [v] ∧ Ints w v l ∧ l.length ≤ 9223372036854775807) := by
 intro fuel cs x h
 obtain ⟨l, v, rfl, hs, hl⟩ := gives_slice ht hk (by omega) (gives_int he) fuel cs x h
 exact ⟨l, v, rfl, sl_ints hs, hl⟩
theorem gives_arg {α : Type} {t : TypeId} {R : World → List Value → α → Prop} {v : Value} {d : DataW H} {ps : List MemPlace} (h : Gives enc P w base spare held t R) (hd : DataW.Trod enc P w base spare held t v d ps) : ∃ y, R w v.cells.toList y := by
 obtain ⟨fuel, hf⟩ := hd
 exact h _ _ _ hf
end
end Go.Proofs.Ytfagfooggcinoaa
