/-
  The law MonlogAppends returns true for every input that the row lets in, and leaves its arguments as they were; no further conditions.
-/
import Derived.Test.YtggofkaakccoeaaRows
import Derived.Test.YtggofkaakccoeaaAppsA52
import Derived.Test.YtggofkaakccoeaaOpenB52
import Derived.Test.YtggofkaakccoeaaOpen
import Derived.WalkKit
import Derived.ProofKit
import Derived.OpenShut
import Derived.ChangeOld
import Derived.Below
namespace Go.Proofs.Ytggofkaakccoeaa.monlogAppends
open Go.ChangeShapes Go.WideShapes Go.ChangeAt Go.RowKit
set_option linter.unusedVariables false

theorem own : ownKnob Try.prog.godebug = none := by kernel_rfl
theorem laidOut : laidOutB Try.prog = true := by kernel_rfl

theorem walk (v : Value) (l : List Int) (d f : Int) (u : Value) (b : List Int) (w : World) (hv : Bys w v l) (hu : Bys w u b) (hq : l.length ≤ 9223372036854775807) (hn : b.length ≤ 9223372036854775807) :
    Calls Try.prog 5 #[.agg #[v, .int .i64 d, .int .i64 f], u] w fun e w' => e = .returned (.bool true) ∧ Ext w w' := by
  have out : (fitsB l.length = false ∨ (fitsB l.length = true ∧ ((300 < b.length ∧ b.length ≤ 16384) ∨ 16484 < b.length))) → Calls Try.prog 5 #[.agg #[v, .int .i64 d, .int .i64 f], u] w fun e w' => e = .returned (.bool true) ∧ Ext w w' := by
    intro h
    obtain ⟨_, a, c, rfl, _, _⟩ := hv
    obtain ⟨_, a2, c2, rfl, _, _⟩ := hu
    exact appends_out a l.length c d f a2 b.length c2 w hq hn h
  cases hfit : fitsB l.length with
  | false => exact out (.inl hfit)
  | true =>
    by_cases h1 : (300 < b.length ∧ b.length ≤ 16384) ∨ 16484 < b.length
    · exact out (.inr ⟨hfit, h1⟩)
    · exact appends_in v l d f u b w hv hu hq hfit (by omega)

set_option maxRecDepth 100000 in
set_option maxHeartbeats 4000000 in
theorem lifted (os : Os) (started : os.Started) (H : Type) (enc : TypeId × Value → H) :
    ReturnsInHanded {} Try.checked os 5 .any (Rows.monlogAppendsSpec.pre6 enc Try.prog Try.f5 Rows.monlogAppendsRow.domain false) (Rows.monlogAppendsSpec.post enc Try.prog Try.f5 false true false false) := by
  refine returnsInHanded_of_change (C := Try.checked) own started (by kernel_rfl) Try.func5
    (ChangeSpec.witness6 (enc := enc) (C := Try.checked) false ⟨#[], #[.agg #[.slice none 0 0, .int .i64 0, .int .i64 0], .slice none 0 0], []⟩ 40 (by kernel_rfl) (by kernel_rfl) (by kernel_rfl) (by kernel_rfl)) ?_
  intro W base args ds gs before hval0 hW hcnd _
  have hval : ∀ (j : Nat) t v, Try.f5.params[j]? = some t → args[j]? = some v → Value.okWide Try.prog W .any base t v := hval0
  have hW' := hW
  obtain ⟨p, q, hA0, hV, rfl, hfz, hnd⟩ := hW
  have hA : DataW.TrodAll enc Try.prog W 0 (fun _ => true) true Try.f5.params.toList args.toList ds p := hA0
  rw [Try.params5] at hA hval
  obtain ⟨v0, vs0, d0, ds0, p0, q0, hargs, rfl, rfl, h0, r0⟩ := trodAll_cons hA
  obtain ⟨v1, vs1, d1, ds1, p1, q1, rfl, rfl, rfl, h1, r1⟩ := trodAll_cons r0
  obtain ⟨rfl, rfl, rfl⟩ := trodAll_nil r1
  obtain rfl : args = #[v0, v1] := by cases args; simp_all
  obtain ⟨rfl, rfl⟩ := trodVars_none hV
  have k0 := h0
  have lt0 : ∀ x ∈ p0, x.block < W.heap.size := by obtain ⟨m, hm⟩ := k0; exact DataW.trod_lt m _ _ _ hm
  have k1 := h1
  have lt1 : ∀ x ∈ p1, x.block < W.heap.size := by obtain ⟨m, hm⟩ := k1; exact DataW.trod_lt m _ _ _ hm
  obtain ⟨cs0, rfl, _⟩ := okWide_struct Try.underlying24 (hval 0 24 v0 rfl rfl)
  obtain ⟨⟨l, d, f⟩, u, hu0, hu, hs⟩ := gives_arg gives_journal h0
  obtain rfl : cs0 = #[u, .int .i64 d, .int .i64 f] := by cases cs0; simpa [Value.cells] using hu0
  obtain ⟨sa1, sl1, sc1, rfl⟩ := okWide_slice Try.underlying22 (hval 1 22 v1 rfl rfl)
  obtain ⟨b, u2, hv0, hv, hs2⟩ := gives_arg gives_bytes h1
  obtain rfl : Value.slice sa1 sl1 sc1 = u2 := by simpa [Value.cells] using hv0
  clear hA0 hval0
  refine (walk u l d f _ b W hu hv hs hs2).mono fun e W' ⟨he, bel⟩ => ?_
  subst he
  exact ⟨_, rfl, _, _, _, [], _, [], hW', trodAll_mk1 (shut_bool Try.underlying4 _), (trodAll_cons_mk (Below.trod laidOut (by kernel_rfl) (of_decide_eq_true (by kernel_rfl)) k0 bel lt0) (trodAll_cons_mk (Below.trod laidOut (by kernel_rfl) (of_decide_eq_true (by kernel_rfl)) k1 bel lt1) trodAll_mk0)), rfl, bel.frame _, fun h => by cases h⟩

theorem over : Rows.monlogAppendsRow.holds Try.pinned (OpenSpec.ofChange Rows.monlogAppendsSpec) :=
  OpenClaim.holds_of_wide 5 Try.f5 rfl rfl rfl rfl rfl rfl rfl ⟨rfl, rfl, rfl, rfl, rfl⟩ rfl rfl rfl rfl rfl (by kernel_rfl) Try.func5 (by kernel_rfl)
    (of_decide_eq_true (by kernel_rfl)) (by unfold Func.isWrapper; first | (rw [if_pos (by decide +kernel)]; kernel_rfl) | (rw [if_neg (by decide +kernel)]; exact ⟨rfl, rfl⟩))
    (fun os started H enc _ => lifted os started H enc)

end Go.Proofs.Ytggofkaakccoeaa.monlogAppends
namespace Go.Proofs.Ytggofkaakccoeaa

theorem monlogAppends_holds : Rows.MonlogAppendsSaid := monlogAppends.over
#print axioms monlogAppends_holds

end Go.Proofs.Ytggofkaakccoeaa
