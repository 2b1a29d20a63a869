/-
  The law TerminateGarbage returns true for every input that the row lets in, and leaves its arguments as they were; no further conditions.
-/
import Derived.Test.YthpnkfnnjkhhaaaRows
import Derived.Test.YthpnkfnnjkhhaaaLawGarb2
import Derived.Test.YthpnkfnnjkhhaaaOpen
import Derived.WalkKit
import Derived.ProofKit
import Derived.OpenShut
import Derived.ChangeOld
import Derived.Below
namespace Go.Proofs.Ythpnkfnnjkhhaaa.terminateGarbage
open Go.ChangeShapes Go.WideShapes Go.ChangeAt Go.RowKit
set_option linter.unusedVariables false

theorem own : ownKnob Try.prog.godebug = none := by kernel_rfl
theorem laidOut : laidOutB Try.prog = true := by kernel_rfl

theorem gives_refs {H : Type} {enc : TypeId × Value → H} {w : World} {base : Nat} {spare : Nat → Bool} {held : Bool} : Gives enc Try.prog w base spare held 22 (fun w cs (l : List (Int × Int)) => ∃ v, cs = [v] ∧ Sl RPair 2 w v l ∧ l.length ≤ 9223372036854775807) :=
  gives_slice Try.underlying22 (by kernel_rfl) (by omega) (gives_pair Try.underlying24 Try.underlying3 (by kernel_rfl) (by kernel_rfl))

theorem walk (u v : Value) (refs : List (Int × Int)) (roots : List Int) (n a b : Int) (w : World) (hu : Sl RPair 2 w u refs) (hv : Ints w v roots) (hs : refs.length ≤ 9223372036854775807) (hs2 : roots.length ≤ 9223372036854775807) :
    Calls Try.prog 3 #[u, v, .int .i64 n, .agg #[.int .i64 a, .int .i64 b]] w fun e w' => e = .returned (.bool true) ∧ Ext w w' := by
  by_cases h1 : 40 < n
  · exact lawGarb_out u v refs roots n a b w hu hv hs hs2 (.inl h1)
  by_cases h2 : 60 < refs.length
  · exact lawGarb_out u v refs roots n a b w hu hv hs hs2 (.inr (.inl h2))
  by_cases h3 : 60 < roots.length
  · exact lawGarb_out u v refs roots n a b w hu hv hs hs2 (.inr (.inr (.inl h3)))
  cases h4 : garbBad refs roots n with
  | true => exact lawGarb_out u v refs roots n a b w hu hv hs hs2 (.inr (.inr (.inr h4)))
  | false => exact lawGarb_in u v refs roots n a b w hu hv h1 h2 h3 h4

set_option maxRecDepth 100000 in
set_option maxHeartbeats 4000000 in
theorem lifted (os : Os) (started : os.Started) (H : Type) (enc : TypeId × Value → H) :
    ReturnsInHanded {} Try.checked os 3 .any (Rows.terminateGarbageSpec.pre6 enc Try.prog Try.f3 Rows.terminateGarbageRow.domain false) (Rows.terminateGarbageSpec.post enc Try.prog Try.f3 false true false false) := by
  refine returnsInHanded_of_change (C := Try.checked) own started (by kernel_rfl) Try.func3
    (ChangeSpec.witness6 (enc := enc) (C := Try.checked) false ⟨#[], #[.slice none 0 0, .slice none 0 0, .int .i64 0, .agg #[.int .i64 0, .int .i64 0]], []⟩ 40 (by kernel_rfl) (by kernel_rfl) (by kernel_rfl) (by kernel_rfl)) ?_
  intro W base args ds gs before hval0 hW hcnd _
  have hval : ∀ (j : Nat) t v, Try.f3.params[j]? = some t → args[j]? = some v → Value.okWide Try.prog W .any base t v := hval0
  have hW' := hW
  obtain ⟨p, q, hA0, hV, rfl, hfz, hnd⟩ := hW
  have hA : DataW.TrodAll enc Try.prog W 0 (fun _ => true) true Try.f3.params.toList args.toList ds p := hA0
  rw [Try.params3] at hA hval
  obtain ⟨v0, vs0, d0, ds0, p0, q0, hargs, rfl, rfl, h0, r0⟩ := trodAll_cons hA
  obtain ⟨v1, vs1, d1, ds1, p1, q1, rfl, rfl, rfl, h1, r1⟩ := trodAll_cons r0
  obtain ⟨v2, vs2, d2, ds2, p2, q2, rfl, rfl, rfl, h2, r2⟩ := trodAll_cons r1
  obtain ⟨v3, vs3, d3, ds3, p3, q3, rfl, rfl, rfl, h3, r3⟩ := trodAll_cons r2
  obtain ⟨rfl, rfl, rfl⟩ := trodAll_nil r3
  obtain rfl : args = #[v0, v1, v2, v3] := by cases args; simp_all
  obtain ⟨rfl, rfl⟩ := trodVars_none hV
  have k0 := h0
  have lt0 : ∀ x ∈ p0, x.block < W.heap.size := by obtain ⟨m, hm⟩ := k0; exact DataW.trod_lt m _ _ _ hm
  have k1 := h1
  have lt1 : ∀ x ∈ p1, x.block < W.heap.size := by obtain ⟨m, hm⟩ := k1; exact DataW.trod_lt m _ _ _ hm
  have k2 := h2
  have lt2 : ∀ x ∈ p2, x.block < W.heap.size := by obtain ⟨m, hm⟩ := k2; exact DataW.trod_lt m _ _ _ hm
  have k3 := h3
  have lt3 : ∀ x ∈ p3, x.block < W.heap.size := by obtain ⟨m, hm⟩ := k3; exact DataW.trod_lt m _ _ _ hm
  obtain ⟨sa0, sl0, sc0, rfl⟩ := okWide_slice Try.underlying22 (hval 0 22 v0 rfl rfl)
  obtain ⟨refs, u, hu0, hu, hs⟩ := gives_arg gives_refs h0
  obtain rfl : Value.slice sa0 sl0 sc0 = u := by simpa [Value.cells] using hu0
  obtain ⟨sa1, sl1, sc1, rfl⟩ := okWide_slice Try.underlying23 (hval 1 23 v1 rfl rfl)
  obtain ⟨roots, v, hv0, hv, hs2⟩ := gives_arg (gives_ints Try.underlying23 Try.underlying3 (by kernel_rfl)) h1
  obtain rfl : Value.slice sa1 sl1 sc1 = v := by simpa [Value.cells] using hv0
  obtain ⟨n, rfl, rfl, rfl, wn⟩ := open_int Try.underlying3 (hval 2 3 v2 rfl rfl) h2
  obtain ⟨cs3, rfl⟩ := okWide_array Try.underlying24 (hval 3 24 v3 rfl rfl)
  obtain ⟨⟨a, b⟩, hab⟩ := gives_arg (gives_pair Try.underlying24 Try.underlying3 (by kernel_rfl) (by kernel_rfl)) h3
  obtain rfl : cs3 = #[.int .i64 a, .int .i64 b] := by cases cs3; simpa [Value.cells] using hab
  clear hA0 hval0
  refine (walk _ _ refs roots n a b W hu hv hs hs2).mono fun e W' ⟨he, bel⟩ => ?_
  subst he
  exact ⟨_, rfl, _, _, _, [], _, [], hW', trodAll_mk1 (shut_bool Try.underlying4 _), (trodAll_cons_mk (Below.trod laidOut (by kernel_rfl) (of_decide_eq_true (by kernel_rfl)) k0 bel lt0) (trodAll_cons_mk (Below.trod laidOut (by kernel_rfl) (of_decide_eq_true (by kernel_rfl)) k1 bel lt1) (trodAll_cons_mk (Below.trod laidOut (by kernel_rfl) (of_decide_eq_true (by kernel_rfl)) k2 bel lt2) (trodAll_cons_mk (Below.trod laidOut (by kernel_rfl) (of_decide_eq_true (by kernel_rfl)) k3 bel lt3) trodAll_mk0)))), rfl, bel.frame _, fun h => by cases h⟩

theorem over : Rows.terminateGarbageRow.holds Try.pinned (OpenSpec.ofChange Rows.terminateGarbageSpec) :=
  OpenClaim.holds_of_wide 3 Try.f3 rfl rfl rfl rfl rfl rfl rfl ⟨rfl, rfl, rfl, rfl, rfl⟩ rfl rfl rfl rfl rfl (by kernel_rfl) Try.func3 (by kernel_rfl)
    (of_decide_eq_true (by kernel_rfl)) (by unfold Func.isWrapper; first | (rw [if_pos (by decide +kernel)]; kernel_rfl) | (rw [if_neg (by decide +kernel)]; exact ⟨rfl, rfl⟩))
    (fun os started H enc _ => lifted os started H enc)

end Go.Proofs.Ythpnkfnnjkhhaaa.terminateGarbage
namespace Go.Proofs.Ythpnkfnnjkhhaaa

theorem terminateGarbage_holds : Rows.TerminateGarbageSaid := terminateGarbage.over
#print axioms terminateGarbage_holds

end Go.Proofs.Ythpnkfnnjkhhaaa
