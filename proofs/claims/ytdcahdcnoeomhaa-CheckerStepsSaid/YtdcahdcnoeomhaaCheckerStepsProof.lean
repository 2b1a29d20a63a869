/-
  The law CheckerSteps returns true for every input that the row lets in, and leaves its arguments as they were; no further conditions.
-/
import Derived.Test.YtdcahdcnoeomhaaRows
import Derived.Test.YtdcahdcnoeomhaaCkW
import Derived.Test.YtdcahdcnoeomhaaOpenB47
import Derived.Test.YtdcahdcnoeomhaaOpen
import Derived.WalkKit
import Derived.ProofKit
import Derived.OpenShut
import Derived.ChangeOld
import Derived.Below
namespace Go.Proofs.Ytdcahdcnoeomhaa.checkerSteps
open Go.ChangeShapes Go.WideShapes Go.ChangeAt Go.RowKit
set_option linter.unusedVariables false

theorem own : ownKnob Try.prog.godebug = none := by kernel_rfl
theorem laidOut : laidOutB Try.prog = true := by kernel_rfl

theorem walk (N : Int) (vq ve vc v : Value) (s : Ck) (p : Int) (lv : List Int) (w : World) (h : CkAt w vq ve vc s) (hv : Ints w v lv) :
    Calls Try.prog 4 #[.int .i64 N, .agg #[vq, ve, .bool s.done, vc], .int .i64 p, v] w fun e w' => e = .returned (.bool true) ∧ Ext w w' := by
  cases hg : greatB s with
  | true => exact lawSteps_out N vq ve vc v s p lv w h hv (.inl hg)
  | false =>
    by_cases h20 : 20 < lv.length
    · exact lawSteps_out N vq ve vc v s p lv w h hv (.inr h20)
    by_cases h1 : N < 1
    · exact lawSteps_bad N vq ve vc v s p lv w h hv hg h20 (.inl h1)
    by_cases h8 : 8 < N
    · exact lawSteps_bad N vq ve vc v s p lv w h hv hg h20 (.inr ⟨h1, h8⟩)
    obtain ⟨M, rfl⟩ : ∃ M : Nat, N = M := ⟨N.toNat, by omega⟩
    exact lawSteps_ok M vq ve vc v s p lv w h hv hg h20 (by omega) (by omega)

set_option maxRecDepth 100000 in
set_option maxHeartbeats 4000000 in
theorem lifted (os : Os) (started : os.Started) (H : Type) (enc : TypeId × Value → H) :
    ReturnsInHanded {} Try.checked os 4 .any (Rows.checkerStepsSpec.pre6 enc Try.prog Try.f4 Rows.checkerStepsRow.domain false) (Rows.checkerStepsSpec.post enc Try.prog Try.f4 false true false false) := by
  refine returnsInHanded_of_change (C := Try.checked) own started (by kernel_rfl) Try.func4
    (ChangeSpec.witness6 (enc := enc) (C := Try.checked) false ⟨#[], #[.int .i64 0, .agg #[.slice none 0 0, .slice none 0 0, .bool false, .slice none 0 0], .int .i64 0, .slice none 0 0], []⟩ 40 (by kernel_rfl) (by kernel_rfl) (by kernel_rfl) (by kernel_rfl)) ?_
  intro W base args ds gs before hval0 hW hcnd _
  have hval : ∀ (j : Nat) t v, Try.f4.params[j]? = some t → args[j]? = some v → Value.okWide Try.prog W .any base t v := hval0
  have hW' := hW
  obtain ⟨p, q, hA0, hV, rfl, hfz, hnd⟩ := hW
  have hA : DataW.TrodAll enc Try.prog W 0 (fun _ => true) true Try.f4.params.toList args.toList ds p := hA0
  rw [Try.params4] at hA hval
  obtain ⟨v0, vs0, d0, ds0, p0, q0, hargs, rfl, rfl, h0, r0⟩ := trodAll_cons hA
  obtain ⟨v1, vs1, d1, ds1, p1, q1, rfl, rfl, rfl, h1, r1⟩ := trodAll_cons r0
  obtain ⟨v2, vs2, d2, ds2, p2, q2, rfl, rfl, rfl, h2, r2⟩ := trodAll_cons r1
  obtain ⟨v3, vs3, d3, ds3, p3, q3, rfl, rfl, rfl, h3, r3⟩ := trodAll_cons r2
  obtain ⟨rfl, rfl, rfl⟩ := trodAll_nil r3
  obtain rfl : args = #[v0, v1, v2, v3] := by cases args; simp_all
  obtain ⟨rfl, rfl⟩ := trodVars_none hV
  have k0 := h0
  have lt0 : ∀ x ∈ p0, x.block < W.heap.size := by obtain ⟨m, hm⟩ := k0; exact DataW.trod_lt m _ _ _ hm
  have k1 := h1
  have lt1 : ∀ x ∈ p1, x.block < W.heap.size := by obtain ⟨m, hm⟩ := k1; exact DataW.trod_lt m _ _ _ hm
  have k2 := h2
  have lt2 : ∀ x ∈ p2, x.block < W.heap.size := by obtain ⟨m, hm⟩ := k2; exact DataW.trod_lt m _ _ _ hm
  have k3 := h3
  have lt3 : ∀ x ∈ p3, x.block < W.heap.size := by obtain ⟨m, hm⟩ := k3; exact DataW.trod_lt m _ _ _ hm
  obtain ⟨N, rfl, rfl, rfl, wN⟩ := open_int Try.underlying3 (hval 0 3 v0 rfl rfl) h0
  obtain ⟨cs1, rfl, _⟩ := okWide_struct Try.underlying26 (hval 1 26 v1 rfl rfl)
  obtain ⟨s, vq, ve, vc, hu0, hu⟩ := gives_arg gives_checker h1
  obtain rfl : cs1 = #[vq, ve, .bool s.done, vc] := by cases cs1; simpa [Value.cells] using hu0
  obtain ⟨p, rfl, rfl, rfl, wn⟩ := open_int Try.underlying3 (hval 2 3 v2 rfl rfl) h2
  obtain ⟨sa3, sl3, sc3, rfl⟩ := okWide_slice Try.underlying24 (hval 3 24 v3 rfl rfl)
  obtain ⟨lv, v, hv0, hv, hs2⟩ := gives_arg (gives_ints Try.underlying24 Try.underlying3 (by kernel_rfl)) h3
  obtain rfl : Value.slice sa3 sl3 sc3 = v := by simpa [Value.cells] using hv0
  clear hA0 hval0
  refine (walk N vq ve vc _ s p lv W hu hv).mono fun e W' ⟨he, bel⟩ => ?_
  subst he
  exact ⟨_, rfl, _, _, _, [], _, [], hW', trodAll_mk1 (shut_bool Try.underlying4 _), (trodAll_cons_mk (Below.trod laidOut (by kernel_rfl) (of_decide_eq_true (by kernel_rfl)) k0 bel lt0) (trodAll_cons_mk (Below.trod laidOut (by kernel_rfl) (of_decide_eq_true (by kernel_rfl)) k1 bel lt1) (trodAll_cons_mk (Below.trod laidOut (by kernel_rfl) (of_decide_eq_true (by kernel_rfl)) k2 bel lt2) (trodAll_cons_mk (Below.trod laidOut (by kernel_rfl) (of_decide_eq_true (by kernel_rfl)) k3 bel lt3) trodAll_mk0)))), rfl, bel.frame _, fun h => by cases h⟩

theorem over : Rows.checkerStepsRow.holds Try.pinned (OpenSpec.ofChange Rows.checkerStepsSpec) :=
  OpenClaim.holds_of_wide 4 Try.f4 rfl rfl rfl rfl rfl rfl rfl ⟨rfl, rfl, rfl, rfl, rfl⟩ rfl rfl rfl rfl rfl (by kernel_rfl) Try.func4 (by kernel_rfl)
    (of_decide_eq_true (by kernel_rfl)) (by unfold Func.isWrapper; first | (rw [if_pos (by decide +kernel)]; kernel_rfl) | (rw [if_neg (by decide +kernel)]; exact ⟨rfl, rfl⟩))
    (fun os started H enc _ => lifted os started H enc)

end Go.Proofs.Ytdcahdcnoeomhaa.checkerSteps
namespace Go.Proofs.Ytdcahdcnoeomhaa

theorem checkerSteps_holds : Rows.CheckerStepsSaid := checkerSteps.over
#print axioms checkerSteps_holds

end Go.Proofs.Ytdcahdcnoeomhaa
