/-
  The law CheckerForgets returns true for every input that the row lets in, and leaves its arguments as they were; no further conditions.
-/
import Derived.Test.YtdcahdcnoeomhaaRows
import Derived.Test.YtdcahdcnoeomhaaCkR
import Derived.Test.YtdcahdcnoeomhaaCkS
import Derived.Test.YtdcahdcnoeomhaaOpenB47
import Derived.Test.YtdcahdcnoeomhaaOpen
import Derived.WalkKit
import Derived.ProofKit
import Derived.OpenShut
import Derived.ChangeOld
import Derived.Below
namespace Go.Proofs.Ytdcahdcnoeomhaa.checkerForgets
open Go.ChangeShapes Go.WideShapes Go.ChangeAt Go.RowKit
set_option linter.unusedVariables false

theorem own : ownKnob Try.prog.godebug = none := by kernel_rfl
theorem laidOut : laidOutB Try.prog = true := by kernel_rfl

theorem walk (vq ve vc v : Value) (s : Ck) (p : Int) (lv : List Int) (w : World) (h : CkAt w vq ve vc s) (hv : Ints w v lv) :
    Calls Try.prog 3 #[.agg #[vq, ve, .bool s.done, vc], .int .i64 p, v] w fun e w' => e = .returned (.bool true) ∧ Ext w w' := by
  cases hg : greatB s with
  | true => exact lawForg_out vq ve vc v s p lv w h hv (.inl hg)
  | false =>
    by_cases h20 : 20 < lv.length
    · exact lawForg_out vq ve vc v s p lv w h hv (.inr (.inl h20))
    cases hval : validC s with
    | false => exact lawForg_out vq ve vc v s p lv w h hv (.inr (.inr hval))
    | true =>
      by_cases hE : putErr s p lv = 0
      · have hp := (put_parts hE).2.1
        obtain ⟨P, rfl⟩ : ∃ P : Nat, p = P := ⟨p.toNat, by omega⟩
        exact lawForg_in vq ve vc v s P lv w h hv hg h20 hval hE
      · exact lawForg_err vq ve vc v s p lv w h hv hg h20 hval _ rfl hE

set_option maxRecDepth 100000 in
set_option maxHeartbeats 4000000 in
theorem lifted (os : Os) (started : os.Started) (H : Type) (enc : TypeId × Value → H) :
    ReturnsInHanded {} Try.checked os 3 .any (Rows.checkerForgetsSpec.pre6 enc Try.prog Try.f3 Rows.checkerForgetsRow.domain false) (Rows.checkerForgetsSpec.post enc Try.prog Try.f3 false true false false) := by
  refine returnsInHanded_of_change (C := Try.checked) own started (by kernel_rfl) Try.func3
    (ChangeSpec.witness6 (enc := enc) (C := Try.checked) false ⟨#[], #[.agg #[.slice none 0 0, .slice none 0 0, .bool false, .slice none 0 0], .int .i64 0, .slice none 0 0], []⟩ 40 (by kernel_rfl) (by kernel_rfl) (by kernel_rfl) (by kernel_rfl)) ?_
  intro W base args ds gs before hval0 hW hcnd _
  have hval : ∀ (j : Nat) t v, Try.f3.params[j]? = some t → args[j]? = some v → Value.okWide Try.prog W .any base t v := hval0
  have hW' := hW
  obtain ⟨p, q, hA0, hV, rfl, hfz, hnd⟩ := hW
  have hA : DataW.TrodAll enc Try.prog W 0 (fun _ => true) true Try.f3.params.toList args.toList ds p := hA0
  rw [Try.params3] at hA hval
  obtain ⟨v0, vs0, d0, ds0, p0, q0, hargs, rfl, rfl, h0, r0⟩ := trodAll_cons hA
  obtain ⟨v1, vs1, d1, ds1, p1, q1, rfl, rfl, rfl, h1, r1⟩ := trodAll_cons r0
  obtain ⟨v2, vs2, d2, ds2, p2, q2, rfl, rfl, rfl, h2, r2⟩ := trodAll_cons r1
  obtain ⟨rfl, rfl, rfl⟩ := trodAll_nil r2
  obtain rfl : args = #[v0, v1, v2] := by cases args; simp_all
  obtain ⟨rfl, rfl⟩ := trodVars_none hV
  have k0 := h0
  have lt0 : ∀ x ∈ p0, x.block < W.heap.size := by obtain ⟨m, hm⟩ := k0; exact DataW.trod_lt m _ _ _ hm
  have k1 := h1
  have lt1 : ∀ x ∈ p1, x.block < W.heap.size := by obtain ⟨m, hm⟩ := k1; exact DataW.trod_lt m _ _ _ hm
  have k2 := h2
  have lt2 : ∀ x ∈ p2, x.block < W.heap.size := by obtain ⟨m, hm⟩ := k2; exact DataW.trod_lt m _ _ _ hm
  obtain ⟨cs0, rfl, _⟩ := okWide_struct Try.underlying26 (hval 0 26 v0 rfl rfl)
  obtain ⟨s, vq, ve, vc, hu0, hu⟩ := gives_arg gives_checker h0
  obtain rfl : cs0 = #[vq, ve, .bool s.done, vc] := by cases cs0; simpa [Value.cells] using hu0
  obtain ⟨p, rfl, rfl, rfl, wn⟩ := open_int Try.underlying3 (hval 1 3 v1 rfl rfl) h1
  obtain ⟨sa2, sl2, sc2, rfl⟩ := okWide_slice Try.underlying24 (hval 2 24 v2 rfl rfl)
  obtain ⟨lv, v, hv0, hv, hs2⟩ := gives_arg (gives_ints Try.underlying24 Try.underlying3 (by kernel_rfl)) h2
  obtain rfl : Value.slice sa2 sl2 sc2 = v := by simpa [Value.cells] using hv0
  clear hA0 hval0
  refine (walk vq ve vc _ s p lv W hu hv).mono fun e W' ⟨he, bel⟩ => ?_
  subst he
  exact ⟨_, rfl, _, _, _, [], _, [], hW', trodAll_mk1 (shut_bool Try.underlying4 _), (trodAll_cons_mk (Below.trod laidOut (by kernel_rfl) (of_decide_eq_true (by kernel_rfl)) k0 bel lt0) (trodAll_cons_mk (Below.trod laidOut (by kernel_rfl) (of_decide_eq_true (by kernel_rfl)) k1 bel lt1) (trodAll_cons_mk (Below.trod laidOut (by kernel_rfl) (of_decide_eq_true (by kernel_rfl)) k2 bel lt2) trodAll_mk0))), rfl, bel.frame _, fun h => by cases h⟩

theorem over : Rows.checkerForgetsRow.holds Try.pinned (OpenSpec.ofChange Rows.checkerForgetsSpec) :=
  OpenClaim.holds_of_wide 3 Try.f3 rfl rfl rfl rfl rfl rfl rfl ⟨rfl, rfl, rfl, rfl, rfl⟩ rfl rfl rfl rfl rfl (by kernel_rfl) Try.func3 (by kernel_rfl)
    (of_decide_eq_true (by kernel_rfl)) (by unfold Func.isWrapper; first | (rw [if_pos (by decide +kernel)]; kernel_rfl) | (rw [if_neg (by decide +kernel)]; exact ⟨rfl, rfl⟩))
    (fun os started H enc _ => lifted os started H enc)

end Go.Proofs.Ytdcahdcnoeomhaa.checkerForgets
namespace Go.Proofs.Ytdcahdcnoeomhaa

theorem checkerForgets_holds : Rows.CheckerForgetsSaid := checkerForgets.over
#print axioms checkerForgets_holds

end Go.Proofs.Ytdcahdcnoeomhaa
