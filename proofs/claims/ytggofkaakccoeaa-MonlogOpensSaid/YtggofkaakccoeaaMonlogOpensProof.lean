/-
  The law MonlogOpens returns true for every input that the row lets in, and leaves its arguments as they were; no further conditions.
-/
import Derived.Test.YtggofkaakccoeaaRows
import Derived.Test.YtggofkaakccoeaaOpensA52
import Derived.Test.YtggofkaakccoeaaOpensB52
import Derived.Test.YtggofkaakccoeaaOpensC52
import Derived.Test.YtggofkaakccoeaaOpenB52
import Derived.Test.YtggofkaakccoeaaOpen
import Derived.WalkKit
import Derived.ProofKit
import Derived.OpenShut
import Derived.ChangeOld
import Derived.Below
namespace Go.Proofs.Ytggofkaakccoeaa.monlogOpens
open Go.ChangeShapes Go.WideShapes Go.ChangeAt Go.RowKit
set_option linter.unusedVariables false

theorem own : ownKnob Try.prog.godebug = none := by kernel_rfl
theorem laidOut : laidOutB Try.prog = true := by kernel_rfl

theorem walk (v : Value) (l : List Int) (after d f k : Int) (w : World) (hv : Bys w v l) (hq : l.length ≤ 9223372036854775807) (hk : k ≤ 9223372036854775807) :
    Calls Try.prog 3 #[.int .i64 after, .agg #[v, .int .i64 d, .int .i64 f], .int .i64 k] w fun e w' => e = .returned (.bool true) ∧ Ext w w' := by
  cases hfit : fitsB l.length with
  | false =>
    obtain ⟨_, a, c, rfl, _, _⟩ := hv
    exact opens_out a l.length c after d f k w hq hfit
  | true =>
    by_cases h1 : after < -1
    · exact opens_lo v l after d f k w hv hq hk hfit (by simp [newOut, h1]) h1 (by simpa using h1)
    · have b1 : decide (after < -1) = false := by simpa using h1
      by_cases h2 : 1073741824 < after
      · exact opens_hi v l after d f k w hv hq hk hfit (by simp [newOut, h2]) b1 (by simpa using h2)
      · exact opens_ok v l after d f k w hv hq hk hfit (by unfold newOut; rw [if_neg (by omega)]) b1 (by simpa using h2)

set_option maxRecDepth 100000 in
set_option maxHeartbeats 4000000 in
theorem lifted (os : Os) (started : os.Started) (H : Type) (enc : TypeId × Value → H) :
    ReturnsInHanded {} Try.checked os 3 .any (Rows.monlogOpensSpec.pre6 enc Try.prog Try.f3 Rows.monlogOpensRow.domain false) (Rows.monlogOpensSpec.post enc Try.prog Try.f3 false true false false) := by
  refine returnsInHanded_of_change (C := Try.checked) own started (by kernel_rfl) Try.func3
    (ChangeSpec.witness6 (enc := enc) (C := Try.checked) false ⟨#[], #[.int .i64 0, .agg #[.slice none 0 0, .int .i64 0, .int .i64 0], .int .i64 0], []⟩ 40 (by kernel_rfl) (by kernel_rfl) (by kernel_rfl) (by kernel_rfl)) ?_
  intro W base args ds gs before hval0 hW hcnd _
  have hval : ∀ (j : Nat) t v, Try.f3.params[j]? = some t → args[j]? = some v → Value.okWide Try.prog W .any base t v := hval0
  have hW' := hW
  obtain ⟨p, q, hA0, hV, rfl, hfz, hnd⟩ := hW
  have hA : DataW.TrodAll enc Try.prog W 0 (fun _ => true) true Try.f3.params.toList args.toList ds p := hA0
  rw [Try.params3] at hA hval
  obtain ⟨v0, vs0, d0, ds0, p0, q0, hargs, rfl, rfl, h0, r0⟩ := trodAll_cons hA
  obtain ⟨v1, vs1, d1, ds1, p1, q1, rfl, rfl, rfl, h1, r1⟩ := trodAll_cons r0
  obtain ⟨v2, vs2, d2, ds2, p2, q2, rfl, rfl, rfl, h2, r2⟩ := trodAll_cons r1
  obtain ⟨rfl, rfl, rfl⟩ := trodAll_nil r2
  obtain rfl : args = #[v0, v1, v2] := by cases args; simp_all
  obtain ⟨rfl, rfl⟩ := trodVars_none hV
  have k0 := h0
  have lt0 : ∀ x ∈ p0, x.block < W.heap.size := by obtain ⟨m, hm⟩ := k0; exact DataW.trod_lt m _ _ _ hm
  have k1 := h1
  have lt1 : ∀ x ∈ p1, x.block < W.heap.size := by obtain ⟨m, hm⟩ := k1; exact DataW.trod_lt m _ _ _ hm
  have k2 := h2
  have lt2 : ∀ x ∈ p2, x.block < W.heap.size := by obtain ⟨m, hm⟩ := k2; exact DataW.trod_lt m _ _ _ hm
  obtain ⟨after, rfl, rfl, rfl, wn⟩ := open_int Try.underlying3 (hval 0 3 v0 rfl rfl) h0
  obtain ⟨cs1, rfl, _⟩ := okWide_struct Try.underlying24 (hval 1 24 v1 rfl rfl)
  obtain ⟨⟨l, d, f⟩, u, hu0, hu, hs⟩ := gives_arg gives_journal h1
  obtain rfl : cs1 = #[u, .int .i64 d, .int .i64 f] := by cases cs1; simpa [Value.cells] using hu0
  obtain ⟨k, rfl, rfl, rfl, wk⟩ := open_int Try.underlying3 (hval 2 3 v2 rfl rfl) h2
  have hk : k ≤ 9223372036854775807 := by simp [Lit.wf, IntKind.min, IntKind.max, IntKind.signed, IntKind.bits] at wk; omega
  clear hA0 hval0
  refine (walk u l after d f k W hu hs hk).mono fun e W' ⟨he, bel⟩ => ?_
  subst he
  exact ⟨_, rfl, _, _, _, [], _, [], hW', trodAll_mk1 (shut_bool Try.underlying4 _), (trodAll_cons_mk (Below.trod laidOut (by kernel_rfl) (of_decide_eq_true (by kernel_rfl)) k0 bel lt0) (trodAll_cons_mk (Below.trod laidOut (by kernel_rfl) (of_decide_eq_true (by kernel_rfl)) k1 bel lt1) (trodAll_cons_mk (Below.trod laidOut (by kernel_rfl) (of_decide_eq_true (by kernel_rfl)) k2 bel lt2) trodAll_mk0))), rfl, bel.frame _, fun h => by cases h⟩

theorem over : Rows.monlogOpensRow.holds Try.pinned (OpenSpec.ofChange Rows.monlogOpensSpec) :=
  OpenClaim.holds_of_wide 3 Try.f3 rfl rfl rfl rfl rfl rfl rfl ⟨rfl, rfl, rfl, rfl, rfl⟩ rfl rfl rfl rfl rfl (by kernel_rfl) Try.func3 (by kernel_rfl)
    (of_decide_eq_true (by kernel_rfl)) (by unfold Func.isWrapper; first | (rw [if_pos (by decide +kernel)]; kernel_rfl) | (rw [if_neg (by decide +kernel)]; exact ⟨rfl, rfl⟩))
    (fun os started H enc _ => lifted os started H enc)

end Go.Proofs.Ytggofkaakccoeaa.monlogOpens
namespace Go.Proofs.Ytggofkaakccoeaa

theorem monlogOpens_holds : Rows.MonlogOpensSaid := monlogOpens.over
#print axioms monlogOpens_holds

end Go.Proofs.Ytggofkaakccoeaa
