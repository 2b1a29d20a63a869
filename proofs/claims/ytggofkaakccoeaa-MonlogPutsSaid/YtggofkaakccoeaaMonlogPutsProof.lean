/-
  The law MonlogPuts returns true for every input that the row lets in, and leaves its arguments as they were; no further conditions.
-/
import Derived.Test.YtggofkaakccoeaaRows
import Derived.Test.YtggofkaakccoeaaPuts52
import Derived.Test.YtggofkaakccoeaaOpenB52
import Derived.Test.YtggofkaakccoeaaOpen
import Derived.WalkKit
import Derived.ProofKit
import Derived.OpenShut
import Derived.ChangeOld
import Derived.Below
namespace Go.Proofs.Ytggofkaakccoeaa.monlogPuts
open Go.ChangeShapes Go.WideShapes Go.ChangeAt Go.RowKit
set_option linter.unusedVariables false

theorem own : ownKnob Try.prog.godebug = none := by kernel_rfl
theorem laidOut : laidOutB Try.prog = true := by kernel_rfl

theorem walk (v : Value) (l : List Int) (d f p N : Int) (u : Value) (b : List Int) (w : World) (hv : Bys w v l) (hu : Ints w u b) (hq : l.length ≤ 9223372036854775807) (hn : b.length ≤ 9223372036854775807) :
    Calls Try.prog 7 #[.agg #[v, .int .i64 d, .int .i64 f], .int .i64 p, u, .int .i64 N] w fun e w' => e = .returned (.bool true) ∧ Ext w w' := by
  have out : (fitsB l.length = false ∨ (fitsB l.length = true ∧ 20 < b.length)) → Calls Try.prog 7 #[.agg #[v, .int .i64 d, .int .i64 f], .int .i64 p, u, .int .i64 N] w fun e w' => e = .returned (.bool true) ∧ Ext w w' := by
    intro h
    obtain ⟨_, a, c, rfl, _, _⟩ := hv
    obtain ⟨a2, c2, rfl, _, _⟩ := hu
    exact puts_out a l.length c d f p N a2 b.length c2 w hq hn h
  cases hfit : fitsB l.length with
  | false => exact out (.inl hfit)
  | true =>
    by_cases h1 : 20 < b.length
    · exact out (.inr ⟨hfit, h1⟩)
    · exact puts_in v l d f p N u b w hv hu hq hfit (by omega)

set_option maxRecDepth 100000 in
set_option maxHeartbeats 4000000 in
theorem lifted (os : Os) (started : os.Started) (H : Type) (enc : TypeId × Value → H) :
    ReturnsInHanded {} Try.checked os 7 .any (Rows.monlogPutsSpec.pre6 enc Try.prog Try.f7 Rows.monlogPutsRow.domain false) (Rows.monlogPutsSpec.post enc Try.prog Try.f7 false true false false) := by
  refine returnsInHanded_of_change (C := Try.checked) own started (by kernel_rfl) Try.func7
    (ChangeSpec.witness6 (enc := enc) (C := Try.checked) false ⟨#[], #[.agg #[.slice none 0 0, .int .i64 0, .int .i64 0], .int .i64 0, .slice none 0 0, .int .i64 0], []⟩ 40 (by kernel_rfl) (by kernel_rfl) (by kernel_rfl) (by kernel_rfl)) ?_
  intro W base args ds gs before hval0 hW hcnd _
  have hval : ∀ (j : Nat) t v, Try.f7.params[j]? = some t → args[j]? = some v → Value.okWide Try.prog W .any base t v := hval0
  have hW' := hW
  obtain ⟨p, q, hA0, hV, rfl, hfz, hnd⟩ := hW
  have hA : DataW.TrodAll enc Try.prog W 0 (fun _ => true) true Try.f7.params.toList args.toList ds p := hA0
  rw [Try.params7] at hA hval
  obtain ⟨v0, vs0, d0, ds0, p0, q0, hargs, rfl, rfl, h0, r0⟩ := trodAll_cons hA
  obtain ⟨v1, vs1, d1, ds1, p1, q1, rfl, rfl, rfl, h1, r1⟩ := trodAll_cons r0
  obtain ⟨v2, vs2, d2, ds2, p2, q2, rfl, rfl, rfl, h2, r2⟩ := trodAll_cons r1
  obtain ⟨v3, vs3, d3, ds3, p3, q3, rfl, rfl, rfl, h3, r3⟩ := trodAll_cons r2
  obtain ⟨rfl, rfl, rfl⟩ := trodAll_nil r3
  obtain rfl : args = #[v0, v1, v2, v3] := by cases args; simp_all
  obtain ⟨rfl, rfl⟩ := trodVars_none hV
  have k0 := h0
  have lt0 : ∀ x ∈ p0, x.block < W.heap.size := by obtain ⟨m, hm⟩ := k0; exact DataW.trod_lt m _ _ _ hm
  have k1 := h1
  have lt1 : ∀ x ∈ p1, x.block < W.heap.size := by obtain ⟨m, hm⟩ := k1; exact DataW.trod_lt m _ _ _ hm
  have k2 := h2
  have lt2 : ∀ x ∈ p2, x.block < W.heap.size := by obtain ⟨m, hm⟩ := k2; exact DataW.trod_lt m _ _ _ hm
  have k3 := h3
  have lt3 : ∀ x ∈ p3, x.block < W.heap.size := by obtain ⟨m, hm⟩ := k3; exact DataW.trod_lt m _ _ _ hm
  obtain ⟨cs0, rfl, _⟩ := okWide_struct Try.underlying24 (hval 0 24 v0 rfl rfl)
  obtain ⟨⟨l, d, f⟩, u, hu0, hu, hs⟩ := gives_arg gives_journal h0
  obtain rfl : cs0 = #[u, .int .i64 d, .int .i64 f] := by cases cs0; simpa [Value.cells] using hu0
  obtain ⟨p, rfl, rfl, rfl, wp⟩ := open_int Try.underlying3 (hval 1 3 v1 rfl rfl) h1
  obtain ⟨sa2, sl2, sc2, rfl⟩ := okWide_slice Try.underlying38 (hval 2 38 v2 rfl rfl)
  obtain ⟨b, u2, hv0, hv, hs2⟩ := gives_arg (gives_ints Try.underlying38 Try.underlying3 (by kernel_rfl)) h2
  obtain rfl : Value.slice sa2 sl2 sc2 = u2 := by simpa [Value.cells] using hv0
  obtain ⟨N, rfl, rfl, rfl, wN⟩ := open_int Try.underlying3 (hval 3 3 v3 rfl rfl) h3
  clear hA0 hval0
  refine (walk u l d f p N _ b W hu hv hs hs2).mono fun e W' ⟨he, bel⟩ => ?_
  subst he
  exact ⟨_, rfl, _, _, _, [], _, [], hW', trodAll_mk1 (shut_bool Try.underlying4 _), (trodAll_cons_mk (Below.trod laidOut (by kernel_rfl) (of_decide_eq_true (by kernel_rfl)) k0 bel lt0) (trodAll_cons_mk (Below.trod laidOut (by kernel_rfl) (of_decide_eq_true (by kernel_rfl)) k1 bel lt1) (trodAll_cons_mk (Below.trod laidOut (by kernel_rfl) (of_decide_eq_true (by kernel_rfl)) k2 bel lt2) (trodAll_cons_mk (Below.trod laidOut (by kernel_rfl) (of_decide_eq_true (by kernel_rfl)) k3 bel lt3) trodAll_mk0)))), rfl, bel.frame _, fun h => by cases h⟩

theorem over : Rows.monlogPutsRow.holds Try.pinned (OpenSpec.ofChange Rows.monlogPutsSpec) :=
  OpenClaim.holds_of_wide 7 Try.f7 rfl rfl rfl rfl rfl rfl rfl ⟨rfl, rfl, rfl, rfl, rfl⟩ rfl rfl rfl rfl rfl (by kernel_rfl) Try.func7 (by kernel_rfl)
    (of_decide_eq_true (by kernel_rfl)) (by unfold Func.isWrapper; first | (rw [if_pos (by decide +kernel)]; kernel_rfl) | (rw [if_neg (by decide +kernel)]; exact ⟨rfl, rfl⟩))
    (fun os started H enc _ => lifted os started H enc)

end Go.Proofs.Ytggofkaakccoeaa.monlogPuts
namespace Go.Proofs.Ytggofkaakccoeaa

theorem monlogPuts_holds : Rows.MonlogPutsSaid := monlogPuts.over
#print axioms monlogPuts_holds

end Go.Proofs.Ytggofkaakccoeaa
