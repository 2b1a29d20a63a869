/-
  The law TokenAgents returns true for every input that the row lets in, and leaves its arguments as they were; no further conditions.
-/
import Derived.Test.YtpjnppkhhbnfoaaRows
import Derived.Test.YtpjnppkhhbnfoaaTokW
import Derived.Test.YtpjnppkhhbnfoaaOpenB48
import Derived.Test.YtpjnppkhhbnfoaaOpen
import Derived.WalkKit
import Derived.ProofKit
import Derived.OpenShut
import Derived.ChangeOld
import Derived.Below
namespace Go.Proofs.Ytpjnppkhhbnfoaa.tokenAgents
open Go.ChangeShapes Go.WideShapes Go.ChangeAt Go.RowKit
set_option linter.unusedVariables false

theorem own : ownKnob Try.prog.godebug = none := by kernel_rfl
theorem laidOut : laidOutB Try.prog = true := by kernel_rfl

theorem walk (N : Int) (uc ug u v : Value) (b : Ba) (l : List Ag) (p : Int) (lv : List Int) (w : World) (hc : Ints w uc b.cut) (hg : Sl RBool 1 w ug b.good) (h : Sl RAgent 3 w u l) (hv : Ints w v lv) :
    Calls Try.prog 3 #[.int .i64 N, .agg #[.int .i64 b.at_, uc, ug, .int .i64 b.state], u, .int .i64 p, v] w fun e w' => e = .returned (.bool true) ∧ Ext w w' := by
  cases hf : fewB l with
  | false => exact lawAg_out N uc ug u v b l p lv w hc hg h hv (.inl hf)
  | true =>
    by_cases h1 : 20 < b.cut.length
    · exact lawAg_out N uc ug u v b l p lv w hc hg h hv (.inr ⟨hf, .inl h1⟩)
    by_cases h2 : 20 < b.good.length
    · exact lawAg_out N uc ug u v b l p lv w hc hg h hv (.inr ⟨hf, .inr ⟨h1, .inl h2⟩⟩)
    by_cases h3 : 20 < lv.length
    · exact lawAg_out N uc ug u v b l p lv w hc hg h hv (.inr ⟨hf, .inr ⟨h1, .inr ⟨h2, h3⟩⟩⟩)
    by_cases h5 : N < 1
    · exact lawAg_bad N uc ug u v b l p lv w hc hg h hv hf h1 h2 h3 (.inl h5)
    by_cases h8 : 8 < N
    · exact lawAg_bad N uc ug u v b l p lv w hc hg h hv hf h1 h2 h3 (.inr ⟨h5, h8⟩)
    obtain ⟨M, rfl⟩ : ∃ M : Nat, N = M := ⟨N.toNat, by omega⟩
    exact lawAg_ok M uc ug u v b l p lv w hc hg h hv hf h1 h2 h3 (by omega) (by omega)

set_option maxRecDepth 100000 in
set_option maxHeartbeats 4000000 in
theorem lifted (os : Os) (started : os.Started) (H : Type) (enc : TypeId × Value → H) :
    ReturnsInHanded {} Try.checked os 3 .any (Rows.tokenAgentsSpec.pre6 enc Try.prog Try.f3 Rows.tokenAgentsRow.domain false) (Rows.tokenAgentsSpec.post enc Try.prog Try.f3 false true false false) := by
  refine returnsInHanded_of_change (C := Try.checked) own started (by kernel_rfl) Try.func3
    (ChangeSpec.witness6 (enc := enc) (C := Try.checked) false ⟨#[], #[.int .i64 0, .agg #[.int .i64 0, .slice none 0 0, .slice none 0 0, .int .i64 0], .slice none 0 0, .int .i64 0, .slice none 0 0], []⟩ 40 (by kernel_rfl) (by kernel_rfl) (by kernel_rfl) (by kernel_rfl)) ?_
  intro W base args ds gs before hval0 hW hcnd _
  have hval : ∀ (j : Nat) t v, Try.f3.params[j]? = some t → args[j]? = some v → Value.okWide Try.prog W .any base t v := hval0
  have hW' := hW
  obtain ⟨p, q, hA0, hV, rfl, hfz, hnd⟩ := hW
  have hA : DataW.TrodAll enc Try.prog W 0 (fun _ => true) true Try.f3.params.toList args.toList ds p := hA0
  rw [Try.params3] at hA hval
  obtain ⟨v0, vs0, d0, ds0, p0, q0, hargs, rfl, rfl, h0, r0⟩ := trodAll_cons hA
  obtain ⟨v1, vs1, d1, ds1, p1, q1, rfl, rfl, rfl, h1, r1⟩ := trodAll_cons r0
  obtain ⟨v2, vs2, d2, ds2, p2, q2, rfl, rfl, rfl, h2, r2⟩ := trodAll_cons r1
  obtain ⟨v3, vs3, d3, ds3, p3, q3, rfl, rfl, rfl, h3, r3⟩ := trodAll_cons r2
  obtain ⟨v4, vs4, d4, ds4, p4, q4, rfl, rfl, rfl, h4, r4⟩ := trodAll_cons r3
  obtain ⟨rfl, rfl, rfl⟩ := trodAll_nil r4
  obtain rfl : args = #[v0, v1, v2, v3, v4] := by cases args; simp_all
  obtain ⟨rfl, rfl⟩ := trodVars_none hV
  have k0 := h0
  have lt0 : ∀ x ∈ p0, x.block < W.heap.size := by obtain ⟨m, hm⟩ := k0; exact DataW.trod_lt m _ _ _ hm
  have k1 := h1
  have lt1 : ∀ x ∈ p1, x.block < W.heap.size := by obtain ⟨m, hm⟩ := k1; exact DataW.trod_lt m _ _ _ hm
  have k2 := h2
  have lt2 : ∀ x ∈ p2, x.block < W.heap.size := by obtain ⟨m, hm⟩ := k2; exact DataW.trod_lt m _ _ _ hm
  have k3 := h3
  have lt3 : ∀ x ∈ p3, x.block < W.heap.size := by obtain ⟨m, hm⟩ := k3; exact DataW.trod_lt m _ _ _ hm
  have k4 := h4
  have lt4 : ∀ x ∈ p4, x.block < W.heap.size := by obtain ⟨m, hm⟩ := k4; exact DataW.trod_lt m _ _ _ hm
  obtain ⟨N, rfl, rfl, rfl, wN⟩ := open_int Try.underlying3 (hval 0 3 v0 rfl rfl) h0
  obtain ⟨cs1, rfl, _⟩ := okWide_struct Try.underlying25 (hval 1 25 v1 rfl rfl)
  obtain ⟨b, uc, ug, hu0, hc, hg⟩ := gives_arg gives_baton h1
  obtain rfl : cs1 = #[.int .i64 b.at_, uc, ug, .int .i64 b.state] := by cases cs1; simpa [Value.cells] using hu0
  obtain ⟨sa2, sl2, sc2, rfl⟩ := okWide_slice Try.underlying26 (hval 2 26 v2 rfl rfl)
  obtain ⟨l, u, hl0, hl, hs1⟩ := gives_arg gives_agents h2
  obtain rfl : Value.slice sa2 sl2 sc2 = u := by simpa [Value.cells] using hl0
  obtain ⟨p, rfl, rfl, rfl, wn⟩ := open_int Try.underlying3 (hval 3 3 v3 rfl rfl) h3
  obtain ⟨sa4, sl4, sc4, rfl⟩ := okWide_slice Try.underlying22 (hval 4 22 v4 rfl rfl)
  obtain ⟨lv, v, hv0, hv, hs2⟩ := gives_arg (gives_ints Try.underlying22 Try.underlying3 (by kernel_rfl)) h4
  obtain rfl : Value.slice sa4 sl4 sc4 = v := by simpa [Value.cells] using hv0
  clear hA0 hval0
  refine (walk N uc ug _ _ b l p lv W hc hg hl hv).mono fun e W' ⟨he, bel⟩ => ?_
  subst he
  exact ⟨_, rfl, _, _, _, [], _, [], hW', trodAll_mk1 (shut_bool Try.underlying4 _), (trodAll_cons_mk (Below.trod laidOut (by kernel_rfl) (of_decide_eq_true (by kernel_rfl)) k0 bel lt0) (trodAll_cons_mk (Below.trod laidOut (by kernel_rfl) (of_decide_eq_true (by kernel_rfl)) k1 bel lt1) (trodAll_cons_mk (Below.trod laidOut (by kernel_rfl) (of_decide_eq_true (by kernel_rfl)) k2 bel lt2) (trodAll_cons_mk (Below.trod laidOut (by kernel_rfl) (of_decide_eq_true (by kernel_rfl)) k3 bel lt3) (trodAll_cons_mk (Below.trod laidOut (by kernel_rfl) (of_decide_eq_true (by kernel_rfl)) k4 bel lt4) trodAll_mk0))))), rfl, bel.frame _, fun h => by cases h⟩

theorem over : Rows.tokenAgentsRow.holds Try.pinned (OpenSpec.ofChange Rows.tokenAgentsSpec) :=
  OpenClaim.holds_of_wide 3 Try.f3 rfl rfl rfl rfl rfl rfl rfl ⟨rfl, rfl, rfl, rfl, rfl⟩ rfl rfl rfl rfl rfl (by kernel_rfl) Try.func3 (by kernel_rfl)
    (of_decide_eq_true (by kernel_rfl)) (by unfold Func.isWrapper; first | (rw [if_pos (by decide +kernel)]; kernel_rfl) | (rw [if_neg (by decide +kernel)]; exact ⟨rfl, rfl⟩))
    (fun os started H enc _ => lifted os started H enc)

end Go.Proofs.Ytpjnppkhhbnfoaa.tokenAgents
namespace Go.Proofs.Ytpjnppkhhbnfoaa

theorem tokenAgents_holds : Rows.TokenAgentsSaid := tokenAgents.over
#print axioms tokenAgents_holds

end Go.Proofs.Ytpjnppkhhbnfoaa
