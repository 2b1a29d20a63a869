/-
  The law TerminateWaits returns true for every input that the row lets in, and leaves its arguments as they were; no further conditions.
-/
import Derived.Test.YtodkcfebcjgahaaRows
import Derived.Test.YtodkcfebcjgahaaLawWai
import Derived.Test.YtodkcfebcjgahaaOpen
import Derived.WalkKit
import Derived.ProofKit
import Derived.OpenShut
import Derived.ChangeOld
import Derived.Below
namespace Go.Proofs.Ytodkcfebcjgahaa.terminateWaits
open Go.ChangeShapes Go.WideShapes Go.ChangeAt Go.RowKit
set_option linter.unusedVariables false

theorem own : ownKnob Try.prog.godebug = none := by kernel_rfl
theorem laidOut : laidOutB Try.prog = true := by kernel_rfl

theorem gives_wait {H : Type} {enc : TypeId × Value → H} {w : World} {base : Nat} {spare : Nat → Bool} {held : Bool} : Gives enc Try.prog w base spare held 31 RWaitL := by
  intro fuel cs x h
  obtain ⟨xs, n, _, _, hl, hxl, hf⟩ := DataW.trod_struct Try.underlying31 h
  have hk : Try.prog.cellsOf 3 = 1 := by kernel_rfl
  have hk2 : Try.prog.cellsOf 26 = 1 := by kernel_rfl
  rw [show Try.prog.cellsOf 31 = 3 from by kernel_rfl] at hl
  have hxl3 : xs.length = 3 := hxl
  match cs, hl with
  | [c0, c1, c2], _ =>
    have h0 : DataW.trod enc Try.prog w base spare held n 3 (([c0, c1, c2].drop 0).take (Try.prog.cellsOf 3)) = xs[0]? := hf 0 _ rfl
    have h1 : DataW.trod enc Try.prog w base spare held n 3 (([c0, c1, c2].drop 1).take (Try.prog.cellsOf 3)) = xs[1]? := hf 1 _ rfl
    have h2 : DataW.trod enc Try.prog w base spare held n 26 (([c0, c1, c2].drop 2).take (Try.prog.cellsOf 26)) = xs[2]? := hf 2 _ rfl
    rw [hk] at h0 h1
    rw [hk2] at h2
    rw [List.getElem?_eq_getElem (by omega)] at h0 h1 h2
    simp only [List.drop_zero, List.drop_succ_cons, List.take_succ_cons, List.take_zero] at h0 h1 h2
    obtain ⟨n0, e0, _⟩ := DataW.trod_int Try.underlying3 h0
    obtain ⟨n1, e1, _⟩ := DataW.trod_int Try.underlying3 h1
    obtain ⟨fl, v, e2, hi, hlen⟩ := gives_ints Try.underlying26 Try.underlying3 (by kernel_rfl) _ _ _ h2
    simp only [List.cons.injEq, and_true] at e0 e1 e2
    exact ⟨⟨n0, n1, fl⟩, ⟨v, by rw [e0, e1, e2], hi⟩, hlen⟩

theorem gives_waits {H : Type} {enc : TypeId × Value → H} {w : World} {base : Nat} {spare : Nat → Bool} {held : Bool} : Gives enc Try.prog w base spare held 22 (fun w cs (l : List Wt) => ∃ v, cs = [v] ∧ Sl RWaitL 3 w v l ∧ l.length ≤ 9223372036854775807) :=
  gives_slice Try.underlying22 (by kernel_rfl) (by omega) gives_wait

theorem gives_refs {H : Type} {enc : TypeId × Value → H} {w : World} {base : Nat} {spare : Nat → Bool} {held : Bool} : Gives enc Try.prog w base spare held 35 (fun w cs (l : List (Int × Int)) => ∃ v, cs = [v] ∧ Sl RPair 2 w v l ∧ l.length ≤ 9223372036854775807) :=
  gives_slice Try.underlying35 (by kernel_rfl) (by omega) (gives_pair Try.underlying45 Try.underlying3 (by kernel_rfl) (by kernel_rfl))

theorem walk (u v x y : Value) (l : List Wt) (n : Int) (st : List Int) (refs : List (Int × Int)) (roots : List Int) (w : World) (hu : Sl RWaitL 3 w u l) (hv : Ints w v st) (hx : Sl RPair 2 w x refs) (hy : Ints w y roots)
    (hs : l.length ≤ 9223372036854775807) (hs2 : st.length ≤ 9223372036854775807) (hs3 : refs.length ≤ 9223372036854775807) (hs4 : roots.length ≤ 9223372036854775807) :
    Calls Try.prog 4 #[u, .int .i64 n, v, x, y] w fun e w' => e = .returned (.bool true) ∧ Ext w w' := by
  cases h1 : bigB l n with
  | true => exact waits_out u v x y l n st refs roots w hu hv hx hy hs hs2 hs3 hs4 (.inl h1)
  | false =>
    by_cases h2 : 60 < st.length
    · exact waits_out u v x y l n st refs roots w hu hv hx hy hs hs2 hs3 hs4 (.inr (.inl h2))
    by_cases h3 : 60 < refs.length
    · exact waits_out u v x y l n st refs roots w hu hv hx hy hs hs2 hs3 hs4 (.inr (.inr (.inl h3)))
    by_cases h4 : 60 < roots.length
    · exact waits_out u v x y l n st refs roots w hu hv hx hy hs hs2 hs3 hs4 (.inr (.inr (.inr h4)))
    exact waits_in u v x y l n st refs roots w hu hv hx hy hs h1 h2 h3 h4

set_option maxRecDepth 100000 in
set_option maxHeartbeats 4000000 in
theorem lifted (os : Os) (started : os.Started) (H : Type) (enc : TypeId × Value → H) :
    ReturnsInHanded {} Try.checked os 4 .any (Rows.terminateWaitsSpec.pre6 enc Try.prog Try.f4 Rows.terminateWaitsRow.domain false) (Rows.terminateWaitsSpec.post enc Try.prog Try.f4 false true false false) := by
  refine returnsInHanded_of_change (C := Try.checked) own started (by kernel_rfl) Try.func4
    (ChangeSpec.witness6 (enc := enc) (C := Try.checked) false ⟨#[], #[.slice none 0 0, .int .i64 0, .slice none 0 0, .slice none 0 0, .slice none 0 0], []⟩ 40 (by kernel_rfl) (by kernel_rfl) (by kernel_rfl) (by kernel_rfl)) ?_
  intro W base args ds gs before hval0 hW hcnd _
  have hval : ∀ (j : Nat) t v, Try.f4.params[j]? = some t → args[j]? = some v → Value.okWide Try.prog W .any base t v := hval0
  have hW' := hW
  obtain ⟨p, q, hA0, hV, rfl, hfz, hnd⟩ := hW
  have hA : DataW.TrodAll enc Try.prog W 0 (fun _ => true) true Try.f4.params.toList args.toList ds p := hA0
  rw [Try.params4] at hA hval
  obtain ⟨v0, vs0, d0, ds0, p0, q0, hargs, rfl, rfl, h0, r0⟩ := trodAll_cons hA
  obtain ⟨v1, vs1, d1, ds1, p1, q1, rfl, rfl, rfl, h1, r1⟩ := trodAll_cons r0
  obtain ⟨v2, vs2, d2, ds2, p2, q2, rfl, rfl, rfl, h2, r2⟩ := trodAll_cons r1
  obtain ⟨v3, vs3, d3, ds3, p3, q3, rfl, rfl, rfl, h3, r3⟩ := trodAll_cons r2
  obtain ⟨v4, vs4, d4, ds4, p4, q4, rfl, rfl, rfl, h4, r4⟩ := trodAll_cons r3
  obtain ⟨rfl, rfl, rfl⟩ := trodAll_nil r4
  obtain rfl : args = #[v0, v1, v2, v3, v4] := by cases args; simp_all
  obtain ⟨rfl, rfl⟩ := trodVars_none hV
  have k0 := h0
  have lt0 : ∀ x ∈ p0, x.block < W.heap.size := by obtain ⟨m, hm⟩ := k0; exact DataW.trod_lt m _ _ _ hm
  have k1 := h1
  have lt1 : ∀ x ∈ p1, x.block < W.heap.size := by obtain ⟨m, hm⟩ := k1; exact DataW.trod_lt m _ _ _ hm
  have k2 := h2
  have lt2 : ∀ x ∈ p2, x.block < W.heap.size := by obtain ⟨m, hm⟩ := k2; exact DataW.trod_lt m _ _ _ hm
  have k3 := h3
  have lt3 : ∀ x ∈ p3, x.block < W.heap.size := by obtain ⟨m, hm⟩ := k3; exact DataW.trod_lt m _ _ _ hm
  have k4 := h4
  have lt4 : ∀ x ∈ p4, x.block < W.heap.size := by obtain ⟨m, hm⟩ := k4; exact DataW.trod_lt m _ _ _ hm
  obtain ⟨sa0, sl0, sc0, rfl⟩ := okWide_slice Try.underlying22 (hval 0 22 v0 rfl rfl)
  obtain ⟨l, u, hu0, hu, hs⟩ := gives_arg gives_waits h0
  obtain rfl : Value.slice sa0 sl0 sc0 = u := by simpa [Value.cells] using hu0
  obtain ⟨n, rfl, rfl, rfl, wn⟩ := open_int Try.underlying3 (hval 1 3 v1 rfl rfl) h1
  obtain ⟨sa2, sl2, sc2, rfl⟩ := okWide_slice Try.underlying26 (hval 2 26 v2 rfl rfl)
  obtain ⟨st, v, hv0, hv, hs2⟩ := gives_arg (gives_ints Try.underlying26 Try.underlying3 (by kernel_rfl)) h2
  obtain rfl : Value.slice sa2 sl2 sc2 = v := by simpa [Value.cells] using hv0
  obtain ⟨sa3, sl3, sc3, rfl⟩ := okWide_slice Try.underlying35 (hval 3 35 v3 rfl rfl)
  obtain ⟨refs, x, hx0, hx, hs3⟩ := gives_arg gives_refs h3
  obtain rfl : Value.slice sa3 sl3 sc3 = x := by simpa [Value.cells] using hx0
  obtain ⟨sa4, sl4, sc4, rfl⟩ := okWide_slice Try.underlying26 (hval 4 26 v4 rfl rfl)
  obtain ⟨roots, y, hy0, hy, hs4⟩ := gives_arg (gives_ints Try.underlying26 Try.underlying3 (by kernel_rfl)) h4
  obtain rfl : Value.slice sa4 sl4 sc4 = y := by simpa [Value.cells] using hy0
  clear hA0 hval0
  refine (walk _ _ _ _ l n st refs roots W hu hv hx hy hs hs2 hs3 hs4).mono fun e W' ⟨he, bel⟩ => ?_
  subst he
  exact ⟨_, rfl, _, _, _, [], _, [], hW', trodAll_mk1 (shut_bool Try.underlying4 _), (trodAll_cons_mk (Below.trod laidOut (by kernel_rfl) (of_decide_eq_true (by kernel_rfl)) k0 bel lt0) (trodAll_cons_mk (Below.trod laidOut (by kernel_rfl) (of_decide_eq_true (by kernel_rfl)) k1 bel lt1) (trodAll_cons_mk (Below.trod laidOut (by kernel_rfl) (of_decide_eq_true (by kernel_rfl)) k2 bel lt2) (trodAll_cons_mk (Below.trod laidOut (by kernel_rfl) (of_decide_eq_true (by kernel_rfl)) k3 bel lt3) (trodAll_cons_mk (Below.trod laidOut (by kernel_rfl) (of_decide_eq_true (by kernel_rfl)) k4 bel lt4) trodAll_mk0))))), rfl, bel.frame _, fun h => by cases h⟩

theorem over : Rows.terminateWaitsRow.holds Try.pinned (OpenSpec.ofChange Rows.terminateWaitsSpec) :=
  OpenClaim.holds_of_wide 4 Try.f4 rfl rfl rfl rfl rfl rfl rfl ⟨rfl, rfl, rfl, rfl, rfl⟩ rfl rfl rfl rfl rfl (by kernel_rfl) Try.func4 (by kernel_rfl)
    (of_decide_eq_true (by kernel_rfl)) (by unfold Func.isWrapper; first | (rw [if_pos (by decide +kernel)]; kernel_rfl) | (rw [if_neg (by decide +kernel)]; exact ⟨rfl, rfl⟩))
    (fun os started H enc _ => lifted os started H enc)

end Go.Proofs.Ytodkcfebcjgahaa.terminateWaits
namespace Go.Proofs.Ytodkcfebcjgahaa

theorem terminateWaits_holds : Rows.TerminateWaitsSaid := terminateWaits.over
#print axioms terminateWaits_holds

end Go.Proofs.Ytodkcfebcjgahaa
