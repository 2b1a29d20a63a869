/-
  The law MonlogTorn returns true for every input that the row lets in, and leaves its arguments as they were; no further conditions.
-/
import Derived.Test.YtggofkaakccoeaaRows
import Derived.Test.YtggofkaakccoeaaTornA52
import Derived.Test.YtggofkaakccoeaaOpenB52
import Derived.Test.YtggofkaakccoeaaOpen
import Derived.WalkKit
import Derived.ProofKit
import Derived.OpenShut
import Derived.ChangeOld
import Derived.Below
namespace Go.Proofs.Ytggofkaakccoeaa.monlogTorn
open Go.ChangeShapes Go.WideShapes Go.ChangeAt Go.RowKit
set_option linter.unusedVariables false

theorem own : ownKnob Try.prog.godebug = none := by kernel_rfl
theorem laidOut : laidOutB Try.prog = true := by kernel_rfl

theorem sl_split {w : World} {v : Value} {l : List (List Int)} (h : Sl (fun w cs (x : List Int) => ∃ v, cs = [v] ∧ Bys w v x ∧ x.length ≤ 9223372036854775807) 1 w v l) : Sl RBys 1 w v l ∧ ∀ r, r ∈ l → r.length ≤ 9223372036854775807 := by
  obtain ⟨a, c, rfl, hlc, h⟩ := h
  refine ⟨⟨a, c, rfl, hlc, fun hl => ?_⟩, fun r hr => ?_⟩
  · obtain ⟨b, off, rfl, hb, hc⟩ := h hl
    refine ⟨b, off, rfl, hb, fun i hi => ?_⟩
    obtain ⟨vs, h1, ⟨u, h2, h3, _⟩, h4⟩ := hc i hi
    exact ⟨vs, h1, ⟨u, h2, h3⟩, h4⟩
  · obtain ⟨i, hi, rfl⟩ := List.getElem_of_mem hr
    obtain ⟨b, off, rfl, hb, hc⟩ := h (by intro e; simp [e] at hi)
    obtain ⟨vs, h1, ⟨u, h2, h3, h5⟩, h4⟩ := hc i hi
    rwa [getElem!_pos l i hi] at h5

theorem walk (v : Value) (l : List (List Int)) (x y : Int) (w : World) (hv : Sl RBys 1 w v l) (hq : l.length ≤ 9223372036854775807) (hl : ∀ r, r ∈ l → r.length ≤ 9223372036854775807) (hx : 0 ≤ x) (hx2 : x < 65536) (hy : 0 ≤ y) (hy2 : y < 256) :
    Calls Try.prog 4 #[v, .int .u16 x, .int .u8 y] w fun e w' => e = .returned (.bool true) ∧ Ext w w' := by
  by_cases h : 40 < l.length
  · obtain ⟨a, c, rfl, _, _⟩ := hv
    exact torn_many a l.length c x y w h
  · cases h2 : l.any (fun b => decide (100 < b.length)) with
    | true => exact torn_long v l x y w hv (by omega) hl h2
    | false => exact torn_main v l x y w hv (by omega) (fun r hr => by have := List.any_eq_false.1 h2 r hr; simp at this; exact this) hx hx2 hy hy2

set_option maxRecDepth 100000 in
set_option maxHeartbeats 4000000 in
theorem lifted (os : Os) (started : os.Started) (H : Type) (enc : TypeId × Value → H) :
    ReturnsInHanded {} Try.checked os 4 .any (Rows.monlogTornSpec.pre6 enc Try.prog Try.f4 Rows.monlogTornRow.domain false) (Rows.monlogTornSpec.post enc Try.prog Try.f4 false true false false) := by
  refine returnsInHanded_of_change (C := Try.checked) own started (by kernel_rfl) Try.func4
    (ChangeSpec.witness6 (enc := enc) (C := Try.checked) false ⟨#[], #[.slice none 0 0, .int .u16 0, .int .u8 0], []⟩ 40 (by kernel_rfl) (by kernel_rfl) (by kernel_rfl) (by kernel_rfl)) ?_
  intro W base args ds gs before hval0 hW hcnd _
  have hval : ∀ (j : Nat) t v, Try.f4.params[j]? = some t → args[j]? = some v → Value.okWide Try.prog W .any base t v := hval0
  have hW' := hW
  obtain ⟨p, q, hA0, hV, rfl, hfz, hnd⟩ := hW
  have hA : DataW.TrodAll enc Try.prog W 0 (fun _ => true) true Try.f4.params.toList args.toList ds p := hA0
  rw [Try.params4] at hA hval
  obtain ⟨v0, vs0, d0, ds0, p0, q0, hargs, rfl, rfl, h0, r0⟩ := trodAll_cons hA
  obtain ⟨v1, vs1, d1, ds1, p1, q1, rfl, rfl, rfl, h1, r1⟩ := trodAll_cons r0
  obtain ⟨v2, vs2, d2, ds2, p2, q2, rfl, rfl, rfl, h2, r2⟩ := trodAll_cons r1
  obtain ⟨rfl, rfl, rfl⟩ := trodAll_nil r2
  obtain rfl : args = #[v0, v1, v2] := by cases args; simp_all
  obtain ⟨rfl, rfl⟩ := trodVars_none hV
  have k0 := h0
  have lt0 : ∀ x ∈ p0, x.block < W.heap.size := by obtain ⟨m, hm⟩ := k0; exact DataW.trod_lt m _ _ _ hm
  have k1 := h1
  have lt1 : ∀ x ∈ p1, x.block < W.heap.size := by obtain ⟨m, hm⟩ := k1; exact DataW.trod_lt m _ _ _ hm
  have k2 := h2
  have lt2 : ∀ x ∈ p2, x.block < W.heap.size := by obtain ⟨m, hm⟩ := k2; exact DataW.trod_lt m _ _ _ hm
  obtain ⟨sa0, sl0, sc0, rfl⟩ := okWide_slice Try.underlying34 (hval 0 34 v0 rfl rfl)
  obtain ⟨l, u, hu0, hu, hs⟩ := gives_arg (gives_slice (k := 1) Try.underlying34 (by kernel_rfl) (by omega) gives_bytes) h0
  obtain rfl : Value.slice sa0 sl0 sc0 = u := by simpa [Value.cells] using hu0
  obtain ⟨hu1, hu2⟩ := sl_split hu
  obtain ⟨x, rfl, rfl, rfl, wx⟩ := open_int Try.underlying35 (hval 1 35 v1 rfl rfl) h1
  have hx : 0 ≤ x ∧ x < 65536 := by simp [Lit.wf, IntKind.min, IntKind.max, IntKind.signed, IntKind.bits] at wx; omega
  obtain ⟨y, rfl, rfl, rfl, wy⟩ := open_int Try.underlying5 (hval 2 5 v2 rfl rfl) h2
  have hy : 0 ≤ y ∧ y < 256 := by simp [Lit.wf, IntKind.min, IntKind.max, IntKind.signed, IntKind.bits] at wy; omega
  clear hA0 hval0
  refine (walk _ l x y W hu1 hs hu2 hx.1 hx.2 hy.1 hy.2).mono fun e W' ⟨he, bel⟩ => ?_
  subst he
  exact ⟨_, rfl, _, _, _, [], _, [], hW', trodAll_mk1 (shut_bool Try.underlying4 _), (trodAll_cons_mk (Below.trod laidOut (by kernel_rfl) (of_decide_eq_true (by kernel_rfl)) k0 bel lt0) (trodAll_cons_mk (Below.trod laidOut (by kernel_rfl) (of_decide_eq_true (by kernel_rfl)) k1 bel lt1) (trodAll_cons_mk (Below.trod laidOut (by kernel_rfl) (of_decide_eq_true (by kernel_rfl)) k2 bel lt2) trodAll_mk0))), rfl, bel.frame _, fun h => by cases h⟩

theorem over : Rows.monlogTornRow.holds Try.pinned (OpenSpec.ofChange Rows.monlogTornSpec) :=
  OpenClaim.holds_of_wide 4 Try.f4 rfl rfl rfl rfl rfl rfl rfl ⟨rfl, rfl, rfl, rfl, rfl⟩ rfl rfl rfl rfl rfl (by kernel_rfl) Try.func4 (by kernel_rfl)
    (of_decide_eq_true (by kernel_rfl)) (by unfold Func.isWrapper; first | (rw [if_pos (by decide +kernel)]; kernel_rfl) | (rw [if_neg (by decide +kernel)]; exact ⟨rfl, rfl⟩))
    (fun os started H enc _ => lifted os started H enc)

end Go.Proofs.Ytggofkaakccoeaa.monlogTorn
namespace Go.Proofs.Ytggofkaakccoeaa

theorem monlogTorn_holds : Rows.MonlogTornSaid := monlogTorn.over
#print axioms monlogTorn_holds

end Go.Proofs.Ytggofkaakccoeaa
