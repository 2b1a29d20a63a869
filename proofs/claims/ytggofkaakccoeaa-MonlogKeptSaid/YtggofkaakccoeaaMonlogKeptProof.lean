/-
  The law MonlogKept returns true for every input that the row lets in, and leaves its arguments as they were; no further conditions.
-/
import Derived.Test.YtggofkaakccoeaaRows
import Derived.Test.YtggofkaakccoeaaKeptA52
import Derived.Test.YtggofkaakccoeaaOpenB52
import Derived.Test.YtggofkaakccoeaaOpen
import Derived.WalkKit
import Derived.ProofKit
import Derived.OpenShut
import Derived.ChangeOld
import Derived.Below
namespace Go.Proofs.Ytggofkaakccoeaa.monlogKept
open Go.ChangeShapes Go.WideShapes Go.ChangeAt Go.RowKit
set_option linter.unusedVariables false

theorem own : ownKnob Try.prog.godebug = none := by kernel_rfl
theorem laidOut : laidOutB Try.prog = true := by kernel_rfl

def RItemL (w : World) (cs : List Value) (x : Int × List Int) : Prop := ∃ u, cs = [.int .i64 x.1, u] ∧ Ints w u x.2 ∧ x.2.length ≤ 9223372036854775807
set_option maxRecDepth 100000 in
theorem gives_item {H : Type} {enc : TypeId × Value → H} {w : World} {base : Nat} {spare : Nat → Bool} {held : Bool} : Gives enc Try.prog w base spare held 54 RItemL := by
  intro fuel cs x h
  obtain ⟨xs, n, _, _, hl, hxl, hf⟩ := DataW.trod_struct Try.underlying54 h
  have hk : Try.prog.cellsOf 3 = 1 := by kernel_rfl
  have hk2 : Try.prog.cellsOf 38 = 1 := by kernel_rfl
  rw [show Try.prog.cellsOf 54 = 2 from by kernel_rfl] at hl
  have hxl2 : xs.length = 2 := hxl
  match cs, hl with
  | [c0, c1], _ =>
    have h0 : DataW.trod enc Try.prog w base spare held n 3 (([c0, c1].drop 0).take (Try.prog.cellsOf 3)) = xs[0]? := hf 0 _ rfl
    have h1 : DataW.trod enc Try.prog w base spare held n 38 (([c0, c1].drop 1).take (Try.prog.cellsOf 38)) = xs[1]? := hf 1 _ rfl
    rw [hk] at h0
    rw [hk2] at h1
    rw [List.getElem?_eq_getElem (by omega)] at h0 h1
    simp only [List.drop_zero, List.drop_succ_cons, List.take_succ_cons, List.take_zero] at h0 h1
    obtain ⟨n0, e0, _⟩ := DataW.trod_int Try.underlying3 h0
    obtain ⟨fl, v, e1, hi, hlen⟩ := gives_ints Try.underlying38 Try.underlying3 (by kernel_rfl) _ _ _ h1
    simp only [List.cons.injEq, and_true] at e0 e1
    exact ⟨⟨n0, fl⟩, v, by rw [e0, e1], hi, hlen⟩

theorem item_split {w : World} {v : Value} {l : List (Int × List Int)} (h : Sl RItemL 2 w v l) : Sl RItem 2 w v l ∧ ∀ r, r ∈ l → r.2.length ≤ 9223372036854775807 := by
  obtain ⟨a, c, rfl, hlc, h⟩ := h
  refine ⟨⟨a, c, rfl, hlc, fun hl => ?_⟩, fun r hr => ?_⟩
  · obtain ⟨b, off, rfl, hb, hc⟩ := h hl
    refine ⟨b, off, rfl, hb, fun i hi => ?_⟩
    obtain ⟨vs, h1, ⟨u, h2, h3, _⟩, h4⟩ := hc i hi
    exact ⟨vs, h1, ⟨u, h2, h3⟩, h4⟩
  · obtain ⟨i, hi, rfl⟩ := List.getElem_of_mem hr
    obtain ⟨b, off, rfl, hb, hc⟩ := h (by intro e; simp [e] at hi)
    obtain ⟨vs, h1, ⟨u, h2, h3, h5⟩, h4⟩ := hc i hi
    rwa [getElem!_pos l i hi] at h5

theorem walk (v : Value) (l : List (Int × List Int)) (x y : Int) (w : World) (hv : Sl RItem 2 w v l) (hq : l.length ≤ 9223372036854775807) (hl : ∀ r, r ∈ l → r.2.length ≤ 9223372036854775807) (hx : 0 ≤ x) (hx2 : x < 65536) (hy : 0 ≤ y) (hy2 : y < 256) :
    Calls Try.prog 6 #[.int .u16 x, v, .int .u8 y] w fun e w' => e = .returned (.bool true) ∧ Ext w w' := by
  obtain ⟨F, rfl⟩ : ∃ F : Nat, x = F := ⟨x.toNat, by omega⟩
  obtain ⟨Y, rfl⟩ : ∃ Y : Nat, y = Y := ⟨y.toNat, by omega⟩
  by_cases h : 40 < l.length
  · obtain ⟨a, c, rfl, _, _⟩ := hv
    exact kept_many a l.length c _ _ w h
  · cases h2 : l.any (fun x => !rightB x.1 x.2) with
    | true => exact kept_wrong v l _ _ w hv (by omega) hl h2
    | false => exact kept_main v l F Y w hv (by omega) hl (fun r hr => by have := List.any_eq_false.1 h2 r hr; simpa using this) (by omega) (by omega)

set_option maxRecDepth 100000 in
set_option maxHeartbeats 4000000 in
theorem lifted (os : Os) (started : os.Started) (H : Type) (enc : TypeId × Value → H) :
    ReturnsInHanded {} Try.checked os 6 .any (Rows.monlogKeptSpec.pre6 enc Try.prog Try.f6 Rows.monlogKeptRow.domain false) (Rows.monlogKeptSpec.post enc Try.prog Try.f6 false true false false) := by
  refine returnsInHanded_of_change (C := Try.checked) own started (by kernel_rfl) Try.func6
    (ChangeSpec.witness6 (enc := enc) (C := Try.checked) false ⟨#[], #[.int .u16 0, .slice none 0 0, .int .u8 0], []⟩ 40 (by kernel_rfl) (by kernel_rfl) (by kernel_rfl) (by kernel_rfl)) ?_
  intro W base args ds gs before hval0 hW hcnd _
  have hval : ∀ (j : Nat) t v, Try.f6.params[j]? = some t → args[j]? = some v → Value.okWide Try.prog W .any base t v := hval0
  have hW' := hW
  obtain ⟨p, q, hA0, hV, rfl, hfz, hnd⟩ := hW
  have hA : DataW.TrodAll enc Try.prog W 0 (fun _ => true) true Try.f6.params.toList args.toList ds p := hA0
  rw [Try.params6] at hA hval
  obtain ⟨v0, vs0, d0, ds0, p0, q0, hargs, rfl, rfl, h0, r0⟩ := trodAll_cons hA
  obtain ⟨v1, vs1, d1, ds1, p1, q1, rfl, rfl, rfl, h1, r1⟩ := trodAll_cons r0
  obtain ⟨v2, vs2, d2, ds2, p2, q2, rfl, rfl, rfl, h2, r2⟩ := trodAll_cons r1
  obtain ⟨rfl, rfl, rfl⟩ := trodAll_nil r2
  obtain rfl : args = #[v0, v1, v2] := by cases args; simp_all
  obtain ⟨rfl, rfl⟩ := trodVars_none hV
  have k0 := h0
  have lt0 : ∀ x ∈ p0, x.block < W.heap.size := by obtain ⟨m, hm⟩ := k0; exact DataW.trod_lt m _ _ _ hm
  have k1 := h1
  have lt1 : ∀ x ∈ p1, x.block < W.heap.size := by obtain ⟨m, hm⟩ := k1; exact DataW.trod_lt m _ _ _ hm
  have k2 := h2
  have lt2 : ∀ x ∈ p2, x.block < W.heap.size := by obtain ⟨m, hm⟩ := k2; exact DataW.trod_lt m _ _ _ hm
  obtain ⟨x, rfl, rfl, rfl, wx⟩ := open_int Try.underlying35 (hval 0 35 v0 rfl rfl) h0
  have hx : 0 ≤ x ∧ x < 65536 := by simp [Lit.wf, IntKind.min, IntKind.max, IntKind.signed, IntKind.bits] at wx; omega
  obtain ⟨sa1, sl1, sc1, rfl⟩ := okWide_slice Try.underlying51 (hval 1 51 v1 rfl rfl)
  obtain ⟨l, u, hu0, hu, hs⟩ := gives_arg (gives_slice (k := 2) Try.underlying51 (by kernel_rfl) (by omega) gives_item) h1
  obtain rfl : Value.slice sa1 sl1 sc1 = u := by simpa [Value.cells] using hu0
  obtain ⟨hu1, hu2⟩ := item_split hu
  obtain ⟨y, rfl, rfl, rfl, wy⟩ := open_int Try.underlying5 (hval 2 5 v2 rfl rfl) h2
  have hy : 0 ≤ y ∧ y < 256 := by simp [Lit.wf, IntKind.min, IntKind.max, IntKind.signed, IntKind.bits] at wy; omega
  clear hA0 hval0
  refine (walk _ l x y W hu1 hs hu2 hx.1 hx.2 hy.1 hy.2).mono fun e W' ⟨he, bel⟩ => ?_
  subst he
  exact ⟨_, rfl, _, _, _, [], _, [], hW', trodAll_mk1 (shut_bool Try.underlying4 _), (trodAll_cons_mk (Below.trod laidOut (by kernel_rfl) (of_decide_eq_true (by kernel_rfl)) k0 bel lt0) (trodAll_cons_mk (Below.trod laidOut (by kernel_rfl) (of_decide_eq_true (by kernel_rfl)) k1 bel lt1) (trodAll_cons_mk (Below.trod laidOut (by kernel_rfl) (of_decide_eq_true (by kernel_rfl)) k2 bel lt2) trodAll_mk0))), rfl, bel.frame _, fun h => by cases h⟩

theorem over : Rows.monlogKeptRow.holds Try.pinned (OpenSpec.ofChange Rows.monlogKeptSpec) :=
  OpenClaim.holds_of_wide 6 Try.f6 rfl rfl rfl rfl rfl rfl rfl ⟨rfl, rfl, rfl, rfl, rfl⟩ rfl rfl rfl rfl rfl (by kernel_rfl) Try.func6 (by kernel_rfl)
    (of_decide_eq_true (by kernel_rfl)) (by unfold Func.isWrapper; first | (rw [if_pos (by decide +kernel)]; kernel_rfl) | (rw [if_neg (by decide +kernel)]; exact ⟨rfl, rfl⟩))
    (fun os started H enc _ => lifted os started H enc)

end Go.Proofs.Ytggofkaakccoeaa.monlogKept
namespace Go.Proofs.Ytggofkaakccoeaa

theorem monlogKept_holds : Rows.MonlogKeptSaid := monlogKept.over
#print axioms monlogKept_holds

end Go.Proofs.Ytggofkaakccoeaa
