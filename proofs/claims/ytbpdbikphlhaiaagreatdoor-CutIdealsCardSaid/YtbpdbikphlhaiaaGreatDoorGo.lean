import Derived.Test.YtbpdbikphlhaiaaGreatDoorRows
import Derived.Test.YtbpdbikphlhaiaaGreatDoorGa
import Derived.Test.YtbpdbikphlhaiaaGreatDoorProg
import Derived.Test.YtbpdbikphlhaiaaGreatDoorGi
import Derived.Test.YtbpdbikphlhaiaaGreatDoorGc
import Derived.Test.YtbpdbikphlhaiaaGreatDoorGb
import Derived.BigQuiet
import Derived.Deep.QuietTactic
import Derived.Deep.LoopGhost
import Derived.Shelf.Abstract
namespace Go.Proofs.YtbpdbikphlhaiaaGreatDoor
open Go.RowKit
set_option linter.unusedVariables false
open Go.ChangeShapes Go.WideShapes
section
variable {H : Type} {enc : TypeId × Value → H} {w : World} {base : Nat} {spare : Nat → Bool} {held : Bool}
theorem gives_num : Gives enc Tryz.prog w base spare held 3 (fun w cs (n : Int) => cs = [.int .i64 n]) := by
 intro fuel cs x h
 obtain ⟨n, rfl, _⟩ := DataW.trod_int Tryz.underlying3 h
 exact ⟨n, rfl⟩
theorem gives_str : Gives enc Tryz.prog w base spare held 9 (fun w cs (s : ByteArray) => cs = [.string s]) := by
 intro fuel cs x h
 obtain ⟨n, rfl, _⟩ := DataW.trod_string Tryz.underlying9 h
 exact ⟨n, rfl⟩
set_option maxRecDepth 100000 in
theorem gives_asg : Gives enc Tryz.prog w base spare held 106 RAsg := by
 have hk2 : Tryz.prog.cellsOf 3 = 1 := by kernel_rfl
 intro fuel cs x h
 obtain ⟨xs, n, _, _, hl, hxl, hf⟩ := DataW.trod_struct Tryz.underlying106 h
 rw [show Tryz.prog.cellsOf 106 = 2 from by kernel_rfl] at hl
 have hxl3 : xs.length = 2 := hxl
 match cs, hl with
 | [c0, c1], _ =>
   have h0 : DataW.trod enc Tryz.prog w base spare held n 3 (([c0, c1].drop 0).take (Tryz.prog.cellsOf 3)) = xs[0]? := hf 0 _ rfl
   have h1 : DataW.trod enc Tryz.prog w base spare held n 3 (([c0, c1].drop 1).take (Tryz.prog.cellsOf 3)) = xs[1]? := hf 1 _ rfl
   rw [hk2, List.getElem?_eq_getElem (by omega)] at h0 h1
   simp only [List.drop_zero, List.drop_succ_cons, List.take_succ_cons, List.take_zero] at h0 h1
   obtain ⟨a, e0⟩ := gives_num _ _ _ h0
   obtain ⟨b, e1⟩ := gives_num _ _ _ h1
   simp only [List.cons.injEq, and_true] at e0 e1
   exact ⟨⟨a, b⟩, by unfold RAsg; rw [e0, e1]⟩
theorem gives_asgs : Gives enc Tryz.prog w base spare held 56 (fun w cs (l : List Asg) => ∃ v, cs = [v] ∧ Sl RAsg 2 w v l ∧ l.length ≤ 9223372036854775807) :=
 gives_slice Tryz.underlying56 (show Tryz.prog.cellsOf 106 = 2 from by kernel_rfl) (by omega) gives_asg
set_option maxRecDepth 100000 in
theorem gives_var : Gives enc Tryz.prog w base spare held 62 RVr := by
 have hk1 : Tryz.prog.cellsOf 9 = 1 := by kernel_rfl
 have hk2 : Tryz.prog.cellsOf 3 = 1 := by kernel_rfl
 intro fuel cs x h
 obtain ⟨xs, n, _, _, hl, hxl, hf⟩ := DataW.trod_struct Tryz.underlying62 h
 rw [show Tryz.prog.cellsOf 62 = 2 from by kernel_rfl] at hl
 have hxl3 : xs.length = 2 := hxl
 match cs, hl with
 | [c0, c1], _ =>
   have h0 : DataW.trod enc Tryz.prog w base spare held n 9 (([c0, c1].drop 0).take (Tryz.prog.cellsOf 9)) = xs[0]? := hf 0 _ rfl
   have h1 : DataW.trod enc Tryz.prog w base spare held n 3 (([c0, c1].drop 1).take (Tryz.prog.cellsOf 3)) = xs[1]? := hf 1 _ rfl
   rw [hk1] at h0
   rw [hk2] at h1
   rw [List.getElem?_eq_getElem (by omega)] at h0 h1
   simp only [List.drop_zero, List.drop_succ_cons, List.take_succ_cons, List.take_zero] at h0 h1
   obtain ⟨a, e0⟩ := gives_str _ _ _ h0
   obtain ⟨b, e1⟩ := gives_num _ _ _ h1
   simp only [List.cons.injEq, and_true] at e0 e1
   exact ⟨⟨a, b⟩, by unfold RVr; rw [e0, e1]⟩
theorem gives_vars : Gives enc Tryz.prog w base spare held 51 (fun w cs (l : List Vr) => ∃ v, cs = [v] ∧ Sl RVr 2 w v l ∧ l.length ≤ 9223372036854775807) :=
 gives_slice Tryz.underlying51 (show Tryz.prog.cellsOf 62 = 2 from by kernel_rfl) (by omega) gives_var
set_option maxRecDepth 100000 in
theorem gives_event : Gives enc Tryz.prog w base spare held 58 REv := by
 have hk1 : Tryz.prog.cellsOf 56 = 1 := by kernel_rfl
 have hk2 : Tryz.prog.cellsOf 3 = 1 := by kernel_rfl
 intro fuel cs x h
 obtain ⟨xs, n, _, _, hl, hxl, hf⟩ := DataW.trod_struct Tryz.underlying58 h
 rw [show Tryz.prog.cellsOf 58 = 5 from by kernel_rfl] at hl
 have hxl3 : xs.length = 5 := hxl
 match cs, hl with
 | [c0, c1, c2, c3, c4], _ =>
   have h0 : DataW.trod enc Tryz.prog w base spare held n 3 (([c0, c1, c2, c3, c4].drop 0).take (Tryz.prog.cellsOf 3)) = xs[0]? := hf 0 _ rfl
   have h1 : DataW.trod enc Tryz.prog w base spare held n 3 (([c0, c1, c2, c3, c4].drop 1).take (Tryz.prog.cellsOf 3)) = xs[1]? := hf 1 _ rfl
   have h2 : DataW.trod enc Tryz.prog w base spare held n 3 (([c0, c1, c2, c3, c4].drop 2).take (Tryz.prog.cellsOf 3)) = xs[2]? := hf 2 _ rfl
   have h3 : DataW.trod enc Tryz.prog w base spare held n 3 (([c0, c1, c2, c3, c4].drop 3).take (Tryz.prog.cellsOf 3)) = xs[3]? := hf 3 _ rfl
   have h4 : DataW.trod enc Tryz.prog w base spare held n 56 (([c0, c1, c2, c3, c4].drop 4).take (Tryz.prog.cellsOf 56)) = xs[4]? := hf 4 _ rfl
   rw [hk2] at h0 h1 h2 h3
   rw [hk1] at h4
   rw [List.getElem?_eq_getElem (by omega)] at h0 h1 h2 h3 h4
   simp only [List.drop_zero, List.drop_succ_cons, List.take_succ_cons, List.take_zero] at h0 h1 h2 h3 h4
   obtain ⟨a0, e0⟩ := gives_num _ _ _ h0
   obtain ⟨a1, e1⟩ := gives_num _ _ _ h1
   obtain ⟨a2, e2⟩ := gives_num _ _ _ h2
   obtain ⟨a3, e3⟩ := gives_num _ _ _ h3
   obtain ⟨l, v, e4, hv, _⟩ := gives_asgs _ _ _ h4
   simp only [List.cons.injEq, and_true] at e0 e1 e2 e3 e4
   exact ⟨⟨a0, a1, a2, a3, l⟩, v, by rw [e0, e1, e2, e3, e4], hv⟩
theorem gives_events : Gives enc Tryz.prog w base spare held 52 (fun w cs (l : List Ev) => ∃ v, cs = [v] ∧ Sl REv 5 w v l ∧ l.length ≤ 9223372036854775807) :=
 gives_slice Tryz.underlying52 (show Tryz.prog.cellsOf 58 = 5 from by kernel_rfl) (by omega) gives_event
def TopPr (x : Pr) : Prop := x.vars.length ≤ 9223372036854775807 ∧ x.events.length ≤ 9223372036854775807
set_option maxRecDepth 100000 in
theorem gives_proc : Gives enc Tryz.prog w base spare held 54 (fun w cs (x : Pr) => RPr w cs x ∧ TopPr x) := by
 have hk1 : Tryz.prog.cellsOf 9 = 1 := by kernel_rfl
 have hk2 : Tryz.prog.cellsOf 51 = 1 := by kernel_rfl
 have hk3 : Tryz.prog.cellsOf 52 = 1 := by kernel_rfl
 intro fuel cs x h
 obtain ⟨xs, n, _, _, hl, hxl, hf⟩ := DataW.trod_struct Tryz.underlying54 h
 rw [show Tryz.prog.cellsOf 54 = 3 from by kernel_rfl] at hl
 have hxl3 : xs.length = 3 := hxl
 match cs, hl with
 | [c0, c1, c2], _ =>
   have h0 : DataW.trod enc Tryz.prog w base spare held n 9 (([c0, c1, c2].drop 0).take (Tryz.prog.cellsOf 9)) = xs[0]? := hf 0 _ rfl
   have h1 : DataW.trod enc Tryz.prog w base spare held n 51 (([c0, c1, c2].drop 1).take (Tryz.prog.cellsOf 51)) = xs[1]? := hf 1 _ rfl
   have h2 : DataW.trod enc Tryz.prog w base spare held n 52 (([c0, c1, c2].drop 2).take (Tryz.prog.cellsOf 52)) = xs[2]? := hf 2 _ rfl
   rw [hk1] at h0
   rw [hk2] at h1
   rw [hk3] at h2
   rw [List.getElem?_eq_getElem (by omega)] at h0 h1 h2
   simp only [List.drop_zero, List.drop_succ_cons, List.take_succ_cons, List.take_zero] at h0 h1 h2
   obtain ⟨s, e0⟩ := gives_str _ _ _ h0
   obtain ⟨vl, vv, e1, hv, hvl⟩ := gives_vars _ _ _ h1
   obtain ⟨el, ve, e2, he, hel⟩ := gives_events _ _ _ h2
   simp only [List.cons.injEq, and_true] at e0 e1 e2
   exact ⟨⟨s, vl, el⟩, ⟨vv, ve, by rw [e0, e1, e2], hv, he⟩, hvl, hel⟩
def TopTr (t : Tr) : Prop := t.length ≤ 9223372036854775807 ∧ ∀ p, p < t.length → TopPr t[p]!
set_option maxRecDepth 100000 in
theorem gives_trace : Gives enc Tryz.prog w base spare held 24 (fun w cs (t : Tr) => ∃ v, cs = [v] ∧ TrAt w v t ∧ TopTr t) := by
 have hk1 : Tryz.prog.cellsOf 22 = 1 := by kernel_rfl
 intro fuel cs x h
 obtain ⟨xs, n, _, _, hl, hxl, hf⟩ := DataW.trod_struct Tryz.underlying24 h
 rw [show Tryz.prog.cellsOf 24 = 1 from by kernel_rfl] at hl
 have hxl3 : xs.length = 1 := hxl
 match cs, hl with
 | [c0], _ =>
   have h0 : DataW.trod enc Tryz.prog w base spare held n 22 (([c0].drop 0).take (Tryz.prog.cellsOf 22)) = xs[0]? := hf 0 _ rfl
   rw [hk1, List.getElem?_eq_getElem (by omega)] at h0
   simp only [List.drop_zero, List.take_succ_cons, List.take_zero] at h0
   obtain ⟨l, v, e0, hs, hl⟩ := gives_slice Tryz.underlying22 (show Tryz.prog.cellsOf 54 = 3 from by kernel_rfl) (by omega) gives_proc _ _ _ h0
   simp only [List.cons.injEq, and_true] at e0
   refine ⟨l, v, by rw [e0], ?_, hl, fun p hp => ?_⟩
   ·obtain ⟨a, c, rfl, hlc, h⟩ := hs
    refine ⟨a, c, rfl, hlc, fun hl => ?_⟩
    obtain ⟨b, off, rfl, hb, hc⟩ := h hl
    refine ⟨b, off, rfl, hb, fun i hi => ?_⟩
    obtain ⟨vs, h1, ⟨h2, _⟩, h3⟩ := hc i hi
    exact ⟨vs, h1, h2, h3⟩
   ·obtain ⟨a, c, rfl, hlc, h⟩ := hs
    obtain ⟨b, off, rfl, hb, hc⟩ := h (by rintro rfl; simp at hp)
    obtain ⟨vs, h1, ⟨_, h2⟩, h3⟩ := hc p hp
    exact h2
end
end Go.Proofs.YtbpdbikphlhaiaaGreatDoor
namespace Go.Proofs.YtbpdbikphlhaiaaGreatDoor
open Go.RowKit
set_option linter.unusedVariables false
set_option maxHeartbeats 400000 in
theorem indexFuncL_evs {α : Type} [Inhabited α] (R : World → List Value → α → Prop) (hLasts : Lasts R) (g : Nat) (cb : Array Value) (eg : ∀ args w, (callFunc g args).run Tryz.prog w = .ok (.enter g args) w) (p : α → Bool) (v : Value) (l : List α) (w : World)
  (hv : Sl R 5 w v l) (hn : l.length ≤ 9223372036854775807) (hp : SaysOf Tryz.prog R encAgg g cb p l w) :
  Calls Tryz.prog 41 #[v, .func (.func g) #[] cb] w fun e w' => e = .returned (.int .i64 (firstAt p l)) ∧ Ext w w' := by
 obtain ⟨a, c, rfl, hlc, hv⟩ := hv
 have HLC := Lib.hid hlc; clear hlc
 have HV := Lib.hid hv; clear hv
 have HP := Lib.hid hp; clear hp
 have HT := Lib.hid hLasts; clear hLasts
 generalize hln : l.length = n at hn
 have HL := Lib.hid hln; clear hln
 go_enter Tryz.func41, Tryz.ntmps41
 go_wp2
 go_loopg [5, 8] n (fun m _ s8 wr => ∃ k : Nat, k ≤ n ∧ n - k ≤ m ∧ s8 = .int .i64 k ∧ Ext w wr ∧ Aside (∀ j, j < k → p l[j]! = false))
 case atStart => exact ⟨0, Nat.zero_le _, by omega, rfl, Below.refl _ _, (fun j hj => absurd hj (Nat.not_lt_zero _))⟩
 case round =>
  obtain ⟨k, hk, hm, rfl, he, A⟩ := hrel
  have HE := Lib.hid he; clear he
  by_cases hlt : k < n
  ·obtain ⟨b, off, rfl, hb, hc⟩ := HV.out (by intro e; have := HL.out; simp [e] at this; omega)
   obtain ⟨vs, hvs, hR, hcell⟩ := hc k (by rw [HL.out]; exact hlt)
   obtain ⟨c0, c1, c2, c3, c4, rfl⟩ : ∃ c0 c1 c2 c3 c4, vs = [c0, c1, c2, c3, c4] := by match vs, hvs with | [c0, c1, c2, c3, c4], _ => exact ⟨c0, c1, c2, c3, c4, rfl⟩
   have d0 : wr.cell? ⟨b, off + k * 5, none⟩ = some c0 := (HE.out.cell hb).trans (hcell 0 (by omega))
   have d1 : wr.cell? ⟨b, off + k * 5 + 1, none⟩ = some c1 := (HE.out.cell hb).trans (hcell 1 (by omega))
   have d2 : wr.cell? ⟨b, off + k * 5 + 2, none⟩ = some c2 := (HE.out.cell hb).trans (hcell 2 (by omega))
   have d3 : wr.cell? ⟨b, off + k * 5 + 3, none⟩ = some c3 := (HE.out.cell hb).trans (hcell 3 (by omega))
   have d4 : wr.cell? ⟨b, off + k * 5 + 4, none⟩ = some c4 := (HE.out.cell hb).trans (hcell 4 (by omega))
   have hltz : (k : Int) < (n : Int) := by omega
   clear hc hcell
   have hcall := HP.out _ (mem_at l k (by rw [HL.out]; exact hlt)) wr _ HE.out (HT.out _ _ _ _ hR HE.out)
   unfold encAgg at hcall
   generalize hy : l[k]! = y at hcall hR
   have B := Lib.hid hy
   clear hy hR hvs HV HT HP
   cases hq : p y with
   | true =>
     rw [hq] at hcall
     have HQ := Lib.hid hq; clear hq
     go_wp2_with (go_at_fn g; refine hcall.mono ?_; rintro e w' ⟨rfl, he'⟩)
     go_ret
     exact ⟨by rw [firstAt_hit p l k (by rw [HL.out]; omega) (by rw [B.out]; exact HQ.out) A.out]; rfl, HE.out.trans' he'⟩
   | false =>
     rw [hq] at hcall
     have HQ := Lib.hid hq; clear hq
     go_wp2_with (go_at_fn g; refine hcall.mono ?_; rintro e w' ⟨rfl, he'⟩)
     go_roundg (n - (k + 1))
     case measure => omega
     case rel =>
      refine ⟨k + 1, by omega, by omega, by go_num, HE.out.trans' he', (show Aside _ from fun j hj => ?_)⟩
      by_cases e : j = k
      ·subst e
       rw [B.out]; exact HQ.out
      ·exact A.out j (by omega)
  ·have hltz : ¬ (k : Int) < (n : Int) := by omega
   go_wp2
   go_ret
   exact ⟨by rw [firstAt_miss p l (fun j hj => A.out j (by rw [HL.out] at hj; omega))]; rfl, HE.out⟩
set_option maxHeartbeats 400000 in
theorem containsFuncL_evs {α : Type} [Inhabited α] (R : World → List Value → α → Prop) (hLasts : Lasts R) (g : Nat) (cb : Array Value) (eg : ∀ args w, (callFunc g args).run Tryz.prog w = .ok (.enter g args) w) (p : α → Bool) (v : Value) (l : List α) (w : World)
  (hv : Sl R 5 w v l) (hn : l.length ≤ 9223372036854775807) (hp : SaysOf Tryz.prog R encAgg g cb p l w) :
  Calls Tryz.prog 21 #[v, .func (.func g) #[] cb] w fun e w' => e = .returned (.bool (l.any p)) ∧ Ext w w' := by
 have HI := Lib.hid (indexFuncL_evs R hLasts g cb eg p v l w hv hn hp)
 clear hv hp eg hLasts
 rw [← firstAt_any]
 go_enter Tryz.func21, Tryz.ntmps21
 go_wp2_with (go_at_call 41; refine HI.out.mono ?_; rintro e w' ⟨rfl, he'⟩)
 go_ret
 exact ⟨rfl, he'⟩
def sumW (t : Tr) : Nat → Int
 | 0 => 0
 | p + 1 => IntKind.i64.wrap (sumW t p + (t[p]!.events.length : Int))
def muchE (e : Ev) : Bool := decide (12 < e.asg.length)
def muchN (v : Vr) : Bool := decide (40 < v.name.size)
def badP (t : Tr) (p : Nat) : Bool :=
 decide (120 < sumW t (p + 1)) || (decide (12 < t[p]!.vars.length) || (decide (40 < t[p]!.name.size) || (t[p]!.events.any muchE || t[p]!.vars.any muchN)))
def few22 (t : Tr) : Bool := ((List.range t.length).all fun p => !badP t p) && decide (t.length ≤ 10)
theorem few22_loose {t : Tr} (h : few22 t = true) : LooseTr t ∧ t.length ≤ 10 := by
 simp only [few22, Bool.and_eq_true, decide_eq_true_eq, List.all_eq_true, List.mem_range, Bool.not_eq_true'] at h
 refine ⟨⟨by omega, fun p hp => ?_⟩, h.2⟩
 have h1 := h.1 p hp
 simp only [badP, Bool.or_eq_false_iff, decide_eq_false_iff_not] at h1
 refine ⟨by omega, fun i hi => ?_⟩
 have h2 := List.any_eq_false.1 h1.2.2.2.1 _ (mem_at t[p]!.events i hi)
 simp only [muchE, decide_eq_true_eq] at h2
 omega
theorem enters_22 : ∀ args w, (callFunc 22 args).run Tryz.prog w = .ok (.enter 22 args) w := enters_of Tryz.func22 (by kernel_rfl) rfl
theorem enters_24 : ∀ args w, (callFunc 24 args).run Tryz.prog w = .ok (.enter 24 args) w := enters_of Tryz.func24 (by kernel_rfl) rfl
set_option maxHeartbeats 1000000 in
theorem few1_calls (vs : List Value) (x : Ev) (w : World) (hv : REv w vs x) : Calls Tryz.prog 22 #[.agg vs.toArray] w fun e w' => e = .returned (.bool (muchE x)) ∧ Ext w w' := by
 obtain ⟨v, rfl, hs⟩ := hv
 obtain ⟨a, c, rfl, hlc⟩ := hs.sh
 clear hs
 obtain ⟨r, hr⟩ : ∃ r, decide (12 < (x.asg.length : Int)) = r := ⟨_, rfl⟩
 have HR : Hid (muchE x = r) := Lib.hid (by unfold muchE; rw [← hr]; simp; omega)
 rw [HR.out]
 generalize x.asg.length = n at *
 go_enter Tryz.func22, Tryz.ntmps22
 go_wp2
 go_ret
 exact ⟨rfl, (by repeat (first | refine Ext.st ?_ (by first | exact Nat.le_refl _ | exact Nat.le_succ _ | assumption | omega) _ | refine Ext.al ?_ _ | refine Ext.dr ?_ | refine Ext.drN ?_ _ | exact Ext.rf _))⟩
set_option maxHeartbeats 1000000 in
theorem few2_calls (vs : List Value) (x : Vr) (w : World) (hv : RVr w vs x) : Calls Tryz.prog 24 #[.agg vs.toArray] w fun e w' => e = .returned (.bool (muchN x)) ∧ Ext w w' := by
 obtain rfl : vs = _ := hv
 obtain ⟨r, hr⟩ : ∃ r, decide (40 < (x.name.size : Int)) = r := ⟨_, rfl⟩
 have HR : Hid (muchN x = r) := Lib.hid (by unfold muchN; rw [← hr]; simp; omega)
 rw [HR.out]
 go_enter Tryz.func24, Tryz.ntmps24
 go_wp2
 go_ret
 exact ⟨rfl, (by repeat (first | refine Ext.st ?_ (by first | exact Nat.le_refl _ | exact Nat.le_succ _ | assumption | omega) _ | refine Ext.al ?_ _ | refine Ext.dr ?_ | refine Ext.drN ?_ _ | exact Ext.rf _))⟩
set_option maxHeartbeats 8000000 in
set_option maxRecDepth 100000 in
theorem few22_calls (v : Value) (t : Tr) (w : World) (h : TrAt w v t) (htop : TopTr t) :
  Calls Tryz.prog 5 #[.agg #[v]] w fun e w' => e = .returned (.bool (few22 t)) ∧ Ext w w' := by
 have HT := Lib.hid h
 have HTOP := Lib.hid htop
 obtain ⟨ta, tc, rfl, htc⟩ := h.sh
 have hn1 := htop.1
 obtain ⟨fb, hfb⟩ : ∃ b, few22 t = b := ⟨_, rfl⟩
 rw [hfb]
 have HFB := Lib.hid hfb
 generalize hln : t.length = n at *
 have HL := Lib.hid hln
 have HX0 := Lib.hid (heap_alloc_new w (.cells #[.slice ta n tc] 24))
 have HE1 := Lib.hid ((Ext.rf w).al (.cells #[.slice ta n tc] 24))
 clear h htop hfb hln
 have t0 := cellOf HX0.out 0
 simp only [List.getElem?_toArray, List.getElem?_cons_zero] at t0
 go_enter Tryz.func5, Tryz.ntmps5
 go_wp2
 generalize hw2 : w.alloc (.cells #[.slice ta n tc] 24) = w2 at *
 clear hw2 t0
 go_loopg [3, 9] n (fun g s3 s9 wr => ∃ (p : Nat) (z : Int), p ≤ n ∧ n - p ≤ g ∧ s9 = .int .i64 p ∧ s3 = .int .i64 z ∧ Aside (sumW t p = z) ∧ Aside (∀ q, q < p → badP t q = false) ∧ Aside (Ext w2 wr))
 case atStart => exact ⟨0, 0, Nat.zero_le _, by omega, rfl, rfl, (show Aside _ from rfl), (fun j hj => absurd hj (Nat.not_lt_zero _)), Ext.rf _⟩
 case round =>
  obtain ⟨p, z, hp, hg, rfl, rfl, HZ, A, HEK⟩ := hrel
  have HEW := Lib.hid (HE1.out.trans' HEK.out)
  have HY0 := Lib.hid (HEK.out.hp HX0.out)
  by_cases hlt : p < n
  ·have hltz : (p : Int) < (n : Int) := by omega
   have hpz : (0 : Int) ≤ (p : Int) := by omega
   have HPL := Lib.hid (show p < t.length from by rw [HL.out]; exact hlt)
   obtain ⟨B, O, C, vv, ve, hve, hlC, hB, hn0, hv0, he0, hV, hE0⟩ := proc_at HT.out p HPL.out
   simp only [Value.slice.injEq] at hve
   obtain ⟨rfl, hzz, rfl⟩ := hve
   have HVV := Lib.hid hV
   have HEV := Lib.hid hE0
   obtain ⟨ea, ec, rfl, hec⟩ := hE0.sh
   obtain ⟨va, vc, rfl, hvc⟩ := hV.sh
   have HTP := Lib.hid (HTOP.out.2 p (by first | exact hlt | exact HPL.out))
   have hn2 := HEW.out.cl hn0
   have hv2 := HEW.out.cl hv0
   have he2 := HEW.out.cl he0
   have HBD : Hid (badP t p = (decide (120 < IntKind.i64.wrap (z + (t[p]!.events.length : Int))) || (decide (12 < t[p]!.vars.length) || (decide (40 < t[p]!.name.size) || (t[p]!.events.any muchE || t[p]!.vars.any muchN))))) := Lib.hid (by rw [← HZ.out]; rfl)
   have HZ2 : Hid (sumW t (p + 1) = IntKind.i64.wrap (z + (t[p]!.events.length : Int))) := Lib.hid (by rw [← HZ.out]; rfl)
   generalize hxx : t[p]! = x at *
   have hel := HTP.out.2
   generalize hne : x.events.length = ne at *
   generalize hnv : x.vars.length = nv at *
   have HNE := Lib.hid hne
   have HNV := Lib.hid hnv
   have HCE := Lib.hid (fun W (hW : Ext w W) => containsFuncL_evs REv rev_lasts 22 #[] enters_22 muchE (.slice ea ne ec) x.events W (HEV.out.ext rev_lasts hW) (by rw [hne]; exact hel) (fun y _ W vs _ hR => few1_calls vs y W hR))
   have HCV := Lib.hid (fun W (hW : Ext w W) (hb : nv ≤ 12) => containsFunc_vars RVr rvr_lasts 24 #[] enters_24 muchN (.slice va nv vc) x.vars W (HVV.out.ext rvr_lasts hW) (by rw [hnv]; omega) (fun y _ W vs _ hR => few2_calls vs y W hR))
   obtain ⟨z2, hz2⟩ : ∃ z2, IntKind.i64.wrap (z + (ne : Int)) = z2 := ⟨_, rfl⟩
   rw [hz2] at HBD HZ2
   clear hn0 hv0 he0 hV hE0 hzz hxx hne hnv
   have HNO : Hid (badP t p = true → fb = false) := Lib.hid (fun hb => by
    rw [← HFB.out, Bool.eq_false_iff]
    intro hf
    simp only [few22, Bool.and_eq_true, decide_eq_true_eq, List.all_eq_true, List.mem_range, Bool.not_eq_true'] at hf
    rw [hf.1 p HPL.out] at hb; cases hb)
   generalize hns : x.name.size = ns at *
   have HBX := Lib.hid (heap_alloc_new wr (.cells #[.string x.name, .slice va nv vc, .slice ea ne ec] 54))
   have HXB := Lib.hid ((Ext.rf wr).al (.cells #[.string x.name, .slice va nv vc, .slice ea ne ec] 54))
   have t0 := cellOf HY0.out 0
   simp only [List.getElem?_toArray, List.getElem?_cons_zero] at t0
   by_cases h1 : 120 < z2
   ·have d1 : decide (120 < z2) = true := decide_eq_true h1
    have HF := Lib.hid (HNO.out (by rw [HBD.out, d1]; rfl))
    clear h1
    go_wp2
    go_ret
    exact ⟨by rw [HF.out]; rfl, HEW.out.trans' HXB.out⟩
   have d1 : decide (120 < z2) = false := decide_eq_false h1
   by_cases h2 : 12 < nv
   ·have d2 : decide (12 < (nv : Int)) = true := decide_eq_true (by omega)
    have d2n : decide (12 < nv) = true := decide_eq_true h2
    have HF := Lib.hid (HNO.out (by rw [HBD.out, d2n]; simp))
    clear h1 h2
    go_wp2
    go_ret
    exact ⟨by rw [HF.out]; rfl, HEW.out.trans' HXB.out⟩
   have d2 : decide (12 < (nv : Int)) = false := decide_eq_false (by omega)
   have d2n : decide (12 < nv) = false := decide_eq_false h2
   have HCV := Lib.hid (fun W hW => HCV.out W hW (by omega))
   by_cases h3 : 40 < ns
   ·have d3 : decide (40 < (ns : Int)) = true := decide_eq_true (by omega)
    have d3n : decide (40 < ns) = true := decide_eq_true h3
    have HF := Lib.hid (HNO.out (by rw [HBD.out, d3n]; simp))
    clear h1 h2 h3
    go_wp2
    go_ret
    exact ⟨by rw [HF.out]; rfl, HEW.out.trans' HXB.out⟩
   have d3 : decide (40 < (ns : Int)) = false := decide_eq_false (by omega)
   have d3n : decide (40 < ns) = false := decide_eq_false h3
   obtain ⟨be, hbe⟩ : ∃ b, x.events.any muchE = b := ⟨_, rfl⟩
   obtain ⟨bv, hbv⟩ : ∃ b, x.vars.any muchN = b := ⟨_, rfl⟩
   rw [hbe] at HCE HBD
   rw [hbv] at HCV HBD
   have HBD2 : Hid (badP t p = (be || bv)) := Lib.hid (by rw [HBD.out, d1, d2n, d3n]; simp)
   clear h1 h2 h3 hbe hbv
   go_wp2_with fail
   refine (HCE.out _ (HEW.out.trans' HXB.out)).mono ?_
   rintro e w5 ⟨rfl, hX5⟩
   have HX5 := Lib.hid (HXB.out.trans' hX5)
   have HB5 := Lib.hid (hX5.hp HBX.out)
   have y1 := cellOf HB5.out 1
   simp only [List.getElem?_toArray, List.getElem?_cons_zero, List.getElem?_cons_succ] at y1
   clear hX5 t0
   cases be with
   | true =>
     have HF := Lib.hid (HNO.out (by rw [HBD2.out]; rfl))
     go_wp2
     go_ret
     exact ⟨by rw [HF.out]; rfl, HEW.out.trans' HX5.out⟩
   | false =>
     go_wp2_with fail
     refine (HCV.out _ (HEW.out.trans' HX5.out)).mono ?_
     rintro e w6 ⟨rfl, hX6⟩
     have HX6 := Lib.hid (HX5.out.trans' hX6)
     clear hX6 y1
     cases bv with
     | true =>
       have HF := Lib.hid (HNO.out (by rw [HBD2.out]; rfl))
       go_wp2
       go_ret
       exact ⟨by rw [HF.out]; rfl, HEW.out.trans' HX6.out⟩
     | false =>
       have HG := Lib.hid (show badP t p = false from by rw [HBD2.out]; rfl)
       go_wp2
       go_roundg (n - (p + 1))
       case measure => omega
       case rel =>
        refine ⟨p + 1, z2, by omega, by omega, by go_num, rfl, (show Aside _ from HZ2.out), (show Aside _ from fun j hj => ?_), (show Ext _ _ from HEK.out.trans' HX6.out)⟩
        by_cases e : j = p
        ·subst e; exact HG.out
        ·exact A.out j (by omega)
  ·have hltz : ¬ (p : Int) < (n : Int) := by omega
   obtain rfl : n = p := by omega
   have t0 := cellOf HY0.out 0
   simp only [List.getElem?_toArray, List.getElem?_cons_zero] at t0
   obtain ⟨r, hr⟩ : ∃ r, decide ((n : Int) ≤ 10) = r := ⟨_, rfl⟩
   have HF : Hid (fb = r) := Lib.hid (by
    have ha : ((List.range t.length).all fun p => !badP t p) = true := by
     rw [List.all_eq_true]; intro q hq; rw [List.mem_range, HL.out] at hq; rw [A.out q hq]; rfl
    rw [← HFB.out, few22, ha, HL.out, ← hr]; simp; omega)
   go_wp2
   go_ret
   exact ⟨by rw [HF.out]; rfl, HEW.out⟩
end Go.Proofs.YtbpdbikphlhaiaaGreatDoor
