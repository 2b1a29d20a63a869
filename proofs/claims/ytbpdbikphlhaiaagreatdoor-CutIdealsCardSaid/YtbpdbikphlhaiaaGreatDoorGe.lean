import Derived.Test.YtbpdbikphlhaiaaGreatDoorGa
import Derived.Test.YtbpdbikphlhaiaaGreatDoorProg
import Derived.Test.YtbpdbikphlhaiaaGreatDoorGb
import Derived.Test.YtbpdbikphlhaiaaGreatDoorGc
import Derived.Test.YtbpdbikphlhaiaaGreatDoorGd
import Derived.BigQuiet
import Derived.Deep.QuietTactic
import Derived.Deep.LoopGhost
import Derived.Shelf.Abstract
import Derived.RangeFuncNested
import Derived.RangeFuncBound
import Derived.RangeFuncCalls
import Derived.RangeFuncLeaves
import Derived.Shelf.RegionOpen
import Derived.OwnWalkIn
import Derived.TacticsInMore
import Derived.LoopNIn
import Derived.LoopIn
import Derived.Sort.LoopGhostIn
import Derived.Sort.CutIn
import Derived.BigRegion
import Derived.Laws.EntriesVeiled
namespace Go.Proofs.YtbpdbikphlhaiaaGreatDoor
open Go.RowKit
set_option linter.unusedVariables false
open Go.Shelf
attribute [local go_sem] Oper.semAt_some
def FaultOut (t : Tr) (w w' : World) (e : Ending) : Prop := ∃ (a b E : Int), e = .returned (.tuple #[.agg #[.int .i64 a, .int .i64 b], .int .i64 E]) ∧ (E = 0 ↔ validT t = true) ∧ Ext w w'
theorem shapeB_parts {t : Tr} : shapeB t = true ↔ 1 ≤ t.length ∧ t.length ≤ 8 ∧ (∀ p, p < t.length → headB t p = true) ∧ ∀ p, p < t.length → ∀ i, i < t[p]!.events.length → eventB t p i = true := by
 simp only [shapeB, Bool.and_eq_true, decide_eq_true_eq, range_all]
theorem validT_parts {t : Tr} : validT t = true ↔ shapeB t = true ∧ pairB t = true ∧ ¬ Cyc t := by
 simp only [validT, Bool.and_eq_true, decide_eq_true_eq]
theorem ids_le {t : Tr} (h : shapeB t = true) : (ids t).length ≤ 1000 := by
 obtain ⟨_, h8, hh, _⟩ := shapeB_parts.1 h
 unfold ids idsTo
 simp only [List.range_zero, List.map_nil, List.append_nil, List.length_flatMap, List.length_map, List.length_range]
 have key : ∀ n, n ≤ t.length → ((List.range n).map fun q => t[q]!.events.length).sum ≤ 64 * n := by
  intro n
  induction n with
  | zero => intro _; simp
  | succ n ih =>
    intro hn
    rw [List.range_succ, List.map_append, List.sum_append]
    have := ih (by omega)
    have := (headB_parts.1 (hh n (by omega))).2.2.2.2
    simp only [List.map_cons, List.map_nil, List.sum_cons, List.sum_nil]
    omega
 have := key t.length (Nat.le_refl _)
 omega
def FltI (t : Tr) (w : World) (v : Value) (pre : List (EvA t w)) (W : World) : Prop :=
 (W.heap[w.heap.size]? = some (.cells #[v] 24) ∧ W.heap[w.heap.size + 1]? = some (idO 0 0) ∧ W.heap[w.heap.size + 1 + 1]? = some (.cells #[.int .i64 0] 33)) ∧
 (∀ y, y ∈ nms pre → eventB t y.1 y.2 = true) ∧ Ext w W ∧ w.heap.size + 4 ≤ W.heap.size
def FltX (t : Tr) (w : World) (c : Code) (pre : List (EvA t w)) (W : World) : Prop :=
 c = .ret ∧ shapeB t = false ∧ (∃ a b E : Int, E ≠ 0 ∧ W.heap[w.heap.size + 1]? = some (idO a b) ∧ W.heap[w.heap.size + 1 + 1]? = some (.cells #[.int .i64 E] 33)) ∧ Ext w W
theorem fltI_own (t : Tr) (w : World) (v : Value) (B : Nat) (hB : w.heap.size ≤ B) : OwnFrom B (FltI t w v) := fun s A A' row hs hg hr => by
 obtain ⟨⟨h0, h1, h2⟩, ho, hE, hz⟩ := hs
 have hr' := fun r e => (hr r e).2
 exact ⟨⟨heap_kept h0 hg hr', heap_kept h1 hg hr', heap_kept h2 hg hr'⟩, ho, ownFrom_below (β := Unit) (Nat.le_refl _) hB () A A' row hE hg hr, Nat.le_trans hz hg.size⟩
theorem fltX_own (t : Tr) (w : World) (c : Code) (B : Nat) (hB : w.heap.size ≤ B) : OwnFrom B (FltX t w c) := fun s A A' row hs hg hr => by
 obtain ⟨hc, hx, ⟨a, b, E, hE0, h1, h2⟩, hE⟩ := hs
 have hr' := fun r e => (hr r e).2
 exact ⟨hc, hx, ⟨a, b, E, hE0, heap_kept h1 hg hr', heap_kept h2 hg hr'⟩, ownFrom_below (β := Unit) (Nat.le_refl _) hB () A A' row hE hg hr⟩
theorem two_res {W : World} {k : Nat} {b c d : Value} {T3 : TypeId} (h2 : W.heap[k + 1]? = some (.cells #[b, c] 39)) (h3 : W.heap[k + 1 + 1]? = some (.cells #[d] T3)) (p q e : Value) :
  (((W.setCell ⟨k + 1, 0, none⟩ p).setCell ⟨k + 1, 1, none⟩ q).setCell ⟨k + 1 + 1, 0, none⟩ e).heap[k + 1]? = some (.cells #[p, q] 39) ∧
  (((W.setCell ⟨k + 1, 0, none⟩ p).setCell ⟨k + 1, 1, none⟩ q).setCell ⟨k + 1 + 1, 0, none⟩ e).heap[k + 1 + 1]? = some (.cells #[e] T3) ∧
  ∀ j, j ≠ k + 1 → j ≠ k + 1 + 1 → (((W.setCell ⟨k + 1, 0, none⟩ p).setCell ⟨k + 1, 1, none⟩ q).setCell ⟨k + 1 + 1, 0, none⟩ e).heap[j]? = W.heap[j]? := by
 have o : ∀ (V : World) (j i : Nat) (z : Value) (n : Nat), n ≠ j → (V.setCell ⟨j, i, none⟩ z).heap[n]? = V.heap[n]? := fun V j i z n hn => Below.heap_setCell V ⟨j, i, none⟩ z n hn
 refine ⟨?_, ?_, fun j j1 j2 => by rw [o _ _ _ _ _ j2, o _ _ _ _ _ j1, o _ _ _ _ _ j1]⟩
 ·rw [o _ _ _ _ _ (by omega)]; exact id_set h2 p q
 ·rw [heap_setCell_same (by rw [o _ _ _ _ _ (by omega), o _ _ _ _ _ (by omega)]; exact h3)]; simp
theorem res_ext {w W : World} (h : Ext w W) (p q e : Value) : Ext w (((W.setCell ⟨w.heap.size + 1, 0, none⟩ p).setCell ⟨w.heap.size + 1, 1, none⟩ q).setCell ⟨w.heap.size + 1 + 1, 0, none⟩ e) :=
 ((h.st (p := ⟨w.heap.size + 1, 0, none⟩) (by simp) _).st (p := ⟨w.heap.size + 1, 1, none⟩) (by simp) _).st (p := ⟨w.heap.size + 1 + 1, 0, none⟩) (by simp; omega) _
theorem ret_marks {W4 w : World} {k D : Nat} {p q e : Value} {T3 : TypeId} (r1 : W4.heap[k + 1]? = some (.cells #[p, q] 39)) (r2 : W4.heap[k + 1 + 1]? = some (.cells #[e] T3)) (hK : W4.heap[D]? = some (.deferred (some []))) (hE : Ext w W4) (hD : w.heap.size ≤ D) :
  (W4.putObj D (.deferred none)).cell? ⟨k + 1, 0, none⟩ = some p ∧ (W4.putObj D (.deferred none)).cell? ⟨k + 1, 1, none⟩ = some q ∧ (W4.putObj D (.deferred none)).cell? ⟨k + 1 + 1, 0, none⟩ = some e ∧ Ext w (W4.putObj D (.deferred none)) := by
 have hg := grownBy_putObj' W4 D (.deferred none)
 have hr : ∀ r, some D = some r → ∃ o : Obj, W4.heap[r]? = some o ∧ o.isCells = false := fun r e => by cases e; exact ⟨_, hK, rfl⟩
 have s1 := cellOf (heap_kept r1 hg hr) 0
 have s1b := cellOf (heap_kept r1 hg hr) 1
 have s2 := cellOf (heap_kept r2 hg hr) 0
 simp only [List.getElem?_toArray, List.getElem?_cons_zero, List.getElem?_cons_succ] at s1 s1b s2
 exact ⟨s1, s1b, s2, hE.grown hg hE.size (fun k e => by cases e; omega)⟩
set_option maxHeartbeats 8000000 in
set_option maxRecDepth 100000 in
theorem faultP_calls (v : Value) (t : Tr) (w : World) (h : TrAt w v t) (hs : LooseTr t) : Calls Tryz.prog 67 #[.agg #[v]] w fun e w' => FaultOut t w w' e := by
 have HT := Lib.hid h
 have HS0 := Lib.hid hs
 obtain ⟨ta, tc, rfl, htc⟩ := h.sh
 have hn1 := hs.1
 have HVP := Lib.hid (@validT_parts t)
 have HSP := Lib.hid (@shapeB_parts t)
 obtain ⟨vt, hvt⟩ : ∃ b, validT t = b := ⟨_, rfl⟩
 rw [hvt] at HVP
 have HVT := Lib.hid hvt
 generalize hln : t.length = N at *
 have HL := Lib.hid hln
 have HPF := Lib.hid (fun W (hW : Ext w W) p (hp : p < N) => procFaultP_calls (.slice ta N tc) t p W (h.ext hW) hs (by rw [hln]; exact hp))
 have HX0 := Lib.hid ((((Ext.rf _).al (idO 0 0)).al (.cells #[.int .i64 0] 33)).hp (heap_alloc_new w (.cells #[.slice ta N tc] 24)))
 have HX1 := Lib.hid (((Ext.rf _).al (.cells #[.int .i64 0] 33)).hp (heap_new_eq (w := w.alloc (.cells #[.slice ta N tc] 24)) (o := idO 0 0) (b := w.heap.size + 1) (by simp)))
 have HX2 := Lib.hid (heap_new_eq (w := (w.alloc (.cells #[.slice ta N tc] 24)).alloc (idO 0 0)) (o := .cells #[.int .i64 0] 33) (b := w.heap.size + 1 + 1) (by simp))
 have HE3 : Hid (Ext w (((w.alloc (.cells #[.slice ta N tc] 24)).alloc (idO 0 0)).alloc (.cells #[.int .i64 0] 33))) := Lib.hid ((((Ext.rf w).al _).al _).al _)
 clear h hs hvt hln
 have HIN := Lib.hid (inP_calls (N : Int) 1 8)
 obtain ⟨bi, hbi⟩ : ∃ b, (decide (1 ≤ (N : Int)) && decide ((N : Int) ≤ 8)) = b := ⟨_, rfl⟩
 rw [hbi] at HIN
 have HBI := Lib.hid hbi
 clear hbi
 refine (callsIn_wide (n := 9)).1 ?_
 refine callsIn_of_wp_marks Tryz.func67 rfl trivial ?_ rfl
 simp only [Tryz.ntmps67, List.size_toArray, List.length_cons, List.length_nil, Nat.reduceAdd, Nat.reduceSub, Array.replicate_succ, Array.replicate_zero, List.push_toArray, List.append_toArray, List.nil_append, List.cons_append]
 gi_wp2_with fail
 generalize hw3 : ((w.alloc (.cells #[.slice ta N tc] 24)).alloc (idO 0 0)).alloc (.cells #[.int .i64 0] 33) = w3 at *
 clear hw3
 refine ⟨trivial, ((callsIn_wide (n := 9 - 1)).2 (HIN.out _)).mono ?_⟩
 rintro e w4 ⟨rfl, rfl⟩
 have c1 := cellOf HX1.out 0
 have c1b := cellOf HX1.out 1
 have c2 := cellOf HX2.out 0
 have f1 := freeOf HX1.out 0
 have f1b := freeOf HX1.out 1
 have f2 := freeOf HX2.out 0
 have t0 := cellOf HX0.out 0
 simp only [List.getElem?_toArray, List.getElem?_cons_zero, List.getElem?_cons_succ] at c1 c1b c2 t0
 cases bi with
 | false =>
   obtain rfl : vt = false := by
    rw [Bool.eq_false_iff]; intro hv; have h9 := HSP.out.1 (HVP.out.1 hv).1; have := HBI.out; simp at this; omega
   gi_wp2
   obtain ⟨r1, r2, ro⟩ := two_res HX1.out HX2.out (.int .i64 0) (.int .i64 0) (.int .i64 1)
   have hE9 := res_ext HE3.out (.int .i64 0) (.int .i64 0) (.int .i64 1)
   have s1 := cellOf r1 0
   have s1b := cellOf r1 1
   have s2 := cellOf r2 0
   simp only [List.getElem?_toArray, List.getElem?_cons_zero, List.getElem?_cons_succ] at s1 s1b s2
   exact ⟨.tuple #[.agg #[.int .i64 0, .int .i64 0], .int .i64 1], by simp [results, Tryz.results67, go_sem, s1, s1b, s2], ⟨_, _, _, rfl, ⟨fun h => absurd h (by decide), fun h => by rw [HVT.out] at h; exact absurd h (by decide)⟩, hE9⟩⟩
 | true =>
 have HN8 := Lib.hid (show 1 ≤ N ∧ N ≤ 8 from by have := HBI.out; simp at this; omega)
 gi_wp2
 gi_loopg [23] N (fun g s23 wr => ∃ p : Nat, p ≤ N ∧ N - p ≤ g ∧ s23 = .int .i64 p ∧ Aside (∀ q, q < p → headB t q = true) ∧ Aside (Ext w4 wr))
 case atStart => exact ⟨0, Nat.zero_le _, by omega, rfl, (fun j hj => absurd hj (Nat.not_lt_zero _)), Ext.rf _⟩
 case round =>
  obtain ⟨p, hp, hg, rfl, A, HEK⟩ := hrel
  have HEW := Lib.hid (HE3.out.trans' HEK.out)
  have HY0 := Lib.hid (HEK.out.hp HX0.out)
  have HY1 := Lib.hid (HEK.out.hp HX1.out)
  have HY2 := Lib.hid (HEK.out.hp HX2.out)
  clear c1 c1b c2 f1 f1b f2 t0
  have c1 := cellOf HY1.out 0
  have c1b := cellOf HY1.out 1
  have c2 := cellOf HY2.out 0
  have f1 := freeOf HY1.out 0
  have f1b := freeOf HY1.out 1
  have f2 := freeOf HY2.out 0
  have t0 := cellOf HY0.out 0
  simp only [List.getElem?_toArray, List.getElem?_cons_zero, List.getElem?_cons_succ] at c1 c1b c2 t0
  by_cases hlt : p < N
  ·have hltz : (p : Int) < (N : Int) := by omega
   have hpz : (0 : Int) ≤ (p : Int) := by omega
   have HPC := Lib.hid (HPF.out wr HEW.out p hlt)
   have HHB := Lib.hid (fun hv : vt = true => (HSP.out.1 (HVP.out.1 hv).1).2.2.1 p hlt)
   gi_wp2_with fail
   refine ⟨trivial, ((callsIn_wide (n := 9 - 1)).2 HPC.out).mono ?_⟩
   rintro e w5 ⟨E, rfl, hE5, hX5⟩
   have HYE := Lib.hid hE5
   have HZ1 := Lib.hid (hX5.hp HY1.out)
   have HZ2 := Lib.hid (hX5.hp HY2.out)
   have HE5 := Lib.hid (HEW.out.trans' hX5)
   have HEK5 := Lib.hid (HEK.out.trans' hX5)
   clear c1 c1b c2 f1 f1b f2 t0 hE5 hX5
   have c1 := cellOf HZ1.out 0
   have c1b := cellOf HZ1.out 1
   have c2 := cellOf HZ2.out 0
   have f1 := freeOf HZ1.out 0
   have f1b := freeOf HZ1.out 1
   have f2 := freeOf HZ2.out 0
   simp only [List.getElem?_toArray, List.getElem?_cons_zero, List.getElem?_cons_succ] at c1 c1b c2
   by_cases hE0 : E = 0
   ·subst hE0
    have HBP := Lib.hid (HYE.out.1 rfl)
    gi_wp2
    gi_roundg (N - (p + 1))
    case measure => omega
    case rel =>
     refine ⟨p + 1, by omega, by omega, by go_num, (show Aside _ from fun q hq => ?_), (show Ext _ _ from HEK5.out)⟩
     by_cases e : q = p
     ·subst e; exact HBP.out
     ·exact A.out q (by omega)
   ·have c9 : (E != 0) = true := by simp [hE0]
    obtain rfl : vt = false := by
     rw [Bool.eq_false_iff]; intro hv; exact hE0 (HYE.out.2 (HHB.out hv))
    have HNE := Lib.hid hE0
    clear hE0
    gi_wp2
    obtain ⟨r1, r2, ro⟩ := two_res HZ1.out HZ2.out (.int .i64 p) (.int .i64 0) (.int .i64 E)
    have hE9 := res_ext HE5.out (.int .i64 p) (.int .i64 0) (.int .i64 E)
    have s1 := cellOf r1 0
    have s1b := cellOf r1 1
    have s2 := cellOf r2 0
    simp only [List.getElem?_toArray, List.getElem?_cons_zero, List.getElem?_cons_succ] at s1 s1b s2
    exact ⟨.tuple #[.agg #[.int .i64 p, .int .i64 0], .int .i64 E], by simp [results, Tryz.results67, go_sem, s1, s1b, s2], ⟨_, _, _, rfl, ⟨fun h => absurd h HNE.out, fun h => by rw [HVT.out] at h; exact absurd h (by decide)⟩, hE9⟩⟩
  ·have hltz : ¬ (p : Int) < (N : Int) := by omega
   obtain rfl : N = p := by omega
   have HS := Lib.hid (HS0.out.small (fun q hq => A.out q (by rw [HL.out] at hq; exact hq)))
   gi_wp2_with fail
   refine ⟨trivial, (events_in 8 _ _).mono ?_⟩
   rintro e w' ⟨rfl, rfl⟩
   gi_wp2
   clear c1 c1b c2 f1 f1b f2 t0
   have hE0 : Ext w (wr.alloc (.cells #[.slice ta N tc] 24)) := HEW.out.al _
   have hXT : Ext wr (wr.alloc (.cells #[.slice ta N tc] 24)) := (Ext.rf wr).al _
   have hc6 : (wr.alloc (.cells #[.slice ta N tc] 24)).cell? ⟨wr.heap.size, 0, none⟩ = some (.slice ta N tc) := cell_new _ _ _ _ _ rfl
   have hwr3 : w.heap.size + 3 ≤ wr.heap.size := by
    have := (Array.getElem?_eq_some_iff.1 HY2.out).1
    omega
   have hsz : (wr.alloc (.cells #[.slice ta N tc] 24)).heap.size = wr.heap.size + 1 := by simp
   have hi0 : FltI t w (.slice ta N tc) [] (wr.alloc (.cells #[.slice ta N tc] 24)) := ⟨⟨hXT.hp HY0.out, hXT.hp HY1.out, hXT.hp HY2.out⟩, fun y hy => by simp [nms] at hy, hE0, by omega⟩
   obtain ⟨W0, hW0⟩ : ∃ W0, wr.alloc (.cells #[.slice ta N tc] 24) = W0 := ⟨_, rfl⟩
   rw [hW0] at hE0 hc6 hsz hi0 ⊢
   clear hW0 hXT
   refine wpIn_rangeFunc_ownH rfl (by decide) (gf := 97) (lb := #[.pointer (some ⟨wr.heap.size, 0, none⟩)]) rfl trivial enters_97
    (events_stops 8 (by decide) wr.heap.size _ t w W0 HT.out HS.out hE0 (by omega) hc6) belowK_t (belowK_b (by omega)) (Below.refl _ _) (fun _ => rfl)
    (FltI t w (.slice ta N tc)) (FltX t w) (fltI_own t w _ _ (by omega)) (fun c => fltX_own t w c _ (by omega)) hi0
    (fun x a' W => ∃ Bx ua uc, w.heap.size + 4 ≤ Bx ∧ x.1.2 = .slice ua (ev t x.1.1).asg.length uc ∧ W.heap[Bx]? = some (idO (x.1.1.1 : Int) ((x.1.1.2 : Int) + 1)) ∧ W.heap[Bx + 1]? = some (evO (ev t x.1.1).kind (ev t x.1.1).peer (ev t x.1.1).msg (ev t x.1.1).time (.slice ua (ev t x.1.1).asg.length uc)) ∧ a' = { tmps := #[.agg #[.slice ta N tc], .pointer (some ⟨w.heap.size, 0, none⟩), .pointer (some ⟨w.heap.size + 1, 0, none⟩), .pointer (some ⟨w.heap.size + 1 + 1, 0, none⟩), u4, u5, .pointer (some ⟨Bx, 0, none⟩), .pointer (some ⟨Bx + 1, 0, none⟩), undef, undef, undef, undef, undef, undef, .pointer (some ⟨w.heap.size, 0, none⟩), .slice ta N tc, .int .i64 (N : Int), .bool true, .bool false, undef, .pointer (some ⟨w.heap.size, 0, none⟩), .slice ta N tc, .int .i64 (N : Int), .int .i64 (N : Int), .bool false, u25, u26, u27, u28, u29, u30, u31, u32, u33, u34, .agg #[.slice ta N tc], .func (.func 97) #[] #[.pointer (some ⟨wr.heap.size, 0, none⟩)], .agg #[.int .i64 (x.1.1.1 : Int), .int .i64 ((x.1.1.2 : Int) + 1)], .agg #[.int .i64 (ev t x.1.1).kind, .int .i64 (ev t x.1.1).peer, .int .i64 (ev t x.1.1).msg, .int .i64 (ev t x.1.1).time, .slice ua (ev t x.1.1).asg.length uc], undef, undef, undef, undef, undef, undef, undef, undef, undef, undef, undef, undef, undef, undef, undef, undef, undef, undef, undef, undef, undef, undef, undef, undef, undef, undef, undef], defers := [] })
    (fun x a' s A A' row hs hg hr => by obtain ⟨Bx, ua, uc, h0, hv, h1, h2, h3⟩ := hs; exact ⟨Bx, ua, uc, h0, hv, heap_kept h1 hg (fun r e => (hr r e).2), heap_kept h2 hg (fun r e => (hr r e).2), h3⟩)
    ?assign ?body ?done ?stop
   case assign =>
    rintro l pre x W K hi hK
    obtain ⟨ua, uc, hva, huc⟩ := x.2.2.sh
    have HK := Lib.hid hK
    have HI := Lib.hid hi
    have HVA := Lib.hid hva
    have hWs := hi.2.2.1.sz
    have hW7 := hi.2.2.2
    simp only [encE]
    rw [hva]
    generalize hkd : (ev t x.1.1).kind = kd
    generalize hpe : (ev t x.1.1).peer = pe
    generalize hms : (ev t x.1.1).msg = ms
    generalize hti : (ev t x.1.1).time = ti
    generalize hna : (ev t x.1.1).asg.length = na
    generalize hxp : (x.1.1.1 : Int) = xp
    generalize hxi : (x.1.1.2 : Int) = xi
    have HG := Lib.hid (And.intro hkd (And.intro hpe (And.intro hms (And.intro hti (And.intro hna (And.intro hxp hxi))))))
    clear hK hi hva hkd hpe hms hti hna hxp hxi huc hi0 hc6
    gi_wp2
    obtain ⟨rfl, rfl, rfl, rfl, rfl, rfl, rfl⟩ := HG.out
    have g0 := heap_alloc_new W (idO (x.1.1.1 : Int) ((x.1.1.2 : Int) + 1))
    have g1 := heap_new_eq (w := W.alloc (idO (x.1.1.1 : Int) ((x.1.1.2 : Int) + 1))) (o := evO (ev t x.1.1).kind (ev t x.1.1).peer (ev t x.1.1).msg (ev t x.1.1).time (.slice ua (ev t x.1.1).asg.length uc)) (b := W.heap.size + 1) (by simp)
    refine HK.out _ _ (((KeepsOthers.alloc _ _).trans (KeepsOthers.alloc _ _)).from _) (((Below.refl w.heap.size W).alloc hWs _).alloc (by simp; omega) _) ((fltI_own t w _ w.heap.size (Nat.le_refl _)).alloc _ ((fltI_own t w _ w.heap.size (Nat.le_refl _)).alloc _ HI.out)) ⟨W.heap.size, ua, uc, hW7, HVA.out, ((Ext.rf _).al _).hp g0, g1, rfl⟩
   case body =>
    rintro l pre x a' W hl ⟨r, hr⟩ hI ⟨Bx, ua, uc, hB7, hva, hb0, hb1, rfl⟩ hlt
    obtain ⟨⟨i0, i1, i2⟩, hok, hE, hz⟩ := hI
    have hA := x.2.2
    rw [hva] at hA
    have hin := x.2.1
    have hcall := eventFaultP_calls (.slice ta N tc) (.slice ua (ev t x.1.1).asg.length uc) t x.1.1.1 x.1.1.2 ((x.1.1.2 : Int) + 1) rfl (ev t x.1.1) W (HT.out.ext hE) HS.out hin.1 hin.2 rfl (hA.ext rasg_lasts hE)
    have HCALL := Lib.hid hcall
    have HIN := Lib.hid hin
    have HOK := Lib.hid hok
    have HEW := Lib.hid hE
    have h0 := Lib.hid i0
    have h1 := Lib.hid i1
    have h2 := Lib.hid i2
    have hx := Lib.hid hb0
    have hy := Lib.hid hb1
    clear hr hlt hva hok hE i0 i1 i2 hb0 hb1 hi0 hc6 hA hin hcall
    have c1 := cellOf h1.out 0
    have c1b := cellOf h1.out 1
    have c2 := cellOf h2.out 0
    have f1 := freeOf h1.out 0
    have f1b := freeOf h1.out 1
    have f2 := freeOf h2.out 0
    have t0 := cellOf h0.out 0
    have x0 := cellOf hx.out 0
    have x1 := cellOf hx.out 1
    have y0 := cellOf hy.out 0
    have y1 := cellOf hy.out 1
    have y2 := cellOf hy.out 2
    have y3 := cellOf hy.out 3
    have y4 := cellOf hy.out 4
    simp only [List.getElem?_toArray, List.getElem?_cons_zero, List.getElem?_cons_succ] at c1 c1b c2 t0 x0 x1 y0 y1 y2 y3 y4
    generalize hxx : x.1.1 = xx at *
    have HXX := Lib.hid hxx
    generalize ev t xx = y at *
    generalize y.asg.length = na at *
    obtain ⟨xp, xi⟩ := xx
    simp only at *
    clear hxx
    gi_wp2_with fail
    clear c1 c1b c2 f1 f1b f2 t0 x0 x1 y0 y1 y2 y3 y4
    refine ⟨trivial, (CallsIn.inRound l ((callsIn_wide (n := 9 - 1 - 1 - 1)).2 HCALL.out)).mono ?_⟩
    rintro e W3 ⟨E, rfl, hE5, hX5⟩
    have HYE := Lib.hid hE5
    have HX5 := Lib.hid hX5
    have HZ0 := Lib.hid (hX5.hp h0.out)
    have HZ1 := Lib.hid (hX5.hp h1.out)
    have HZ2 := Lib.hid (hX5.hp h2.out)
    have HZX := Lib.hid (hX5.hp hx.out)
    have HE5 := Lib.hid (HEW.out.trans' hX5)
    clear hE5 hX5
    by_cases hE0 : E = 0
    ·subst hE0
     have HBP := Lib.hid (HYE.out.1 rfl)
     gi_wp2
     exact ⟨ext_keeps HX5.out, HX5.out.mono HEW.out.size, ⟨HZ0.out, HZ1.out, HZ2.out⟩, fun y hy => by
      rw [nms_snoc, HXX.out] at hy
      rcases List.mem_append.1 hy with hy | hy
      ·exact HOK.out y hy
      ·rw [List.mem_singleton] at hy; subst hy; exact HBP.out, HE5.out, Nat.le_trans hz HX5.out.size⟩
    ·have c9 : (E != 0) = true := by simp [hE0]
     have HNE := Lib.hid hE0
     have HSF := Lib.hid (show shapeB t = false from by
      rw [Bool.eq_false_iff]; intro hv
      have := (HSP.out.1 hv).2.2.2 xp (by rw [← HL.out]; exact HIN.out.1) xi HIN.out.2
      exact hE0 (HYE.out.2 this))
     clear hE0
     have c1 := cellOf HZ1.out 0
     have c1b := cellOf HZ1.out 1
     have c2 := cellOf HZ2.out 0
     have f1 := freeOf HZ1.out 0
     have f1b := freeOf HZ1.out 1
     have f2 := freeOf HZ2.out 0
     have x0 := cellOf HZX.out 0
     have x1 := cellOf HZX.out 1
     simp only [List.getElem?_toArray, List.getElem?_cons_zero, List.getElem?_cons_succ] at c1 c1b c2 x0 x1
     gi_wp2
     obtain ⟨r1, r2, ro⟩ := two_res HZ1.out HZ2.out (.int .i64 (xp : Int)) (.int .i64 ((xi : Int) + 1)) (.int .i64 E)
     exact ⟨(ext_keeps HX5.out).trans (((KeepsOthers.setCell _ _ _).trans ((KeepsOthers.setCell _ _ _).trans (KeepsOthers.setCell _ _ _))).from _), rfl, HSF.out, ⟨_, _, E, HNE.out, r1, r2⟩, res_ext HE5.out _ _ _⟩
   case done =>
    rintro D ys W hD hys hI hK
    obtain ⟨⟨i0, i1, i2⟩, hok, hE, hz⟩ := hI
    have HSH := Lib.hid (show shapeB t = true from HSP.out.2 ⟨HN8.out.1, HN8.out.2, A.out, fun q hq j hj => hok (q, j) (by rw [hys]; exact mem_ids.2 ⟨by simp only; rw [HL.out]; exact hq, hj⟩)⟩)
    have HFO := Lib.hid (show ∀ x, Inn t x → formedB t.length x.1 (ev t x) = true from fun x hx => (eventB_parts.1 ((HSP.out.1 HSH.out).2.2.2 x.1 (by have := hx.1; rw [HL.out] at this; exact this) x.2 hx.2)).1)
    have HMC := Lib.hid (messageP_calls (.slice ta N tc) t W (HT.out.ext hE) HS.out HFO.out)
    have h0 := Lib.hid i0
    have h1 := Lib.hid i1
    have h2 := Lib.hid i2
    have HEW := Lib.hid hE
    have HKD := Lib.hid hK
    have t0 := cellOf i0 0
    simp only [List.getElem?_toArray, List.getElem?_cons_zero] at t0
    clear hi0 hc6 hys hok hE hK i0 i1 i2
    gi_wp2_with fail
    clear t0
    refine ⟨trivial, ((callsIn_wide (n := 9 - 1)).2 HMC.out).mono ?_⟩
    rintro e W2 ⟨pv, a, b, E, rfl, hE5, hX5, hL5⟩
    have HYE := Lib.hid hE5
    have HLT := Lib.hid hL5
    have HZ0 := Lib.hid (hX5.hp h0.out)
    have HZ1 := Lib.hid (hX5.hp h1.out)
    have HZ2 := Lib.hid (hX5.hp h2.out)
    have HKD2 := Lib.hid (hX5.hp HKD.out)
    have HE5 := Lib.hid (HEW.out.trans' hX5)
    have hW2 : w.heap.size + 4 ≤ W2.heap.size := Nat.le_trans hz hX5.size
    clear hE5 hX5 hL5
    have HXT := Lib.hid ((Ext.rf W2).al (idO a b))
    have HB6 := Lib.hid (heap_alloc_new W2 (idO a b))
    have c1 := cellOf HZ1.out 0
    have c1b := cellOf HZ1.out 1
    have c2 := cellOf HZ2.out 0
    have f1 := freeOf HZ1.out 0
    have f1b := freeOf HZ1.out 1
    have f2 := freeOf HZ2.out 0
    have t0 := cellOf HZ0.out 0
    simp only [List.getElem?_toArray, List.getElem?_cons_zero, List.getElem?_cons_succ] at c1 c1b c2 t0
    have n1 : w.heap.size + 1 < W2.heap.size := by omega
    have n2 : w.heap.size + 1 ≠ W2.heap.size := by omega
    have n3 : w.heap.size + 1 + 1 < W2.heap.size := by omega
    have n4 : w.heap.size + 1 + 1 ≠ W2.heap.size := by omega
    have n5 : w.heap.size < W2.heap.size := by omega
    have n6 : w.heap.size ≠ W2.heap.size := by omega
    by_cases hE0 : E = 0
    ·subst hE0
     obtain ⟨LB, rfl, hlet⟩ := HLT.out rfl
     have HPB := Lib.hid (HYE.out.1 rfl)
     have HCC := Lib.hid (cyclicP_calls (.slice ta N tc) t LB (W2.alloc (idO a b)) ((HT.out.ext HE5.out).ext HXT.out) HS.out HFO.out HPB.out (hlet.ext HXT.out) (by have := ids_le HSH.out; omega))
     clear hlet
     gi_wp2_with fail
     clear c1 c1b c2 f1 f1b f2 t0 n1 n2 n3 n4 n5 n6
     refine ⟨trivial, ((callsIn_wide (n := 9 - 1)).2 HCC.out).mono ?_⟩
     rintro e W5 ⟨a2, b2, cy, rfl, hcy, hX6⟩
     have HCY := Lib.hid hcy
     have HQ1 := Lib.hid (hX6.hp (HXT.out.hp HZ1.out))
     have HQ2 := Lib.hid (hX6.hp (HXT.out.hp HZ2.out))
     have HQK := Lib.hid (hX6.hp (HXT.out.hp HKD2.out))
     have HQE := Lib.hid (HE5.out.trans' (HXT.out.trans' hX6))
     have hW5 : w.heap.size + 4 ≤ W5.heap.size := Nat.le_trans hW2 (Nat.le_trans HXT.out.size hX6.size)
     clear hcy hX6
     have HXT2 := Lib.hid ((Ext.rf W5).al (idO a2 b2))
     have HB7 := Lib.hid (heap_alloc_new W5 (idO a2 b2))
     have c1 := cellOf HQ1.out 0
     have c1b := cellOf HQ1.out 1
     have c2 := cellOf HQ2.out 0
     have f1 := freeOf HQ1.out 0
     have f1b := freeOf HQ1.out 1
     have f2 := freeOf HQ2.out 0
     simp only [List.getElem?_toArray, List.getElem?_cons_zero, List.getElem?_cons_succ] at c1 c1b c2
     have n1 : w.heap.size + 1 < W5.heap.size := by omega
     have n2 : w.heap.size + 1 ≠ W5.heap.size := by omega
     have n3 : w.heap.size + 1 + 1 < W5.heap.size := by omega
     have n4 : w.heap.size + 1 + 1 ≠ W5.heap.size := by omega
     cases cy with
     | true =>
       have HVF := Lib.hid (show validT t = false from by
        rw [Bool.eq_false_iff]; intro hv; exact (validT_parts.1 hv).2.2 (HCY.out.1 rfl))
       gi_wp2
       obtain ⟨q1, q2, qo⟩ := two_res HQ1.out HQ2.out (.int .i64 a2) (.int .i64 b2) (.int .i64 10)
       have hE8 := res_ext HQE.out (.int .i64 a2) (.int .i64 b2) (.int .i64 10)
       have hK8 := (qo D (by omega) (by omega)).trans HQK.out
       have r1 := ((Ext.rf _).al (idO a2 b2)).hp q1
       have r2 := ((Ext.rf _).al (idO a2 b2)).hp q2
       have hK4 := ((Ext.rf _).al (idO a2 b2)).hp hK8
       have hE9 := hE8.al (idO a2 b2)
       refine ⟨by simp, .inl ⟨_, _, rfl, run_takeDeferred hK4, ?_⟩⟩
       obtain ⟨s1, s1b, s2, hE5⟩ := ret_marks r1 r2 hK4 hE9 (by omega)
       exact ⟨.tuple #[.agg #[.int .i64 a2, .int .i64 b2], .int .i64 10], by simp [results, Tryz.results67, go_sem, s1, s1b, s2], ⟨_, _, _, rfl, ⟨fun h => absurd h (by decide), fun h => by rw [HVF.out] at h; exact absurd h (by decide)⟩, hE5⟩⟩
     | false =>
       have HVF := Lib.hid (show validT t = true from validT_parts.2 ⟨HSH.out, HPB.out, fun hc => by have := HCY.out.2 hc; exact absurd this (by decide)⟩)
       gi_wp2
       obtain ⟨q1, q2, qo⟩ := two_res HQ1.out HQ2.out (.int .i64 0) (.int .i64 0) (.int .i64 0)
       have hE8 := res_ext HQE.out (.int .i64 0) (.int .i64 0) (.int .i64 0)
       have hK8 := (qo D (by omega) (by omega)).trans HQK.out
       have r1 := ((Ext.rf _).al (idO a2 b2)).hp q1
       have r2 := ((Ext.rf _).al (idO a2 b2)).hp q2
       have hK4 := ((Ext.rf _).al (idO a2 b2)).hp hK8
       have hE9 := hE8.al (idO a2 b2)
       refine ⟨by simp, .inl ⟨_, _, rfl, run_takeDeferred hK4, ?_⟩⟩
       obtain ⟨s1, s1b, s2, hE5⟩ := ret_marks r1 r2 hK4 hE9 (by omega)
       exact ⟨.tuple #[.agg #[.int .i64 0, .int .i64 0], .int .i64 0], by simp [results, Tryz.results67, go_sem, s1, s1b, s2], ⟨_, _, _, rfl, ⟨fun _ => HVF.out, fun _ => rfl⟩, hE5⟩⟩
    ·have c9 : (E != 0) = true := by simp [hE0]
     have HNE := Lib.hid hE0
     have HVF := Lib.hid (show validT t = false from by
      rw [Bool.eq_false_iff]; intro hv; exact HNE.out (HYE.out.2 (validT_parts.1 hv).2.1))
     clear hE0
     gi_wp2
     obtain ⟨q1, q2, qo⟩ := two_res HZ1.out HZ2.out (.int .i64 a) (.int .i64 b) (.int .i64 E)
     have hE8 := res_ext HE5.out (.int .i64 a) (.int .i64 b) (.int .i64 E)
     have hK8 := (qo D (by omega) (by omega)).trans HKD2.out
     have r1 := ((Ext.rf _).al (idO a b)).hp q1
     have r2 := ((Ext.rf _).al (idO a b)).hp q2
     have hK4 := ((Ext.rf _).al (idO a b)).hp hK8
     have hE9 := hE8.al (idO a b)
     refine ⟨by simp, .inl ⟨_, _, rfl, run_takeDeferred hK4, ?_⟩⟩
     obtain ⟨s1, s1b, s2, hE5⟩ := ret_marks r1 r2 hK4 hE9 (by omega)
     exact ⟨.tuple #[.agg #[.int .i64 a, .int .i64 b], .int .i64 E], by simp [results, Tryz.results67, go_sem, s1, s1b, s2], ⟨_, _, _, rfl, ⟨fun h => absurd h HNE.out, fun h => by rw [HVF.out] at h; exact absurd h (by decide)⟩, hE5⟩⟩
   case stop =>
    rintro D c pre W hD hpre ⟨rfl, hsh, ⟨a, b, E, hE0, i1, i2⟩, hE⟩ hK
    have h1 := Lib.hid i1
    have h2 := Lib.hid i2
    have HEW := Lib.hid hE
    have HKD := Lib.hid hK
    have HSH := Lib.hid hsh
    clear hi0 hc6 hsh hpre hE hK i1 i2
    gi_wp2
    refine ⟨by simp, .inl ⟨_, _, rfl, run_takeDeferred HKD.out, ?_⟩⟩
    have hg := grownBy_putObj' W D (.deferred none)
    have hr : ∀ r, some D = some r → ∃ o : Obj, W.heap[r]? = some o ∧ o.isCells = false := fun r e => by cases e; exact ⟨_, HKD.out, rfl⟩
    have s1 := cellOf (heap_kept h1.out hg hr) 0
    have s1b := cellOf (heap_kept h1.out hg hr) 1
    have s2 := cellOf (heap_kept h2.out hg hr) 0
    simp only [List.getElem?_toArray, List.getElem?_cons_zero, List.getElem?_cons_succ] at s1 s1b s2
    have hE5 : Ext w (W.putObj D (.deferred none)) := (HEW.out.grown hg HEW.out.size (fun k e => by cases e; omega))
    refine ⟨.tuple #[.agg #[.int .i64 a, .int .i64 b], .int .i64 E], by simp [results, Tryz.results67, go_sem, s1, s1b, s2], ⟨a, b, E, rfl, ⟨fun h => absurd h hE0, fun h => ?_⟩, hE5⟩⟩
    have := (validT_parts.1 h).1
    rw [HSH.out] at this
    exact absurd this (by decide)
set_option maxHeartbeats 2000000 in
theorem validP_calls (v : Value) (t : Tr) (w : World) (h : TrAt w v t) (hs : LooseTr t) : Calls Tryz.prog 48 #[.agg #[v]] w fun e w' => e = .returned (.bool (validT t)) ∧ Ext w w' := by
 have HFC := Lib.hid (fun W (hW : Ext w W) => faultP_calls v t W (h.ext hW) hs)
 obtain ⟨ta, tc, rfl, htc⟩ := h.sh
 generalize t.length = N at *
 have HE1 := Lib.hid ((Ext.rf w).al (.cells #[.slice ta N tc] 24))
 clear h hs
 obtain ⟨vt, hvt⟩ : ∃ b, validT t = b := ⟨_, rfl⟩
 rw [hvt]
 have HVT := Lib.hid hvt
 clear hvt
 go_enter Tryz.func48, Tryz.ntmps48
 go_wp2_with fail
 refine (HFC.out _ HE1.out).mono ?_
 rintro e w2 ⟨a, b, E, rfl, hE, hX⟩
 rw [HVT.out] at hE
 have HX := Lib.hid (HE1.out.trans' hX)
 have HE := Lib.hid hE
 clear hE hX
 obtain ⟨c, hc⟩ : ∃ c, (E == 0) = c := ⟨_, rfl⟩
 have HC := Lib.hid hc
 go_wp2
 go_ret
 have e : vt = c := by
  have h1 := HE.out
  have h2 := HC.out
  cases c <;> cases vt <;> simp_all
 subst e
 exact ⟨rfl, HX.out.al _⟩
end Go.Proofs.YtbpdbikphlhaiaaGreatDoor
namespace Go.Proofs.YtbpdbikphlhaiaaGreatDoor
open Go.RowKit
set_option linter.unusedVariables false
open Go.Shelf
attribute [local go_sem] Oper.semAt_some
noncomputable def fndO (t : Tr) (k m : Int) : Option Eid := if validT t = true then findE t k m else none
def FndOut (t : Tr) (k m : Int) (w w' : World) (e : Ending) : Prop := e = .returned (.tuple #[.agg #[.int .i64 (eidA (fndO t k m)), .int .i64 (eidB (fndO t k m))], .bool (fndO t k m).isSome]) ∧ Ext w w'
def FndI (t : Tr) (w : World) (kd m : Int) (pre : List (EvA t w)) (W : World) : Prop :=
 (W.heap[w.heap.size + 1]? = some (.cells #[.int .i64 kd] 3) ∧ W.heap[w.heap.size + 1 + 1]? = some (.cells #[.int .i64 m] 3) ∧ W.heap[w.heap.size + 1 + 1 + 1]? = some (idO 0 0) ∧ W.heap[w.heap.size + 1 + 1 + 1 + 1]? = some (.cells #[.bool false] 4)) ∧
 firstIn (nms pre) t kd m = none ∧ Ext w W ∧ w.heap.size + 6 ≤ W.heap.size
def FndX (t : Tr) (w : World) (kd m : Int) (c : Code) (pre : List (EvA t w)) (W : World) : Prop :=
 c = .ret ∧ (∃ l x, nms pre = l ++ [x] ∧ firstIn (nms pre) t kd m = some x ∧ W.heap[w.heap.size + 1 + 1 + 1]? = some (idO (x.1 : Int) ((x.2 : Int) + 1)) ∧ W.heap[w.heap.size + 1 + 1 + 1 + 1]? = some (.cells #[.bool true] 4)) ∧ Ext w W
theorem fndI_own (t : Tr) (w : World) (kd m : Int) (B : Nat) (hB : w.heap.size ≤ B) : OwnFrom B (FndI t w kd m) := fun s A A' row hs hg hr => by
 obtain ⟨⟨h0, h1, h2, h3⟩, ho, hE, hz⟩ := hs
 have hr' := fun r e => (hr r e).2
 exact ⟨⟨heap_kept h0 hg hr', heap_kept h1 hg hr', heap_kept h2 hg hr', heap_kept h3 hg hr'⟩, ho, ownFrom_below (β := Unit) (Nat.le_refl _) hB () A A' row hE hg hr, Nat.le_trans hz hg.size⟩
theorem fndX_own (t : Tr) (w : World) (kd m : Int) (c : Code) (B : Nat) (hB : w.heap.size ≤ B) : OwnFrom B (FndX t w kd m c) := fun s A A' row hs hg hr => by
 obtain ⟨hc, ⟨l, x, e1, e2, h1, h2⟩, hE⟩ := hs
 have hr' := fun r e => (hr r e).2
 exact ⟨hc, ⟨l, x, e1, e2, heap_kept h1 hg hr', heap_kept h2 hg hr'⟩, ownFrom_below (β := Unit) (Nat.le_refl _) hB () A A' row hE hg hr⟩
theorem firstIn_pre {pre : List Eid} {t : Tr} {k m : Int} {x : Eid} (hp : pre <+: ids t) (h : firstIn pre t k m = some x) : findE t k m = some x := by
 obtain ⟨post, hp⟩ := hp
 unfold findE firstIn at *
 rw [← hp, List.find?_append, h]; rfl
theorem res3_ext {w W : World} (h : Ext w W) (p q e : Value) : Ext w (((W.setCell ⟨w.heap.size + 1 + 1 + 1, 0, none⟩ p).setCell ⟨w.heap.size + 1 + 1 + 1, 1, none⟩ q).setCell ⟨w.heap.size + 1 + 1 + 1 + 1, 0, none⟩ e) :=
 ((h.st (p := ⟨w.heap.size + 1 + 1 + 1, 0, none⟩) (by simp; omega) _).st (p := ⟨w.heap.size + 1 + 1 + 1, 1, none⟩) (by simp; omega) _).st (p := ⟨w.heap.size + 1 + 1 + 1 + 1, 0, none⟩) (by simp; omega) _
set_option maxHeartbeats 8000000 in
set_option maxRecDepth 100000 in
theorem findP_calls (v : Value) (t : Tr) (kd m : Int) (w : World) (h : TrAt w v t) (hs : SmallTr t) : Calls Tryz.prog 61 #[.agg #[v], .int .i64 kd, .int .i64 m] w fun e w' => FndOut t kd m w w' e := by
 have HT := Lib.hid h
 have HS := Lib.hid hs
 have HVC := Lib.hid (fun W (hW : Ext w W) => validP_calls v t W (h.ext hW) hs.loose)
 obtain ⟨ta, tc, rfl, htc⟩ := h.sh
 have hn1 := hs.1
 obtain ⟨vt, hvt⟩ : ∃ b, validT t = b := ⟨_, rfl⟩
 rw [hvt] at HVC
 have HVT := Lib.hid hvt
 generalize hln : t.length = N at *
 have HB := Lib.hid (fun i o => allocs_at [.cells #[.slice ta N tc] 24, .cells #[.int .i64 kd] 3, .cells #[.int .i64 m] 3, idO 0 0, .cells #[.bool false] 4] w i o)
 have hE5 : Ext w (((((w.alloc (.cells #[.slice ta N tc] 24)).alloc (.cells #[.int .i64 kd] 3)).alloc (.cells #[.int .i64 m] 3)).alloc (idO 0 0)).alloc (.cells #[.bool false] 4)) := (by repeat (first | refine Ext.st ?_ (by first | exact Nat.le_refl _ | exact Nat.le_succ _ | assumption | omega) _ | refine Ext.al ?_ _ | refine Ext.dr ?_ | refine Ext.drN ?_ _ | exact Ext.rf _))
 clear h hs hln hvt
 refine (callsIn_wide (n := 9)).1 ?_
 refine callsIn_of_wp_marks Tryz.func61 rfl trivial ?_ rfl
 simp only [Tryz.ntmps61, List.size_toArray, List.length_cons, List.length_nil, Nat.reduceAdd, Nat.reduceSub, Array.replicate_succ, Array.replicate_zero, List.push_toArray, List.append_toArray, List.nil_append, List.cons_append]
 gi_wp2_with fail
 obtain ⟨w3, hw3⟩ : ∃ z, ((((w.alloc (.cells #[.slice ta N tc] 24)).alloc (.cells #[.int .i64 kd] 3)).alloc (.cells #[.int .i64 m] 3)).alloc (idO 0 0)).alloc (.cells #[.bool false] 4) = z := ⟨_, rfl⟩
 have HB : Hid (∀ i o, _ → w3.heap[w.heap.size + i]? = some o) := Lib.hid (fun i o h => hw3 ▸ HB.out i o h)
 have hsz3 : w3.heap.size = w.heap.size + 5 := by rw [← hw3]; simp
 rw [hw3] at hE5 ⊢
 clear hw3
 have HE3 := Lib.hid hE5
 clear hE5
 refine ⟨trivial, ((callsIn_wide (n := 9 - 1)).2 (HVC.out _ HE3.out)).mono ?_⟩
 rintro e w4 ⟨rfl, hX4⟩
 have HE4 := Lib.hid (HE3.out.trans' hX4)
 have HY0 := Lib.hid (hX4.hp (HB.out 0 _ rfl))
 have HY1 := Lib.hid (hX4.hp (HB.out 1 _ rfl))
 have HY2 := Lib.hid (hX4.hp (HB.out 2 _ rfl))
 have HY3 := Lib.hid (hX4.hp (HB.out 3 _ rfl))
 have HY4 := Lib.hid (hX4.hp (HB.out 4 _ rfl))
 have hsz4 : w.heap.size + 5 ≤ w4.heap.size := by have := hX4.size; omega
 clear hX4 HB hsz3
 have t0 := cellOf HY0.out 0
 have c3 := cellOf HY3.out 0
 have c3b := cellOf HY3.out 1
 have c4 := cellOf HY4.out 0
 have f3 := freeOf HY3.out 0
 have f3b := freeOf HY3.out 1
 have f4 := freeOf HY4.out 0
 simp only [List.getElem?_toArray, List.getElem?_cons_zero, List.getElem?_cons_succ, Nat.add_zero] at t0 c3 c3b c4
 cases vt with
 | false =>
   have HF0 := Lib.hid (show fndO t kd m = none from by unfold fndO; rw [if_neg (by rw [HVT.out]; decide)])
   gi_wp2
   obtain ⟨r1, r2, ro⟩ := two_res (k := w.heap.size + 1 + 1) HY3.out HY4.out (.int .i64 0) (.int .i64 0) (.bool false)
   have hE9 := res3_ext HE4.out (.int .i64 0) (.int .i64 0) (.bool false)
   have s1 := cellOf r1 0
   have s1b := cellOf r1 1
   have s2 := cellOf r2 0
   simp only [List.getElem?_toArray, List.getElem?_cons_zero, List.getElem?_cons_succ] at s1 s1b s2
   exact ⟨.tuple #[.agg #[.int .i64 0, .int .i64 0], .bool false], by simp [results, Tryz.results61, go_sem, s1, s1b, s2], ⟨by rw [HF0.out]; rfl, hE9⟩⟩
 | true =>
 have HF1 := Lib.hid (show fndO t kd m = findE t kd m from by unfold fndO; rw [if_pos HVT.out])
 gi_wp2_with fail
 refine ⟨trivial, (events_in 8 _ _).mono ?_⟩
 rintro e w' ⟨rfl, rfl⟩
 gi_wp2
 clear t0 c3 c3b c4 f3 f3b f4
 have hE0 : Ext w (w4.alloc (.cells #[.slice ta N tc] 24)) := HE4.out.al _
 have hXT : Ext w4 (w4.alloc (.cells #[.slice ta N tc] 24)) := (Ext.rf w4).al _
 have hc6 : (w4.alloc (.cells #[.slice ta N tc] 24)).cell? ⟨w4.heap.size, 0, none⟩ = some (.slice ta N tc) := cell_new _ _ _ _ _ rfl
 have hsz : (w4.alloc (.cells #[.slice ta N tc] 24)).heap.size = w4.heap.size + 1 := by simp
 have hi0 : FndI t w kd m [] (w4.alloc (.cells #[.slice ta N tc] 24)) := ⟨⟨hXT.hp HY1.out, hXT.hp HY2.out, hXT.hp HY3.out, hXT.hp HY4.out⟩, rfl, hE0, by omega⟩
 obtain ⟨W0, hW0⟩ : ∃ W0, w4.alloc (.cells #[.slice ta N tc] 24) = W0 := ⟨_, rfl⟩
 rw [hW0] at hE0 hc6 hsz hi0 ⊢
 clear hW0 hXT
 refine wpIn_rangeFunc_ownH rfl (by decide) (gf := 97) (lb := #[.pointer (some ⟨w4.heap.size, 0, none⟩)]) rfl trivial enters_97
  (events_stops 8 (by decide) w4.heap.size _ t w W0 HT.out HS.out hE0 (by omega) hc6) belowK_t (belowK_b (by omega)) (Below.refl _ _) (fun _ => rfl)
  (FndI t w kd m) (FndX t w kd m) (fndI_own t w _ _ _ (by omega)) (fun c => fndX_own t w _ _ c _ (by omega)) hi0
  (fun x a' W => ∃ Bx ua uc, w.heap.size + 6 ≤ Bx ∧ x.1.2 = .slice ua (ev t x.1.1).asg.length uc ∧ W.heap[Bx]? = some (idO (x.1.1.1 : Int) ((x.1.1.2 : Int) + 1)) ∧ W.heap[Bx + 1]? = some (evO (ev t x.1.1).kind (ev t x.1.1).peer (ev t x.1.1).msg (ev t x.1.1).time (.slice ua (ev t x.1.1).asg.length uc)) ∧ a' = { tmps := #[.agg #[.slice ta N tc], .int .i64 kd, .int .i64 m, .pointer (some ⟨w.heap.size, 0, none⟩), .pointer (some ⟨w.heap.size + 1, 0, none⟩), .pointer (some ⟨w.heap.size + 1 + 1, 0, none⟩), .pointer (some ⟨w.heap.size + 1 + 1 + 1, 0, none⟩), .pointer (some ⟨w.heap.size + 1 + 1 + 1 + 1, 0, none⟩), .pointer (some ⟨Bx, 0, none⟩), .pointer (some ⟨Bx + 1, 0, none⟩), .agg #[.slice ta N tc], .bool true, .bool false, undef, .agg #[.slice ta N tc], .func (.func 97) #[] #[.pointer (some ⟨w4.heap.size, 0, none⟩)], .agg #[.int .i64 (x.1.1.1 : Int), .int .i64 ((x.1.1.2 : Int) + 1)], .agg #[.int .i64 (ev t x.1.1).kind, .int .i64 (ev t x.1.1).peer, .int .i64 (ev t x.1.1).msg, .int .i64 (ev t x.1.1).time, .slice ua (ev t x.1.1).asg.length uc], undef, undef, undef, undef, undef, undef, undef, undef, undef, undef, undef, undef], defers := [] })
  (fun x a' s A A' row hs hg hr => by obtain ⟨Bx, ua, uc, h0, hv, h1, h2, h3⟩ := hs; exact ⟨Bx, ua, uc, h0, hv, heap_kept h1 hg (fun r e => (hr r e).2), heap_kept h2 hg (fun r e => (hr r e).2), h3⟩)
  ?assign ?body ?done ?stop
 case assign =>
  rintro l pre x W K hi hK
  obtain ⟨ua, uc, hva, huc⟩ := x.2.2.sh
  have HK := Lib.hid hK
  have HI := Lib.hid hi
  have HVA := Lib.hid hva
  have hWs := hi.2.2.1.sz
  have hW7 := hi.2.2.2
  simp only [encE]
  rw [hva]
  generalize hkd : (ev t x.1.1).kind = k1
  generalize hpe : (ev t x.1.1).peer = pe
  generalize hms : (ev t x.1.1).msg = ms
  generalize hti : (ev t x.1.1).time = ti
  generalize hna : (ev t x.1.1).asg.length = na
  generalize hxp : (x.1.1.1 : Int) = xp
  generalize hxi : (x.1.1.2 : Int) = xi
  have HG := Lib.hid (And.intro hkd (And.intro hpe (And.intro hms (And.intro hti (And.intro hna (And.intro hxp hxi))))))
  clear hK hi hva hkd hpe hms hti hna hxp hxi huc hi0 hc6
  gi_wp2
  obtain ⟨rfl, rfl, rfl, rfl, rfl, rfl, rfl⟩ := HG.out
  have g0 := heap_alloc_new W (idO (x.1.1.1 : Int) ((x.1.1.2 : Int) + 1))
  have g1 := heap_new_eq (w := W.alloc (idO (x.1.1.1 : Int) ((x.1.1.2 : Int) + 1))) (o := evO (ev t x.1.1).kind (ev t x.1.1).peer (ev t x.1.1).msg (ev t x.1.1).time (.slice ua (ev t x.1.1).asg.length uc)) (b := W.heap.size + 1) (by simp)
  refine HK.out _ _ (((KeepsOthers.alloc _ _).trans (KeepsOthers.alloc _ _)).from _) (((Below.refl w.heap.size W).alloc hWs _).alloc (by simp; omega) _) ((fndI_own t w _ _ w.heap.size (Nat.le_refl _)).alloc _ ((fndI_own t w _ _ w.heap.size (Nat.le_refl _)).alloc _ HI.out)) ⟨W.heap.size, ua, uc, hW7, HVA.out, ((Ext.rf _).al _).hp g0, g1, rfl⟩
 case body =>
  rintro l pre x a' W hl ⟨r, hr⟩ hI ⟨Bx, ua, uc, hB7, hva, hb0, hb1, rfl⟩ hlt
  obtain ⟨⟨i1, i2, i3, i4⟩, hok, hE, hz⟩ := hI
  have HOK := Lib.hid hok
  have HEW := Lib.hid hE
  have h1 := Lib.hid i1
  have h2 := Lib.hid i2
  have h3 := Lib.hid i3
  have h4 := Lib.hid i4
  have hx := Lib.hid hb0
  have hy := Lib.hid hb1
  have HSNC := Lib.hid (firstIn_snoc (nms pre) t kd m x.1.1)
  clear hr hlt hva hok hE i1 i2 i3 i4 hb0 hb1 hi0 hc6
  have k1 := cellOf h1.out 0
  have k2 := cellOf h2.out 0
  have c3 := cellOf h3.out 0
  have c3b := cellOf h3.out 1
  have c4 := cellOf h4.out 0
  have f3 := freeOf h3.out 0
  have f3b := freeOf h3.out 1
  have f4 := freeOf h4.out 0
  have x0 := cellOf hx.out 0
  have x1 := cellOf hx.out 1
  have y0 := cellOf hy.out 0
  have y2 := cellOf hy.out 2
  simp only [List.getElem?_toArray, List.getElem?_cons_zero, List.getElem?_cons_succ] at k1 k2 c3 c3b c4 x0 x1 y0 y2
  generalize hxx : x.1.1 = xx at *
  have HXX := Lib.hid hxx
  generalize ev t xx = y at *
  generalize y.asg.length = na at *
  obtain ⟨xp, xi⟩ := xx
  simp only at *
  clear hxx
  obtain ⟨b1, hb1⟩ : ∃ b, (y.kind == kd) = b := ⟨_, rfl⟩
  obtain ⟨b2, hb2⟩ : ∃ b, (y.msg == m) = b := ⟨_, rfl⟩
  have HFI : Hid (firstIn (nms pre ++ [(xp, xi)]) t kd m = if (b1 && b2) = true then some (xp, xi) else none) := Lib.hid (by
   rw [HSNC.out, HOK.out, ← hb1, ← hb2]; simp)
  clear HSNC
  cases b1 with
  | true =>
    cases b2 with
    | true =>
      gi_wp2
      obtain ⟨r1, r2, ro⟩ := two_res (k := w.heap.size + 1 + 1) h3.out h4.out (.int .i64 (xp : Int)) (.int .i64 ((xi : Int) + 1)) (.bool true)
      exact ⟨(((KeepsOthers.setCell _ _ _).trans ((KeepsOthers.setCell _ _ _).trans (KeepsOthers.setCell _ _ _))).from _), rfl, ⟨nms pre, (xp, xi), by rw [nms_snoc, HXX.out], by rw [nms_snoc, HXX.out, HFI.out]; rfl, r1, r2⟩, res3_ext HEW.out _ _ _⟩
    | false =>
      gi_wp2
      exact ⟨KeepsFrom.refl _ _, Below.refl _ _, ⟨h1.out, h2.out, h3.out, h4.out⟩, by rw [nms_snoc, HXX.out, HFI.out]; rfl, HEW.out, hz⟩
  | false =>
    gi_wp2
    exact ⟨KeepsFrom.refl _ _, Below.refl _ _, ⟨h1.out, h2.out, h3.out, h4.out⟩, by rw [nms_snoc, HXX.out, HFI.out]; rfl, HEW.out, hz⟩
 case done =>
  rintro D ys W hD hys hI hK
  obtain ⟨⟨i1, i2, i3, i4⟩, hok, hE, hz⟩ := hI
  have h3 := Lib.hid i3
  have h4 := Lib.hid i4
  have HOK := Lib.hid (show findE t kd m = none from by unfold findE; rw [← hys]; exact hok)
  have HEW := Lib.hid hE
  have HKD := Lib.hid hK
  have c3 := cellOf i3 0
  have c3b := cellOf i3 1
  have c4 := cellOf i4 0
  have f3 := freeOf i3 0
  have f3b := freeOf i3 1
  have f4 := freeOf i4 0
  simp only [List.getElem?_toArray, List.getElem?_cons_zero, List.getElem?_cons_succ] at c3 c3b c4
  clear hi0 hc6 hys hok hE hK i1 i2 i3 i4
  gi_wp2
  obtain ⟨r1, r2, ro⟩ := two_res (k := w.heap.size + 1 + 1) h3.out h4.out (.int .i64 0) (.int .i64 0) (.bool false)
  have hE9 := res3_ext HEW.out (.int .i64 0) (.int .i64 0) (.bool false)
  have hK4 := (ro D (by omega) (by omega)).trans HKD.out
  refine ⟨by simp, .inl ⟨_, _, rfl, run_takeDeferred hK4, ?_⟩⟩
  obtain ⟨s1, s1b, s2, hE5⟩ := ret_marks (k := w.heap.size + 1 + 1) r1 r2 hK4 hE9 (by omega)
  exact ⟨.tuple #[.agg #[.int .i64 0, .int .i64 0], .bool false], by simp [results, Tryz.results61, go_sem, s1, s1b, s2], ⟨by rw [HF1.out, HOK.out]; rfl, hE5⟩⟩
 case stop =>
  rintro D c pre W hD hpre ⟨rfl, ⟨l0, x0, e1, e2, i3, i4⟩, hE⟩ hK
  have h3 := Lib.hid i3
  have h4 := Lib.hid i4
  have HFX := Lib.hid (firstIn_pre hpre e2)
  have HEW := Lib.hid hE
  have HKD := Lib.hid hK
  clear hi0 hc6 hpre e1 e2 hE hK i3 i4
  gi_wp2
  refine ⟨by simp, .inl ⟨_, _, rfl, run_takeDeferred HKD.out, ?_⟩⟩
  obtain ⟨s1, s1b, s2, hE5⟩ := ret_marks (k := w.heap.size + 1 + 1) h3.out h4.out HKD.out HEW.out (by omega)
  exact ⟨.tuple #[.agg #[.int .i64 (x0.1 : Int), .int .i64 ((x0.2 : Int) + 1)], .bool true], by simp [results, Tryz.results61, go_sem, s1, s1b, s2], ⟨by rw [HF1.out, HFX.out]; rfl, hE5⟩⟩
end Go.Proofs.YtbpdbikphlhaiaaGreatDoor
namespace Go.Proofs.YtbpdbikphlhaiaaGreatDoor
open Go.RowKit
set_option linter.unusedVariables false
set_option maxHeartbeats 2000000 in
theorem senderP_calls (v : Value) (t : Tr) (m : Int) (w : World) (h : TrAt w v t) (hs : SmallTr t) : Calls Tryz.prog 60 #[.agg #[v], .int .i64 m] w fun e w' => FndOut t 2 m w w' e := by
 have HFC := Lib.hid (fun W (hW : Ext w W) => findP_calls v t 2 m W (h.ext hW) hs)
 obtain ⟨ta, tc, rfl, htc⟩ := h.sh
 generalize t.length = N at *
 have HX1 := Lib.hid (heap_new_eq (w := w.alloc (.cells #[.slice ta N tc] 24)) (o := idO 0 0) (b := w.heap.size + 1) (by simp))
 have HE2 : Hid (Ext w ((w.alloc (.cells #[.slice ta N tc] 24)).alloc (idO 0 0))) := Lib.hid (((Ext.rf w).al _).al _)
 clear h hs
 go_enter Tryz.func60, Tryz.ntmps60
 go_wp2_with fail
 generalize hw2 : (w.alloc (.cells #[.slice ta N tc] 24)).alloc (idO 0 0) = w2 at *
 clear hw2
 refine (HFC.out _ HE2.out).mono ?_
 rintro e w3 ⟨rfl, hX⟩
 have HZ1 := Lib.hid (hX.hp HX1.out)
 have HE3 := Lib.hid (HE2.out.trans' hX)
 clear hX
 generalize hA : eidA (fndO t 2 m) = za at *
 generalize hB : eidB (fndO t 2 m) = zb at *
 generalize hC : (fndO t 2 m).isSome = zc at *
 have HABC := Lib.hid (And.intro hA (And.intro hB hC))
 clear hA hB hC
 have q0 := cellOf HZ1.out 0
 have q1 := cellOf HZ1.out 1
 have g0 := freeOf HZ1.out 0
 have g1 := freeOf HZ1.out 1
 simp only [List.getElem?_toArray, List.getElem?_cons_zero, List.getElem?_cons_succ] at q0 q1
 go_wp2
 clear q0 q1 g0 g1
 have r0 := cellOf (id_set HZ1.out (.int .i64 za) (.int .i64 zb)) 0
 have r1 := cellOf (id_set HZ1.out (.int .i64 za) (.int .i64 zb)) 1
 simp only [List.getElem?_toArray, List.getElem?_cons_zero, List.getElem?_cons_succ] at r0 r1
 refine bodyPost_ret (v := .tuple #[.agg #[.int .i64 za, .int .i64 zb], .bool zc]) (by simp [results, Tryz.results60, go_sem, r0, r1]) rfl ?_
 exact ⟨by rw [HABC.out.1, HABC.out.2.1, HABC.out.2.2], id_ext HE3.out (by omega) _ _⟩
end Go.Proofs.YtbpdbikphlhaiaaGreatDoor
namespace Go.Proofs.YtbpdbikphlhaiaaGreatDoor
open Go.RowKit
set_option linter.unusedVariables false
def idsCTo (c : List Int) (p i : Nat) : List Eid := ((List.range p).flatMap fun q => (List.range c[q]!.toNat).map fun j => (q, j)) ++ (List.range i).map fun j => (p, j)
theorem idsCTo_zero (c : List Int) : idsCTo c 0 0 = [] := rfl
theorem idsCTo_succ (c : List Int) (p i : Nat) : idsCTo c p (i + 1) = idsCTo c p i ++ [(p, i)] := by
 simp [idsCTo, List.range_succ, List.append_assoc]
theorem idsCTo_next (c : List Int) (p : Nat) : idsCTo c p c[p]!.toNat = idsCTo c (p + 1) 0 := by
 simp [idsCTo, List.range_succ, List.flatMap_append]
theorem mem_idsCTo {c : List Int} {p i : Nat} {x : Eid} : x ∈ idsCTo c p i ↔ (x.1 < p ∧ x.2 < c[x.1]!.toNat) ∨ (x.1 = p ∧ x.2 < i) := by
 obtain ⟨q, j⟩ := x
 simp only [idsCTo, List.mem_append, List.mem_flatMap, List.mem_map, List.mem_range, Prod.mk.injEq]
 constructor
 ·rintro (⟨q', h1, j', h2, rfl, rfl⟩ | ⟨j', h, rfl, rfl⟩)
  ·exact .inl ⟨h1, h2⟩
  ·exact .inr ⟨rfl, h⟩
 ·rintro (⟨h1, h2⟩ | ⟨rfl, h⟩)
  ·exact .inl ⟨q, h1, j, h2, rfl, rfl⟩
  ·exact .inr ⟨j, h, rfl, rfl⟩
theorem idsCTo_grow (c : List Int) (p i : Nat) : ∀ k, i ≤ k → idsCTo c p i <+: idsCTo c p k := by
 intro k hk
 induction k with
 | zero => obtain rfl : i = 0 := by omega
           exact List.prefix_rfl
 | succ k ih =>
   by_cases e : i = k + 1
   ·subst e; exact List.prefix_rfl
   ·rw [idsCTo_succ]; exact (ih (by omega)).trans (List.prefix_append _ _)
theorem idsCTo_row (c : List Int) (p : Nat) : ∀ q, p ≤ q → idsCTo c p 0 <+: idsCTo c q 0 := by
 intro q hq
 induction q with
 | zero => obtain rfl : p = 0 := by omega
           exact List.prefix_rfl
 | succ q ih =>
   by_cases e : p = q + 1
   ·subst e; exact List.prefix_rfl
   ·rw [← idsCTo_next]; exact (ih (by omega)).trans (idsCTo_grow c q 0 _ (by omega))
theorem idsCTo_ids {c : List Int} {p i : Nat} (hp : p < c.length) (hi : i ≤ c[p]!.toNat) : idsCTo c p i <+: idsCTo c c.length 0 := by
 refine (idsCTo_grow c p i _ hi).trans ?_
 rw [idsCTo_next]
 exact idsCTo_row c (p + 1) c.length (by omega)
def InC (c : List Int) (x : Eid) : Prop := x.1 < c.length ∧ (x.2 : Int) < c[x.1]!
def sentB (t : Tr) (c : List Int) (x : Eid) : Bool :=
 !decide ((ev t x).kind = 3) || (match findE t 2 (ev t x).msg with | some s => decide ((s.2 : Int) + 1 ≤ c[s.1]!) | none => true)
theorem sentB_other {t : Tr} {c : List Int} {x : Eid} (h : (ev t x).kind ≠ 3) : sentB t c x = true := by simp [sentB, h]
theorem sentB_recv {t : Tr} {c : List Int} {x s : Eid} (h : (ev t x).kind = 3) (hs : findE t 2 (ev t x).msg = some s) : sentB t c x = decide ((s.2 : Int) + 1 ≤ c[s.1]!) := by simp [sentB, h, hs]
def missTo (t : Tr) (c : List Int) (p i : Nat) : Option Eid := (idsCTo c p i).find? fun x => !sentB t c x
def missE (t : Tr) (c : List Int) : Option Eid := missTo t c c.length 0
theorem missTo_zero (t : Tr) (c : List Int) : missTo t c 0 0 = none := rfl
theorem missTo_next {t : Tr} {c : List Int} {p k : Nat} (h : missTo t c p k = none) (hk : k = c[p]!.toNat) : missTo t c (p + 1) 0 = none := by
 unfold missTo at *; rw [← idsCTo_next, ← hk]; exact h
theorem missTo_succ {t : Tr} {c : List Int} {p i : Nat} (h : missTo t c p i = none) (hs : sentB t c (p, i) = true) : missTo t c p (i + 1) = none := by
 unfold missTo at *; rw [idsCTo_succ, List.find?_append, h]; simp [hs]
theorem missTo_hit {t : Tr} {c : List Int} {p i : Nat} (h : missTo t c p i = none) (hs : sentB t c (p, i) = false) (hp : p < c.length) (hi : (i : Int) < c[p]!) : missE t c = some (p, i) := by
 obtain ⟨post, hpost⟩ := idsCTo_ids (c := c) (p := p) (i := i + 1) hp (by omega)
 unfold missE missTo at *
 rw [← hpost, List.find?_append, idsCTo_succ, List.find?_append, h]
 simp [hs]
theorem missE_some {t : Tr} {c : List Int} {x : Eid} (h : missE t c = some x) : InC c x ∧ sentB t c x = false := by
 unfold missE missTo at h
 have h1 := List.mem_of_find?_eq_some h
 have h2 := List.find?_some h
 rw [mem_idsCTo] at h1
 refine ⟨?_, by simpa using h2⟩
 unfold InC; omega
theorem missE_none {t : Tr} {c : List Int} : missE t c = none ↔ ∀ x, InC c x → sentB t c x = true := by
 unfold missE missTo
 rw [List.find?_eq_none]
 constructor
 ·intro h x hx
  have := h x (mem_idsCTo.2 (.inl ⟨hx.1, by have := hx.2; omega⟩))
  simpa using this
 ·intro h x hx
  rw [mem_idsCTo] at hx
  have := h x ⟨by omega, by omega⟩
  simp [this]
def rangeB (t : Tr) (c : List Int) : Bool := (List.range c.length).all fun p => decide (0 ≤ c[p]!) && decide (c[p]! ≤ (t[p]!.events.length : Int))
theorem rangeB_iff {t : Tr} {c : List Int} : rangeB t c = true ↔ ∀ p, p < c.length → 0 ≤ c[p]! ∧ c[p]! ≤ (t[p]!.events.length : Int) := by
 simp only [rangeB, List.all_eq_true, List.mem_range, Bool.and_eq_true, decide_eq_true_eq]
def fitsB (t : Tr) (c : List Int) : Bool := decide (c.length = t.length)
def RangeC (t : Tr) (c : List Int) : Prop := c.length = t.length ∧ rangeB t c = true
def ConsC (t : Tr) (c : List Int) : Prop := RangeC t c ∧ missE t c = none
noncomputable def consB (t : Tr) (c : List Int) : Bool := validT t && (fitsB t c && (rangeB t c && (missE t c).isNone))
theorem consB_iff {t : Tr} {c : List Int} : consB t c = true ↔ validT t = true ∧ ConsC t c := by
 simp only [consB, fitsB, ConsC, RangeC, Bool.and_eq_true, decide_eq_true_eq, Option.isNone_iff_eq_none, and_assoc]
theorem RangeC.at {t : Tr} {c : List Int} (h : RangeC t c) {p : Nat} (hp : p < t.length) : 0 ≤ c[p]! ∧ c[p]! ≤ (t[p]!.events.length : Int) := rangeB_iff.1 h.2 p (by rw [h.1]; exact hp)
theorem RangeC.inn {t : Tr} {c : List Int} (h : RangeC t c) {x : Eid} (hx : InC c x) : Inn t x := by
 have h1 := h.1
 have h2 := h.at (p := x.1) (by have := hx.1; omega)
 have h3 := hx.2
 exact ⟨by have := hx.1; omega, by omega⟩
theorem setC_at {c : List Int} {p : Nat} {v : Int} (hp : p < c.length) : (c.set p v)[p]! = v := by
 rw [getElem!_pos _ p (by simpa using hp)]; simp
theorem setC_ne {c : List Int} {p q : Nat} {v : Int} (h : q ≠ p) : (c.set p v)[q]! = c[q]! := by
 by_cases hq : q < c.length
 ·rw [getElem!_pos _ q (by simpa using hq), getElem!_pos c q hq, List.getElem_set_ne (by omega)]
 ·rw [getElem!_neg _ q (by simpa using hq), getElem!_neg c q hq]
theorem set_range {t : Tr} {c : List Int} (h : RangeC t c) {p : Nat} {v : Int} (h0 : 0 ≤ v) (h1 : v ≤ (t[p]!.events.length : Int)) : RangeC t (c.set p v) := by
 refine ⟨by rw [List.length_set]; exact h.1, rangeB_iff.2 fun q hq => ?_⟩
 rw [List.length_set] at hq
 by_cases e : q = p
 ·subst e; rw [setC_at hq]; exact ⟨h0, h1⟩
 ·rw [setC_ne e]; exact rangeB_iff.1 h.2 q hq
def upS (t : Tr) (c : List Int) (x : Eid) : List Int := match findE t 2 (ev t x).msg with | some s => c.set s.1 ((s.2 : Int) + 1) | none => c
def dnS (_t : Tr) (c : List Int) (x : Eid) : List Int := c.set x.1 (x.2 : Int)
def FixN (t : Tr) (f : List Int → Eid → List Int) : Nat → List Int → List Int → Prop
 | 0, c, d => missE t c = none ∧ d = c
 | n + 1, c, d => ∃ x, missE t c = some x ∧ FixN t f n (f c x) d
theorem FixN.same {t : Tr} {f : List Int → Eid → List Int} {n m : Nat} {c d e : List Int} (h : FixN t f n c d) (k : FixN t f m c e) : d = e ∧ n = m := by
 induction n generalizing m c with
 | zero =>
   cases m with
   | zero => exact ⟨h.2.trans k.2.symm, rfl⟩
   | succ m => obtain ⟨x, hx, _⟩ := k; rw [h.1] at hx; cases hx
 | succ n ih =>
   obtain ⟨x, hx, h⟩ := h
   cases m with
   | zero => rw [k.1] at hx; cases hx
   | succ m =>
     obtain ⟨y, hy, k⟩ := k
     obtain rfl : x = y := Option.some.inj (hx.symm.trans hy)
     obtain ⟨h1, h2⟩ := ih h k
     exact ⟨h1, by omega⟩
def sumTo (f : Nat → Nat) : Nat → Nat
 | 0 => 0
 | n + 1 => sumTo f n + f n
theorem sumTo_le {f g : Nat → Nat} : ∀ n, (∀ i, i < n → f i ≤ g i) → sumTo f n ≤ sumTo g n
 | 0, _ => Nat.le_refl _
 | n + 1, h => Nat.add_le_add (sumTo_le n fun i hi => h i (by omega)) (h n (by omega))
theorem sumTo_lt {f g : Nat → Nat} : ∀ n, (∀ i, i < n → f i ≤ g i) → (∃ i, i < n ∧ f i < g i) → sumTo f n < sumTo g n
 | 0, _, ⟨i, hi, _⟩ => absurd hi (Nat.not_lt_zero _)
 | n + 1, h, ⟨i, hi, hlt⟩ => by
   unfold sumTo
   have h1 := sumTo_le n fun i hi => h i (by omega)
   have h2 := h n (by omega)
   by_cases e : i = n
   ·subst e; omega
   ·have := sumTo_lt n (fun i hi => h i (by omega)) ⟨i, by omega, hlt⟩; omega
theorem upS_eq {t : Tr} {c : List Int} {x s : Eid} (h : findE t 2 (ev t x).msg = some s) : upS t c x = c.set s.1 ((s.2 : Int) + 1) := by unfold upS; rw [h]
theorem miss_parts {t : Tr} {c : List Int} {x : Eid} (h : missE t c = some x) : InC c x ∧ (ev t x).kind = 3 ∧ ∃ s, findE t 2 (ev t x).msg = some s ∧ c[s.1]! < (s.2 : Int) + 1 ∧ Inn t s := by
 obtain ⟨h1, h2⟩ := missE_some h
 by_cases hk : (ev t x).kind = 3
 ·refine ⟨h1, hk, ?_⟩
  cases hf : findE t 2 (ev t x).msg with
  | none => simp [sentB, hk, hf] at h2
  | some s =>
    rw [sentB_recv hk hf] at h2
    exact ⟨s, rfl, by simpa using h2, (findE_some hf).1⟩
 ·rw [sentB_other hk] at h2; cases h2
theorem upS_range {t : Tr} {c : List Int} {x : Eid} (hr : RangeC t c) (h : missE t c = some x) : RangeC t (upS t c x) := by
 obtain ⟨_, _, s, hs, _, hi⟩ := miss_parts h
 rw [upS_eq hs]
 exact set_range hr (by omega) (by have := hi.2; omega)
theorem dnS_range {t : Tr} {c : List Int} {x : Eid} (hr : RangeC t c) (h : missE t c = some x) : RangeC t (dnS t c x) := by
 obtain ⟨h1, _⟩ := miss_parts h
 exact set_range hr (by omega) (by have := (hr.inn h1).2; omega)
theorem up_ends {t : Tr} : ∀ (m : Nat) (c : List Int), RangeC t c → sumTo (fun p => t[p]!.events.length - c[p]!.toNat) t.length ≤ m → ∃ n d, n ≤ m ∧ FixN t (upS t) n c d := by
 intro m
 induction m with
 | zero =>
   intro c hr hm
   cases h : missE t c with
   | none => exact ⟨0, c, Nat.le_refl _, h, rfl⟩
   | some x =>
     exfalso
     obtain ⟨_, _, s, hs, hlt, hi⟩ := miss_parts h
     have := sumTo_lt (f := fun _ => 0) (g := fun p => t[p]!.events.length - c[p]!.toNat) t.length (fun _ _ => Nat.zero_le _) ⟨s.1, hi.1, by have := hi.2; have := (hr.at hi.1).1; omega⟩
     omega
 | succ m ih =>
   intro c hr hm
   cases h : missE t c with
   | none => exact ⟨0, c, Nat.zero_le _, h, rfl⟩
   | some x =>
     obtain ⟨_, _, s, hs, hlt, hi⟩ := miss_parts h
     have hcl : s.1 < c.length := by have := hi.1; have := hr.1; omega
     have h2 := sumTo_lt (f := fun p => t[p]!.events.length - (upS t c x)[p]!.toNat) (g := fun p => t[p]!.events.length - c[p]!.toNat) t.length
      (fun p hp => by
       simp only [upS_eq hs]
       by_cases e : p = s.1
       ·subst e; rw [setC_at hcl]; omega
       ·rw [setC_ne e]; omega)
      ⟨s.1, hi.1, by simp only [upS_eq hs]; rw [setC_at hcl]; have := hi.2; have := (hr.at hi.1).1; omega⟩
     obtain ⟨n, d, hn, hf⟩ := ih (upS t c x) (upS_range hr h) (by omega)
     exact ⟨n + 1, d, by omega, x, h, hf⟩
theorem dn_ends {t : Tr} : ∀ (m : Nat) (c : List Int), RangeC t c → sumTo (fun p => c[p]!.toNat) t.length ≤ m → ∃ n d, n ≤ m ∧ FixN t (dnS t) n c d := by
 intro m
 induction m with
 | zero =>
   intro c hr hm
   cases h : missE t c with
   | none => exact ⟨0, c, Nat.le_refl _, h, rfl⟩
   | some x =>
     exfalso
     obtain ⟨h1, _⟩ := miss_parts h
     have := sumTo_lt (f := fun _ => 0) (g := fun p => c[p]!.toNat) t.length (fun _ _ => Nat.zero_le _) ⟨x.1, (hr.inn h1).1, by have := h1.2; omega⟩
     omega
 | succ m ih =>
   intro c hr hm
   cases h : missE t c with
   | none => exact ⟨0, c, Nat.zero_le _, h, rfl⟩
   | some x =>
     obtain ⟨h1, _⟩ := miss_parts h
     have h2 := sumTo_lt (f := fun p => (dnS t c x)[p]!.toNat) (g := fun p => c[p]!.toNat) t.length
      (fun p hp => by
       unfold dnS
       by_cases e : p = x.1
       ·subst e; rw [setC_at h1.1]; have := h1.2; omega
       ·rw [setC_ne e]; omega)
      ⟨x.1, (hr.inn h1).1, by unfold dnS; rw [setC_at h1.1]; have := h1.2; omega⟩
     obtain ⟨n, d, hn, hf⟩ := ih (dnS t c x) (dnS_range hr h) (by omega)
     exact ⟨n + 1, d, by omega, x, h, hf⟩
def LeC (a b : List Int) : Prop := ∀ p, p < a.length → a[p]! ≤ b[p]!
def leCB (a b : List Int) : Bool := decide (a.length = b.length) && (List.range a.length).all fun p => decide (a[p]! ≤ b[p]!)
def zipC (f : Int → Int → Int) (a b : List Int) : List Int := (List.range a.length).map fun p => f a[p]! b[p]!
def joinC := zipC max
def meetC := zipC min
end Go.Proofs.YtbpdbikphlhaiaaGreatDoor
namespace Go.Proofs.YtbpdbikphlhaiaaGreatDoor
open Go.RowKit
set_option linter.unusedVariables false
def RInts (w : World) (cs : List Value) (x : List Int) : Prop := ∃ u, cs = [u] ∧ Ints w u x
theorem rints_lasts : Lasts RInts := fun _ _ _ _ ⟨u, h, hb⟩ e => ⟨u, h, hb.ext e⟩
def RQueue (w : World) (cs : List Value) (x : List (List Int)) : Prop := ∃ u, cs = [u] ∧ Sl RInts 1 w u x
def RBool (w : World) (cs : List Value) (x : Bool) : Prop := cs = [.bool x]
theorem Sl.at1 {α : Type} [Inhabited α] {R : World → List Value → α → Prop} {w : World} {v : Value} {l : List α} (h : Sl R 1 w v l) (k : Nat) (hk : k < l.length) :
  ∃ b off c cv, v = .slice (some ⟨b, off, none⟩) l.length c ∧ l.length ≤ c ∧ b < w.heap.size ∧ w.cell? ⟨b, off + k, none⟩ = some cv ∧ R w [cv] l[k]! := by
 obtain ⟨a, c, rfl, hlc, h⟩ := h
 obtain ⟨b, off, rfl, hb, hc⟩ := h (by intro e; simp [e] at hk)
 obtain ⟨vs, h1, h2, h3⟩ := hc k hk
 match vs, h1 with
 | [cv], _ => exact ⟨b, off, c, cv, rfl, hlc, hb, by have := h3 0 (by omega); simpa using this, h2⟩
theorem Ints.at1 {w : World} {v : Value} {l : List Int} (h : Ints w v l) (k : Nat) (hk : k < l.length) :
  ∃ b off c, v = .slice (some ⟨b, off, none⟩) l.length c ∧ l.length ≤ c ∧ b < w.heap.size ∧ w.cell? ⟨b, off + k, none⟩ = some (.int .i64 l[k]!) := by
 obtain ⟨a, c, rfl, hlc, h⟩ := h
 obtain ⟨b, off, rfl, hb, hc⟩ := h (by intro e; simp [e] at hk)
 exact ⟨b, off, c, rfl, hlc, hb, hc k hk⟩
theorem Sl.shape {α : Type} [Inhabited α] {R : World → List Value → α → Prop} {k : Nat} {w : World} {v : Value} {l : List α} (h : Sl R k w v l) : ∃ a c, v = .slice a l.length c ∧ l.length ≤ c := by
 obtain ⟨a, c, h1, h2, _⟩ := h; exact ⟨a, c, h1, h2⟩
end Go.Proofs.YtbpdbikphlhaiaaGreatDoor
namespace Go.Proofs.YtbpdbikphlhaiaaGreatDoor
open Go.RowKit
set_option linter.unusedVariables false
set_option maxHeartbeats 400000 in
theorem indexFunc_rows {α : Type} [Inhabited α] (R : World → List Value → α → Prop) (hLasts : Lasts R) (g : Nat) (cb : Array Value) (eg : ∀ args w, (callFunc g args).run Tryz.prog w = .ok (.enter g args) w) (p : α → Bool) (v : Value) (l : List α) (w : World)
  (hv : Sl R 1 w v l) (hn : l.length ≤ 1000000) (hp : SaysOf Tryz.prog R encOne g cb p l w) :
  Calls Tryz.prog 87 #[v, .func (.func g) #[] cb] w fun e w' => e = .returned (.int .i64 (firstAt p l)) ∧ Ext w w' := by
 obtain ⟨a, c, rfl, hlc, hv⟩ := hv
 have HLC := Lib.hid hlc; clear hlc
 have HV := Lib.hid hv; clear hv
 have HP := Lib.hid hp; clear hp
 have HT := Lib.hid hLasts; clear hLasts
 generalize hln : l.length = n at hn
 have HL := Lib.hid hln; clear hln
 go_enter Tryz.func87, Tryz.ntmps87
 go_wp2
 go_loopg [5, 8] n (fun m _ s8 wr => ∃ k : Nat, k ≤ n ∧ n - k ≤ m ∧ s8 = .int .i64 k ∧ Ext w wr ∧ Aside (∀ j, j < k → p l[j]! = false))
 case atStart => exact ⟨0, Nat.zero_le _, by omega, rfl, Below.refl _ _, (fun j hj => absurd hj (Nat.not_lt_zero _))⟩
 case round =>
  obtain ⟨k, hk, hm, rfl, he, A⟩ := hrel
  have HE := Lib.hid he; clear he
  by_cases hlt : k < n
  ·obtain ⟨b, off, rfl, hb, hc⟩ := HV.out (by intro e; have := HL.out; simp [e] at this; omega)
   obtain ⟨vs, hvs, hR, hcell⟩ := hc k (by rw [HL.out]; exact hlt)
   obtain ⟨c0, rfl⟩ : ∃ c0, vs = [c0] := by match vs, hvs with | [c0], _ => exact ⟨c0, rfl⟩
   have d0 : wr.cell? ⟨b, off + k * 1, none⟩ = some c0 := (HE.out.cell hb).trans (hcell 0 (by omega))
   rw [Nat.mul_one] at d0
   have hltz : (k : Int) < (n : Int) := by omega
   clear hc hcell
   have hcall := HP.out _ (mem_at l k (by rw [HL.out]; exact hlt)) wr _ HE.out (HT.out _ _ _ _ hR HE.out)
   unfold encOne at hcall
   generalize hy : l[k]! = y at hcall hR
   have B := Lib.hid hy
   clear hy hR hvs HV HT HP
   cases hq : p y with
   | true =>
     rw [hq] at hcall
     have HQ := Lib.hid hq; clear hq
     go_wp2_with (go_at_fn g; refine hcall.mono ?_; rintro e w' ⟨rfl, he'⟩)
     go_ret
     exact ⟨by rw [firstAt_hit p l k (by rw [HL.out]; omega) (by rw [B.out]; exact HQ.out) A.out]; rfl, HE.out.trans' he'⟩
   | false =>
     rw [hq] at hcall
     have HQ := Lib.hid hq; clear hq
     go_wp2_with (go_at_fn g; refine hcall.mono ?_; rintro e w' ⟨rfl, he'⟩)
     go_roundg (n - (k + 1))
     case measure => omega
     case rel =>
      refine ⟨k + 1, by omega, by omega, by go_num, HE.out.trans' he', (show Aside _ from fun j hj => ?_)⟩
      by_cases e : j = k
      ·subst e
       rw [B.out]; exact HQ.out
      ·exact A.out j (by omega)
  ·have hltz : ¬ (k : Int) < (n : Int) := by omega
   go_wp2
   go_ret
   exact ⟨by rw [firstAt_miss p l (fun j hj => A.out j (by rw [HL.out] at hj; omega))]; rfl, HE.out⟩
set_option maxHeartbeats 400000 in
theorem containsFunc_rows {α : Type} [Inhabited α] (R : World → List Value → α → Prop) (hLasts : Lasts R) (g : Nat) (cb : Array Value) (eg : ∀ args w, (callFunc g args).run Tryz.prog w = .ok (.enter g args) w) (p : α → Bool) (v : Value) (l : List α) (w : World)
  (hv : Sl R 1 w v l) (hn : l.length ≤ 1000000) (hp : SaysOf Tryz.prog R encOne g cb p l w) :
  Calls Tryz.prog 69 #[v, .func (.func g) #[] cb] w fun e w' => e = .returned (.bool (l.any p)) ∧ Ext w w' := by
 have HI := Lib.hid (indexFunc_rows R hLasts g cb eg p v l w hv hn hp)
 clear hv hp eg hLasts
 rw [← firstAt_any]
 go_enter Tryz.func69, Tryz.ntmps69
 go_wp2_with (go_at_call 87; refine HI.out.mono ?_; rintro e w' ⟨rfl, he'⟩)
 go_ret
 exact ⟨rfl, he'⟩
end Go.Proofs.YtbpdbikphlhaiaaGreatDoor
namespace Go.Proofs.YtbpdbikphlhaiaaGreatDoor
open Go.RowKit
set_option linter.unusedVariables false
attribute [local go_sem ↓] Go.wp_at_zero Go.wp_at_succ
theorem enters_70 : ∀ args w, (callFunc 70 args).run Tryz.prog w = .ok (.enter 70 args) w := enters_of Tryz.func70 (by kernel_rfl) rfl
set_option maxHeartbeats 1000000 in
theorem sized1_calls (vs : List Value) (x : List Int) (b n tc : Nat) (ta : Option Addr) (w : World) (hx : RInts w vs x) (hc : w.cell? ⟨b, 0, none⟩ = some (.slice ta n tc)) :
  Calls Tryz.prog 70 #[encOne vs, .pointer (some ⟨b, 0, none⟩)] w fun e w' => e = .returned (.bool (!decide (x.length = n))) ∧ Ext w w' := by
 obtain ⟨u, rfl, hi⟩ := hx
 obtain ⟨a, c, rfl, hlc, _⟩ := hi
 unfold encOne
 simp only [List.headD_cons]
 obtain ⟨r, hr⟩ : ∃ r, ((x.length : Int) != (n : Int)) = r := ⟨_, rfl⟩
 have HR : Hid ((!decide (x.length = n)) = r) := Lib.hid (by rw [← hr]; by_cases h : x.length = n <;> simp [h]; omega)
 rw [HR.out]
 generalize x.length = m at *
 go_enter Tryz.func70, Tryz.ntmps70
 go_wp2
 go_ret
 exact ⟨rfl, Ext.rf _⟩
theorem all_any_not {α : Type} (l : List α) (f : α → Bool) : l.all f = !l.any fun x => !f x := by
 induction l with
 | nil => rfl
 | cons a l ih => simp [ih]
set_option maxHeartbeats 2000000 in
theorem sizedP_calls (v vl : Value) (t : Tr) (l : List (List Int)) (w : World) (h : TrAt w v t) (hs : LooseTr t) (hl : Sl RInts 1 w vl l) (hn : l.length ≤ 1000000) :
  Calls Tryz.prog 51 #[.agg #[v], vl] w fun e w' => e = .returned (.bool (validT t && l.all (fitsB t))) ∧ Ext w w' := by
 have HVC := Lib.hid (fun W (hW : Ext w W) => validP_calls v t W (h.ext hW) hs)
 obtain ⟨ta, tc, rfl, htc⟩ := h.sh
 have HCF := Lib.hid (fun W (hW : Ext w W) (hc : W.cell? ⟨w.heap.size, 0, none⟩ = some (.slice ta t.length tc)) =>
  containsFunc_rows RInts rints_lasts 70 #[.pointer (some ⟨w.heap.size, 0, none⟩)] enters_70 (fun x => !decide (x.length = t.length)) vl l W (hl.ext rints_lasts hW) hn
   (fun y hy W2 vs hW2 hR => sized1_calls vs y _ _ _ _ W2 hR (hW2.cl hc)))
 have HAL : Hid (l.all (fitsB t) = !l.any fun x => !decide (x.length = t.length)) := Lib.hid (all_any_not l _)
 have HX0 := Lib.hid (heap_alloc_new w (.cells #[.slice ta t.length tc] 24))
 have HE1 := Lib.hid ((Ext.rf w).al (.cells #[.slice ta t.length tc] 24))
 rw [HAL.out]
 generalize (l.any fun x => !decide (x.length = t.length)) = sc at *
 generalize validT t = vt at *
 generalize t.length = N at *
 clear h hs HAL htc hl
 cases vt with
 | false =>
   go_enter Tryz.func51, Tryz.ntmps51
   go_wp2_with fail
   refine (HVC.out _ HE1.out).mono ?_
   rintro e w2 ⟨rfl, hX⟩
   go_wp2
   go_ret
   exact ⟨rfl, HE1.out.trans' hX⟩
 | true =>
   go_enter Tryz.func51, Tryz.ntmps51
   go_wp2_with fail
   refine (HVC.out _ HE1.out).mono ?_
   rintro e w2 ⟨rfl, hX⟩
   have HY0 := Lib.hid (hX.hp HX0.out)
   have HE2 := Lib.hid (HE1.out.trans' hX)
   go_wp2_with fail
   refine (HCF.out _ HE2.out (by have := cellOf HY0.out 0; simpa using this)).mono ?_
   rintro e w3 ⟨rfl, hX3⟩
   go_wp2
   go_ret
   exact ⟨by simp, HE2.out.trans' hX3⟩
theorem ints_at {w : World} {a : Option Addr} {m c : Nat} {l : List Int} (h : Ints w (.slice a m c) l) (i : Nat) (hi : i < l.length) : ∃ b o, a = some ⟨b, o, none⟩ ∧ b < w.heap.size ∧ w.cell? ⟨b, o + i, none⟩ = some (.int .i64 l[i]!) := by
 obtain ⟨b, o, c2, he, _, hb, hc⟩ := h.at1 i hi
 simp only [Value.slice.injEq] at he
 exact ⟨b, o, he.1, hb, hc⟩
set_option maxHeartbeats 4000000 in
set_option maxRecDepth 100000 in
theorem inRangeP_calls (v vc : Value) (t : Tr) (c : List Int) (w : World) (h : TrAt w v t) (hs : SmallTr t) (hc : Ints w vc c) (hl : c.length = t.length) :
  Calls Tryz.prog 52 #[.agg #[v], vc] w fun e w' => e = .returned (.bool (rangeB t c)) ∧ Ext w w' := by
 have HT := Lib.hid h
 have HC := Lib.hid hc
 have HS := Lib.hid hs
 obtain ⟨ta, tc, rfl, htc⟩ := h.sh
 obtain ⟨ca, cc, rfl, hlc, _⟩ := hc
 have hn1 := hs.1
 rw [hl] at hlc ⊢
 have HCL := Lib.hid hl
 obtain ⟨rb, hrb⟩ : ∃ b, rangeB t c = b := ⟨_, rfl⟩
 rw [hrb]
 have HRB := Lib.hid hrb
 generalize hln : t.length = n at *
 have HL := Lib.hid hln
 have HX0 := Lib.hid (heap_alloc_new w (.cells #[.slice ta n tc] 24))
 have HE1 := Lib.hid ((Ext.rf w).al (.cells #[.slice ta n tc] 24))
 clear h hs hln hl hrb
 go_enter Tryz.func52, Tryz.ntmps52
 go_wp2
 generalize hw2 : w.alloc (.cells #[.slice ta n tc] 24) = w2 at *
 clear hw2
 go_loopg [9] n (fun g s9 wr => ∃ p : Nat, p ≤ n ∧ n - p ≤ g ∧ s9 = .int .i64 p ∧ Aside (∀ q, q < p → 0 ≤ c[q]! ∧ c[q]! ≤ (t[q]!.events.length : Int)) ∧ Aside (Ext w2 wr))
 case atStart => exact ⟨0, Nat.zero_le _, by omega, rfl, (fun j hj => absurd hj (Nat.not_lt_zero _)), Ext.rf _⟩
 case round =>
  obtain ⟨p, hp, hg, rfl, A, HEK⟩ := hrel
  have HEW := Lib.hid (HE1.out.trans' HEK.out)
  have HY0 := Lib.hid (HEK.out.hp HX0.out)
  have t0 := cellOf HY0.out 0
  simp only [List.getElem?_toArray, List.getElem?_cons_zero] at t0
  by_cases hlt : p < n
  ·have hltz : (p : Int) < (n : Int) := by omega
   have hpz : (0 : Int) ≤ (p : Int) := by omega
   obtain ⟨B, O, C, vv, ve, hve, hlC, hB, hn0, hv0, he0, hV, hE0⟩ := proc_at HT.out p (by rw [HL.out]; exact hlt)
   simp only [Value.slice.injEq] at hve
   obtain ⟨rfl, hzz, rfl⟩ := hve
   obtain ⟨ea, ec, rfl, hec⟩ := hE0.sh
   obtain ⟨cb, co, rfl, hcb, hcp⟩ := ints_at HC.out p (by rw [HCL.out]; exact hlt)
   have he1 := HEW.out.cl he0
   have hc1 := HEW.out.cl hcp
   have hen := (HS.out.2 p (by rw [HL.out]; exact hlt)).2.1
   generalize hne : t[p]!.events.length = ne at *
   have HNE := Lib.hid hne
   generalize hk : c[p]! = k at *
   have HK := Lib.hid hk
   clear hn0 hv0 hV hE0 hzz hne he0 hk hcp
   have HNO : Hid (¬ (0 ≤ k ∧ k ≤ (ne : Int)) → rb = false) := Lib.hid (fun hno => by
    rw [← HRB.out, Bool.eq_false_iff]
    intro hr
    have := rangeB_iff.1 hr p (by rw [HCL.out]; exact hlt)
    rw [HNE.out, HK.out] at this
    exact hno this)
   by_cases h1 : k < 0
   ·have d1 : decide (k < 0) = true := decide_eq_true h1
    have HF := Lib.hid (HNO.out (by omega))
    clear h1
    go_wp2
    go_ret
    exact ⟨by rw [HF.out]; rfl, HEW.out⟩
   ·have d1 : decide (k < 0) = false := decide_eq_false h1
    by_cases h2 : (ne : Int) < k
    ·have d2 : decide ((ne : Int) < k) = true := decide_eq_true h2
     have HF := Lib.hid (HNO.out (by omega))
     clear h1 h2
     go_wp2
     go_ret
     exact ⟨by rw [HF.out]; rfl, HEW.out⟩
    ·have d2 : decide ((ne : Int) < k) = false := decide_eq_false h2
     have HOK := Lib.hid (show 0 ≤ k ∧ k ≤ (ne : Int) by omega)
     clear h1 h2
     go_wp2
     go_roundg (n - (p + 1))
     case measure => omega
     case rel =>
      refine ⟨p + 1, by omega, by omega, by go_num, (show Aside _ from fun j hj => ?_), HEK⟩
      by_cases e : j = p
      ·subst e; rw [HNE.out, HK.out]; exact HOK.out
      ·exact A.out j (by omega)
  ·have hltz : ¬ (p : Int) < (n : Int) := by omega
   obtain rfl : n = p := by omega
   go_wp2
   go_ret
   refine ⟨?_, HEW.out⟩
   have e : rangeB t c = true := rangeB_iff.2 (fun q hq => A.out q (by rw [HCL.out] at hq; exact hq))
   rw [← HRB.out, e]; rfl
set_option maxHeartbeats 1000000 in
theorem processP_calls (v : Value) (t : Tr) (p : Int) (w : World) (h : TrAt w v t) (hs : LooseTr t) :
  Calls Tryz.prog 53 #[.agg #[v], .int .i64 p] w fun e w' => e = .returned (.bool (decide (0 ≤ p) && decide (p < (t.length : Int)))) ∧ Ext w w' := by
 obtain ⟨ta, tc, rfl, htc⟩ := h.sh
 have hn1 := hs.1
 generalize t.length = N at *
 have HE1 := Lib.hid ((Ext.rf w).al (.cells #[.slice ta N tc] 24))
 clear h hs
 by_cases h1 : 0 ≤ p
 ·have d1 : decide (0 ≤ p) = true := decide_eq_true h1
  obtain ⟨r, hr⟩ : ∃ r, decide (p < (N : Int)) = r := ⟨_, rfl⟩
  rw [d1, hr]
  clear h1
  go_enter Tryz.func53, Tryz.ntmps53
  go_wp2
  go_ret
  exact ⟨by simp, HE1.out⟩
 ·have d1 : decide (0 ≤ p) = false := decide_eq_false h1
  rw [d1]
  clear h1
  go_enter Tryz.func53, Tryz.ntmps53
  go_wp2
  go_ret
  exact ⟨by simp, HE1.out⟩
end Go.Proofs.YtbpdbikphlhaiaaGreatDoor
