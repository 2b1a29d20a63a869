import Derived.Test.YtfcpnggdpaeldaaGreatJa
import Derived.Test.YtfcpnggdpaeldaaGreatProg
import Derived.Test.YtfcpnggdpaeldaaGreatGj
import Derived.Test.YtfcpnggdpaeldaaGreatGk
import Derived.Test.YtfcpnggdpaeldaaGreatGl
import Derived.Test.YtfcpnggdpaeldaaGreatGm
import Derived.BigQuiet
import Derived.Deep.QuietTactic
import Derived.Deep.LoopGhost
import Derived.Shelf.Abstract
import Derived.RangeFuncNested
import Derived.RangeFuncBound
import Derived.RangeFuncCalls
import Derived.RangeFuncLeaves
import Derived.Shelf.RegionOpen
import Derived.OwnWalkIn
import Derived.TacticsInMore
import Derived.LoopNIn
import Derived.LoopIn
import Derived.Sort.LoopGhostIn
import Derived.Sort.CutIn
/-
  Whether a trace is valid: the program's Fault.
-/
namespace Go.Proofs.YtfcpnggdpaeldaaGreat
open Go.RowKit
set_option linter.unusedVariables false
open Go.Shelf
attribute [local go_sem] Oper.semAt_some

/-- What the search for a fault hands back. -/
def FaultOut (t : Tr) (w w' : World) (e : Ending) : Prop := ∃ (a b E : Int), e = .returned (.tuple #[.agg #[.int .i64 a, .int .i64 b], .int .i64 E]) ∧ (E = 0 ↔ validT t = true) ∧ Ext w w'
theorem shapeB_parts {t : Tr} : shapeB t = true ↔ 1 ≤ t.length ∧ t.length ≤ 8 ∧ (∀ p, p < t.length → headB t p = true) ∧ ∀ p, p < t.length → ∀ i, i < t[p]!.events.length → eventB t p i = true := by
  simp only [shapeB, Bool.and_eq_true, decide_eq_true_eq, range_all]
theorem validT_parts {t : Tr} : validT t = true ↔ shapeB t = true ∧ pairB t = true ∧ ¬ Cyc t := by
  simp only [validT, Bool.and_eq_true, decide_eq_true_eq]
theorem ids_le {t : Tr} (h : shapeB t = true) : (ids t).length ≤ 1000 := by
  obtain ⟨_, h8, hh, _⟩ := shapeB_parts.1 h
  unfold ids idsTo
  simp only [List.range_zero, List.map_nil, List.append_nil, List.length_flatMap, List.length_map, List.length_range]
  have key : ∀ n, n ≤ t.length → ((List.range n).map fun q => t[q]!.events.length).sum ≤ 64 * n := by
    intro n
    induction n with
    | zero => intro _; simp
    | succ n ih =>
      intro hn
      rw [List.range_succ, List.map_append, List.sum_append]
      have := ih (by omega)
      have := (headB_parts.1 (hh n (by omega))).2.2.2.2
      simp only [List.map_cons, List.map_nil, List.sum_cons, List.sum_nil]
      omega
  have := key t.length (Nat.le_refl _)
  omega
/-- Between two rounds. -/
def FltI (t : Tr) (w : World) (v : Value) (pre : List (EvA t w)) (W : World) : Prop :=
  (W.heap[w.heap.size]? = some (.cells #[v] 24) ∧ W.heap[w.heap.size + 1]? = some (idO 0 0) ∧ W.heap[w.heap.size + 1 + 1]? = some (.cells #[.int .i64 0] 30)) ∧
  (∀ y, y ∈ nms pre → eventB t y.1 y.2 = true) ∧ Ext w W ∧ w.heap.size + 4 ≤ W.heap.size
/-- A round has left by a return. -/
def FltX (t : Tr) (w : World) (c : Code) (pre : List (EvA t w)) (W : World) : Prop :=
  c = .ret ∧ shapeB t = false ∧ (∃ a b E : Int, E ≠ 0 ∧ W.heap[w.heap.size + 1]? = some (idO a b) ∧ W.heap[w.heap.size + 1 + 1]? = some (.cells #[.int .i64 E] 30)) ∧ Ext w W
theorem fltI_own (t : Tr) (w : World) (v : Value) (B : Nat) (hB : w.heap.size ≤ B) : OwnFrom B (FltI t w v) := fun s A A' row hs hg hr => by
  obtain ⟨⟨h0, h1, h2⟩, ho, hE, hz⟩ := hs
  have hr' := fun r e => (hr r e).2
  exact ⟨⟨heap_kept h0 hg hr', heap_kept h1 hg hr', heap_kept h2 hg hr'⟩, ho, ownFrom_below (β := Unit) (Nat.le_refl _) hB () A A' row hE hg hr, Nat.le_trans hz hg.size⟩
theorem fltX_own (t : Tr) (w : World) (c : Code) (B : Nat) (hB : w.heap.size ≤ B) : OwnFrom B (FltX t w c) := fun s A A' row hs hg hr => by
  obtain ⟨hc, hx, ⟨a, b, E, hE0, h1, h2⟩, hE⟩ := hs
  have hr' := fun r e => (hr r e).2
  exact ⟨hc, hx, ⟨a, b, E, hE0, heap_kept h1 hg hr', heap_kept h2 hg hr'⟩, ownFrom_below (β := Unit) (Nat.le_refl _) hB () A A' row hE hg hr⟩

theorem two_res {W : World} {k : Nat} {b c d : Value} {T3 : TypeId} (h2 : W.heap[k + 1]? = some (.cells #[b, c] 72)) (h3 : W.heap[k + 1 + 1]? = some (.cells #[d] T3)) (p q e : Value) :
    (((W.setCell ⟨k + 1, 0, none⟩ p).setCell ⟨k + 1, 1, none⟩ q).setCell ⟨k + 1 + 1, 0, none⟩ e).heap[k + 1]? = some (.cells #[p, q] 72) ∧
    (((W.setCell ⟨k + 1, 0, none⟩ p).setCell ⟨k + 1, 1, none⟩ q).setCell ⟨k + 1 + 1, 0, none⟩ e).heap[k + 1 + 1]? = some (.cells #[e] T3) ∧
    ∀ j, j ≠ k + 1 → j ≠ k + 1 + 1 → (((W.setCell ⟨k + 1, 0, none⟩ p).setCell ⟨k + 1, 1, none⟩ q).setCell ⟨k + 1 + 1, 0, none⟩ e).heap[j]? = W.heap[j]? := by
  have o : ∀ (V : World) (j i : Nat) (z : Value) (n : Nat), n ≠ j → (V.setCell ⟨j, i, none⟩ z).heap[n]? = V.heap[n]? := fun V j i z n hn => Below.heap_setCell V ⟨j, i, none⟩ z n hn
  refine ⟨?_, ?_, fun j j1 j2 => by rw [o _ _ _ _ _ j2, o _ _ _ _ _ j1, o _ _ _ _ _ j1]⟩
  · rw [o _ _ _ _ _ (by omega)]; exact id_set h2 p q
  · rw [heap_setCell_same (by rw [o _ _ _ _ _ (by omega), o _ _ _ _ _ (by omega)]; exact h3)]; simp
theorem res_ext {w W : World} (h : Ext w W) (p q e : Value) : Ext w (((W.setCell ⟨w.heap.size + 1, 0, none⟩ p).setCell ⟨w.heap.size + 1, 1, none⟩ q).setCell ⟨w.heap.size + 1 + 1, 0, none⟩ e) :=
  ((h.st (p := ⟨w.heap.size + 1, 0, none⟩) (by simp) _).st (p := ⟨w.heap.size + 1, 1, none⟩) (by simp) _).st (p := ⟨w.heap.size + 1 + 1, 0, none⟩) (by simp; omega) _
theorem ret_marks {W4 w : World} {k D : Nat} {p q e : Value} {T3 : TypeId} (r1 : W4.heap[k + 1]? = some (.cells #[p, q] 72)) (r2 : W4.heap[k + 1 + 1]? = some (.cells #[e] T3)) (hK : W4.heap[D]? = some (.deferred (some []))) (hE : Ext w W4) (hD : w.heap.size ≤ D) :
    (W4.putObj D (.deferred none)).cell? ⟨k + 1, 0, none⟩ = some p ∧ (W4.putObj D (.deferred none)).cell? ⟨k + 1, 1, none⟩ = some q ∧ (W4.putObj D (.deferred none)).cell? ⟨k + 1 + 1, 0, none⟩ = some e ∧ Ext w (W4.putObj D (.deferred none)) := by
  have hg := grownBy_putObj' W4 D (.deferred none)
  have hr : ∀ r, some D = some r → ∃ o : Obj, W4.heap[r]? = some o ∧ o.isCells = false := fun r e => by cases e; exact ⟨_, hK, rfl⟩
  have s1 := cellOf (heap_kept r1 hg hr) 0
  have s1b := cellOf (heap_kept r1 hg hr) 1
  have s2 := cellOf (heap_kept r2 hg hr) 0
  simp only [List.getElem?_toArray, List.getElem?_cons_zero, List.getElem?_cons_succ] at s1 s1b s2
  exact ⟨s1, s1b, s2, hE.grown hg hE.size (fun k e => by cases e; omega)⟩
set_option maxHeartbeats 8000000 in
set_option maxRecDepth 100000 in
theorem faultP_calls (v : Value) (t : Tr) (w : World) (h : TrAt w v t) (hs : LooseTr t) : Calls Tryz.prog 87 #[.agg #[v]] w fun e w' => FaultOut t w w' e := by
  have HT := Lib.hid h
  have HS0 := Lib.hid hs
  obtain ⟨ta, tc, rfl, htc⟩ := h.sh
  have hn1 := hs.1
  have HVP := Lib.hid (@validT_parts t)
  have HSP := Lib.hid (@shapeB_parts t)
  obtain ⟨vt, hvt⟩ : ∃ b, validT t = b := ⟨_, rfl⟩
  rw [hvt] at HVP
  have HVT := Lib.hid hvt
  generalize hln : t.length = N at *
  have HL := Lib.hid hln
  have HPF := Lib.hid (fun W (hW : Ext w W) p (hp : p < N) => procFaultP_calls (.slice ta N tc) t p W (h.ext hW) hs (by rw [hln]; exact hp))
  have HX0 := Lib.hid ((((Ext.rf _).al (idO 0 0)).al (.cells #[.int .i64 0] 30)).hp (heap_alloc_new w (.cells #[.slice ta N tc] 24)))
  have HX1 := Lib.hid (((Ext.rf _).al (.cells #[.int .i64 0] 30)).hp (heap_new_eq (w := w.alloc (.cells #[.slice ta N tc] 24)) (o := idO 0 0) (b := w.heap.size + 1) (by simp)))
  have HX2 := Lib.hid (heap_new_eq (w := (w.alloc (.cells #[.slice ta N tc] 24)).alloc (idO 0 0)) (o := .cells #[.int .i64 0] 30) (b := w.heap.size + 1 + 1) (by simp))
  have HE3 : Hid (Ext w (((w.alloc (.cells #[.slice ta N tc] 24)).alloc (idO 0 0)).alloc (.cells #[.int .i64 0] 30))) := Lib.hid ((((Ext.rf w).al _).al _).al _)
  clear h hs hvt hln
  have HIN := Lib.hid (inP_calls (N : Int) 1 8)
  obtain ⟨bi, hbi⟩ : ∃ b, (decide (1 ≤ (N : Int)) && decide ((N : Int) ≤ 8)) = b := ⟨_, rfl⟩
  rw [hbi] at HIN
  have HBI := Lib.hid hbi
  clear hbi
  refine (callsIn_wide (n := 9)).1 ?_
  refine callsIn_of_wp_marks Tryz.func87 rfl trivial ?_ rfl
  simp only [Tryz.ntmps87, List.size_toArray, List.length_cons, List.length_nil, Nat.reduceAdd, Nat.reduceSub, Array.replicate_succ, Array.replicate_zero, List.push_toArray, List.append_toArray, List.nil_append, List.cons_append]
  gi_wp2_with fail
  generalize hw3 : ((w.alloc (.cells #[.slice ta N tc] 24)).alloc (idO 0 0)).alloc (.cells #[.int .i64 0] 30) = w3 at *
  clear hw3
  refine ⟨trivial, ((callsIn_wide (n := 9 - 1)).2 (HIN.out _)).mono ?_⟩
  rintro e w4 ⟨rfl, rfl⟩
  have c1 := cellOf HX1.out 0
  have c1b := cellOf HX1.out 1
  have c2 := cellOf HX2.out 0
  have f1 := freeOf HX1.out 0
  have f1b := freeOf HX1.out 1
  have f2 := freeOf HX2.out 0
  have t0 := cellOf HX0.out 0
  simp only [List.getElem?_toArray, List.getElem?_cons_zero, List.getElem?_cons_succ] at c1 c1b c2 t0
  cases bi with
  | false =>
    obtain rfl : vt = false := by
      rw [Bool.eq_false_iff]; intro hv; have h9 := HSP.out.1 (HVP.out.1 hv).1; have := HBI.out; simp at this; omega
    gi_wp2
    obtain ⟨r1, r2, ro⟩ := two_res HX1.out HX2.out (.int .i64 0) (.int .i64 0) (.int .i64 1)
    have hE9 := res_ext HE3.out (.int .i64 0) (.int .i64 0) (.int .i64 1)
    have s1 := cellOf r1 0
    have s1b := cellOf r1 1
    have s2 := cellOf r2 0
    simp only [List.getElem?_toArray, List.getElem?_cons_zero, List.getElem?_cons_succ] at s1 s1b s2
    exact ⟨.tuple #[.agg #[.int .i64 0, .int .i64 0], .int .i64 1], by simp [results, Tryz.results87, go_sem, s1, s1b, s2], ⟨_, _, _, rfl, ⟨fun h => absurd h (by decide), fun h => by rw [HVT.out] at h; exact absurd h (by decide)⟩, hE9⟩⟩
  | true =>
  have HN8 := Lib.hid (show 1 ≤ N ∧ N ≤ 8 from by have := HBI.out; simp at this; omega)
  gi_wp2
  gi_loopg [23] N (fun g s23 wr => ∃ p : Nat, p ≤ N ∧ N - p ≤ g ∧ s23 = .int .i64 p ∧ Aside (∀ q, q < p → headB t q = true) ∧ Aside (Ext w4 wr))
  case atStart => exact ⟨0, Nat.zero_le _, by omega, rfl, (fun j hj => absurd hj (Nat.not_lt_zero _)), Ext.rf _⟩
  case round =>
    obtain ⟨p, hp, hg, rfl, A, HEK⟩ := hrel
    have HEW := Lib.hid (HE3.out.trans' HEK.out)
    have HY0 := Lib.hid (HEK.out.hp HX0.out)
    have HY1 := Lib.hid (HEK.out.hp HX1.out)
    have HY2 := Lib.hid (HEK.out.hp HX2.out)
    clear c1 c1b c2 f1 f1b f2 t0
    have c1 := cellOf HY1.out 0
    have c1b := cellOf HY1.out 1
    have c2 := cellOf HY2.out 0
    have f1 := freeOf HY1.out 0
    have f1b := freeOf HY1.out 1
    have f2 := freeOf HY2.out 0
    have t0 := cellOf HY0.out 0
    simp only [List.getElem?_toArray, List.getElem?_cons_zero, List.getElem?_cons_succ] at c1 c1b c2 t0
    by_cases hlt : p < N
    · have hltz : (p : Int) < (N : Int) := by omega
      have hpz : (0 : Int) ≤ (p : Int) := by omega
      have HPC := Lib.hid (HPF.out wr HEW.out p hlt)
      have HHB := Lib.hid (fun hv : vt = true => (HSP.out.1 (HVP.out.1 hv).1).2.2.1 p hlt)
      gi_wp2_with fail
      refine ⟨trivial, ((callsIn_wide (n := 9 - 1)).2 HPC.out).mono ?_⟩
      rintro e w5 ⟨E, rfl, hE5, hX5⟩
      have HYE := Lib.hid hE5
      have HZ1 := Lib.hid (hX5.hp HY1.out)
      have HZ2 := Lib.hid (hX5.hp HY2.out)
      have HE5 := Lib.hid (HEW.out.trans' hX5)
      have HEK5 := Lib.hid (HEK.out.trans' hX5)
      clear c1 c1b c2 f1 f1b f2 t0 hE5 hX5
      have c1 := cellOf HZ1.out 0
      have c1b := cellOf HZ1.out 1
      have c2 := cellOf HZ2.out 0
      have f1 := freeOf HZ1.out 0
      have f1b := freeOf HZ1.out 1
      have f2 := freeOf HZ2.out 0
      simp only [List.getElem?_toArray, List.getElem?_cons_zero, List.getElem?_cons_succ] at c1 c1b c2
      by_cases hE0 : E = 0
      · subst hE0
        have HBP := Lib.hid (HYE.out.1 rfl)
        gi_wp2
        gi_roundg (N - (p + 1))
        case measure => omega
        case rel =>
          refine ⟨p + 1, by omega, by omega, by go_num, (show Aside _ from fun q hq => ?_), (show Ext _ _ from HEK5.out)⟩
          by_cases e : q = p
          · subst e; exact HBP.out
          · exact A.out q (by omega)
      · have c9 : (E != 0) = true := by simp [hE0]
        obtain rfl : vt = false := by
          rw [Bool.eq_false_iff]; intro hv; exact hE0 (HYE.out.2 (HHB.out hv))
        have HNE := Lib.hid hE0
        clear hE0
        gi_wp2
        obtain ⟨r1, r2, ro⟩ := two_res HZ1.out HZ2.out (.int .i64 p) (.int .i64 0) (.int .i64 E)
        have hE9 := res_ext HE5.out (.int .i64 p) (.int .i64 0) (.int .i64 E)
        have s1 := cellOf r1 0
        have s1b := cellOf r1 1
        have s2 := cellOf r2 0
        simp only [List.getElem?_toArray, List.getElem?_cons_zero, List.getElem?_cons_succ] at s1 s1b s2
        exact ⟨.tuple #[.agg #[.int .i64 p, .int .i64 0], .int .i64 E], by simp [results, Tryz.results87, go_sem, s1, s1b, s2], ⟨_, _, _, rfl, ⟨fun h => absurd h HNE.out, fun h => by rw [HVT.out] at h; exact absurd h (by decide)⟩, hE9⟩⟩
    · have hltz : ¬ (p : Int) < (N : Int) := by omega
      obtain rfl : N = p := by omega
      have HS := Lib.hid (HS0.out.small (fun q hq => A.out q (by rw [HL.out] at hq; exact hq)))
      gi_wp2_with fail
      refine ⟨trivial, (events_in 8 _ _).mono ?_⟩
      rintro e w' ⟨rfl, rfl⟩
      gi_wp2
      clear c1 c1b c2 f1 f1b f2 t0
      have hE0 : Ext w (wr.alloc (.cells #[.slice ta N tc] 24)) := HEW.out.al _
      have hXT : Ext wr (wr.alloc (.cells #[.slice ta N tc] 24)) := (Ext.rf wr).al _
      have hc6 : (wr.alloc (.cells #[.slice ta N tc] 24)).cell? ⟨wr.heap.size, 0, none⟩ = some (.slice ta N tc) := cell_new _ _ _ _ _ rfl
      have hwr3 : w.heap.size + 3 ≤ wr.heap.size := by
        have := (Array.getElem?_eq_some_iff.1 HY2.out).1
        omega
      have hsz : (wr.alloc (.cells #[.slice ta N tc] 24)).heap.size = wr.heap.size + 1 := by simp
      have hi0 : FltI t w (.slice ta N tc) [] (wr.alloc (.cells #[.slice ta N tc] 24)) := ⟨⟨hXT.hp HY0.out, hXT.hp HY1.out, hXT.hp HY2.out⟩, fun y hy => by simp [nms] at hy, hE0, by omega⟩
      obtain ⟨W0, hW0⟩ : ∃ W0, wr.alloc (.cells #[.slice ta N tc] 24) = W0 := ⟨_, rfl⟩
      rw [hW0] at hE0 hc6 hsz hi0 ⊢
      clear hW0 hXT
      refine wpIn_rangeFunc_ownH rfl (by decide) (gf := 114) (lb := #[.pointer (some ⟨wr.heap.size, 0, none⟩)]) rfl trivial enters_114
        (events_stops 8 (by decide) wr.heap.size _ t w W0 HT.out HS.out hE0 (by omega) hc6) belowK_t (belowK_b (by omega)) (Below.refl _ _) (fun _ => rfl)
        (FltI t w (.slice ta N tc)) (FltX t w) (fltI_own t w _ _ (by omega)) (fun c => fltX_own t w c _ (by omega)) hi0
        (fun x a' W => ∃ Bx ua uc, w.heap.size + 4 ≤ Bx ∧ x.1.2 = .slice ua (ev t x.1.1).asg.length uc ∧ W.heap[Bx]? = some (idO (x.1.1.1 : Int) ((x.1.1.2 : Int) + 1)) ∧ W.heap[Bx + 1]? = some (evO (ev t x.1.1).kind (ev t x.1.1).peer (ev t x.1.1).msg (ev t x.1.1).time (.slice ua (ev t x.1.1).asg.length uc)) ∧ a' = { tmps := #[.agg #[.slice ta N tc], .pointer (some ⟨w.heap.size, 0, none⟩), .pointer (some ⟨w.heap.size + 1, 0, none⟩), .pointer (some ⟨w.heap.size + 1 + 1, 0, none⟩), u4, u5, .pointer (some ⟨Bx, 0, none⟩), .pointer (some ⟨Bx + 1, 0, none⟩), undef, undef, undef, undef, undef, undef, .pointer (some ⟨w.heap.size, 0, none⟩), .slice ta N tc, .int .i64 (N : Int), .bool true, .bool false, undef, .pointer (some ⟨w.heap.size, 0, none⟩), .slice ta N tc, .int .i64 (N : Int), .int .i64 (N : Int), .bool false, u25, u26, u27, u28, u29, u30, u31, u32, u33, u34, .agg #[.slice ta N tc], .func (.func 114) #[] #[.pointer (some ⟨wr.heap.size, 0, none⟩)], .agg #[.int .i64 (x.1.1.1 : Int), .int .i64 ((x.1.1.2 : Int) + 1)], .agg #[.int .i64 (ev t x.1.1).kind, .int .i64 (ev t x.1.1).peer, .int .i64 (ev t x.1.1).msg, .int .i64 (ev t x.1.1).time, .slice ua (ev t x.1.1).asg.length uc], undef, undef, undef, undef, undef, undef, undef, undef, undef, undef, undef, undef, undef, undef, undef, undef, undef, undef, undef, undef, undef, undef, undef, undef, undef, undef, undef], defers := [] })
        (fun x a' s A A' row hs hg hr => by obtain ⟨Bx, ua, uc, h0, hv, h1, h2, h3⟩ := hs; exact ⟨Bx, ua, uc, h0, hv, heap_kept h1 hg (fun r e => (hr r e).2), heap_kept h2 hg (fun r e => (hr r e).2), h3⟩)
        ?assign ?body ?done ?stop
      case assign =>
        rintro l pre x W K hi hK
        obtain ⟨ua, uc, hva, huc⟩ := x.2.2.sh
        have HK := Lib.hid hK
        have HI := Lib.hid hi
        have HVA := Lib.hid hva
        have hWs := hi.2.2.1.sz
        have hW7 := hi.2.2.2
        simp only [encE]
        rw [hva]
        generalize hkd : (ev t x.1.1).kind = kd
        generalize hpe : (ev t x.1.1).peer = pe
        generalize hms : (ev t x.1.1).msg = ms
        generalize hti : (ev t x.1.1).time = ti
        generalize hna : (ev t x.1.1).asg.length = na
        generalize hxp : (x.1.1.1 : Int) = xp
        generalize hxi : (x.1.1.2 : Int) = xi
        have HG := Lib.hid (And.intro hkd (And.intro hpe (And.intro hms (And.intro hti (And.intro hna (And.intro hxp hxi))))))
        clear hK hi hva hkd hpe hms hti hna hxp hxi huc hi0 hc6
        gi_wp2
        obtain ⟨rfl, rfl, rfl, rfl, rfl, rfl, rfl⟩ := HG.out
        have g0 := heap_alloc_new W (idO (x.1.1.1 : Int) ((x.1.1.2 : Int) + 1))
        have g1 := heap_new_eq (w := W.alloc (idO (x.1.1.1 : Int) ((x.1.1.2 : Int) + 1))) (o := evO (ev t x.1.1).kind (ev t x.1.1).peer (ev t x.1.1).msg (ev t x.1.1).time (.slice ua (ev t x.1.1).asg.length uc)) (b := W.heap.size + 1) (by simp)
        refine HK.out _ _ (((KeepsOthers.alloc _ _).trans (KeepsOthers.alloc _ _)).from _) (((Below.refl w.heap.size W).alloc hWs _).alloc (by simp; omega) _) ((fltI_own t w _ w.heap.size (Nat.le_refl _)).alloc _ ((fltI_own t w _ w.heap.size (Nat.le_refl _)).alloc _ HI.out)) ⟨W.heap.size, ua, uc, hW7, HVA.out, ((Ext.rf _).al _).hp g0, g1, rfl⟩
      case body =>
        rintro l pre x a' W hl ⟨r, hr⟩ hI ⟨Bx, ua, uc, hB7, hva, hb0, hb1, rfl⟩ hlt
        obtain ⟨⟨i0, i1, i2⟩, hok, hE, hz⟩ := hI
        have hA := x.2.2
        rw [hva] at hA
        have hin := x.2.1
        have hcall := eventFaultP_calls (.slice ta N tc) (.slice ua (ev t x.1.1).asg.length uc) t x.1.1.1 x.1.1.2 ((x.1.1.2 : Int) + 1) rfl (ev t x.1.1) W (HT.out.ext hE) HS.out hin.1 hin.2 rfl (hA.ext rasg_lasts hE)
        have HCALL := Lib.hid hcall
        have HIN := Lib.hid hin
        have HOK := Lib.hid hok
        have HEW := Lib.hid hE
        have h0 := Lib.hid i0
        have h1 := Lib.hid i1
        have h2 := Lib.hid i2
        have hx := Lib.hid hb0
        have hy := Lib.hid hb1
        clear hr hlt hva hok hE i0 i1 i2 hb0 hb1 hi0 hc6 hA hin hcall
        have c1 := cellOf h1.out 0
        have c1b := cellOf h1.out 1
        have c2 := cellOf h2.out 0
        have f1 := freeOf h1.out 0
        have f1b := freeOf h1.out 1
        have f2 := freeOf h2.out 0
        have t0 := cellOf h0.out 0
        have x0 := cellOf hx.out 0
        have x1 := cellOf hx.out 1
        have y0 := cellOf hy.out 0
        have y1 := cellOf hy.out 1
        have y2 := cellOf hy.out 2
        have y3 := cellOf hy.out 3
        have y4 := cellOf hy.out 4
        simp only [List.getElem?_toArray, List.getElem?_cons_zero, List.getElem?_cons_succ] at c1 c1b c2 t0 x0 x1 y0 y1 y2 y3 y4
        generalize hxx : x.1.1 = xx at *
        have HXX := Lib.hid hxx
        generalize ev t xx = y at *
        generalize y.asg.length = na at *
        obtain ⟨xp, xi⟩ := xx
        simp only at *
        clear hxx
        gi_wp2_with fail
        clear c1 c1b c2 f1 f1b f2 t0 x0 x1 y0 y1 y2 y3 y4
        refine ⟨trivial, (CallsIn.inRound l ((callsIn_wide (n := 9 - 1 - 1 - 1)).2 HCALL.out)).mono ?_⟩
        rintro e W3 ⟨E, rfl, hE5, hX5⟩
        have HYE := Lib.hid hE5
        have HX5 := Lib.hid hX5
        have HZ0 := Lib.hid (hX5.hp h0.out)
        have HZ1 := Lib.hid (hX5.hp h1.out)
        have HZ2 := Lib.hid (hX5.hp h2.out)
        have HZX := Lib.hid (hX5.hp hx.out)
        have HE5 := Lib.hid (HEW.out.trans' hX5)
        clear hE5 hX5
        by_cases hE0 : E = 0
        · subst hE0
          have HBP := Lib.hid (HYE.out.1 rfl)
          gi_wp2
          exact ⟨ext_keeps HX5.out, HX5.out.mono HEW.out.size, ⟨HZ0.out, HZ1.out, HZ2.out⟩, fun y hy => by
            rw [nms_snoc, HXX.out] at hy
            rcases List.mem_append.1 hy with hy | hy
            · exact HOK.out y hy
            · rw [List.mem_singleton] at hy; subst hy; exact HBP.out, HE5.out, Nat.le_trans hz HX5.out.size⟩
        · have c9 : (E != 0) = true := by simp [hE0]
          have HNE := Lib.hid hE0
          have HSF := Lib.hid (show shapeB t = false from by
            rw [Bool.eq_false_iff]; intro hv
            have := (HSP.out.1 hv).2.2.2 xp (by rw [← HL.out]; exact HIN.out.1) xi HIN.out.2
            exact hE0 (HYE.out.2 this))
          clear hE0
          have c1 := cellOf HZ1.out 0
          have c1b := cellOf HZ1.out 1
          have c2 := cellOf HZ2.out 0
          have f1 := freeOf HZ1.out 0
          have f1b := freeOf HZ1.out 1
          have f2 := freeOf HZ2.out 0
          have x0 := cellOf HZX.out 0
          have x1 := cellOf HZX.out 1
          simp only [List.getElem?_toArray, List.getElem?_cons_zero, List.getElem?_cons_succ] at c1 c1b c2 x0 x1
          gi_wp2
          obtain ⟨r1, r2, ro⟩ := two_res HZ1.out HZ2.out (.int .i64 (xp : Int)) (.int .i64 ((xi : Int) + 1)) (.int .i64 E)
          exact ⟨(ext_keeps HX5.out).trans (((KeepsOthers.setCell _ _ _).trans ((KeepsOthers.setCell _ _ _).trans (KeepsOthers.setCell _ _ _))).from _), rfl, HSF.out, ⟨_, _, E, HNE.out, r1, r2⟩, res_ext HE5.out _ _ _⟩
      case done =>
        rintro D ys W hD hys hI hK
        obtain ⟨⟨i0, i1, i2⟩, hok, hE, hz⟩ := hI
        have HSH := Lib.hid (show shapeB t = true from HSP.out.2 ⟨HN8.out.1, HN8.out.2, A.out, fun q hq j hj => hok (q, j) (by rw [hys]; exact mem_ids.2 ⟨by simp only; rw [HL.out]; exact hq, hj⟩)⟩)
        have HFO := Lib.hid (show ∀ x, Inn t x → formedB t.length x.1 (ev t x) = true from fun x hx => (eventB_parts.1 ((HSP.out.1 HSH.out).2.2.2 x.1 (by have := hx.1; rw [HL.out] at this; exact this) x.2 hx.2)).1)
        have HMC := Lib.hid (messageP_calls (.slice ta N tc) t W (HT.out.ext hE) HS.out HFO.out)
        have h0 := Lib.hid i0
        have h1 := Lib.hid i1
        have h2 := Lib.hid i2
        have HEW := Lib.hid hE
        have HKD := Lib.hid hK
        have t0 := cellOf i0 0
        simp only [List.getElem?_toArray, List.getElem?_cons_zero] at t0
        clear hi0 hc6 hys hok hE hK i0 i1 i2
        gi_wp2_with fail
        clear t0
        refine ⟨trivial, ((callsIn_wide (n := 9 - 1)).2 HMC.out).mono ?_⟩
        rintro e W2 ⟨pv, a, b, E, rfl, hE5, hX5, hL5⟩
        have HYE := Lib.hid hE5
        have HLT := Lib.hid hL5
        have HZ0 := Lib.hid (hX5.hp h0.out)
        have HZ1 := Lib.hid (hX5.hp h1.out)
        have HZ2 := Lib.hid (hX5.hp h2.out)
        have HKD2 := Lib.hid (hX5.hp HKD.out)
        have HE5 := Lib.hid (HEW.out.trans' hX5)
        have hW2 : w.heap.size + 4 ≤ W2.heap.size := Nat.le_trans hz hX5.size
        clear hE5 hX5 hL5
        have HXT := Lib.hid ((Ext.rf W2).al (idO a b))
        have HB6 := Lib.hid (heap_alloc_new W2 (idO a b))
        have c1 := cellOf HZ1.out 0
        have c1b := cellOf HZ1.out 1
        have c2 := cellOf HZ2.out 0
        have f1 := freeOf HZ1.out 0
        have f1b := freeOf HZ1.out 1
        have f2 := freeOf HZ2.out 0
        have t0 := cellOf HZ0.out 0
        simp only [List.getElem?_toArray, List.getElem?_cons_zero, List.getElem?_cons_succ] at c1 c1b c2 t0
        have n1 : w.heap.size + 1 < W2.heap.size := by omega
        have n2 : w.heap.size + 1 ≠ W2.heap.size := by omega
        have n3 : w.heap.size + 1 + 1 < W2.heap.size := by omega
        have n4 : w.heap.size + 1 + 1 ≠ W2.heap.size := by omega
        have n5 : w.heap.size < W2.heap.size := by omega
        have n6 : w.heap.size ≠ W2.heap.size := by omega
        by_cases hE0 : E = 0
        · subst hE0
          obtain ⟨LB, rfl, hlet⟩ := HLT.out rfl
          have HPB := Lib.hid (HYE.out.1 rfl)
          have HCC := Lib.hid (cyclicP_calls (.slice ta N tc) t LB (W2.alloc (idO a b)) ((HT.out.ext HE5.out).ext HXT.out) HS.out HFO.out HPB.out (hlet.ext HXT.out) (by have := ids_le HSH.out; omega))
          clear hlet
          gi_wp2_with fail
          clear c1 c1b c2 f1 f1b f2 t0 n1 n2 n3 n4 n5 n6
          refine ⟨trivial, ((callsIn_wide (n := 9 - 1)).2 HCC.out).mono ?_⟩
          rintro e W5 ⟨a2, b2, cy, rfl, hcy, hX6⟩
          have HCY := Lib.hid hcy
          have HQ1 := Lib.hid (hX6.hp (HXT.out.hp HZ1.out))
          have HQ2 := Lib.hid (hX6.hp (HXT.out.hp HZ2.out))
          have HQK := Lib.hid (hX6.hp (HXT.out.hp HKD2.out))
          have HQE := Lib.hid (HE5.out.trans' (HXT.out.trans' hX6))
          have hW5 : w.heap.size + 4 ≤ W5.heap.size := Nat.le_trans hW2 (Nat.le_trans HXT.out.size hX6.size)
          clear hcy hX6
          have HXT2 := Lib.hid ((Ext.rf W5).al (idO a2 b2))
          have HB7 := Lib.hid (heap_alloc_new W5 (idO a2 b2))
          have c1 := cellOf HQ1.out 0
          have c1b := cellOf HQ1.out 1
          have c2 := cellOf HQ2.out 0
          have f1 := freeOf HQ1.out 0
          have f1b := freeOf HQ1.out 1
          have f2 := freeOf HQ2.out 0
          simp only [List.getElem?_toArray, List.getElem?_cons_zero, List.getElem?_cons_succ] at c1 c1b c2
          have n1 : w.heap.size + 1 < W5.heap.size := by omega
          have n2 : w.heap.size + 1 ≠ W5.heap.size := by omega
          have n3 : w.heap.size + 1 + 1 < W5.heap.size := by omega
          have n4 : w.heap.size + 1 + 1 ≠ W5.heap.size := by omega
          cases cy with
          | true =>
            have HVF := Lib.hid (show validT t = false from by
              rw [Bool.eq_false_iff]; intro hv; exact (validT_parts.1 hv).2.2 (HCY.out.1 rfl))
            gi_wp2
            obtain ⟨q1, q2, qo⟩ := two_res HQ1.out HQ2.out (.int .i64 a2) (.int .i64 b2) (.int .i64 10)
            have hE8 := res_ext HQE.out (.int .i64 a2) (.int .i64 b2) (.int .i64 10)
            have hK8 := (qo D (by omega) (by omega)).trans HQK.out
            have r1 := ((Ext.rf _).al (idO a2 b2)).hp q1
            have r2 := ((Ext.rf _).al (idO a2 b2)).hp q2
            have hK4 := ((Ext.rf _).al (idO a2 b2)).hp hK8
            have hE9 := hE8.al (idO a2 b2)
            refine ⟨by simp, .inl ⟨_, _, rfl, run_takeDeferred hK4, ?_⟩⟩
            obtain ⟨s1, s1b, s2, hE5⟩ := ret_marks r1 r2 hK4 hE9 (by omega)
            exact ⟨.tuple #[.agg #[.int .i64 a2, .int .i64 b2], .int .i64 10], by simp [results, Tryz.results87, go_sem, s1, s1b, s2], ⟨_, _, _, rfl, ⟨fun h => absurd h (by decide), fun h => by rw [HVF.out] at h; exact absurd h (by decide)⟩, hE5⟩⟩
          | false =>
            have HVF := Lib.hid (show validT t = true from validT_parts.2 ⟨HSH.out, HPB.out, fun hc => by have := HCY.out.2 hc; exact absurd this (by decide)⟩)
            gi_wp2
            obtain ⟨q1, q2, qo⟩ := two_res HQ1.out HQ2.out (.int .i64 0) (.int .i64 0) (.int .i64 0)
            have hE8 := res_ext HQE.out (.int .i64 0) (.int .i64 0) (.int .i64 0)
            have hK8 := (qo D (by omega) (by omega)).trans HQK.out
            have r1 := ((Ext.rf _).al (idO a2 b2)).hp q1
            have r2 := ((Ext.rf _).al (idO a2 b2)).hp q2
            have hK4 := ((Ext.rf _).al (idO a2 b2)).hp hK8
            have hE9 := hE8.al (idO a2 b2)
            refine ⟨by simp, .inl ⟨_, _, rfl, run_takeDeferred hK4, ?_⟩⟩
            obtain ⟨s1, s1b, s2, hE5⟩ := ret_marks r1 r2 hK4 hE9 (by omega)
            exact ⟨.tuple #[.agg #[.int .i64 0, .int .i64 0], .int .i64 0], by simp [results, Tryz.results87, go_sem, s1, s1b, s2], ⟨_, _, _, rfl, ⟨fun _ => HVF.out, fun _ => rfl⟩, hE5⟩⟩
        · have c9 : (E != 0) = true := by simp [hE0]
          have HNE := Lib.hid hE0
          have HVF := Lib.hid (show validT t = false from by
            rw [Bool.eq_false_iff]; intro hv; exact HNE.out (HYE.out.2 (validT_parts.1 hv).2.1))
          clear hE0
          gi_wp2
          obtain ⟨q1, q2, qo⟩ := two_res HZ1.out HZ2.out (.int .i64 a) (.int .i64 b) (.int .i64 E)
          have hE8 := res_ext HE5.out (.int .i64 a) (.int .i64 b) (.int .i64 E)
          have hK8 := (qo D (by omega) (by omega)).trans HKD2.out
          have r1 := ((Ext.rf _).al (idO a b)).hp q1
          have r2 := ((Ext.rf _).al (idO a b)).hp q2
          have hK4 := ((Ext.rf _).al (idO a b)).hp hK8
          have hE9 := hE8.al (idO a b)
          refine ⟨by simp, .inl ⟨_, _, rfl, run_takeDeferred hK4, ?_⟩⟩
          obtain ⟨s1, s1b, s2, hE5⟩ := ret_marks r1 r2 hK4 hE9 (by omega)
          exact ⟨.tuple #[.agg #[.int .i64 a, .int .i64 b], .int .i64 E], by simp [results, Tryz.results87, go_sem, s1, s1b, s2], ⟨_, _, _, rfl, ⟨fun h => absurd h HNE.out, fun h => by rw [HVF.out] at h; exact absurd h (by decide)⟩, hE5⟩⟩
      case stop =>
        rintro D c pre W hD hpre ⟨rfl, hsh, ⟨a, b, E, hE0, i1, i2⟩, hE⟩ hK
        have h1 := Lib.hid i1
        have h2 := Lib.hid i2
        have HEW := Lib.hid hE
        have HKD := Lib.hid hK
        have HSH := Lib.hid hsh
        clear hi0 hc6 hsh hpre hE hK i1 i2
        gi_wp2
        refine ⟨by simp, .inl ⟨_, _, rfl, run_takeDeferred HKD.out, ?_⟩⟩
        have hg := grownBy_putObj' W D (.deferred none)
        have hr : ∀ r, some D = some r → ∃ o : Obj, W.heap[r]? = some o ∧ o.isCells = false := fun r e => by cases e; exact ⟨_, HKD.out, rfl⟩
        have s1 := cellOf (heap_kept h1.out hg hr) 0
        have s1b := cellOf (heap_kept h1.out hg hr) 1
        have s2 := cellOf (heap_kept h2.out hg hr) 0
        simp only [List.getElem?_toArray, List.getElem?_cons_zero, List.getElem?_cons_succ] at s1 s1b s2
        have hE5 : Ext w (W.putObj D (.deferred none)) := (HEW.out.grown hg HEW.out.size (fun k e => by cases e; omega))
        refine ⟨.tuple #[.agg #[.int .i64 a, .int .i64 b], .int .i64 E], by simp [results, Tryz.results87, go_sem, s1, s1b, s2], ⟨a, b, E, rfl, ⟨fun h => absurd h hE0, fun h => ?_⟩, hE5⟩⟩
        have := (validT_parts.1 h).1
        rw [HSH.out] at this
        exact absurd this (by decide)

set_option maxHeartbeats 2000000 in
theorem validP_calls (v : Value) (t : Tr) (w : World) (h : TrAt w v t) (hs : LooseTr t) : Calls Tryz.prog 64 #[.agg #[v]] w fun e w' => e = .returned (.bool (validT t)) ∧ Ext w w' := by
  have HFC := Lib.hid (fun W (hW : Ext w W) => faultP_calls v t W (h.ext hW) hs)
  obtain ⟨ta, tc, rfl, htc⟩ := h.sh
  generalize t.length = N at *
  have HE1 := Lib.hid ((Ext.rf w).al (.cells #[.slice ta N tc] 24))
  clear h hs
  obtain ⟨vt, hvt⟩ : ∃ b, validT t = b := ⟨_, rfl⟩
  rw [hvt]
  have HVT := Lib.hid hvt
  clear hvt
  go_enter Tryz.func64, Tryz.ntmps64
  go_wp2_with fail
  refine (HFC.out _ HE1.out).mono ?_
  rintro e w2 ⟨a, b, E, rfl, hE, hX⟩
  rw [HVT.out] at hE
  have HX := Lib.hid (HE1.out.trans' hX)
  have HE := Lib.hid hE
  clear hE hX
  obtain ⟨c, hc⟩ : ∃ c, (E == 0) = c := ⟨_, rfl⟩
  have HC := Lib.hid hc
  go_wp2
  go_ret
  have e : vt = c := by
    have h1 := HE.out
    have h2 := HC.out
    cases c <;> cases vt <;> simp_all
  subst e
  exact ⟨rfl, HX.out.al _⟩

end Go.Proofs.YtfcpnggdpaeldaaGreat
