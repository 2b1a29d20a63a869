import Derived.Test.YtbpdbikphlhaiaaGreatDoorGa
import Derived.Test.YtbpdbikphlhaiaaGreatDoorProg
import Derived.Test.YtbpdbikphlhaiaaGreatDoorGf
import Derived.Test.YtbpdbikphlhaiaaGreatDoorGb
import Derived.Test.YtbpdbikphlhaiaaGreatDoorGc
import Derived.Test.YtbpdbikphlhaiaaGreatDoorGe
import Derived.BigQuiet
import Derived.Deep.QuietTactic
import Derived.Deep.LoopGhost
import Derived.Shelf.Abstract
import Derived.Laws.EntriesVeiled
namespace Go.Proofs.YtbpdbikphlhaiaaGreatDoor
open Go.RowKit
set_option linter.unusedVariables false
attribute [local go_sem ↓] Go.wp_at_zero Go.wp_at_succ
theorem shapeB_parts2 {t : Tr} : shapeB t = true ↔ 1 ≤ t.length ∧ t.length ≤ 8 ∧ (∀ p, p < t.length → headB t p = true) ∧ ∀ p, p < t.length → ∀ i, i < t[p]!.events.length → eventB t p i = true := by
 simp only [shapeB, Bool.and_eq_true, decide_eq_true_eq, range_all]
theorem validT_parts2 {t : Tr} : validT t = true ↔ shapeB t = true ∧ pairB t = true ∧ ¬ Cyc t := by
 simp only [validT, Bool.and_eq_true, decide_eq_true_eq]
theorem cdec_true {p : Prop} (h : @decide p (Classical.propDecidable p) = true) : p := @of_decide_eq_true p (Classical.propDecidable p) h
theorem cdec_false {p : Prop} (h : @decide p (Classical.propDecidable p) = false) : ¬ p := @of_decide_eq_false p (Classical.propDecidable p) h
theorem formed_peer {n p : Nat} {y : Ev} (h : formedB n p y = true) (hk : y.kind ≠ 1) : 0 ≤ y.peer ∧ y.peer < n := by
 unfold formedB at h
 rw [if_neg hk] at h
 simp only [Bool.and_eq_true, decide_eq_true_eq] at h
 exact ⟨h.2.1, h.2.2.1⟩
def FaultOutR (t : Tr) (w w' : World) (e : Ending) : Prop := ∃ (a b E : Int), e = .returned (.tuple #[.agg #[.int .i64 a, .int .i64 b], .int .i64 E]) ∧ (E = 0 ↔ validT t = true) ∧ Ext w w'
set_option maxHeartbeats 8000000 in
set_option maxRecDepth 100000 in
theorem faultR_of (v : Value) (t : Tr) (w : World) (h : TrAt w v t) (hs : LooseTr t)
  (HPA : SmallTr t → ∀ W p i, Ext w W → Inn t (p, i) → (∀ y, Inn t y → (ev t y).kind = 3 → ∃ s, findE t 2 (ev t y).msg = some s) → Calls Tryz.prog 47 #[.agg #[v], .agg #[.int .i64 p, .int .i64 ((i : Int) + 1)]] W fun e w' => PastOut t (p, i) W w' e) :
  Calls Tryz.prog 25 #[.agg #[v]] w fun e w' => FaultOutR t w w' e := by
 have HT := Lib.hid h
 have HS0 := Lib.hid hs
 have HPAST0 := Lib.hid HPA
 have HHD := Lib.hid (fun W (hW : Ext w W) p (hp : p < t.length) => headR_calls v t p W (h.ext hW) hs hp)
 have HFO0 := Lib.hid (fun (hsm : SmallTr t) W (hW : Ext w W) p i (hp : p < t.length) (hi : i < t[p]!.events.length) => formR_calls v t p i W (h.ext hW) hsm hp hi)
 have HPR0 := Lib.hid (fun (hsm : SmallTr t) W (hW : Ext w W) p i (hx : Inn t (p, i)) (hf : formedB t.length p (ev t (p, i)) = true) => pairedR_calls v t p i W (h.ext hW) hsm hx hf)
 have HAC0 := Lib.hid (fun (hsm : SmallTr t) W (hW : Ext w W) => acyclicR_calls v t W (h.ext hW) hsm)
 obtain ⟨ta, tc, rfl, htc⟩ := h.sh
 have hn1 := hs.1
 have HX0 := Lib.hid (((Ext.rf _).al (idO 0 0)).hp (heap_alloc_new w (.cells #[.slice ta t.length tc] 24)))
 have HX1 := Lib.hid (heap_new_eq (w := w.alloc (.cells #[.slice ta t.length tc] 24)) (o := idO 0 0) (b := w.heap.size + 1) (by simp))
 have HE2 : Hid (Ext w ((w.alloc (.cells #[.slice ta t.length tc] 24)).alloc (idO 0 0))) := Lib.hid (((Ext.rf w).al _).al _)
 have HVP := Lib.hid (@validT_parts2 t)
 have HSP := Lib.hid (@shapeB_parts2 t)
 generalize hln : t.length = n at *
 have HL := Lib.hid hln
 clear h hs hln HPA
 by_cases h1 : n < 1
 ·have hv : Hid (validT t = false) := Lib.hid (by rw [Bool.eq_false_iff]; intro hv; have := (HSP.out.1 (HVP.out.1 hv).1).1; omega)
  have d1 : decide ((n : Int) < 1) = true := decide_eq_true (by omega)
  have d1n : decide (n < 1) = true := decide_eq_true (by omega)
  clear h1
  go_enter Tryz.func25, Tryz.ntmps25
  go_wp2
  refine bodyPost_ret (v := .tuple #[.agg #[.int .i64 0, .int .i64 0], .int .i64 1]) (by simp [results, Tryz.results25, go_sem]) rfl ?_
  exact ⟨_, _, _, rfl, ⟨fun h => absurd h (by decide), fun h => by rw [hv.out] at h; exact absurd h (by decide)⟩, HE2.out⟩
 have d1 : decide ((n : Int) < 1) = false := decide_eq_false (by omega)
 have d1n : decide (n < 1) = false := decide_eq_false (by omega)
 by_cases h2 : 8 < n
 ·have hv : Hid (validT t = false) := Lib.hid (by rw [Bool.eq_false_iff]; intro hv; have := (HSP.out.1 (HVP.out.1 hv).1).2.1; omega)
  have d2 : decide (8 < (n : Int)) = true := decide_eq_true (by omega)
  have d2n : decide (8 < n) = true := decide_eq_true (by omega)
  go_enter Tryz.func25, Tryz.ntmps25
  go_wp2
  refine bodyPost_ret (v := .tuple #[.agg #[.int .i64 0, .int .i64 0], .int .i64 1]) (by simp [results, Tryz.results25, go_sem]) rfl ?_
  exact ⟨_, _, _, rfl, ⟨fun h => absurd h (by decide), fun h => by rw [hv.out] at h; exact absurd h (by decide)⟩, HE2.out⟩
 have d2 : decide (8 < (n : Int)) = false := decide_eq_false (by omega)
 have d2n : decide (8 < n) = false := decide_eq_false (by omega)
 go_enter Tryz.func25, Tryz.ntmps25
 go_wp2
 generalize hw2 : (w.alloc (.cells #[.slice ta n tc] 24)).alloc (idO 0 0) = w2 at *
 clear hw2
 go_loopg [4] n (fun g s4 wr => ∃ p : Nat, p ≤ n ∧ n - p ≤ g ∧ s4 = .int .i64 p ∧ Aside (∀ q, q < p → headB t q = true) ∧ Aside (Ext w2 wr))
 case atStart => exact ⟨0, Nat.zero_le _, by omega, rfl, (fun j hj => absurd hj (Nat.not_lt_zero _)), Ext.rf _⟩
 case round =>
  obtain ⟨p, hp, hg, rfl, A, HEK⟩ := hrel
  have HEW := Lib.hid (HE2.out.trans' HEK.out)
  have HY0 := Lib.hid (HEK.out.hp HX0.out)
  have HY1 := Lib.hid (HEK.out.hp HX1.out)
  have t0 := cellOf HY0.out 0
  simp only [List.getElem?_toArray, List.getElem?_cons_zero] at t0
  by_cases hlt : p < n
  ·have hltz : (p : Int) < (n : Int) := by omega
   have hpz : (0 : Int) ≤ (p : Int) := by omega
   have HC := Lib.hid (HHD.out wr HEW.out p (by first | exact hlt | (rw [HL.out]; exact hlt)))
   go_wp2_with fail
   refine HC.out.mono ?_
   rintro e w5 ⟨E, rfl, hE5, hX5⟩
   have HYE := Lib.hid hE5
   have HZ1 := Lib.hid (hX5.hp HY1.out)
   have HE5 := Lib.hid (HEW.out.trans' hX5)
   have HEK5 := Lib.hid (HEK.out.trans' hX5)
   clear hE5 hX5 t0
   by_cases hE0 : E = 0
   ·subst hE0
    have HBP := Lib.hid (HYE.out.1 rfl)
    go_wp2
    go_roundg (n - (p + 1))
    case measure => omega
    case rel =>
     refine ⟨p + 1, by omega, by omega, by go_num, (show Aside _ from fun q hq => ?_), (show Ext _ _ from HEK5.out)⟩
     by_cases e : q = p
     ·subst e; exact HBP.out
     ·exact A.out q (by omega)
   ·have c9 : (E != 0) = true := by simp [hE0]
    have hv : Hid (validT t = false) := Lib.hid (by
     rw [Bool.eq_false_iff]; intro hv; exact hE0 (HYE.out.2 ((HSP.out.1 (HVP.out.1 hv).1).2.2.1 p hlt)))
    have HNE := Lib.hid hE0
    clear hE0
    have q0 := cellOf HZ1.out 0
    have q1 := cellOf HZ1.out 1
    have g0 := freeOf HZ1.out 0
    have g1 := freeOf HZ1.out 1
    simp only [List.getElem?_toArray, List.getElem?_cons_zero, List.getElem?_cons_succ] at q0 q1
    go_wp2
    clear q0 q1 g0 g1
    have r0 := cellOf (id_set HZ1.out (.int .i64 p) (.int .i64 0)) 0
    have r1 := cellOf (id_set HZ1.out (.int .i64 p) (.int .i64 0)) 1
    simp only [List.getElem?_toArray, List.getElem?_cons_zero, List.getElem?_cons_succ] at r0 r1
    refine bodyPost_ret (v := .tuple #[.agg #[.int .i64 p, .int .i64 0], .int .i64 E]) (by simp [results, Tryz.results25, go_sem, r0, r1]) rfl ?_
    exact ⟨_, _, _, rfl, ⟨fun h => absurd h HNE.out, fun h => by rw [hv.out] at h; exact absurd h (by decide)⟩, id_ext HE5.out (by omega) _ _⟩
  ·have hltz : ¬ (p : Int) < (n : Int) := by omega
   obtain rfl : n = p := by omega
   have HHA := Lib.hid A.out
   have HS := Lib.hid (HS0.out.small (fun q hq => A.out q (by rw [HL.out] at hq; exact hq)))
   have HFO := Lib.hid (HFO0.out HS.out)
   have HPR := Lib.hid (HPR0.out HS.out)
   have HAC := Lib.hid (HAC0.out HS.out)
   have HPAST := Lib.hid (HPAST0.out HS.out)
   go_wp2
   obtain ⟨wA, rfl⟩ : ∃ x, x = wr := ⟨_, rfl⟩
   clear t0 A
   go_loopg [6] n (fun g s6 wr => ∃ p : Nat, p ≤ n ∧ n - p ≤ g ∧ s6 = .int .i64 p ∧ Aside (∀ q, q < p → ∀ i, i < t[q]!.events.length → eventB t q i = true) ∧ Aside (Ext wA wr))
   case atStart => exact ⟨0, Nat.zero_le _, by omega, rfl, (fun j hj => absurd hj (Nat.not_lt_zero _)), Ext.rf _⟩
   case round =>
    obtain ⟨p, hp, hg2, rfl, A, HEK2⟩ := hrel
    have HEW2 := Lib.hid (HEW.out.trans' HEK2.out)
    have HZ0 := Lib.hid (HEK2.out.hp HY0.out)
    have HZ1 := Lib.hid (HEK2.out.hp HY1.out)
    have t0 := cellOf HZ0.out 0
    simp only [List.getElem?_toArray, List.getElem?_cons_zero] at t0
    by_cases hlt : p < n
    ·have hltz : (p : Int) < (n : Int) := by omega
     have hpz : (0 : Int) ≤ (p : Int) := by omega
     obtain ⟨B, O, C, vv, ve, hve, hlC, hB, hn0, hv0, he0, hV, hE0⟩ := proc_at HT.out p (by rw [HL.out]; exact hlt)
     simp only [Value.slice.injEq] at hve
     obtain ⟨rfl, hzz, rfl⟩ := hve
     obtain ⟨ea, ec, rfl, hec⟩ := hE0.sh
     have hen := (HS.out.2 p (by rw [HL.out]; exact hlt)).2.1
     have HE00 := Lib.hid he0
     generalize hne : t[p]!.events.length = ne at *
     have HNE := Lib.hid hne
     clear hn0 hv0 hV hE0 hzz hne he0
     go_wp2
     clear t0
     obtain ⟨wB, rfl⟩ : ∃ x, x = wr := ⟨_, rfl⟩
     go_loopg [7] ne (fun g s7 wr => ∃ i : Nat, i ≤ ne ∧ ne - i ≤ g ∧ s7 = .int .i64 i ∧ Aside (∀ j, j < i → eventB t p j = true) ∧ Aside (Ext wB wr))
     case atStart => exact ⟨0, Nat.zero_le _, by omega, rfl, (fun j hj => absurd hj (Nat.not_lt_zero _)), Ext.rf _⟩
     case round =>
      obtain ⟨i, hi, hg3, rfl, A2, HEK3⟩ := hrel
      have HEW3 := Lib.hid (HEW2.out.trans' HEK3.out)
      have HQ0 := Lib.hid (HEK3.out.hp HZ0.out)
      have HQ1 := Lib.hid (HEK3.out.hp HZ1.out)
      have t0 := cellOf HQ0.out 0
      simp only [List.getElem?_toArray, List.getElem?_cons_zero] at t0
      have he1 := HEW3.out.cl HE00.out
      by_cases hlti : i < ne
      ·have hltz2 : (i : Int) < (ne : Int) := by omega
       have hiz : (0 : Int) ≤ (i : Int) := by omega
       have HC := Lib.hid (HFO.out wr HEW3.out p i (by first | exact hlt | (rw [HL.out]; exact hlt)) (by rw [HNE.out]; exact hlti))
       have HEB := Lib.hid (fun hv : validT t = true => (HSP.out.1 (HVP.out.1 hv).1).2.2.2 p hlt i (by rw [HNE.out]; exact hlti))
       go_wp2_with fail
       refine HC.out.mono ?_
       rintro e w5 ⟨E, rfl, hE5, hX5⟩
       have HYE := Lib.hid hE5
       have HR1 := Lib.hid (hX5.hp HQ1.out)
       have HE5 := Lib.hid (HEW3.out.trans' hX5)
       have HEK5 := Lib.hid (HEK3.out.trans' hX5)
       clear hE5 hX5 t0 he1
       by_cases hE0 : E = 0
       ·subst hE0
        have HBP := Lib.hid (HYE.out.1 rfl)
        go_wp2
        go_roundg (ne - (i + 1))
        case measure => omega
        case rel =>
         refine ⟨i + 1, by omega, by omega, by go_num, (show Aside _ from fun q hq => ?_), (show Ext _ _ from HEK5.out)⟩
         by_cases e : q = i
         ·subst e; exact HBP.out
         ·exact A2.out q (by omega)
       ·have c9 : (E != 0) = true := by simp [hE0]
        have hv : Hid (validT t = false) := Lib.hid (by
         rw [Bool.eq_false_iff]; intro hv; exact hE0 (HYE.out.2 (HEB.out hv)))
        have HNE2 := Lib.hid hE0
        clear hE0
        have q0 := cellOf HR1.out 0
        have q1 := cellOf HR1.out 1
        have g0 := freeOf HR1.out 0
        have g1 := freeOf HR1.out 1
        simp only [List.getElem?_toArray, List.getElem?_cons_zero, List.getElem?_cons_succ] at q0 q1
        go_wp2
        clear q0 q1 g0 g1
        have r0 := cellOf (id_set HR1.out (.int .i64 p) (.int .i64 ((i : Int) + 1))) 0
        have r1 := cellOf (id_set HR1.out (.int .i64 p) (.int .i64 ((i : Int) + 1))) 1
        simp only [List.getElem?_toArray, List.getElem?_cons_zero, List.getElem?_cons_succ] at r0 r1
        refine bodyPost_ret (v := .tuple #[.agg #[.int .i64 p, .int .i64 ((i : Int) + 1)], .int .i64 E]) (by simp [results, Tryz.results25, go_sem, r0, r1]) rfl ?_
        exact ⟨_, _, _, rfl, ⟨fun h => absurd h HNE2.out, fun h => by rw [hv.out] at h; exact absurd h (by decide)⟩, id_ext HE5.out (by omega) _ _⟩
      ·have hltz2 : ¬ (i : Int) < (ne : Int) := by omega
       obtain rfl : ne = i := by omega
       go_wp2
       go_roundg (n - (p + 1))
       case measure => omega
       case rel =>
        refine ⟨p + 1, by omega, by omega, by go_num, (show Aside _ from fun q hq => ?_), (show Ext _ _ from HEK2.out.trans' HEK3.out)⟩
        by_cases e : q = p
        ·subst e; intro j hj; exact A2.out j (by rw [HNE.out] at hj; exact hj)
        ·exact A.out q (by omega)
    ·have hltz : ¬ (p : Int) < (n : Int) := by omega
     obtain rfl : n = p := by omega
     have HSH := Lib.hid (show shapeB t = true from HSP.out.2 ⟨by omega, by omega, HHA.out, A.out⟩)
     go_wp2
     clear t0 A
     obtain ⟨wC, rfl⟩ : ∃ x, x = wr := ⟨_, rfl⟩
     go_loopg [9] n (fun g s0 wr => ∃ p : Nat, p ≤ n ∧ n - p ≤ g ∧ s0 = .int .i64 p ∧ Aside (∀ q, q < p → ∀ i, i < t[q]!.events.length → pairOf t (q, i) = true) ∧ Aside (Ext wC wr))
     case atStart => exact ⟨0, Nat.zero_le _, by omega, rfl, (fun j hj => absurd hj (Nat.not_lt_zero _)), Ext.rf _⟩
     case round =>
      obtain ⟨p, hp, hg2, rfl, A, HEK4⟩ := hrel
      have HEW4 := Lib.hid (HEW2.out.trans' HEK4.out)
      have HZ04 := Lib.hid (HEK4.out.hp HZ0.out)
      have HZ14 := Lib.hid (HEK4.out.hp HZ1.out)
      have t0 := cellOf HZ04.out 0
      simp only [List.getElem?_toArray, List.getElem?_cons_zero] at t0
      by_cases hlt : p < n
      ·have hltz : (p : Int) < (n : Int) := by omega
       have hpz : (0 : Int) ≤ (p : Int) := by omega
       obtain ⟨B, O, C, vv, ve, hve, hlC, hB, hn0, hv0, he0, hV, hE0⟩ := proc_at HT.out p (by rw [HL.out]; exact hlt)
       simp only [Value.slice.injEq] at hve
       obtain ⟨rfl, hzz, rfl⟩ := hve
       obtain ⟨ea, ec, rfl, hec⟩ := hE0.sh
       have hen := (HS.out.2 p (by rw [HL.out]; exact hlt)).2.1
       have HE00 := Lib.hid he0
       generalize hne : t[p]!.events.length = ne at *
       have HNE := Lib.hid hne
       clear hn0 hv0 hV hE0 hzz hne he0
       go_wp2
       clear t0
       obtain ⟨wD, rfl⟩ : ∃ x, x = wr := ⟨_, rfl⟩
       go_loopg [10] ne (fun g s0 wr => ∃ i : Nat, i ≤ ne ∧ ne - i ≤ g ∧ s0 = .int .i64 i ∧ Aside (∀ j, j < i → pairOf t (p, j) = true) ∧ Aside (Ext wD wr))
       case atStart => exact ⟨0, Nat.zero_le _, by omega, rfl, (fun j hj => absurd hj (Nat.not_lt_zero _)), Ext.rf _⟩
       case round =>
        obtain ⟨i, hi, hg3, rfl, A2, HEJ4⟩ := hrel
        have HEV4 := Lib.hid (HEW4.out.trans' HEJ4.out)
        have HQ04 := Lib.hid (HEJ4.out.hp HZ04.out)
        have HQ14 := Lib.hid (HEJ4.out.hp HZ14.out)
        have t0 := cellOf HQ04.out 0
        simp only [List.getElem?_toArray, List.getElem?_cons_zero] at t0
        have he1 := HEV4.out.cl HE00.out
        by_cases hlti : i < ne
        ·have hltz2 : (i : Int) < (ne : Int) := by omega
         have hiz : (0 : Int) ≤ (i : Int) := by omega
         have HXI := Lib.hid (show Inn t (p, i) from ⟨by rw [HL.out]; exact hlt, by show i < t[p]!.events.length; rw [HNE.out]; exact hlti⟩)
         have HXT := Lib.hid ((Ext.rf wr).al (idO (p : Int) ((i : Int) + 1)))
         have HBX := Lib.hid (heap_alloc_new wr (idO (p : Int) ((i : Int) + 1)))
         have HEX4 := Lib.hid (HEV4.out.al (idO (p : Int) ((i : Int) + 1)))
         have l0 : w.heap.size < wr.heap.size := (Array.getElem?_eq_some_iff.1 HQ04.out).1
         have l1 : w.heap.size ≠ wr.heap.size := by omega
         have HFB := Lib.hid ((eventB_parts.1 ((HSP.out.1 HSH.out).2.2.2 p hlt i (by rw [HNE.out]; exact hlti))).1)
         have HC := Lib.hid (HPR.out _ HEX4.out p i HXI.out (by have := HFB.out; rw [HL.out] at this; exact this))
         go_wp2_with fail
         clear t0 he1
         refine HC.out.mono ?_
         rintro e w5 ⟨E, rfl, hE5, hX5⟩
         have HYE := Lib.hid hE5
         have HR1 := Lib.hid (hX5.hp (HXT.out.hp HQ14.out))
         have HR2 := Lib.hid (hX5.hp HBX.out)
         have HE5 := Lib.hid (HEX4.out.trans' hX5)
         have HEK5 := Lib.hid (HEJ4.out.trans' (HXT.out.trans' hX5))
         clear hE5 hX5
         by_cases hE0 : E = 0
         ·subst hE0
          have HBP := Lib.hid (HYE.out.1 rfl)
          go_wp2
          go_roundg (ne - (i + 1))
          case measure => omega
          case rel =>
           refine ⟨i + 1, by omega, by omega, by go_num, (show Aside _ from fun q hq => ?_), (show Ext _ _ from HEK5.out)⟩
           by_cases e : q = i
           ·subst e; exact HBP.out
           ·exact A2.out q (by omega)
         ·have c9 : (E != 0) = true := by simp [hE0]
          have hv : Hid (validT t = false) := Lib.hid (by
           rw [Bool.eq_false_iff]; intro hv
           exact hE0 (HYE.out.2 (List.all_eq_true.1 (HVP.out.1 hv).2.1 (p, i) (mem_ids.2 HXI.out))))
          have HNE2 := Lib.hid hE0
          clear hE0
          have z0 := cellOf HR2.out 0
          have z1 := cellOf HR2.out 1
          simp only [List.getElem?_toArray, List.getElem?_cons_zero, List.getElem?_cons_succ] at z0 z1
          have q0 := cellOf HR1.out 0
          have q1 := cellOf HR1.out 1
          have g0 := freeOf HR1.out 0
          have g1 := freeOf HR1.out 1
          simp only [List.getElem?_toArray, List.getElem?_cons_zero, List.getElem?_cons_succ] at q0 q1
          go_wp2
          clear q0 q1 g0 g1
          have r0 := cellOf (id_set HR1.out (.int .i64 p) (.int .i64 ((i : Int) + 1))) 0
          have r1 := cellOf (id_set HR1.out (.int .i64 p) (.int .i64 ((i : Int) + 1))) 1
          simp only [List.getElem?_toArray, List.getElem?_cons_zero, List.getElem?_cons_succ] at r0 r1
          refine bodyPost_ret (v := .tuple #[.agg #[.int .i64 p, .int .i64 ((i : Int) + 1)], .int .i64 E]) (by simp [results, Tryz.results25, go_sem, r0, r1]) rfl ?_
          exact ⟨_, _, _, rfl, ⟨fun h => absurd h HNE2.out, fun h => by rw [hv.out] at h; exact absurd h (by decide)⟩, id_ext HE5.out (by omega) _ _⟩
        ·have hltz2 : ¬ (i : Int) < (ne : Int) := by omega
         obtain rfl : ne = i := by omega
         go_wp2
         go_roundg (n - (p + 1))
         case measure => omega
         case rel =>
          refine ⟨p + 1, by omega, by omega, by go_num, (show Aside _ from fun q hq => ?_), (show Ext _ _ from HEK4.out.trans' HEJ4.out)⟩
          by_cases e : q = p
          ·subst e; intro j hj; exact A2.out j (by rw [HNE.out] at hj; exact hj)
          ·exact A.out q (by omega)
      ·have hltz : ¬ (p : Int) < (n : Int) := by omega
       obtain rfl : n = p := by omega
       have HPB := Lib.hid (show pairB t = true from List.all_eq_true.2 fun x hx => by
        have hI := mem_ids.1 hx
        exact A.out x.1 (by have := hI.1; rw [HL.out] at this; exact this) x.2 hI.2)
       have HSD := Lib.hid (show ∀ y, Inn t y → (ev t y).kind = 3 → ∃ s, findE t 2 (ev t y).msg = some s from fun y hy hk => send_of (fun x hx h1 => by
        have h9 := (eventB_parts.1 ((HSP.out.1 HSH.out).2.2.2 x.1 (by have := hx.1; rw [HL.out] at this; exact this) x.2 hx.2)).1
        exact formed_peer h9 h1) HPB.out hy hk)
       have HCA := Lib.hid (HAC.out _ HEW4.out)
       go_wp2_with fail
       clear t0 A
       refine HCA.out.mono ?_
       rintro e w5 ⟨ca, rfl, hca, hX5⟩
       have HY05 := Lib.hid (hX5.hp HZ04.out)
       have HY15 := Lib.hid (hX5.hp HZ14.out)
       have HEW5 := Lib.hid (HEW4.out.trans' hX5)
       have HCAC := Lib.hid hca
       clear hX5 hca
       cases ca with
       | true =>
         have hv : Hid (validT t = true) := Lib.hid (HVP.out.2 ⟨HSH.out, HPB.out, HCAC.out rfl⟩)
         have q0 := cellOf HY15.out 0
         have q1 := cellOf HY15.out 1
         have g0 := freeOf HY15.out 0
         have g1 := freeOf HY15.out 1
         simp only [List.getElem?_toArray, List.getElem?_cons_zero, List.getElem?_cons_succ] at q0 q1
         go_wp2
         clear q0 q1 g0 g1
         have r0 := cellOf (id_set HY15.out (.int .i64 0) (.int .i64 0)) 0
         have r1 := cellOf (id_set HY15.out (.int .i64 0) (.int .i64 0)) 1
         simp only [List.getElem?_toArray, List.getElem?_cons_zero, List.getElem?_cons_succ] at r0 r1
         refine bodyPost_ret (v := .tuple #[.agg #[.int .i64 0, .int .i64 0], .int .i64 0]) (by simp [results, Tryz.results25, go_sem, r0, r1]) rfl ?_
         exact ⟨_, _, _, rfl, ⟨fun _ => hv.out, fun _ => rfl⟩, id_ext HEW5.out (by omega) _ _⟩
       | false =>
       have t0 := cellOf HY05.out 0
       simp only [List.getElem?_toArray, List.getElem?_cons_zero] at t0
       go_wp2
       clear t0
       obtain ⟨wr, rfl⟩ : ∃ x, x = w5 := ⟨_, rfl⟩
       obtain ⟨wE, rfl⟩ : ∃ x, x = wr := ⟨_, rfl⟩
       go_loopg [13] n (fun g s0 wr => ∃ p : Nat, p ≤ n ∧ n - p ≤ g ∧ s0 = .int .i64 p ∧ Aside (∀ q, q < p → ∀ i, i < t[q]!.events.length → ¬ Relation.TransGen (Dir t) (q, i) (q, i)) ∧ Aside (Ext wE wr))
       case atStart => exact ⟨0, Nat.zero_le _, by omega, rfl, (fun j hj => absurd hj (Nat.not_lt_zero _)), Ext.rf _⟩
       case round =>
        obtain ⟨p, hp, hg2, rfl, A, HEK6⟩ := hrel
        have HEW6 := Lib.hid (HEW5.out.trans' HEK6.out)
        have HZ06 := Lib.hid (HEK6.out.hp HY05.out)
        have HZ16 := Lib.hid (HEK6.out.hp HY15.out)
        have t0 := cellOf HZ06.out 0
        simp only [List.getElem?_toArray, List.getElem?_cons_zero] at t0
        by_cases hlt : p < n
        ·have hltz : (p : Int) < (n : Int) := by omega
         have hpz : (0 : Int) ≤ (p : Int) := by omega
         obtain ⟨B, O, C, vv, ve, hve, hlC, hB, hn0, hv0, he0, hV, hE0⟩ := proc_at HT.out p (by rw [HL.out]; exact hlt)
         simp only [Value.slice.injEq] at hve
         obtain ⟨rfl, hzz, rfl⟩ := hve
         obtain ⟨ea, ec, rfl, hec⟩ := hE0.sh
         have hen := (HS.out.2 p (by rw [HL.out]; exact hlt)).2.1
         have HE00 := Lib.hid he0
         generalize hne : t[p]!.events.length = ne at *
         have HNE := Lib.hid hne
         clear hn0 hv0 hV hE0 hzz hne he0
         go_wp2
         clear t0
         obtain ⟨wF, rfl⟩ : ∃ x, x = wr := ⟨_, rfl⟩
         go_loopg [14] ne (fun g s0 wr => ∃ i : Nat, i ≤ ne ∧ ne - i ≤ g ∧ s0 = .int .i64 i ∧ Aside (∀ j, j < i → ¬ Relation.TransGen (Dir t) (p, j) (p, j)) ∧ Aside (Ext wF wr))
         case atStart => exact ⟨0, Nat.zero_le _, by omega, rfl, (fun j hj => absurd hj (Nat.not_lt_zero _)), Ext.rf _⟩
         case round =>
          obtain ⟨i, hi, hg3, rfl, A2, HEJ6⟩ := hrel
          have HEV6 := Lib.hid (HEW6.out.trans' HEJ6.out)
          have HQ06 := Lib.hid (HEJ6.out.hp HZ06.out)
          have HQ16 := Lib.hid (HEJ6.out.hp HZ16.out)
          have t0 := cellOf HQ06.out 0
          simp only [List.getElem?_toArray, List.getElem?_cons_zero] at t0
          have he1 := HEV6.out.cl HE00.out
          by_cases hlti : i < ne
          ·have hltz2 : (i : Int) < (ne : Int) := by omega
           have hiz : (0 : Int) ≤ (i : Int) := by omega
           have HXI := Lib.hid (show Inn t (p, i) from ⟨by rw [HL.out]; exact hlt, by show i < t[p]!.events.length; rw [HNE.out]; exact hlti⟩)
           have HXT := Lib.hid ((Ext.rf wr).al (idO (p : Int) ((i : Int) + 1)))
           have HBX := Lib.hid (heap_alloc_new wr (idO (p : Int) ((i : Int) + 1)))
           have HEX6 := Lib.hid (HEV6.out.al (idO (p : Int) ((i : Int) + 1)))
           have l0 : w.heap.size < wr.heap.size := (Array.getElem?_eq_some_iff.1 HQ06.out).1
           have l1 : w.heap.size ≠ wr.heap.size := by omega
           have HC := Lib.hid (HPAST.out _ p i HEX6.out HXI.out HSD.out)
           go_wp2_with fail
           clear t0 he1
           refine HC.out.mono ?_
           rintro e w5 ⟨pb, po, pc, Bs, rfl, hpc, hpb, hX5, hcells⟩
           obtain ⟨hq0, hq1, hq2⟩ := hcells p (by rw [HL.out]; exact hlt)
           have hq3 := hq2 i (by rw [HNE.out]; exact hlti)
           rw [HNE.out] at hq0
           rw [HL.out] at hpc ⊢
           have HR1 := Lib.hid (hX5.hp (HXT.out.hp HQ16.out))
           have HR2 := Lib.hid (hX5.hp HBX.out)
           have HE5 := Lib.hid (HEX6.out.trans' hX5)
           have HEK5 := Lib.hid (HEJ6.out.trans' (HXT.out.trans' hX5))
           clear hX5 hcells hq2
           generalize Bs[p]! = bq at *
           obtain ⟨cy, hcy⟩ : ∃ c : Bool, @decide (Relation.TransGen (Dir t) (p, i) (p, i)) (Classical.propDecidable _) = c := ⟨_, rfl⟩
           rw [hcy] at hq3
           have HCY := Lib.hid hcy
           clear hcy
           have hpi2 : (p : Int) < (n : Int) := by omega
           have hii2 : (i : Int) + 1 < (ne : Int) + 1 := by omega
           cases cy with
           | true =>
             have hv : Hid (validT t = false) := Lib.hid (by
              rw [Bool.eq_false_iff]; intro hv; exact (HVP.out.1 hv).2.2 ⟨_, cdec_true HCY.out⟩)
             have z0 := cellOf HR2.out 0
             have z1 := cellOf HR2.out 1
             simp only [List.getElem?_toArray, List.getElem?_cons_zero, List.getElem?_cons_succ] at z0 z1
             have q0 := cellOf HR1.out 0
             have q1 := cellOf HR1.out 1
             have g0 := freeOf HR1.out 0
             have g1 := freeOf HR1.out 1
             simp only [List.getElem?_toArray, List.getElem?_cons_zero, List.getElem?_cons_succ] at q0 q1
             go_wp2
             clear q0 q1 g0 g1
             have r0 := cellOf (id_set HR1.out (.int .i64 p) (.int .i64 ((i : Int) + 1))) 0
             have r1 := cellOf (id_set HR1.out (.int .i64 p) (.int .i64 ((i : Int) + 1))) 1
             simp only [List.getElem?_toArray, List.getElem?_cons_zero, List.getElem?_cons_succ] at r0 r1
             refine bodyPost_ret (v := .tuple #[.agg #[.int .i64 p, .int .i64 ((i : Int) + 1)], .int .i64 10]) (by simp [results, Tryz.results25, go_sem, r0, r1]) rfl ?_
             exact ⟨_, _, _, rfl, ⟨fun h => absurd h (by decide), fun h => by rw [hv.out] at h; exact absurd h (by decide)⟩, id_ext HE5.out (by omega) _ _⟩
           | false =>
             go_wp2
             go_roundg (ne - (i + 1))
             case measure => omega
             case rel =>
              refine ⟨i + 1, by omega, by omega, by go_num, (show Aside _ from fun q hq => ?_), (show Ext _ _ from HEK5.out)⟩
              by_cases e : q = i
              ·subst e; exact cdec_false HCY.out
              ·exact A2.out q (by omega)
          ·have hltz2 : ¬ (i : Int) < (ne : Int) := by omega
           obtain rfl : ne = i := by omega
           go_wp2
           go_roundg (n - (p + 1))
           case measure => omega
           case rel =>
            refine ⟨p + 1, by omega, by omega, by go_num, (show Aside _ from fun q hq => ?_), (show Ext _ _ from HEK6.out.trans' HEJ6.out)⟩
            by_cases e : q = p
            ·subst e; intro j hj; exact A2.out j (by rw [HNE.out] at hj; exact hj)
            ·exact A.out q (by omega)
        ·have hltz : ¬ (p : Int) < (n : Int) := by omega
         obtain rfl : n = p := by omega
         have hv : Hid (validT t = true) := Lib.hid (HVP.out.2 ⟨HSH.out, HPB.out, fun ⟨x, hx⟩ => A.out x.1 (by have := (tg_inn hx).1; rw [HL.out] at this; exact this) x.2 (tg_inn hx).2 hx⟩)
         have q0 := cellOf HZ16.out 0
         have q1 := cellOf HZ16.out 1
         have g0 := freeOf HZ16.out 0
         have g1 := freeOf HZ16.out 1
         simp only [List.getElem?_toArray, List.getElem?_cons_zero, List.getElem?_cons_succ] at q0 q1
         go_wp2
         clear q0 q1 g0 g1
         have r0 := cellOf (id_set HZ16.out (.int .i64 0) (.int .i64 0)) 0
         have r1 := cellOf (id_set HZ16.out (.int .i64 0) (.int .i64 0)) 1
         simp only [List.getElem?_toArray, List.getElem?_cons_zero, List.getElem?_cons_succ] at r0 r1
         refine bodyPost_ret (v := .tuple #[.agg #[.int .i64 0, .int .i64 0], .int .i64 0]) (by simp [results, Tryz.results25, go_sem, r0, r1]) rfl ?_
         exact ⟨_, _, _, rfl, ⟨fun _ => hv.out, fun _ => rfl⟩, id_ext HEW6.out (by omega) _ _⟩
end Go.Proofs.YtbpdbikphlhaiaaGreatDoor
namespace Go.Proofs.YtbpdbikphlhaiaaGreatDoor
open Go.RowKit
set_option linter.unusedVariables false
def marksV (t : Tr) (M : List Eid) (q : Nat) : List Value := Value.bool false :: (List.range t[q]!.events.length).map fun i => Value.bool (decide ((q, i) ∈ M))
theorem marksV_at {t : Tr} {M : List Eid} {q i : Nat} (hi : i < t[q]!.events.length) : (marksV t M q)[i + 1]? = some (.bool (decide ((q, i) ∈ M))) := by
 unfold marksV
 rw [List.getElem?_cons_succ, List.getElem?_map, List.getElem?_range hi]
 rfl
theorem marksV_other {t : Tr} {M : List Eid} {x : Eid} {q : Nat} (h : x.1 ≠ q) : marksV t (x :: M) q = marksV t M q := by
 unfold marksV
 congr 1
 apply List.map_congr_left
 intro i _
 congr 1
 rw [decide_eq_decide]
 constructor
 ·intro h1
  rcases List.mem_cons.1 h1 with e | e
  ·exact absurd (by rw [← e]) h
  ·exact e
 ·exact List.mem_cons_of_mem _
theorem marksV_set {t : Tr} {M : List Eid} {q i : Nat} (hi : i < t[q]!.events.length) : (marksV t M q).set (i + 1) (.bool true) = marksV t ((q, i) :: M) q := by
 apply List.ext_getElem
 ·simp [marksV]
 ·intro j h1 h2
  rw [List.getElem_set]
  cases j with
  | zero => simp [marksV]
  | succ j =>
    by_cases e : j = i
    ·subst e; simp [marksV]
    ·rw [if_neg (by omega)]
     simp [marksV, e]
def hdrs (t : Tr) (Bs : List Nat) : List Value := (List.range Bs.length).map fun q => Value.slice (some ⟨Bs[q]!, 0, none⟩) (t[q]!.events.length + 1) (t[q]!.events.length + 1)
theorem hdrs_at {t : Tr} {Bs : List Nat} {q : Nat} (hq : q < Bs.length) : (hdrs t Bs)[q]? = some (Value.slice (some ⟨Bs[q]!, 0, none⟩) (t[q]!.events.length + 1) (t[q]!.events.length + 1)) := by
 unfold hdrs
 rw [List.getElem?_map, List.getElem?_range hq]
 rfl
theorem hdrs_snoc {t : Tr} {Bs : List Nat} {b : Nat} : hdrs t (Bs ++ [b]) = hdrs t Bs ++ [Value.slice (some ⟨b, 0, none⟩) (t[Bs.length]!.events.length + 1) (t[Bs.length]!.events.length + 1)] := by
 unfold hdrs
 rw [List.length_append, List.length_cons, List.length_nil, List.range_succ, List.map_append]
 congr 1
 ·apply List.map_congr_left
  intro q hq
  have hq := List.mem_range.1 hq
  rw [getElem!_pos (Bs ++ [b]) q (by simp; omega), getElem!_pos Bs q hq, List.getElem_append_left hq]
 ·simp
def Marks (w : World) (base : Nat) (eo ei : TypeId) (v : Value) (t : Tr) (n : Nat) (M : List Eid) (Bs : List Nat) : Prop :=
 Bs.length = n ∧ (∀ p q, p < n → q < n → Bs[p]! = Bs[q]! → p = q) ∧ Row w base eo 1 v n (hdrs t Bs) ∧
  ∀ q, q < n → Row w base ei 1 (.slice (some ⟨Bs[q]!, 0, none⟩) (t[q]!.events.length + 1) (t[q]!.events.length + 1)) (t[q]!.events.length + 1) (marksV t M q)
theorem Marks.ext {w w' : World} {base : Nat} {eo ei : TypeId} {v : Value} {t : Tr} {n : Nat} {M : List Eid} {Bs : List Nat} (h : Marks w base eo ei v t n M Bs) (x : Ext w w') : Marks w' base eo ei v t n M Bs :=
 ⟨h.1, h.2.1, h.2.2.1.ext x, fun q hq => (h.2.2.2 q hq).ext x⟩
theorem Marks.set {w : World} {base : Nat} {eo ei : TypeId} {v : Value} {t : Tr} {n : Nat} {M : List Eid} {Bs : List Nat} (h : Marks w base eo ei v t n M Bs) (hne : eo ≠ ei) {q i : Nat} (hq : q < n) (hi : i < t[q]!.events.length) :
  Marks (w.setCell ⟨Bs[q]!, i + 1, none⟩ (.bool true)) base eo ei v t n ((q, i) :: M) Bs := by
 refine ⟨h.1, h.2.1, ?_, fun p hp => ?_⟩
 ·refine h.2.2.1.st ?_ _
  intro e
  rcases h.2.2.1.2 with ⟨rfl, _⟩ | ⟨g, off, cap, cur, rfl, _, hg, _⟩
  ·simp [Value.ownBlock] at e
  ·have e : g = Bs[q]! := Option.some.inj e
   rcases (h.2.2.2 q hq).2 with ⟨h1, _⟩ | ⟨g', off', cap', cur', h1, _, hg', _⟩
   ·simp at h1
   ·simp only [Value.slice.injEq, Option.some.injEq, Addr.mk.injEq] at h1
    rw [← h1.1.1, ← e, hg] at hg'
    simp only [Option.some.injEq, Obj.cells.injEq] at hg'
    exact hne hg'.2.1
 ·by_cases e : p = q
  ·subst e
   have := (h.2.2.2 p hp).set (i + 1) (.bool true) (by omega)
   rw [Nat.zero_add, marksV_set hi] at this
   exact this
  ·rw [marksV_other (fun e2 => e e2.symm)]
   refine (h.2.2.2 p hp).st ?_ _
   intro e2
   exact e (h.2.1 p q hp hq (Option.some.inj e2))
end Go.Proofs.YtbpdbikphlhaiaaGreatDoor
namespace Go.Proofs.YtbpdbikphlhaiaaGreatDoor
open Go.RowKit
set_option linter.unusedVariables false
attribute [local go_sem ↓] Go.wp_at_zero Go.wp_at_succ
theorem info_bool3 : (Tryz.prog.info? 4).map (fun i => (i.zero, i.size, i.bytes)) = some (some (.bool false), 1, 1) := by kernel_rfl
theorem info_bools3 : (Tryz.prog.info? 91).map (fun i => (i.zero, i.size, i.bytes)) = some (some (.slice none 0 0), 1, 24) := by kernel_rfl
theorem Marks.more {w : World} {base : Nat} {v v' : Value} {eo ei : TypeId} {t : Tr} {n b : Nat} {Bs : List Nat} (h : ∀ q, q < n → Row w base ei 1 (.slice (some ⟨Bs[q]!, 0, none⟩) (t[q]!.events.length + 1) (t[q]!.events.length + 1)) (t[q]!.events.length + 1) (marksV t [] q)) (hl : Bs.length = n) (hd : ∀ p q, p < n → q < n → Bs[p]! = Bs[q]! → p = q) (hb : ∀ q, q < n → Bs[q]! ≠ b)
  (hr : Row w base ei 1 (.slice (some ⟨b, 0, none⟩) (t[n]!.events.length + 1) (t[n]!.events.length + 1)) (t[n]!.events.length + 1) (marksV t [] n)) (ho : Row w base eo 1 v' (n + 1) (hdrs t Bs ++ [Value.slice (some ⟨b, 0, none⟩) (t[n]!.events.length + 1) (t[n]!.events.length + 1)])) :
  Marks w base eo ei v' t (n + 1) [] (Bs ++ [b]) := by
 have g1 : ∀ q, q < n → (Bs ++ [b])[q]! = Bs[q]! := fun q hq => by
  rw [getElem!_pos (Bs ++ [b]) q (by simp; omega), getElem!_pos Bs q (by omega), List.getElem_append_left (by omega)]
 have g2 : (Bs ++ [b])[n]! = b := by
  subst hl; rw [getElem!_pos (Bs ++ [b]) Bs.length (by simp)]; simp
 refine ⟨by simp [hl], fun p q hp hq e => ?_, by rw [hdrs_snoc, hl]; exact ho, fun q hq => ?_⟩
 ·by_cases e1 : p = n
  ·by_cases e2 : q = n
   ·omega
   ·subst e1; rw [g2, g1 q (by omega)] at e; exact absurd e.symm (hb q (by omega))
  ·by_cases e2 : q = n
   ·subst e2; rw [g2, g1 p (by omega)] at e; exact absurd e (hb p (by omega))
   ·rw [g1 p (by omega), g1 q (by omega)] at e; exact hd p q (by omega) (by omega) e
 ·by_cases e1 : q = n
  ·subst e1; rw [g2]; exact hr
  ·rw [g1 q (by omega)]; exact h q (by omega)
theorem Marks.grown {w w' : World} {base : Nat} {eo ei : TypeId} {v : Value} {t : Tr} {n : Nat} {M : List Eid} {Bs : List Nat} (h : Marks w base eo ei v t n M Bs) {base' : Nat} {e' : TypeId} {size' : Nat} {v' : Value} {n' : Nat} {xs : List Value} (hr : Row w base' e' size' v' n' xs) (hg : w.grownBy w' v'.ownBlock) (h1 : eo ≠ e') (h2 : ei ≠ e') : Marks w' base eo ei v t n M Bs :=
 ⟨h.1, h.2.1, h.2.2.1.grown hg (h.2.2.1.apart hr h1), fun q hq => (h.2.2.2 q hq).grown hg ((h.2.2.2 q hq).apart hr h2)⟩
theorem ids_small {t : Tr} (hs : SmallTr t) : (ids t).length ≤ 1000000 * 1000000 := by
 have key : ∀ p, p ≤ t.length → (idsTo t p 0).length ≤ p * 1000000 := by
  intro p
  induction p with
  | zero => intro _; simp [idsTo_zero]
  | succ p ih =>
    intro hp
    rw [← idsTo_next]
    have e : idsTo t p t[p]!.events.length = idsTo t p 0 ++ (List.range t[p]!.events.length).map fun j => (p, j) := by simp [idsTo]
    rw [e, List.length_append, List.length_map, List.length_range, Nat.add_mul]
    have := ih (by omega)
    have := (hs.2 p (by omega)).2.1
    omega
 have := key t.length (Nat.le_refl _)
 exact Nat.le_trans this (Nat.mul_le_mul_right _ hs.1)
theorem unseen_le (t : Tr) (M : List Eid) : unseen t M ≤ (ids t).length := List.length_filter_le _ _
theorem bef_len (t : Tr) (x : Eid) : (bef t x).length ≤ 2 := by
 unfold bef
 rw [List.length_append]
 have h1 : (if 0 < x.2 then [(x.1, x.2 - 1)] else []).length ≤ 1 := by split <;> simp
 have h2 : (if (ev t x).kind = 3 then (findE t 2 (ev t x).msg).toList else []).length ≤ 1 := by
  split
  ·cases findE t 2 (ev t x).msg <;> simp
  ·simp
 omega
theorem eids_at : ∀ (L : List Eid) (j : Nat), j < L.length → (L.flatMap eidC)[j * 2]? = some (.int .i64 (L[j]!.1 : Int)) ∧ (L.flatMap eidC)[j * 2 + 1]? = some (.int .i64 ((L[j]!.2 : Int) + 1))
 | [], j, h => absurd h (Nat.not_lt_zero _)
 | x :: L, 0, _ => by simp [eidC]
 | x :: L, j + 1, h => by
   have ih := eids_at L j (by simpa using h)
   rw [List.flatMap_cons, show (j + 1) * 2 = j * 2 + 1 + 1 from by omega]
   simp only [eidC, List.cons_append, List.nil_append, List.getElem?_cons_succ, List.getElem!_cons_succ]
   exact ih
theorem marksV_nil {t : Tr} {q : Nat} : marksV t [] q = List.replicate (t[q]!.events.length + 1) (.bool false) := by
 unfold marksV
 rw [List.replicate_succ]
 congr 1
 apply List.ext_getElem
 ·simp
 ·intro j h1 h2; simp
set_option maxHeartbeats 8000000 in
set_option maxRecDepth 100000 in
theorem pastR_calls (v : Value) (t : Tr) (p i : Nat) (w : World) (h : TrAt w v t) (hs : SmallTr t) (hx : Inn t (p, i)) (hsd : ∀ y, Inn t y → (ev t y).kind = 3 → ∃ s, findE t 2 (ev t y).msg = some s) :
  Calls Tryz.prog 47 #[.agg #[v], .agg #[.int .i64 p, .int .i64 ((i : Int) + 1)]] w fun e w' => PastOut t (p, i) w w' e := by
 have HDI := Lib.hid (fun W (hW : Ext w W) (y : Eid) (hy : Inn t y) => directlyR_calls v t y.1 y.2 W (h.ext hW) hs hy (hsd y hy))
 have HD0 := Lib.hid (fun W (hW : Ext w W) => directlyR_calls v t p i W (h.ext hW) hs hx (hsd _ hx))
 obtain ⟨ix, hix⟩ : ∃ x : Int, (i : Int) + 1 = x := ⟨_, rfl⟩
 rw [hix]
 rw [hix] at HD0
 obtain ⟨ie, hie, iz0, iz1, iz2⟩ := info_parts info_eid
 obtain ⟨ib, hib, bz0, bz1, bz2⟩ := info_parts info_bool3
 obtain ⟨io, hio, oz0, oz1, oz2⟩ := info_parts info_bools3
 have HT := Lib.hid h
 have HS := Lib.hid hs
 have HXI := Lib.hid hx
 have HSM := Lib.hid (ids_small hs)
 obtain ⟨ta, tc, rfl, htc⟩ := h.sh
 have hn1 := hs.1
 generalize hln : t.length = n at *
 have HL := Lib.hid hln
 have HX0 := Lib.hid (((Ext.rf _).al (.cells #[.int .i64 p, .int .i64 ix] 39)).hp (heap_alloc_new w (.cells #[.slice ta n tc] 24)))
 have HX1 := Lib.hid (heap_new_eq (w := w.alloc (.cells #[.slice ta n tc] 24)) (o := .cells #[.int .i64 p, .int .i64 ix] 39) (b := w.heap.size + 1) (by simp))
 have HE2 : Hid (Ext w ((w.alloc (.cells #[.slice ta n tc] 24)).alloc (.cells #[.int .i64 p, .int .i64 ix] 39))) := Lib.hid (((Ext.rf w).al _).al _)
 clear h hs hx hsd hln hix
 go_enter Tryz.func47, Tryz.ntmps47
 go_wp2
 generalize hw2 : (w.alloc (.cells #[.slice ta n tc] 24)).alloc (.cells #[.int .i64 p, .int .i64 ix] 39) = w2 at *
 clear hw2
 go_loopg [5, 6] n (fun g s5 s6 wr => ∃ (q : Nat) (Bs : List Nat), q ≤ n ∧ n - q ≤ g ∧ s6 = .int .i64 q ∧ Aside (Marks wr w2.heap.size 91 4 s5 t q [] Bs) ∧ Aside (Ext w2 wr))
 case atStart => exact ⟨0, [], Nat.zero_le _, by omega, rfl, (show Marks _ _ _ _ _ _ _ _ _ from ⟨rfl, fun p q hp => absurd hp (Nat.not_lt_zero _), Row.mkNil _ _ _ _, fun q hq => absurd hq (Nat.not_lt_zero _)⟩), Ext.rf _⟩
 case round =>
  obtain ⟨q, Bs, hq, hg, rfl, HM, HEK⟩ := hrel
  have HEW := Lib.hid (HE2.out.trans' HEK.out)
  have HY0 := Lib.hid (HEK.out.hp HX0.out)
  have HY1 := Lib.hid (HEK.out.hp HX1.out)
  have t0 := cellOf HY0.out 0
  simp only [List.getElem?_toArray, List.getElem?_cons_zero] at t0
  by_cases hlt : q < n
  ·have hltz : (q : Int) < (n : Int) := by omega
   have hqz : (0 : Int) ≤ (q : Int) := by omega
   obtain ⟨B, O, C, vv, ve, hve, hlC, hB, hn0, hv0, he0, hV, hE0⟩ := proc_at HT.out q (by rw [HL.out]; exact hlt)
   simp only [Value.slice.injEq] at hve
   obtain ⟨rfl, hzz, rfl⟩ := hve
   obtain ⟨ea, ec, rfl, hec⟩ := hE0.sh
   have hen := (HS.out.2 q (by rw [HL.out]; exact hlt)).2.1
   have he1 := HEW.out.cl he0
   generalize hne : t[q]!.events.length = ne at *
   have HNE := Lib.hid hne
   have hsz1 := HEK.out.sz
   clear hn0 hv0 hV hE0 hzz hne he0
   go_wp2_with (first | (at_make; refine wpList_make_full _ rfl _ _ 91 rfl w2.heap.size 4 ib (.bool false) 1 Tryz.underlying91 hib bz0 bz1 .i64 .i64 _ _ (ne + 1) rfl rfl rfl rfl (by rw [bz2]; omega) (by unfold maxLen; omega) hsz1 ?_; intro w3 hown3 hgrow3; have HRN := Lib.hid (show Row w3 w2.heap.size 4 1 (.slice (some ⟨wr.heap.size, 0, none⟩) (ne + 1) (ne + 1)) (ne + 1) (marksV t [] q) from by have := Row.ofOwns hown3; rw [show (Value.bool false).cells = #[.bool false] from rfl, Nat.mul_one, toList_madeCells_one] at this; rw [marksV_nil, HNE.out]; exact this); have HX3 := Lib.hid ((Ext.rf wr).gr hgrow3 (by simp)); clear hown3 hgrow3) | (at_builtin; refine wpList_append_one rfl _ _ 92 rfl w2.heap.size 91 io (.slice none 0 0) 1 24 Tryz.underlying92 hio oz0 oz1 oz2 rfl (by decide) _ q _ rfl ((HM.out.2.2.1.ext HX3.out).al _) w3.heap.size 1 [.slice (some ⟨wr.heap.size, 0, none⟩) (ne + 1) (ne + 1)] rfl rfl ⟨_, heap_alloc_new _ _⟩ (by simp [Value.oneCell']) (by unfold maxLen; omega) (by omega) (by have := HX3.out.sz; simp; omega) ?_; intro v6 w6 hown6 hgrow6 hblk6; have HOWN := Lib.hid hown6; have HG6 := Lib.hid hgrow6; clear hown6 hgrow6 hblk6))
   go_roundg (n - (q + 1))
   case measure => omega
   case rel =>
    have hX6 : Ext w3 (w3.alloc (.cells #[.slice (some ⟨wr.heap.size, 0, none⟩) (ne + 1) (ne + 1)] 91)) := (Ext.rf w3).al _
    have hO := (HM.out.2.2.1.ext HX3.out).ext hX6
    have hnb : ∀ (base : Nat) (vv : Value) (k : Nat) (xs : List Value), Row w3 base 4 1 vv k xs → Row w6 base 4 1 vv k xs := fun base vv k xs hr => (hr.ext hX6).grown HG6.out ((hr.ext hX6).apart hO (by decide))
    refine ⟨q + 1, Bs ++ [wr.heap.size], by omega, by omega, by go_num, (show Marks _ _ _ _ _ _ _ _ _ from Marks.more (v := v6) (fun r hr => hnb _ _ _ _ ((HM.out.2.2.2 r hr).ext HX3.out)) HM.out.1 HM.out.2.1 (fun r hr => by have := ((HM.out.2.2.2 r hr).lt Bs[r]! rfl).2; omega) (hnb _ _ _ _ (by rw [HNE.out]; exact HRN.out)) (by rw [HNE.out]; exact HOWN.out)), ?_⟩
    exact (((HEK.out.trans' HX3.out).al _).gr HG6.out (fun k hk => (hO.lt k hk).1) : Ext w2 w6)
  ·have hltz : ¬ (q : Int) < (n : Int) := by omega
   obtain rfl : n = q := by omega
   have j0 := cellOf HY1.out 0
   have j1 := cellOf HY1.out 1
   simp only [List.getElem?_toArray, List.getElem?_cons_zero, List.getElem?_cons_succ] at j0 j1
   go_wp2_with fail
   clear j0 j1
   refine (HD0.out _ HEW.out).mono ?_
   rintro e w3 ⟨v7, rfl, hR7, hE7⟩
   have HR7 := Lib.hid (hR7.mono HEK.out.sz)
   have HM7 := Lib.hid (HM.out.ext hE7)
   have HE7 := Lib.hid (HEK.out.trans' hE7)
   have hpn : 0 < n := by have := HXI.out.1; rw [HL.out] at this; omega
   obtain ⟨og, oo, oc, rfl, hog, hog2, hoc⟩ := HM7.out.2.2.1.shape hpn
   have HB0 := Lib.hid (Back.start (t := t) (a := (p, i)) (L := bef t (p, i)) (fun y => mem_bef HXI.out))
   have HN0 := Lib.hid (And.intro (bef_len t (p, i)) (unseen_le t []))
   clear hR7 hE7 t0 HM HEK HEW HY0 HY1 HX1 hog hog2 hltz hlt
   generalize bef t (p, i) = L0 at *
   go_wp2
   go_loopg [7] (L0.length + 3 * unseen t []) (fun g s7 wr => ∃ (M Q : List Eid), Q.length + 3 * unseen t M ≤ g ∧ Aside (Q.length + 3 * unseen t M ≤ L0.length + 3 * unseen t []) ∧ Aside (Row wr w2.heap.size 39 2 s7 Q.length (Q.flatMap eidC)) ∧ Aside (Marks wr w2.heap.size 91 4 (.slice (some ⟨og, oo, none⟩) n oc) t n M Bs) ∧ Aside (Back t (p, i) M Q) ∧ Aside (Ext w2 wr))
   case atStart => exact ⟨[], L0, Nat.le_refl _, (show Aside _ from Nat.le_refl _), HR7, HM7, HB0, HE7⟩
   case round =>
    obtain ⟨M, Q, hg2, HQB, HRQ, HMK, HBK, HEQ⟩ := hrel
    have HEW := Lib.hid (HE2.out.trans' HEQ.out)
    cases Q with
    | nil =>
      obtain ⟨a7, c7, rfl⟩ := HRQ.out.nil_of rfl
      go_wp2
      go_ret
      obtain ⟨hB1, hB2, hB3, hB4⟩ := HMK.out
      have hsl := hB3.shape hpn
      refine ⟨og, oo, oc, Bs, by rw [HL.out]; rfl, by rw [HL.out]; exact hoc, ?_, HEW.out, fun q hq => ?_⟩
      ·obtain ⟨x1, x2, x3, hx1, _, hx3, _⟩ := hsl
       simp only [Value.slice.injEq, Option.some.injEq, Addr.mk.injEq] at hx1
       rw [hx1.1.1]; exact hx3
      ·rw [HL.out] at hq
       refine ⟨(hB3.cell q (by omega)).trans (hdrs_at (by rw [hB1]; exact hq)), ((hB4 q hq).lt Bs[q]! rfl).2, fun j hj => ?_⟩
       have hc := ((hB4 q hq).cell (j + 1) (by omega)).trans (marksV_at hj)
       rw [Nat.zero_add] at hc
       rw [hc]
       have hbk := HBK.out.fin (q, j)
       congr 2
       by_cases hm : (q, j) ∈ M
       ·rw [decide_eq_true hm]; exact (@decide_eq_true _ (Classical.propDecidable _) (hbk.1 hm)).symm
       ·rw [decide_eq_false hm]; exact (@decide_eq_false _ (Classical.propDecidable _) (fun h => hm (hbk.2 h))).symm
    | cons y T =>
      obtain ⟨y1, y2⟩ := y
      have HIN := Lib.hid (tg_inn_l (HBK.out.rest (y1, y2) (by simp)))
      have hy1 : y1 < n := by have := HIN.out.1; rw [HL.out] at this; exact this
      have hy2 : y2 < t[y1]!.events.length := HIN.out.2
      have hlc : ((y1, y2) :: T).length = T.length + 1 := rfl
      rw [hlc] at hg2 HQB HRQ
      obtain ⟨g7, o7, c7, rfl, hb7, hl7, hc7⟩ := HRQ.out.shape (Nat.succ_pos _)
      have e0 := HRQ.out.cell 0 (by omega)
      have e1 := HRQ.out.cell 1 (by omega)
      have htl := HRQ.out.tail
      simp only [eidC, List.flatMap_cons, List.cons_append, List.nil_append, List.getElem?_cons_zero, List.getElem?_cons_succ, Nat.add_zero, List.drop_succ_cons, List.drop_zero] at e0 e1 htl
      have HTL := Lib.hid htl
      have hh := (HMK.out.2.2.1.cell y1 (by omega)).trans (hdrs_at (by rw [HMK.out.1]; exact hy1))
      have hm := ((HMK.out.2.2.2 y1 hy1).cell (y2 + 1) (by omega)).trans (marksV_at hy2)
      have fm := (HMK.out.2.2.2 y1 hy1).free (y2 + 1)
      rw [Nat.zero_add] at hm
      have hen := (HS.out.2 y1 (by rw [HL.out]; exact hy1)).2.1
      have HBL := Lib.hid ((HMK.out.2.2.2 y1 hy1).lt Bs[y1]! rfl)
      generalize hbq : Bs[y1]! = bq at *
      generalize hne : t[y1]!.events.length = ne at *
      generalize hbm : decide ((y1, y2) ∈ M) = bm at *
      generalize hk : T.length = k at *
      have HK := Lib.hid hk
      have HBM := Lib.hid hbm
      have HBQ := Lib.hid hbq
      have HNE := Lib.hid hne
      have HKB := Lib.hid (show k ≤ 4000000000000 from by have := HQB.out; have := HN0.out; have := HSM.out; omega)
      have hg7 : g7 < wr.heap.size := hl7
      clear htl hbq hne hbm hk hlc hl7
      have hc7e : Hid (c7 ≠ 1 → 1 < c7) := Lib.hid (fun h => by omega)
      have hk0 : Hid (c7 = 1 → k = 0) := Lib.hid (fun h => by omega)
      have hy1z : (0 : Int) ≤ (y1 : Int) := by omega
      have hy1i : (y1 : Int) < (n : Int) := by omega
      have hy2z : (0 : Int) ≤ (y2 : Int) + 1 := by omega
      have hy2i : (y2 : Int) + 1 < ((ne + 1 : Nat) : Int) := by omega
      go_upto_region 9 with (fail)
      go_cut [7, 8] (fun s7 s8 wx => ∃ (a7 : Option Addr) (c9 : Nat), s7 = .slice a7 k c9 ∧ s8 = .pointer (some ⟨wr.heap.size, 0, none⟩) ∧ Aside (Row wx w2.heap.size 39 2 (.slice a7 k c9) k (T.flatMap eidC)) ∧ Aside (wx = wr.alloc (idO y1 ((y2 : Int) + 1))))
      case first =>
       by_cases hc1 : c7 = 1
       ·have hk1 := hk0.out hc1
        subst hc1
        subst hk1
        go_wp2
        go_meet
        have hT := List.eq_nil_of_length_eq_zero HK.out
        exact ⟨_, _, rfl, rfl, (show Row _ _ _ _ _ _ _ from by rw [hT]; exact HTL.out.2.al _), (show _ = _ from rfl)⟩
       ·have hc2 := hc7e.out hc1
        go_wp2
        go_meet
        exact ⟨_, _, rfl, rfl, (show Row _ _ _ _ _ _ _ from HTL.out.1.al _), (show _ = _ from rfl)⟩
      case rest =>
       obtain ⟨a7, c9, rfl, rfl, HR, HWX⟩ := hcut
       obtain rfl := HWX.out
       obtain ⟨wx, hwx⟩ : ∃ wx, wr.alloc (idO y1 ((y2 : Int) + 1)) = wx := ⟨_, rfl⟩
       rw [hwx] at HR HWX ⊢
       have HX3 := Lib.hid (show Ext wr wx from by rw [← hwx]; exact (Ext.rf wr).al _)
       have HBX := Lib.hid (show wx.heap[wr.heap.size]? = some (idO y1 ((y2 : Int) + 1)) from by rw [← hwx]; exact heap_alloc_new wr _)
       clear hwx HWX
       have hh3 := HX3.out.cl hh
       have hm3 := HX3.out.cl hm
       have HMK3 := Lib.hid (HMK.out.ext HX3.out)
       have HEQ3 := Lib.hid (HEQ.out.trans' HX3.out)
       have HEW3 := Lib.hid (HEW.out.trans' HX3.out)
       have fm3 := (HMK3.out.2.2.2 y1 hy1).free (y2 + 1)
       rw [HBQ.out] at fm3
       have b0 := cellOf HBX.out 0
       have b1 := cellOf HBX.out 1
       simp only [List.getElem?_toArray, List.getElem?_cons_zero, List.getElem?_cons_succ] at b0 b1
       have HHM := Lib.hid (And.intro hk0 hc7e)
       clear hh hm fm e0 e1 HTL HRQ HMK HEQ HX3 hk0 hc7e
       cases bm with
       | true =>
         go_wp2
         go_quiet (fail)
         go_wp2
         go_roundg (k + 3 * unseen t M)
         case measure => omega
         case rel => exact ⟨M, T, by rw [HK.out]; exact Nat.le_refl _, (show Aside _ from (show T.length + 3 * unseen t M ≤ L0.length + 3 * unseen t [] from by have := HQB.out; have := HK.out; omega)), (show Row _ _ _ _ _ _ _ from by rw [HK.out]; exact HR.out.ext ((Ext.rf wx).drN _)), (show Marks _ _ _ _ _ _ _ _ _ from HMK3.out.ext ((Ext.rf wx).drN _)), (show Back _ _ _ _ from HBK.out.skip (of_decide_eq_true HBM.out)), HEQ3.out.drN _⟩
       | false =>
         go_wp2
         go_quiet (fail)
         have HEQ4 := Lib.hid (HEQ3.out.drN nq)
         have HMK4 := Lib.hid (HMK3.out.ext ((Ext.rf wx).drN nq))
         have HR4 := Lib.hid (HR.out.ext ((Ext.rf wx).drN nq))
         have HBX4 := Lib.hid (((Ext.rf wx).drN nq).hp HBX.out)
         generalize wx.drewN nq = w4 at *
         clear hh3 hm3 fm3 b0 b1 HMK3 HEQ3 HEW3 HR HBX
         have hh4 := (HMK4.out.2.2.1.cell y1 (by omega)).trans (hdrs_at (by rw [HMK4.out.1]; exact hy1))
         have hm4 := ((HMK4.out.2.2.2 y1 hy1).cell (y2 + 1) (by rw [HNE.out]; omega)).trans (marksV_at (by rw [HNE.out]; exact hy2))
         have fm4 := (HMK4.out.2.2.2 y1 hy1).free (y2 + 1)
         rw [Nat.zero_add] at hm4
         rw [HBQ.out, HNE.out] at hh4
         rw [HBQ.out] at hm4 fm4
         have b0 := cellOf HBX4.out 0
         have b1 := cellOf HBX4.out 1
         simp only [List.getElem?_toArray, List.getElem?_cons_zero, List.getElem?_cons_succ] at b0 b1
         go_wp2
         go_region
         clear hh4 hm4 fm4 b0 b1
         have HMK5 := Lib.hid (show Marks (w4.setCell ⟨bq, y2 + 1, none⟩ (.bool true)).drew w2.heap.size 91 4 (.slice (some ⟨og, oo, none⟩) n oc) t n ((y1, y2) :: M) Bs from by
          have := HMK4.out.set (by decide) hy1 (i := y2) (by rw [HNE.out]; exact hy2)
          rw [HBQ.out] at this
          exact this.ext ((Ext.rf _).dr))
         have HR5 := Lib.hid (show Row (w4.setCell ⟨bq, y2 + 1, none⟩ (.bool true)).drew w2.heap.size 39 2 (.slice a7 k c9) k (T.flatMap eidC) from by
          refine (HR4.out.st (p := ⟨bq, y2 + 1, none⟩) (fun e => ?_) (.bool true)).ext ((Ext.rf _).dr)
          rcases HR4.out.apart (HMK4.out.2.2.2 y1 hy1) (by decide) with h | h
          ·rw [h] at e; cases e
          ·rw [HBQ.out] at h; exact h e)
         have HBX5 := Lib.hid (show (w4.setCell ⟨bq, y2 + 1, none⟩ (.bool true)).drew.heap[wr.heap.size]? = some (idO y1 ((y2 : Int) + 1)) from by
          refine ((Ext.rf _).dr).hp ?_
          rw [Below.heap_setCell _ ⟨bq, y2 + 1, none⟩ _ _ (by have := HBL.out.2; simp only; omega)]; exact HBX4.out)
         have HEQ5 := Lib.hid ((HEQ4.out.st (p := ⟨bq, y2 + 1, none⟩) HBL.out.1 (.bool true)).dr)
         generalize (w4.setCell ⟨bq, y2 + 1, none⟩ (.bool true)).drew = w5 at *
         have HEW5 := Lib.hid (HE2.out.trans' HEQ5.out)
         have HX5 := Lib.hid (HEQ5.out.hp HX0.out)
         have t0 := cellOf HX5.out 0
         have b0 := cellOf HBX5.out 0
         have b1 := cellOf HBX5.out 1
         simp only [List.getElem?_toArray, List.getElem?_cons_zero, List.getElem?_cons_succ] at t0 b0 b1
         clear HMK4 HR4 HBX4 HEQ4
         have HDY := Lib.hid (HDI.out w5 HEW5.out (y1, y2) HIN.out)
         simp only at HDY
         go_wp2_with fail
         clear t0 b0 b1
         refine (HDY.out).mono ?_
         rintro e w6 ⟨v9, rfl, hR9, hE9⟩
         have HB1 := Lib.hid (HBK.out.take (L := bef t (y1, y2)) (fun y => mem_bef HIN.out))
         have HUN := Lib.hid (unseen_push HIN.out (of_decide_eq_false HBM.out))
         have HLB := Lib.hid (bef_len t (y1, y2))
         generalize bef t (y1, y2) = L at *
         have HNE9 := Lib.hid (show v9.ownBlock = none ∨ v9.ownBlock ≠ (Value.slice a7 k c9).ownBlock from by
          cases h9 : v9.ownBlock with
          | none => exact .inl rfl
          | some b9 =>
            refine .inr fun e => ?_
            have h1 := (hR9.lt b9 h9).1
            have h2 := (HR5.out.lt b9 e.symm).2
            omega)
         have HR9 := Lib.hid (hR9.mono HEQ5.out.sz)
         have HR6 := Lib.hid (HR5.out.ext hE9)
         have HMK6 := Lib.hid (HMK5.out.ext hE9)
         have HEQ6 := Lib.hid (HEQ5.out.trans' hE9)
         obtain ⟨a9, l9, rfl, hl9, hs9⟩ := hR9.any
         have HS9 := Lib.hid hs9
         generalize hll : L.length = ll at *
         have HLL := Lib.hid hll
         have hll2 : ll ≤ 2 := HLB.out
         clear hR9 hE9 hs9 hll HMK5 HR5 HBX5 HEQ5
         go_wp2
         obtain ⟨wq, rfl⟩ : ∃ x, x = wr := ⟨_, rfl⟩
         go_loopg [7, 10] ll (fun g3 s7 s10 wr => ∃ (j : Nat), j ≤ ll ∧ ll - j ≤ g3 ∧ s10 = .int .i64 j ∧ Aside (Row wr w2.heap.size 39 2 s7 (k + j) ((T ++ L.take j).flatMap eidC)) ∧ Aside (Row wr w2.heap.size 39 2 (.slice a9 ll l9) ll (L.flatMap eidC)) ∧ Aside ((Value.slice a9 ll l9).ownBlock = none ∨ (Value.slice a9 ll l9).ownBlock ≠ s7.ownBlock) ∧ Aside (Marks wr w2.heap.size 91 4 (.slice (some ⟨og, oo, none⟩) n oc) t n ((y1, y2) :: M) Bs) ∧ Aside (Ext w2 wr))
         case atStart => exact ⟨0, Nat.zero_le _, by omega, rfl, (show Row _ _ _ _ _ _ _ from by rw [List.take_zero, List.append_nil]; exact HR6.out), HR9, HNE9, HMK6, HEQ6⟩
         case round =>
          obtain ⟨j, hj, hg3, rfl, HRT, HRL, HNB, HMJ, HEJ⟩ := hrel
          by_cases hjl : j < ll
          ·obtain ⟨g9, o9, rfl, hg9, hg9s, hl9'⟩ := HS9.out (by omega)
           have hjz : (0 : Int) ≤ (j : Int) := by omega
           have hji : (j : Int) < (ll : Int) := by omega
           have hjL : j < L.length := by rw [HLL.out]; exact hjl
           have c0 := (HRL.out.cell (j * 2) (by omega)).trans (eids_at L j hjL).1
           have c1 := (HRL.out.cell (j * 2 + 1) (by omega)).trans (eids_at L j hjL).2
           have HTK := Lib.hid (take_snoc' L j hjL)
           have hkb := HKB.out
           have hszj := HEJ.out.sz
           obtain ⟨z1, hz1⟩ : ∃ z : Int, (L[j]!.1 : Int) = z := ⟨_, rfl⟩
           obtain ⟨z2, hz2⟩ : ∃ z : Int, (L[j]!.2 : Int) + 1 = z := ⟨_, rfl⟩
           rw [hz1] at c0
           rw [← Nat.add_assoc, hz2] at c1
           have HZ := Lib.hid (show eidC L[j]! = [.int .i64 z1, .int .i64 z2] from by unfold eidC; rw [hz1, hz2])
           clear hz1 hz2 hjL
           go_wp2_with ((at_builtin; go_loud (refine wpList_append_one rfl _ _ 71 rfl w2.heap.size 39 ie (.agg #[.int .i64 0, .int .i64 0]) 2 16 Tryz.underlying71 hie iz0 iz1 iz2 rfl (by decide) _ (k + j) _ rfl (HRT.out.al _) wr.heap.size 1 [.int .i64 z1, .int .i64 z2] rfl rfl ⟨_, heap_alloc_new _ _⟩ (by simp [Value.oneCell']) (by unfold maxLen; omega) (by omega) (by simp; omega) ?_; intro v8 w8 hown8 hgrow8 hblk8; have HOWN := Lib.hid hown8; have HG8 := Lib.hid hgrow8; have HK8 := Lib.hid hblk8; clear hown8 hgrow8 hblk8)))
           go_roundg (ll - (j + 1))
           case measure => omega
           case rel =>
            refine ⟨j + 1, by omega, by omega, by go_num, (show Row _ _ _ _ _ _ _ from ?_), (show Row _ _ _ _ _ _ _ from (HRL.out.al _).grown HG8.out HNB.out), (show Aside _ from ?_), (show Marks _ _ _ _ _ _ _ _ _ from (HMJ.out.ext ((Ext.rf _).al _)).grown (HRT.out.al _) HG8.out (by decide) (by decide)), (HEJ.out.al _).gr HG8.out (fun q hq => (HRT.out.lt q hq).1)⟩
            ·have := HOWN.out
             rw [HTK.out, ← List.append_assoc, List.flatMap_append, List.flatMap_singleton, HZ.out]
             exact this
            ·show _ ∨ _
             rcases HK8.out with e | ⟨kk, e, hkk⟩
             ·rw [e]; exact HNB.out
             ·refine .inr fun e2 => ?_
              rw [e] at e2
              have := (HRL.out.lt kk e2).2
              rw [World.size_alloc] at hkk
              omega
          ·have hltz : ¬ (j : Int) < (ll : Int) := by omega
           obtain rfl : ll = j := by omega
           go_wp2
           go_roundg (k + ll + 3 * unseen t ((y1, y2) :: M))
           case measure => have := HUN.out; omega
           case rel =>
            have e1 : L.take ll = L := List.take_of_length_le (by rw [HLL.out]; exact Nat.le_refl _)
            have e2 : (T ++ L).length = k + ll := by rw [List.length_append, HK.out, HLL.out]
            refine ⟨(y1, y2) :: M, T ++ L, by rw [e2]; exact Nat.le_refl _, (show _ ≤ _ from ?_), (show Row _ _ _ _ _ _ _ from ?_), HMJ, HB1, HEJ⟩
            ·rw [e2]; have := HQB.out; have := HUN.out; omega
            ·rw [e2]; have := HRT.out; rw [e1] at this; exact this
end Go.Proofs.YtbpdbikphlhaiaaGreatDoor
namespace Go.Proofs.YtbpdbikphlhaiaaGreatDoor
open Go.RowKit
set_option linter.unusedVariables false
theorem faultR_calls (v : Value) (t : Tr) (w : World) (h : TrAt w v t) (hs : LooseTr t) : Calls Tryz.prog 25 #[.agg #[v]] w fun e w' => FaultOutR t w w' e :=
 faultR_of v t w h hs fun hsm W p i hW hx hsd => pastR_calls v t p i W (h.ext hW) hsm hx hsd
set_option maxHeartbeats 2000000 in
theorem validR_calls (v : Value) (t : Tr) (w : World) (h : TrAt w v t) (hs : LooseTr t) : Calls Tryz.prog 7 #[.agg #[v]] w fun e w' => e = .returned (.bool (validT t)) ∧ Ext w w' := by
 have HFC := Lib.hid (fun W (hW : Ext w W) => faultR_calls v t W (h.ext hW) hs)
 obtain ⟨ta, tc, rfl, htc⟩ := h.sh
 generalize t.length = N at *
 have HE1 := Lib.hid ((Ext.rf w).al (.cells #[.slice ta N tc] 24))
 clear h hs
 obtain ⟨vt, hvt⟩ : ∃ b, validT t = b := ⟨_, rfl⟩
 rw [hvt]
 have HVT := Lib.hid hvt
 clear hvt
 go_enter Tryz.func7, Tryz.ntmps7
 go_wp2_with fail
 refine (HFC.out _ HE1.out).mono ?_
 rintro e w2 ⟨a, b, E, rfl, hE, hX⟩
 rw [HVT.out] at hE
 have HX := Lib.hid (HE1.out.trans' hX)
 have HE := Lib.hid hE
 clear hE hX
 obtain ⟨c, hc⟩ : ∃ c, (E == 0) = c := ⟨_, rfl⟩
 have HC := Lib.hid hc
 go_wp2
 go_ret
 have e : vt = c := by
  have h1 := HE.out
  have h2 := HC.out
  cases c <;> cases vt <;> simp_all
 subst e
 exact ⟨rfl, HX.out.al _⟩
end Go.Proofs.YtbpdbikphlhaiaaGreatDoor
namespace Go.Proofs.YtbpdbikphlhaiaaGreatDoor
open Go.RowKit
set_option linter.unusedVariables false
attribute [local go_sem ↓] Go.wp_at_zero Go.wp_at_succ
def misS (t : Tr) (c : List Int) : Option Eid := (missE t c).bind fun x => findE t 2 (ev t x).msg
def MissOut (t : Tr) (c : List Int) (w w' : World) (e : Ending) : Prop :=
 e = .returned (.tuple #[.agg #[.int .i64 (eidA (misS t c)), .int .i64 (eidB (misS t c))], .agg #[.int .i64 (eidA (missE t c)), .int .i64 (eidB (missE t c))], .bool (missE t c).isSome]) ∧ Ext w w'
theorem shape_peer {t : Tr} (h : shapeB t = true) : ∀ x, Inn t x → (ev t x).kind ≠ 1 → 0 ≤ (ev t x).peer ∧ (ev t x).peer < t.length := fun x hx hk =>
 formed_peer (eventB_parts.1 ((shapeB_parts2.1 h).2.2.2 x.1 hx.1 x.2 hx.2)).1 hk
theorem valid_send {t : Tr} (h : validT t = true) {x : Eid} (hx : Inn t x) (hk : (ev t x).kind = 3) : ∃ s, findE t 2 (ev t x).msg = some s := by
 obtain ⟨h1, h2, _⟩ := validT_parts2.1 h
 exact send_of (shape_peer h1) h2 hx hk
theorem valid_small {t : Tr} (h : validT t = true) : SmallTr t := by
 obtain ⟨h1, h2, h3, h4⟩ := shapeB_parts2.1 (validT_parts2.1 h).1
 refine ⟨by omega, fun p hp => ?_⟩
 have hh := headB_parts.1 (h3 p hp)
 refine ⟨by have := hh.2.2.1; omega, by have := hh.2.2.2.2; omega, fun i hi => ?_⟩
 have := (eventB_parts.1 (h4 p hp i hi)).2.2.2.2.1
 omega
theorem id_keep {w : World} {K k : Nat} (h : k ≠ K) (a b : Value) : ((w.setCell ⟨K, 0, none⟩ a).setCell ⟨K, 1, none⟩ b).heap[k]? = w.heap[k]? := by
 rw [Below.heap_setCell _ ⟨K, 1, none⟩ _ _ h, Below.heap_setCell _ ⟨K, 0, none⟩ _ _ h]
set_option maxHeartbeats 8000000 in
set_option maxRecDepth 100000 in
theorem missingP_calls (v vc : Value) (t : Tr) (c : List Int) (w : World) (h : TrAt w v t) (hs : SmallTr t) (hv : validT t = true) (hc : Ints w vc c) (hr : RangeC t c) :
  Calls Tryz.prog 59 #[.agg #[v], vc] w fun e w' => MissOut t c w w' e := by
 have HT := Lib.hid h
 have HC := Lib.hid hc
 have HS := Lib.hid hs
 have HR := Lib.hid hr
 have HSD := Lib.hid (fun x (hx : Inn t x) (hk : (ev t x).kind = 3) => valid_send hv hx hk)
 have HSE : Hid (∀ W, Ext w W → ∀ m, Calls Tryz.prog 60 #[.agg #[v], .int .i64 m] W fun e w' => FndOut t 2 m W w' e) := Lib.hid (fun W hW m => senderP_calls v t m W (h.ext hW) hs)
 have HFV : Hid (∀ m, fndO t 2 m = findE t 2 m) := Lib.hid (fun m => by unfold fndO; rw [if_pos hv])
 obtain ⟨ta, tc, rfl, htc⟩ := h.sh
 obtain ⟨ca, cc, rfl, hlc, _⟩ := hc
 have hn1 := hs.1
 rw [hr.1] at hlc ⊢
 have HCL := Lib.hid hr.1
 generalize hln : t.length = n at *
 have HL := Lib.hid hln
 have HB := Lib.hid (fun i o => allocs_at [.cells #[.slice ta n tc] 24, idO 0 0, idO 0 0] w i o)
 have HE3 : Hid (Ext w (((w.alloc (.cells #[.slice ta n tc] 24)).alloc (idO 0 0)).alloc (idO 0 0))) := Lib.hid (by repeat (first | refine Ext.st ?_ (by first | exact Nat.le_refl _ | exact Nat.le_succ _ | assumption | omega) _ | refine Ext.al ?_ _ | refine Ext.dr ?_ | refine Ext.drN ?_ _ | exact Ext.rf _))
 clear h hs hln hr hv
 go_enter Tryz.func59, Tryz.ntmps59
 go_wp2
 generalize hw3 : ((w.alloc (.cells #[.slice ta n tc] 24)).alloc (idO 0 0)).alloc (idO 0 0) = w3 at *
 have HX0 : Hid (w3.heap[w.heap.size]? = some (.cells #[.slice ta n tc] 24)) := Lib.hid (hw3 ▸ HB.out 0 _ rfl)
 have HX1 : Hid (w3.heap[w.heap.size + 1]? = some (idO 0 0)) := Lib.hid (hw3 ▸ HB.out 1 _ rfl)
 have HX2 : Hid (w3.heap[w.heap.size + 1 + 1]? = some (idO 0 0)) := Lib.hid (hw3 ▸ HB.out 2 _ rfl)
 clear hw3 HB
 go_loopg [15] n (fun g s15 wr => ∃ p : Nat, p ≤ n ∧ n - p ≤ g ∧ s15 = .int .i64 p ∧ Aside (missTo t c p 0 = none) ∧ Aside (Ext w3 wr))
 case atStart => exact ⟨0, Nat.zero_le _, by omega, rfl, (show Aside _ from missTo_zero t c), Ext.rf _⟩
 case round =>
  obtain ⟨p, hp, hg, rfl, A, HEK⟩ := hrel
  have HEW := Lib.hid (HE3.out.trans' HEK.out)
  have HY0 := Lib.hid (HEK.out.hp HX0.out)
  have HY1 := Lib.hid (HEK.out.hp HX1.out)
  have HY2 := Lib.hid (HEK.out.hp HX2.out)
  have t0 := cellOf HY0.out 0
  simp only [List.getElem?_toArray, List.getElem?_cons_zero] at t0
  by_cases hlt : p < n
  ·have hltz : (p : Int) < (n : Int) := by omega
   have hpz : (0 : Int) ≤ (p : Int) := by omega
   obtain ⟨B, O, C, vv, ve, hve, hlC, hB, hn0, hv0, he0, hV, hE0⟩ := proc_at HT.out p (by rw [HL.out]; exact hlt)
   simp only [Value.slice.injEq] at hve
   obtain ⟨rfl, hzz, rfl⟩ := hve
   have HEV := Lib.hid hE0
   obtain ⟨ea, ec, rfl, hec⟩ := hE0.sh
   obtain ⟨cb, co, rfl, hcb, hcp⟩ := ints_at HC.out p (by rw [HCL.out]; exact hlt)
   have he1 := HEW.out.cl he0
   have hc1 := HEW.out.cl hcp
   have hkr := HR.out.at (by rw [HL.out]; exact hlt)
   have hen := (HS.out.2 p (by rw [HL.out]; exact hlt)).2.1
   generalize hne : t[p]!.events.length = ne at *
   have HNE := Lib.hid hne
   obtain ⟨k, hk⟩ : ∃ k : Nat, c[p]! = (k : Int) := ⟨c[p]!.toNat, by omega⟩
   rw [hk] at hc1 hkr
   have HK := Lib.hid hk
   have hkz : (0 : Int) ≤ (k : Int) := by omega
   have hkc : (k : Int) ≤ (ec : Int) := by omega
   have hkm : k ≤ 1000000 := by omega
   have HKN := Lib.hid (show k ≤ ne from by omega)
   clear hn0 hv0 hV hE0 hzz hne he0 hk hcp hkr
   go_wp2
   clear t0 he1 hc1
   obtain ⟨wo, rfl⟩ : ∃ x, x = wr := ⟨_, rfl⟩
   go_loopg [29] k (fun g2 s29 wr => ∃ i : Nat, i ≤ k ∧ k - i ≤ g2 ∧ s29 = .int .i64 i ∧ Aside (missTo t c p i = none) ∧ Aside (Ext wo wr))
   case atStart => exact ⟨0, Nat.zero_le _, by omega, rfl, A, Ext.rf _⟩
   case round =>
    obtain ⟨i, hi, hg2, rfl, A2, HEK2⟩ := hrel
    have HEW2 := Lib.hid (HEW.out.trans' HEK2.out)
    by_cases hli : i < k
    ·have hliz : (i : Int) < (k : Int) := by omega
     have hiz : (0 : Int) ≤ (i : Int) := by omega
     have HIN : Hid (Inn t (p, i)) := Lib.hid ⟨by show p < t.length; rw [HL.out]; exact hlt, by show i < t[p]!.events.length; rw [HNE.out]; have := HKN.out; omega⟩
     obtain ⟨EB, EO, EC, va, hee, hlE, hEB, k0, k1, k2, k3, k4, ha⟩ := event_at HEV.out i (by rw [HNE.out]; have := HKN.out; omega)
     simp only [Value.slice.injEq] at hee
     obtain ⟨rfl, hzz, rfl⟩ := hee
     obtain ⟨va1, va2, rfl, _⟩ := ha.sh
     have m0 := HEW2.out.cl k0
     have m1 := HEW2.out.cl k1
     have m2 := HEW2.out.cl k2
     have m3 := HEW2.out.cl k3
     have m4 := HEW2.out.cl k4
     have HEVE : Hid (ev t (p, i) = t[p]!.events[i]!) := Lib.hid rfl
     generalize t[p]!.events[i]! = y at *
     generalize y.asg.length = nb at *
     clear k0 k1 k2 k3 k4 hzz ha
     have HB6 := Lib.hid (heap_alloc_new wr (e5 (.int .i64 y.kind) (.int .i64 y.peer) (.int .i64 y.msg) (.int .i64 y.time) (.slice va1 nb va2)))
     have HXT := Lib.hid ((Ext.rf wr).al (e5 (.int .i64 y.kind) (.int .i64 y.peer) (.int .i64 y.msg) (.int .i64 y.time) (.slice va1 nb va2)))
     obtain ⟨ck, hck⟩ : ∃ b, (y.kind != 3) = b := ⟨_, rfl⟩
     have HCK := Lib.hid hck
     cases ck with
     | true =>
       have HSB : Hid (sentB t c (p, i) = true) := Lib.hid (sentB_other (by rw [HEVE.out]; have := HCK.out; simpa using this))
       go_wp2
       go_roundg (k - (i + 1))
       case measure => omega
       case rel => exact ⟨i + 1, by omega, by omega, by go_num, (show Aside _ from missTo_succ A2.out HSB.out), HEK2.out.trans' HXT.out⟩
     | false =>
       have HK3 := Lib.hid (show y.kind = 3 from by have := HCK.out; simpa using this)
       obtain ⟨s, hs⟩ := HSD.out (p, i) HIN.out (by rw [HEVE.out]; exact HK3.out)
       have HFS := Lib.hid hs
       rw [HEVE.out] at hs
       have HSN := Lib.hid (findE_some hs).1
       have HFW := Lib.hid (HSE.out _ (HEW2.out.trans' HXT.out) y.msg)
       unfold FndOut at HFW
       rw [HFV.out, hs] at HFW
       simp only [eidA, eidB, Option.isSome_some] at HFW
       clear hs
       have HZ0 := Lib.hid (HXT.out.hp (HEK2.out.hp HY0.out))
       have HZ1 := Lib.hid (HXT.out.hp (HEK2.out.hp HY1.out))
       have HZ2 := Lib.hid (HXT.out.hp (HEK2.out.hp HY2.out))
       have hw2s := HEW2.out.sz
       have t6 := cellOf (HEK2.out.hp HY0.out) 0
       simp only [List.getElem?_toArray, List.getElem?_cons_zero] at t6
       obtain ⟨s1, s2⟩ := s
       simp only at HFW HFS HSN
       have l1 : w.heap.size < wr.heap.size := World.block_lt_of_cell? wr _ t6
       have l2 : w.heap.size ≠ wr.heap.size := by omega
       have hs1 : s1 < n := by have := HSN.out.1; rw [HL.out] at this; exact this
       obtain ⟨cb', co', hcc, _, hcs⟩ := ints_at HC.out s1 (by rw [HCL.out]; exact hs1)
       simp only [Option.some.injEq, Addr.mk.injEq, and_true] at hcc
       obtain ⟨rfl, rfl⟩ := hcc
       have HCS := Lib.hid hcs
       clear hcs
       go_wp2_with fail
       clear t6 l1 l2 m0 m1 m2 m3 m4
       refine HFW.out.mono ?_
       rintro e w7 ⟨rfl, hE7⟩
       have HX7 := Lib.hid (HXT.out.trans' hE7)
       have HB8 := Lib.hid (heap_alloc_new w7 (idO (s1 : Int) ((s2 : Int) + 1)))
       have HX8 := Lib.hid (HX7.out.al (idO (s1 : Int) ((s2 : Int) + 1)))
       have HE8 := Lib.hid (HEW2.out.trans' HX8.out)
       have HZ1 := Lib.hid (HX8.out.hp (HEK2.out.hp HY1.out))
       have HZ2 := Lib.hid (HX8.out.hp (HEK2.out.hp HY2.out))
       have dsp := HE8.out.cl HCS.out
       have s0 := cellOf HB8.out 0
       have s1c := cellOf HB8.out 1
       simp only [List.getElem?_toArray, List.getElem?_cons_zero, List.getElem?_cons_succ] at s0 s1c
       have hspz : (0 : Int) ≤ (s1 : Int) := by omega
       have hspi : (s1 : Int) < (n : Int) := by omega
       generalize hdg : c[s1]! = dg at *
       have HDG := Lib.hid hdg
       have hl8 : w7.heap.size < (w7.alloc (idO (s1 : Int) ((s2 : Int) + 1))).heap.size := by simp
       clear hdg hE7 HX7 HB6
       go_wp2
       generalize hw8 : w7.alloc (idO (s1 : Int) ((s2 : Int) + 1)) = w8 at *
       clear hw8
       have HSR := Lib.hid (sentB_recv (c := c) (by rw [HEVE.out]; exact HK3.out) HFS.out)
       simp only at HSR
       rw [HDG.out] at HSR
       by_cases hcmp : dg < (s2 : Int) + 1
       ·have d1 : decide (dg < (s2 : Int) + 1) = true := decide_eq_true hcmp
        have HSB : Hid (sentB t c (p, i) = false) := Lib.hid (by rw [HSR.out]; exact decide_eq_false (by omega))
        have HM0 := Lib.hid (missTo_hit A2.out HSB.out (by rw [HCL.out]; exact hlt) (by rw [HK.out]; exact hliz))
        have HM1 := Lib.hid (show misS t c = some (s1, s2) from by unfold misS; rw [HM0.out]; exact HFS.out)
        clear hcmp
        go_quiet (fail)
        clear d1 dsp
        have HZ1 := Lib.hid (((Ext.rf w8).drN nq).hp HZ1.out)
        have HZ2 := Lib.hid (((Ext.rf w8).drN nq).hp HZ2.out)
        have HE9 := Lib.hid (HE8.out.drN nq)
        have s0 : (w8.drewN nq).cell? ⟨w7.heap.size, 0, none⟩ = some (.int .i64 (s1 : Int)) := s0
        have s1c : (w8.drewN nq).cell? ⟨w7.heap.size, 1, none⟩ = some (.int .i64 ((s2 : Int) + 1)) := s1c
        generalize w8.drewN nq = w9 at *
        have q0 := cellOf HZ1.out 0
        have q1 := cellOf HZ1.out 1
        have g0 := freeOf HZ1.out 0
        have g1 := freeOf HZ1.out 1
        have o0 := cellOf HZ2.out 0
        have o1 := cellOf HZ2.out 1
        have p0 := freeOf HZ2.out 0
        have p1 := freeOf HZ2.out 1
        simp only [List.getElem?_toArray, List.getElem?_cons_zero, List.getElem?_cons_succ] at q0 q1 o0 o1
        go_wp2
        clear q0 q1 g0 g1 o0 o1 p0 p1
        have hS1 := id_set HZ1.out (.int .i64 ((s1 : Int))) (.int .i64 ((s2 : Int) + 1))
        have hS2 := id_set (a := Value.int .i64 ((p : Int))) (b := Value.int .i64 ((i : Int) + 1)) (show _ = _ from ((id_keep (K := w.heap.size + 1) (k := w.heap.size + 1 + 1) (by omega) (.int .i64 ((s1 : Int))) (.int .i64 ((s2 : Int) + 1))).trans HZ2.out))
        have hS3 := (id_keep (K := w.heap.size + 1 + 1) (k := w.heap.size + 1) (by omega) (.int .i64 ((p : Int))) (.int .i64 ((i : Int) + 1))).trans hS1
        have r0 := cellOf hS3 0
        have r1 := cellOf hS3 1
        have r2 := cellOf hS2 0
        have r3 := cellOf hS2 1
        simp only [List.getElem?_toArray, List.getElem?_cons_zero, List.getElem?_cons_succ] at r0 r1 r2 r3
        refine bodyPost_ret (v := .tuple #[.agg #[.int .i64 ((s1 : Int)), .int .i64 ((s2 : Int) + 1)], .agg #[.int .i64 ((p : Int)), .int .i64 ((i : Int) + 1)], .bool true]) (by simp [results, Tryz.results59, go_sem, r0, r1, r2, r3]) rfl ?_
        exact ⟨by rw [HM0.out, HM1.out]; rfl, id_ext (id_ext HE9.out (by omega) _ _) (by omega) _ _⟩
       ·have d1 : decide (dg < (s2 : Int) + 1) = false := decide_eq_false hcmp
        have HSB : Hid (sentB t c (p, i) = true) := Lib.hid (by rw [HSR.out]; exact decide_eq_true (by omega))
        clear hcmp
        go_quiet (fail)
        go_wp2
        go_roundg (k - (i + 1))
        case measure => omega
        case rel => exact ⟨i + 1, by omega, by omega, by go_num, (show Aside _ from missTo_succ A2.out HSB.out), (HEK2.out.trans' HX8.out).drN _⟩
    ·have hliz : ¬ (i : Int) < (k : Int) := by omega
     obtain rfl : k = i := by omega
     go_wp2
     go_roundg (n - (p + 1))
     case measure => omega
     case rel =>
      exact ⟨p + 1, by omega, by omega, by go_num, (show Aside _ from missTo_next A2.out (by rw [HK.out]; simp)), (show Ext _ _ from HEK.out.trans' HEK2.out)⟩
  ·have hltz : ¬ (p : Int) < (n : Int) := by omega
   obtain rfl : n = p := by omega
   have HM0 := Lib.hid (show missE t c = none from by unfold missE; rw [HCL.out]; exact A.out)
   have HM1 := Lib.hid (show misS t c = none from by unfold misS; rw [HM0.out]; rfl)
   have HZ1 := HY1
   have HZ2 := HY2
   have q0 := cellOf HZ1.out 0
   have q1 := cellOf HZ1.out 1
   have g0 := freeOf HZ1.out 0
   have g1 := freeOf HZ1.out 1
   have o0 := cellOf HZ2.out 0
   have o1 := cellOf HZ2.out 1
   have p0 := freeOf HZ2.out 0
   have p1 := freeOf HZ2.out 1
   simp only [List.getElem?_toArray, List.getElem?_cons_zero, List.getElem?_cons_succ] at q0 q1 o0 o1
   go_wp2
   clear q0 q1 g0 g1 o0 o1 p0 p1
   have hS1 := id_set HZ1.out (.int .i64 (0)) (.int .i64 (0))
   have hS2 := id_set (a := Value.int .i64 (0)) (b := Value.int .i64 (0)) (show _ = _ from ((id_keep (K := w.heap.size + 1) (k := w.heap.size + 1 + 1) (by omega) (.int .i64 (0)) (.int .i64 (0))).trans HZ2.out))
   have hS3 := (id_keep (K := w.heap.size + 1 + 1) (k := w.heap.size + 1) (by omega) (.int .i64 (0)) (.int .i64 (0))).trans hS1
   have r0 := cellOf hS3 0
   have r1 := cellOf hS3 1
   have r2 := cellOf hS2 0
   have r3 := cellOf hS2 1
   simp only [List.getElem?_toArray, List.getElem?_cons_zero, List.getElem?_cons_succ] at r0 r1 r2 r3
   refine bodyPost_ret (v := .tuple #[.agg #[.int .i64 (0), .int .i64 (0)], .agg #[.int .i64 (0), .int .i64 (0)], .bool false]) (by simp [results, Tryz.results59, go_sem, r0, r1, r2, r3]) rfl ?_
   exact ⟨by rw [HM0.out, HM1.out]; rfl, id_ext (id_ext HEW.out (by omega) _ _) (by omega) _ _⟩
end Go.Proofs.YtbpdbikphlhaiaaGreatDoor
