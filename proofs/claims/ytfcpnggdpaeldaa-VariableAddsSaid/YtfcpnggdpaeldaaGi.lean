import Derived.Test.YtfcpnggdpaeldaaGa
import Derived.Test.YtfcpnggdpaeldaaProg
import Derived.Test.YtfcpnggdpaeldaaGg
import Derived.Test.YtfcpnggdpaeldaaGh
import Derived.Test.YtfcpnggdpaeldaaGf
import Derived.Test.YtfcpnggdpaeldaaGd
import Derived.BigQuiet
import Derived.Deep.QuietTactic
import Derived.Deep.LoopGhost
import Derived.Shelf.Abstract
/-
  Whether a trace is valid: the reference's Fault, over what Past hands back.
-/
namespace Go.Proofs.Ytfcpnggdpaeldaa
open Go.RowKit
set_option linter.unusedVariables false
attribute [local go_sem ↓] Go.wp_at_zero Go.wp_at_succ

theorem shapeB_parts2 {t : Tr} : shapeB t = true ↔ 1 ≤ t.length ∧ t.length ≤ 8 ∧ (∀ p, p < t.length → headB t p = true) ∧ ∀ p, p < t.length → ∀ i, i < t[p]!.events.length → eventB t p i = true := by
  simp only [shapeB, Bool.and_eq_true, decide_eq_true_eq, range_all]
theorem validT_parts2 {t : Tr} : validT t = true ↔ shapeB t = true ∧ pairB t = true ∧ ¬ Cyc t := by
  simp only [validT, Bool.and_eq_true, decide_eq_true_eq]
theorem cdec_true {p : Prop} (h : @decide p (Classical.propDecidable p) = true) : p := @of_decide_eq_true p (Classical.propDecidable p) h
theorem cdec_false {p : Prop} (h : @decide p (Classical.propDecidable p) = false) : ¬ p := @of_decide_eq_false p (Classical.propDecidable p) h
theorem formed_peer {n p : Nat} {y : Ev} (h : formedB n p y = true) (hk : y.kind ≠ 1) : 0 ≤ y.peer ∧ y.peer < n := by
  unfold formedB at h
  rw [if_neg hk] at h
  simp only [Bool.and_eq_true, decide_eq_true_eq] at h
  exact ⟨h.2.1, h.2.2.1⟩
def FaultOutR (t : Tr) (w w' : World) (e : Ending) : Prop := ∃ (a b E : Int), e = .returned (.tuple #[.agg #[.int .i64 a, .int .i64 b], .int .i64 E]) ∧ (E = 0 ↔ validT t = true) ∧ Ext w w'

set_option maxHeartbeats 8000000 in
set_option maxRecDepth 100000 in
theorem faultR_of (v : Value) (t : Tr) (w : World) (h : TrAt w v t) (hs : LooseTr t)
    (HPA : SmallTr t → ∀ W p i, Ext w W → Inn t (p, i) → (∀ y, Inn t y → (ev t y).kind = 3 → ∃ s, findE t 2 (ev t y).msg = some s) → Calls Try.prog 75 #[.agg #[v], .agg #[.int .i64 p, .int .i64 ((i : Int) + 1)]] W fun e w' => PastOut t (p, i) W w' e) :
    Calls Try.prog 46 #[.agg #[v]] w fun e w' => FaultOutR t w w' e := by
  have HT := Lib.hid h
  have HS0 := Lib.hid hs
  have HPAST0 := Lib.hid HPA
  have HHD := Lib.hid (fun W (hW : Ext w W) p (hp : p < t.length) => headR_calls v t p W (h.ext hW) hs hp)
  have HFO0 := Lib.hid (fun (hsm : SmallTr t) W (hW : Ext w W) p i (hp : p < t.length) (hi : i < t[p]!.events.length) => formR_calls v t p i W (h.ext hW) hsm hp hi)
  have HPR0 := Lib.hid (fun (hsm : SmallTr t) W (hW : Ext w W) p i (hx : Inn t (p, i)) (hf : formedB t.length p (ev t (p, i)) = true) => pairedR_calls v t p i W (h.ext hW) hsm hx hf)
  have HAC0 := Lib.hid (fun (hsm : SmallTr t) W (hW : Ext w W) => acyclicR_calls v t W (h.ext hW) hsm)
  obtain ⟨ta, tc, rfl, htc⟩ := h.sh
  have hn1 := hs.1
  have HX0 := Lib.hid (((Ext.rf _).al (idO 0 0)).hp (heap_alloc_new w (.cells #[.slice ta t.length tc] 24)))
  have HX1 := Lib.hid (heap_new_eq (w := w.alloc (.cells #[.slice ta t.length tc] 24)) (o := idO 0 0) (b := w.heap.size + 1) (by simp))
  have HE2 : Hid (Ext w ((w.alloc (.cells #[.slice ta t.length tc] 24)).alloc (idO 0 0))) := Lib.hid (((Ext.rf w).al _).al _)
  have HVP := Lib.hid (@validT_parts2 t)
  have HSP := Lib.hid (@shapeB_parts2 t)
  generalize hln : t.length = n at *
  have HL := Lib.hid hln
  clear h hs hln HPA
  by_cases h1 : n < 1
  · have hv : Hid (validT t = false) := Lib.hid (by rw [Bool.eq_false_iff]; intro hv; have := (HSP.out.1 (HVP.out.1 hv).1).1; omega)
    have d1 : decide ((n : Int) < 1) = true := decide_eq_true (by omega)
    have d1n : decide (n < 1) = true := decide_eq_true (by omega)
    clear h1
    go_enter Try.func46, Try.ntmps46
    go_wp2
    refine bodyPost_ret (v := .tuple #[.agg #[.int .i64 0, .int .i64 0], .int .i64 1]) (by simp [results, Try.results46, go_sem]) rfl ?_
    exact ⟨_, _, _, rfl, ⟨fun h => absurd h (by decide), fun h => by rw [hv.out] at h; exact absurd h (by decide)⟩, HE2.out⟩
  have d1 : decide ((n : Int) < 1) = false := decide_eq_false (by omega)
  have d1n : decide (n < 1) = false := decide_eq_false (by omega)
  by_cases h2 : 8 < n
  · have hv : Hid (validT t = false) := Lib.hid (by rw [Bool.eq_false_iff]; intro hv; have := (HSP.out.1 (HVP.out.1 hv).1).2.1; omega)
    have d2 : decide (8 < (n : Int)) = true := decide_eq_true (by omega)
    have d2n : decide (8 < n) = true := decide_eq_true (by omega)
    go_enter Try.func46, Try.ntmps46
    go_wp2
    refine bodyPost_ret (v := .tuple #[.agg #[.int .i64 0, .int .i64 0], .int .i64 1]) (by simp [results, Try.results46, go_sem]) rfl ?_
    exact ⟨_, _, _, rfl, ⟨fun h => absurd h (by decide), fun h => by rw [hv.out] at h; exact absurd h (by decide)⟩, HE2.out⟩
  have d2 : decide (8 < (n : Int)) = false := decide_eq_false (by omega)
  have d2n : decide (8 < n) = false := decide_eq_false (by omega)
  go_enter Try.func46, Try.ntmps46
  go_wp2
  generalize hw2 : (w.alloc (.cells #[.slice ta n tc] 24)).alloc (idO 0 0) = w2 at *
  clear hw2
  go_loopg [4] n (fun g s4 wr => ∃ p : Nat, p ≤ n ∧ n - p ≤ g ∧ s4 = .int .i64 p ∧ Aside (∀ q, q < p → headB t q = true) ∧ Aside (Ext w2 wr))
  case atStart => exact ⟨0, Nat.zero_le _, by omega, rfl, (fun j hj => absurd hj (Nat.not_lt_zero _)), Ext.rf _⟩
  case round =>
    obtain ⟨p, hp, hg, rfl, A, HEK⟩ := hrel
    have HEW := Lib.hid (HE2.out.trans' HEK.out)
    have HY0 := Lib.hid (HEK.out.hp HX0.out)
    have HY1 := Lib.hid (HEK.out.hp HX1.out)
    have t0 := cellOf HY0.out 0
    simp only [List.getElem?_toArray, List.getElem?_cons_zero] at t0
    by_cases hlt : p < n
    · have hltz : (p : Int) < (n : Int) := by omega
      have hpz : (0 : Int) ≤ (p : Int) := by omega
      have HC := Lib.hid (HHD.out wr HEW.out p (by first | exact hlt | (rw [HL.out]; exact hlt)))
      go_wp2_with fail
      refine HC.out.mono ?_
      rintro e w5 ⟨E, rfl, hE5, hX5⟩
      have HYE := Lib.hid hE5
      have HZ1 := Lib.hid (hX5.hp HY1.out)
      have HE5 := Lib.hid (HEW.out.trans' hX5)
      have HEK5 := Lib.hid (HEK.out.trans' hX5)
      clear hE5 hX5 t0
      by_cases hE0 : E = 0
      · subst hE0
        have HBP := Lib.hid (HYE.out.1 rfl)
        go_wp2
        go_roundg (n - (p + 1))
        case measure => omega
        case rel =>
          refine ⟨p + 1, by omega, by omega, by go_num, (show Aside _ from fun q hq => ?_), (show Ext _ _ from HEK5.out)⟩
          by_cases e : q = p
          · subst e; exact HBP.out
          · exact A.out q (by omega)
      · have c9 : (E != 0) = true := by simp [hE0]
        have hv : Hid (validT t = false) := Lib.hid (by
          rw [Bool.eq_false_iff]; intro hv; exact hE0 (HYE.out.2 ((HSP.out.1 (HVP.out.1 hv).1).2.2.1 p hlt)))
        have HNE := Lib.hid hE0
        clear hE0
        have q0 := cellOf HZ1.out 0
        have q1 := cellOf HZ1.out 1
        have g0 := freeOf HZ1.out 0
        have g1 := freeOf HZ1.out 1
        simp only [List.getElem?_toArray, List.getElem?_cons_zero, List.getElem?_cons_succ] at q0 q1
        go_wp2
        clear q0 q1 g0 g1
        have r0 := cellOf (id_set HZ1.out (.int .i64 p) (.int .i64 0)) 0
        have r1 := cellOf (id_set HZ1.out (.int .i64 p) (.int .i64 0)) 1
        simp only [List.getElem?_toArray, List.getElem?_cons_zero, List.getElem?_cons_succ] at r0 r1
        refine bodyPost_ret (v := .tuple #[.agg #[.int .i64 p, .int .i64 0], .int .i64 E]) (by simp [results, Try.results46, go_sem, r0, r1]) rfl ?_
        exact ⟨_, _, _, rfl, ⟨fun h => absurd h HNE.out, fun h => by rw [hv.out] at h; exact absurd h (by decide)⟩, id_ext HE5.out (by omega) _ _⟩
    · have hltz : ¬ (p : Int) < (n : Int) := by omega
      obtain rfl : n = p := by omega
      have HHA := Lib.hid A.out
      have HS := Lib.hid (HS0.out.small (fun q hq => A.out q (by rw [HL.out] at hq; exact hq)))
      have HFO := Lib.hid (HFO0.out HS.out)
      have HPR := Lib.hid (HPR0.out HS.out)
      have HAC := Lib.hid (HAC0.out HS.out)
      have HPAST := Lib.hid (HPAST0.out HS.out)
      go_wp2
      obtain ⟨wA, rfl⟩ : ∃ x, x = wr := ⟨_, rfl⟩
      clear t0 A
      go_loopg [6] n (fun g s6 wr => ∃ p : Nat, p ≤ n ∧ n - p ≤ g ∧ s6 = .int .i64 p ∧ Aside (∀ q, q < p → ∀ i, i < t[q]!.events.length → eventB t q i = true) ∧ Aside (Ext wA wr))
      case atStart => exact ⟨0, Nat.zero_le _, by omega, rfl, (fun j hj => absurd hj (Nat.not_lt_zero _)), Ext.rf _⟩
      case round =>
        obtain ⟨p, hp, hg2, rfl, A, HEK2⟩ := hrel
        have HEW2 := Lib.hid (HEW.out.trans' HEK2.out)
        have HZ0 := Lib.hid (HEK2.out.hp HY0.out)
        have HZ1 := Lib.hid (HEK2.out.hp HY1.out)
        have t0 := cellOf HZ0.out 0
        simp only [List.getElem?_toArray, List.getElem?_cons_zero] at t0
        by_cases hlt : p < n
        · have hltz : (p : Int) < (n : Int) := by omega
          have hpz : (0 : Int) ≤ (p : Int) := by omega
          obtain ⟨B, O, C, vv, ve, hve, hlC, hB, hn0, hv0, he0, hV, hE0⟩ := proc_at HT.out p (by rw [HL.out]; exact hlt)
          simp only [Value.slice.injEq] at hve
          obtain ⟨rfl, hzz, rfl⟩ := hve
          obtain ⟨ea, ec, rfl, hec⟩ := hE0.sh
          have hen := (HS.out.2 p (by rw [HL.out]; exact hlt)).2.1
          have HE00 := Lib.hid he0
          generalize hne : t[p]!.events.length = ne at *
          have HNE := Lib.hid hne
          clear hn0 hv0 hV hE0 hzz hne he0
          go_wp2
          clear t0
          obtain ⟨wB, rfl⟩ : ∃ x, x = wr := ⟨_, rfl⟩
          go_loopg [7] ne (fun g s7 wr => ∃ i : Nat, i ≤ ne ∧ ne - i ≤ g ∧ s7 = .int .i64 i ∧ Aside (∀ j, j < i → eventB t p j = true) ∧ Aside (Ext wB wr))
          case atStart => exact ⟨0, Nat.zero_le _, by omega, rfl, (fun j hj => absurd hj (Nat.not_lt_zero _)), Ext.rf _⟩
          case round =>
            obtain ⟨i, hi, hg3, rfl, A2, HEK3⟩ := hrel
            have HEW3 := Lib.hid (HEW2.out.trans' HEK3.out)
            have HQ0 := Lib.hid (HEK3.out.hp HZ0.out)
            have HQ1 := Lib.hid (HEK3.out.hp HZ1.out)
            have t0 := cellOf HQ0.out 0
            simp only [List.getElem?_toArray, List.getElem?_cons_zero] at t0
            have he1 := HEW3.out.cl HE00.out
            by_cases hlti : i < ne
            · have hltz2 : (i : Int) < (ne : Int) := by omega
              have hiz : (0 : Int) ≤ (i : Int) := by omega
              have HC := Lib.hid (HFO.out wr HEW3.out p i (by first | exact hlt | (rw [HL.out]; exact hlt)) (by rw [HNE.out]; exact hlti))
              have HEB := Lib.hid (fun hv : validT t = true => (HSP.out.1 (HVP.out.1 hv).1).2.2.2 p hlt i (by rw [HNE.out]; exact hlti))
              go_wp2_with fail
              refine HC.out.mono ?_
              rintro e w5 ⟨E, rfl, hE5, hX5⟩
              have HYE := Lib.hid hE5
              have HR1 := Lib.hid (hX5.hp HQ1.out)
              have HE5 := Lib.hid (HEW3.out.trans' hX5)
              have HEK5 := Lib.hid (HEK3.out.trans' hX5)
              clear hE5 hX5 t0 he1
              by_cases hE0 : E = 0
              · subst hE0
                have HBP := Lib.hid (HYE.out.1 rfl)
                go_wp2
                go_roundg (ne - (i + 1))
                case measure => omega
                case rel =>
                  refine ⟨i + 1, by omega, by omega, by go_num, (show Aside _ from fun q hq => ?_), (show Ext _ _ from HEK5.out)⟩
                  by_cases e : q = i
                  · subst e; exact HBP.out
                  · exact A2.out q (by omega)
              · have c9 : (E != 0) = true := by simp [hE0]
                have hv : Hid (validT t = false) := Lib.hid (by
                  rw [Bool.eq_false_iff]; intro hv; exact hE0 (HYE.out.2 (HEB.out hv)))
                have HNE2 := Lib.hid hE0
                clear hE0
                have q0 := cellOf HR1.out 0
                have q1 := cellOf HR1.out 1
                have g0 := freeOf HR1.out 0
                have g1 := freeOf HR1.out 1
                simp only [List.getElem?_toArray, List.getElem?_cons_zero, List.getElem?_cons_succ] at q0 q1
                go_wp2
                clear q0 q1 g0 g1
                have r0 := cellOf (id_set HR1.out (.int .i64 p) (.int .i64 ((i : Int) + 1))) 0
                have r1 := cellOf (id_set HR1.out (.int .i64 p) (.int .i64 ((i : Int) + 1))) 1
                simp only [List.getElem?_toArray, List.getElem?_cons_zero, List.getElem?_cons_succ] at r0 r1
                refine bodyPost_ret (v := .tuple #[.agg #[.int .i64 p, .int .i64 ((i : Int) + 1)], .int .i64 E]) (by simp [results, Try.results46, go_sem, r0, r1]) rfl ?_
                exact ⟨_, _, _, rfl, ⟨fun h => absurd h HNE2.out, fun h => by rw [hv.out] at h; exact absurd h (by decide)⟩, id_ext HE5.out (by omega) _ _⟩
            · have hltz2 : ¬ (i : Int) < (ne : Int) := by omega
              obtain rfl : ne = i := by omega
              go_wp2
              go_roundg (n - (p + 1))
              case measure => omega
              case rel =>
                refine ⟨p + 1, by omega, by omega, by go_num, (show Aside _ from fun q hq => ?_), (show Ext _ _ from HEK2.out.trans' HEK3.out)⟩
                by_cases e : q = p
                · subst e; intro j hj; exact A2.out j (by rw [HNE.out] at hj; exact hj)
                · exact A.out q (by omega)
        · have hltz : ¬ (p : Int) < (n : Int) := by omega
          obtain rfl : n = p := by omega
          have HSH := Lib.hid (show shapeB t = true from HSP.out.2 ⟨by omega, by omega, HHA.out, A.out⟩)
          go_wp2
          clear t0 A
          obtain ⟨wC, rfl⟩ : ∃ x, x = wr := ⟨_, rfl⟩
          go_loopg [9] n (fun g s0 wr => ∃ p : Nat, p ≤ n ∧ n - p ≤ g ∧ s0 = .int .i64 p ∧ Aside (∀ q, q < p → ∀ i, i < t[q]!.events.length → pairOf t (q, i) = true) ∧ Aside (Ext wC wr))
          case atStart => exact ⟨0, Nat.zero_le _, by omega, rfl, (fun j hj => absurd hj (Nat.not_lt_zero _)), Ext.rf _⟩
          case round =>
            obtain ⟨p, hp, hg2, rfl, A, HEK4⟩ := hrel
            have HEW4 := Lib.hid (HEW2.out.trans' HEK4.out)
            have HZ04 := Lib.hid (HEK4.out.hp HZ0.out)
            have HZ14 := Lib.hid (HEK4.out.hp HZ1.out)
            have t0 := cellOf HZ04.out 0
            simp only [List.getElem?_toArray, List.getElem?_cons_zero] at t0
            by_cases hlt : p < n
            · have hltz : (p : Int) < (n : Int) := by omega
              have hpz : (0 : Int) ≤ (p : Int) := by omega
              obtain ⟨B, O, C, vv, ve, hve, hlC, hB, hn0, hv0, he0, hV, hE0⟩ := proc_at HT.out p (by rw [HL.out]; exact hlt)
              simp only [Value.slice.injEq] at hve
              obtain ⟨rfl, hzz, rfl⟩ := hve
              obtain ⟨ea, ec, rfl, hec⟩ := hE0.sh
              have hen := (HS.out.2 p (by rw [HL.out]; exact hlt)).2.1
              have HE00 := Lib.hid he0
              generalize hne : t[p]!.events.length = ne at *
              have HNE := Lib.hid hne
              clear hn0 hv0 hV hE0 hzz hne he0
              go_wp2
              clear t0
              obtain ⟨wD, rfl⟩ : ∃ x, x = wr := ⟨_, rfl⟩
              go_loopg [10] ne (fun g s0 wr => ∃ i : Nat, i ≤ ne ∧ ne - i ≤ g ∧ s0 = .int .i64 i ∧ Aside (∀ j, j < i → pairOf t (p, j) = true) ∧ Aside (Ext wD wr))
              case atStart => exact ⟨0, Nat.zero_le _, by omega, rfl, (fun j hj => absurd hj (Nat.not_lt_zero _)), Ext.rf _⟩
              case round =>
                obtain ⟨i, hi, hg3, rfl, A2, HEJ4⟩ := hrel
                have HEV4 := Lib.hid (HEW4.out.trans' HEJ4.out)
                have HQ04 := Lib.hid (HEJ4.out.hp HZ04.out)
                have HQ14 := Lib.hid (HEJ4.out.hp HZ14.out)
                have t0 := cellOf HQ04.out 0
                simp only [List.getElem?_toArray, List.getElem?_cons_zero] at t0
                have he1 := HEV4.out.cl HE00.out
                by_cases hlti : i < ne
                · have hltz2 : (i : Int) < (ne : Int) := by omega
                  have hiz : (0 : Int) ≤ (i : Int) := by omega
                  have HXI := Lib.hid (show Inn t (p, i) from ⟨by rw [HL.out]; exact hlt, by show i < t[p]!.events.length; rw [HNE.out]; exact hlti⟩)
                  have HXT := Lib.hid ((Ext.rf wr).al (idO (p : Int) ((i : Int) + 1)))
                  have HBX := Lib.hid (heap_alloc_new wr (idO (p : Int) ((i : Int) + 1)))
                  have HEX4 := Lib.hid (HEV4.out.al (idO (p : Int) ((i : Int) + 1)))
                  have l0 : w.heap.size < wr.heap.size := (Array.getElem?_eq_some_iff.1 HQ04.out).1
                  have l1 : w.heap.size ≠ wr.heap.size := by omega
                  have HFB := Lib.hid ((eventB_parts.1 ((HSP.out.1 HSH.out).2.2.2 p hlt i (by rw [HNE.out]; exact hlti))).1)
                  have HC := Lib.hid (HPR.out _ HEX4.out p i HXI.out (by have := HFB.out; rw [HL.out] at this; exact this))
                  go_wp2_with fail
                  clear t0 he1
                  refine HC.out.mono ?_
                  rintro e w5 ⟨E, rfl, hE5, hX5⟩
                  have HYE := Lib.hid hE5
                  have HR1 := Lib.hid (hX5.hp (HXT.out.hp HQ14.out))
                  have HR2 := Lib.hid (hX5.hp HBX.out)
                  have HE5 := Lib.hid (HEX4.out.trans' hX5)
                  have HEK5 := Lib.hid (HEJ4.out.trans' (HXT.out.trans' hX5))
                  clear hE5 hX5
                  by_cases hE0 : E = 0
                  · subst hE0
                    have HBP := Lib.hid (HYE.out.1 rfl)
                    go_wp2
                    go_roundg (ne - (i + 1))
                    case measure => omega
                    case rel =>
                      refine ⟨i + 1, by omega, by omega, by go_num, (show Aside _ from fun q hq => ?_), (show Ext _ _ from HEK5.out)⟩
                      by_cases e : q = i
                      · subst e; exact HBP.out
                      · exact A2.out q (by omega)
                  · have c9 : (E != 0) = true := by simp [hE0]
                    have hv : Hid (validT t = false) := Lib.hid (by
                      rw [Bool.eq_false_iff]; intro hv
                      exact hE0 (HYE.out.2 (List.all_eq_true.1 (HVP.out.1 hv).2.1 (p, i) (mem_ids.2 HXI.out))))
                    have HNE2 := Lib.hid hE0
                    clear hE0
                    have z0 := cellOf HR2.out 0
                    have z1 := cellOf HR2.out 1
                    simp only [List.getElem?_toArray, List.getElem?_cons_zero, List.getElem?_cons_succ] at z0 z1
                    have q0 := cellOf HR1.out 0
                    have q1 := cellOf HR1.out 1
                    have g0 := freeOf HR1.out 0
                    have g1 := freeOf HR1.out 1
                    simp only [List.getElem?_toArray, List.getElem?_cons_zero, List.getElem?_cons_succ] at q0 q1
                    go_wp2
                    clear q0 q1 g0 g1
                    have r0 := cellOf (id_set HR1.out (.int .i64 p) (.int .i64 ((i : Int) + 1))) 0
                    have r1 := cellOf (id_set HR1.out (.int .i64 p) (.int .i64 ((i : Int) + 1))) 1
                    simp only [List.getElem?_toArray, List.getElem?_cons_zero, List.getElem?_cons_succ] at r0 r1
                    refine bodyPost_ret (v := .tuple #[.agg #[.int .i64 p, .int .i64 ((i : Int) + 1)], .int .i64 E]) (by simp [results, Try.results46, go_sem, r0, r1]) rfl ?_
                    exact ⟨_, _, _, rfl, ⟨fun h => absurd h HNE2.out, fun h => by rw [hv.out] at h; exact absurd h (by decide)⟩, id_ext HE5.out (by omega) _ _⟩
                · have hltz2 : ¬ (i : Int) < (ne : Int) := by omega
                  obtain rfl : ne = i := by omega
                  go_wp2
                  go_roundg (n - (p + 1))
                  case measure => omega
                  case rel =>
                    refine ⟨p + 1, by omega, by omega, by go_num, (show Aside _ from fun q hq => ?_), (show Ext _ _ from HEK4.out.trans' HEJ4.out)⟩
                    by_cases e : q = p
                    · subst e; intro j hj; exact A2.out j (by rw [HNE.out] at hj; exact hj)
                    · exact A.out q (by omega)
            · have hltz : ¬ (p : Int) < (n : Int) := by omega
              obtain rfl : n = p := by omega
              have HPB := Lib.hid (show pairB t = true from List.all_eq_true.2 fun x hx => by
                have hI := mem_ids.1 hx
                exact A.out x.1 (by have := hI.1; rw [HL.out] at this; exact this) x.2 hI.2)
              have HSD := Lib.hid (show ∀ y, Inn t y → (ev t y).kind = 3 → ∃ s, findE t 2 (ev t y).msg = some s from fun y hy hk => send_of (fun x hx h1 => by
                have h9 := (eventB_parts.1 ((HSP.out.1 HSH.out).2.2.2 x.1 (by have := hx.1; rw [HL.out] at this; exact this) x.2 hx.2)).1
                exact formed_peer h9 h1) HPB.out hy hk)
              have HCA := Lib.hid (HAC.out _ HEW4.out)
              go_wp2_with fail
              clear t0 A
              refine HCA.out.mono ?_
              rintro e w5 ⟨ca, rfl, hca, hX5⟩
              have HY05 := Lib.hid (hX5.hp HZ04.out)
              have HY15 := Lib.hid (hX5.hp HZ14.out)
              have HEW5 := Lib.hid (HEW4.out.trans' hX5)
              have HCAC := Lib.hid hca
              clear hX5 hca
              cases ca with
              | true =>
                have hv : Hid (validT t = true) := Lib.hid (HVP.out.2 ⟨HSH.out, HPB.out, HCAC.out rfl⟩)
                have q0 := cellOf HY15.out 0
                have q1 := cellOf HY15.out 1
                have g0 := freeOf HY15.out 0
                have g1 := freeOf HY15.out 1
                simp only [List.getElem?_toArray, List.getElem?_cons_zero, List.getElem?_cons_succ] at q0 q1
                go_wp2
                clear q0 q1 g0 g1
                have r0 := cellOf (id_set HY15.out (.int .i64 0) (.int .i64 0)) 0
                have r1 := cellOf (id_set HY15.out (.int .i64 0) (.int .i64 0)) 1
                simp only [List.getElem?_toArray, List.getElem?_cons_zero, List.getElem?_cons_succ] at r0 r1
                refine bodyPost_ret (v := .tuple #[.agg #[.int .i64 0, .int .i64 0], .int .i64 0]) (by simp [results, Try.results46, go_sem, r0, r1]) rfl ?_
                exact ⟨_, _, _, rfl, ⟨fun _ => hv.out, fun _ => rfl⟩, id_ext HEW5.out (by omega) _ _⟩
              | false =>
              have t0 := cellOf HY05.out 0
              simp only [List.getElem?_toArray, List.getElem?_cons_zero] at t0
              go_wp2
              clear t0
              obtain ⟨wr, rfl⟩ : ∃ x, x = w5 := ⟨_, rfl⟩
              obtain ⟨wE, rfl⟩ : ∃ x, x = wr := ⟨_, rfl⟩
              go_loopg [13] n (fun g s0 wr => ∃ p : Nat, p ≤ n ∧ n - p ≤ g ∧ s0 = .int .i64 p ∧ Aside (∀ q, q < p → ∀ i, i < t[q]!.events.length → ¬ Relation.TransGen (Dir t) (q, i) (q, i)) ∧ Aside (Ext wE wr))
              case atStart => exact ⟨0, Nat.zero_le _, by omega, rfl, (fun j hj => absurd hj (Nat.not_lt_zero _)), Ext.rf _⟩
              case round =>
                obtain ⟨p, hp, hg2, rfl, A, HEK6⟩ := hrel
                have HEW6 := Lib.hid (HEW5.out.trans' HEK6.out)
                have HZ06 := Lib.hid (HEK6.out.hp HY05.out)
                have HZ16 := Lib.hid (HEK6.out.hp HY15.out)
                have t0 := cellOf HZ06.out 0
                simp only [List.getElem?_toArray, List.getElem?_cons_zero] at t0
                by_cases hlt : p < n
                · have hltz : (p : Int) < (n : Int) := by omega
                  have hpz : (0 : Int) ≤ (p : Int) := by omega
                  obtain ⟨B, O, C, vv, ve, hve, hlC, hB, hn0, hv0, he0, hV, hE0⟩ := proc_at HT.out p (by rw [HL.out]; exact hlt)
                  simp only [Value.slice.injEq] at hve
                  obtain ⟨rfl, hzz, rfl⟩ := hve
                  obtain ⟨ea, ec, rfl, hec⟩ := hE0.sh
                  have hen := (HS.out.2 p (by rw [HL.out]; exact hlt)).2.1
                  have HE00 := Lib.hid he0
                  generalize hne : t[p]!.events.length = ne at *
                  have HNE := Lib.hid hne
                  clear hn0 hv0 hV hE0 hzz hne he0
                  go_wp2
                  clear t0
                  obtain ⟨wF, rfl⟩ : ∃ x, x = wr := ⟨_, rfl⟩
                  go_loopg [14] ne (fun g s0 wr => ∃ i : Nat, i ≤ ne ∧ ne - i ≤ g ∧ s0 = .int .i64 i ∧ Aside (∀ j, j < i → ¬ Relation.TransGen (Dir t) (p, j) (p, j)) ∧ Aside (Ext wF wr))
                  case atStart => exact ⟨0, Nat.zero_le _, by omega, rfl, (fun j hj => absurd hj (Nat.not_lt_zero _)), Ext.rf _⟩
                  case round =>
                    obtain ⟨i, hi, hg3, rfl, A2, HEJ6⟩ := hrel
                    have HEV6 := Lib.hid (HEW6.out.trans' HEJ6.out)
                    have HQ06 := Lib.hid (HEJ6.out.hp HZ06.out)
                    have HQ16 := Lib.hid (HEJ6.out.hp HZ16.out)
                    have t0 := cellOf HQ06.out 0
                    simp only [List.getElem?_toArray, List.getElem?_cons_zero] at t0
                    have he1 := HEV6.out.cl HE00.out
                    by_cases hlti : i < ne
                    · have hltz2 : (i : Int) < (ne : Int) := by omega
                      have hiz : (0 : Int) ≤ (i : Int) := by omega
                      have HXI := Lib.hid (show Inn t (p, i) from ⟨by rw [HL.out]; exact hlt, by show i < t[p]!.events.length; rw [HNE.out]; exact hlti⟩)
                      have HXT := Lib.hid ((Ext.rf wr).al (idO (p : Int) ((i : Int) + 1)))
                      have HBX := Lib.hid (heap_alloc_new wr (idO (p : Int) ((i : Int) + 1)))
                      have HEX6 := Lib.hid (HEV6.out.al (idO (p : Int) ((i : Int) + 1)))
                      have l0 : w.heap.size < wr.heap.size := (Array.getElem?_eq_some_iff.1 HQ06.out).1
                      have l1 : w.heap.size ≠ wr.heap.size := by omega
                      have HC := Lib.hid (HPAST.out _ p i HEX6.out HXI.out HSD.out)
                      go_wp2_with fail
                      clear t0 he1
                      refine HC.out.mono ?_
                      rintro e w5 ⟨pb, po, pc, Bs, rfl, hpc, hpb, hX5, hcells⟩
                      obtain ⟨hq0, hq1, hq2⟩ := hcells p (by rw [HL.out]; exact hlt)
                      have hq3 := hq2 i (by rw [HNE.out]; exact hlti)
                      rw [HNE.out] at hq0
                      rw [HL.out] at hpc ⊢
                      have HR1 := Lib.hid (hX5.hp (HXT.out.hp HQ16.out))
                      have HR2 := Lib.hid (hX5.hp HBX.out)
                      have HE5 := Lib.hid (HEX6.out.trans' hX5)
                      have HEK5 := Lib.hid (HEJ6.out.trans' (HXT.out.trans' hX5))
                      clear hX5 hcells hq2
                      generalize Bs[p]! = bq at *
                      obtain ⟨cy, hcy⟩ : ∃ c : Bool, @decide (Relation.TransGen (Dir t) (p, i) (p, i)) (Classical.propDecidable _) = c := ⟨_, rfl⟩
                      rw [hcy] at hq3
                      have HCY := Lib.hid hcy
                      clear hcy
                      have hpi2 : (p : Int) < (n : Int) := by omega
                      have hii2 : (i : Int) + 1 < (ne : Int) + 1 := by omega
                      cases cy with
                      | true =>
                        have hv : Hid (validT t = false) := Lib.hid (by
                          rw [Bool.eq_false_iff]; intro hv; exact (HVP.out.1 hv).2.2 ⟨_, cdec_true HCY.out⟩)
                        have z0 := cellOf HR2.out 0
                        have z1 := cellOf HR2.out 1
                        simp only [List.getElem?_toArray, List.getElem?_cons_zero, List.getElem?_cons_succ] at z0 z1
                        have q0 := cellOf HR1.out 0
                        have q1 := cellOf HR1.out 1
                        have g0 := freeOf HR1.out 0
                        have g1 := freeOf HR1.out 1
                        simp only [List.getElem?_toArray, List.getElem?_cons_zero, List.getElem?_cons_succ] at q0 q1
                        go_wp2
                        clear q0 q1 g0 g1
                        have r0 := cellOf (id_set HR1.out (.int .i64 p) (.int .i64 ((i : Int) + 1))) 0
                        have r1 := cellOf (id_set HR1.out (.int .i64 p) (.int .i64 ((i : Int) + 1))) 1
                        simp only [List.getElem?_toArray, List.getElem?_cons_zero, List.getElem?_cons_succ] at r0 r1
                        refine bodyPost_ret (v := .tuple #[.agg #[.int .i64 p, .int .i64 ((i : Int) + 1)], .int .i64 10]) (by simp [results, Try.results46, go_sem, r0, r1]) rfl ?_
                        exact ⟨_, _, _, rfl, ⟨fun h => absurd h (by decide), fun h => by rw [hv.out] at h; exact absurd h (by decide)⟩, id_ext HE5.out (by omega) _ _⟩
                      | false =>
                        go_wp2
                        go_roundg (ne - (i + 1))
                        case measure => omega
                        case rel =>
                          refine ⟨i + 1, by omega, by omega, by go_num, (show Aside _ from fun q hq => ?_), (show Ext _ _ from HEK5.out)⟩
                          by_cases e : q = i
                          · subst e; exact cdec_false HCY.out
                          · exact A2.out q (by omega)
                    · have hltz2 : ¬ (i : Int) < (ne : Int) := by omega
                      obtain rfl : ne = i := by omega
                      go_wp2
                      go_roundg (n - (p + 1))
                      case measure => omega
                      case rel =>
                        refine ⟨p + 1, by omega, by omega, by go_num, (show Aside _ from fun q hq => ?_), (show Ext _ _ from HEK6.out.trans' HEJ6.out)⟩
                        by_cases e : q = p
                        · subst e; intro j hj; exact A2.out j (by rw [HNE.out] at hj; exact hj)
                        · exact A.out q (by omega)
                · have hltz : ¬ (p : Int) < (n : Int) := by omega
                  obtain rfl : n = p := by omega
                  have hv : Hid (validT t = true) := Lib.hid (HVP.out.2 ⟨HSH.out, HPB.out, fun ⟨x, hx⟩ => A.out x.1 (by have := (tg_inn hx).1; rw [HL.out] at this; exact this) x.2 (tg_inn hx).2 hx⟩)
                  have q0 := cellOf HZ16.out 0
                  have q1 := cellOf HZ16.out 1
                  have g0 := freeOf HZ16.out 0
                  have g1 := freeOf HZ16.out 1
                  simp only [List.getElem?_toArray, List.getElem?_cons_zero, List.getElem?_cons_succ] at q0 q1
                  go_wp2
                  clear q0 q1 g0 g1
                  have r0 := cellOf (id_set HZ16.out (.int .i64 0) (.int .i64 0)) 0
                  have r1 := cellOf (id_set HZ16.out (.int .i64 0) (.int .i64 0)) 1
                  simp only [List.getElem?_toArray, List.getElem?_cons_zero, List.getElem?_cons_succ] at r0 r1
                  refine bodyPost_ret (v := .tuple #[.agg #[.int .i64 0, .int .i64 0], .int .i64 0]) (by simp [results, Try.results46, go_sem, r0, r1]) rfl ?_
                  exact ⟨_, _, _, rfl, ⟨fun _ => hv.out, fun _ => rfl⟩, id_ext HEW6.out (by omega) _ _⟩

end Go.Proofs.Ytfcpnggdpaeldaa

/-
  Whether a trace is valid: the reference's Fault and Valid.
-/
namespace Go.Proofs.Ytfcpnggdpaeldaa
open Go.RowKit
set_option linter.unusedVariables false

theorem faultR_calls (v : Value) (t : Tr) (w : World) (h : TrAt w v t) (hs : LooseTr t) : Calls Try.prog 46 #[.agg #[v]] w fun e w' => FaultOutR t w w' e :=
  faultR_of v t w h hs fun hsm W p i hW hx hsd => pastR_calls v t p i W (h.ext hW) hsm hx hsd

set_option maxHeartbeats 2000000 in
theorem validR_calls (v : Value) (t : Tr) (w : World) (h : TrAt w v t) (hs : LooseTr t) : Calls Try.prog 20 #[.agg #[v]] w fun e w' => e = .returned (.bool (validT t)) ∧ Ext w w' := by
  have HFC := Lib.hid (fun W (hW : Ext w W) => faultR_calls v t W (h.ext hW) hs)
  obtain ⟨ta, tc, rfl, htc⟩ := h.sh
  generalize t.length = N at *
  have HE1 := Lib.hid ((Ext.rf w).al (.cells #[.slice ta N tc] 24))
  clear h hs
  obtain ⟨vt, hvt⟩ : ∃ b, validT t = b := ⟨_, rfl⟩
  rw [hvt]
  have HVT := Lib.hid hvt
  clear hvt
  go_enter Try.func20, Try.ntmps20
  go_wp2_with fail
  refine (HFC.out _ HE1.out).mono ?_
  rintro e w2 ⟨a, b, E, rfl, hE, hX⟩
  rw [HVT.out] at hE
  have HX := Lib.hid (HE1.out.trans' hX)
  have HE := Lib.hid hE
  clear hE hX
  obtain ⟨c, hc⟩ : ∃ c, (E == 0) = c := ⟨_, rfl⟩
  have HC := Lib.hid hc
  go_wp2
  go_ret
  have e : vt = c := by
    have h1 := HE.out
    have h2 := HC.out
    cases c <;> cases vt <;> simp_all
  subst e
  exact ⟨rfl, HX.out.al _⟩

end Go.Proofs.Ytfcpnggdpaeldaa
