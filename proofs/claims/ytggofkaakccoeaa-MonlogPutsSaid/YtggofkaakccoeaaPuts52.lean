import Derived.Test.YtggofkaakccoeaaBase
import Derived.Test.YtggofkaakccoeaaProg
import Derived.Test.YtggofkaakccoeaaRecP52
import Derived.Test.YtggofkaakccoeaaReadW52
import Derived.Test.YtggofkaakccoeaaAppsL52
import Derived.Test.YtggofkaakccoeaaPutB52
import Derived.Test.YtggofkaakccoeaaCkP
import Derived.BigQuiet
import Derived.Deep.QuietTactic
import Derived.Deep.LoopGhost
import Derived.Shelf.Abstract
/-
  Recover of the reference.
-/
namespace Go.Proofs.Ytggofkaakccoeaa
open Go.RowKit
set_option linter.unusedVariables false
attribute [local go_sem ↓] Go.wp_at_zero Go.wp_at_succ

set_option maxHeartbeats 4000000 in
set_option maxRecDepth 100000 in
theorem recR_no (v : Value) (l : List Int) (d f n : Int) (w : World) (hv : Bys w v l) (hn : l.length ≤ 200000) (hval : validJ l.length d f = false) :
    Calls Try.prog 33 #[.agg #[v, .int .i64 d, .int .i64 f], .int .i64 n] w fun e w' => TwoOut w w' e zeroC 1 := by
  have HV := Lib.hid hv
  obtain ⟨hby, a, c, rfl, hlc, hx⟩ := hv
  have hfew := recs_few hby
  have HRB := Lib.hid (fun r hr => records_byte l.length l (Nat.le_refl _) hby r hr)
  clear hx hby
  generalize hrs : recordsL l = rs at *
  have HRS := Lib.hid hrs
  generalize hm : l.length = m at *
  have HM := Lib.hid hm
  clear hrs hm
  have HVAL := Lib.hid hval
  clear hval
  go_enter Try.func33, Try.ntmps33
  go_wp2_with fail
  refine (refValid_calls a m c d f _ (by omega)).mono ?_
  rw [HVAL.out]
  rintro e w1 ⟨rfl, hE1⟩
  have HJ := Lib.hid (hE1.hp (((Ext.rf (w.alloc (journalT (.slice a m c) d f))).al (ckT (.slice none 0 0) (.slice none 0 0) (.bool false) (.slice none 0 0))).hp (heap_alloc_new w (journalT (.slice a m c) d f))))
  have HR := Lib.hid (hE1.hp (heap_new_eq (w := w.alloc (journalT (.slice a m c) d f)) (o := ckT (.slice none 0 0) (.slice none 0 0) (.bool false) (.slice none 0 0)) (b := w.heap.size + 1) (by simp)))
  have HE1 := Lib.hid ((((Ext.rf w).al (journalT (.slice a m c) d f)).al (ckT (.slice none 0 0) (.slice none 0 0) (.bool false) (.slice none 0 0))).trans' hE1)
  have hsz1 : w.heap.size + 2 ≤ w1.heap.size := by have := hE1.sz; simp at this; omega
  clear hE1
  have r0 := cellOf HR.out 0
  have r1 := cellOf HR.out 1
  have r2 := cellOf HR.out 2
  have r3 := cellOf HR.out 3
  simp only [List.getElem?_toArray, List.getElem?_cons_zero, List.getElem?_cons_succ] at r0 r1 r2 r3
  have y0 := freeOf HR.out 0
  have y1 := freeOf HR.out 1
  have y2 := freeOf HR.out 2
  have y3 := freeOf HR.out 3
  go_wp2
  refine bodyPost_ret (v := .tuple #[.agg #[.slice none 0 0, .slice none 0 0, .bool false, .slice none 0 0], .int .i64 1]) (by simp [results, Try.results33, go_sem, r0, r1, r2, r3]) rfl (zero_two ⟨rfl, box_ext HE1.out (by omega) _ _ _ _⟩)

set_option maxHeartbeats 4000000 in
set_option maxRecDepth 100000 in
theorem recR_range (v : Value) (l : List Int) (d f n : Int) (w : World) (hv : Bys w v l) (hn : l.length ≤ 200000) (hval : validJ l.length d f = true) (h : n < 1 ∨ 8 < n) :
    Calls Try.prog 33 #[.agg #[v, .int .i64 d, .int .i64 f], .int .i64 n] w fun e w' => TwoOut w w' e zeroC 2 := by
  have key : n < 1 ∨ (¬ n < 1 ∧ 8 < n) := by omega
  have HV := Lib.hid hv
  obtain ⟨hby, a, c, rfl, hlc, hx⟩ := hv
  have hfew := recs_few hby
  have HRB := Lib.hid (fun r hr => records_byte l.length l (Nat.le_refl _) hby r hr)
  clear hx hby
  generalize hrs : recordsL l = rs at *
  have HRS := Lib.hid hrs
  generalize hm : l.length = m at *
  have HM := Lib.hid hm
  clear hrs hm
  have HVAL := Lib.hid hval
  clear hval h
  rcases key with h1 | ⟨h1, h2⟩
  · have b1 : decide (n < 1) = true := by simpa using h1
    go_enter Try.func33, Try.ntmps33
    go_wp2_with fail
    refine (refValid_calls a m c d f _ (by omega)).mono ?_
    rw [HVAL.out]
    rintro e w1 ⟨rfl, hE1⟩
    have HJ := Lib.hid (hE1.hp (((Ext.rf (w.alloc (journalT (.slice a m c) d f))).al (ckT (.slice none 0 0) (.slice none 0 0) (.bool false) (.slice none 0 0))).hp (heap_alloc_new w (journalT (.slice a m c) d f))))
    have HR := Lib.hid (hE1.hp (heap_new_eq (w := w.alloc (journalT (.slice a m c) d f)) (o := ckT (.slice none 0 0) (.slice none 0 0) (.bool false) (.slice none 0 0)) (b := w.heap.size + 1) (by simp)))
    have HE1 := Lib.hid ((((Ext.rf w).al (journalT (.slice a m c) d f)).al (ckT (.slice none 0 0) (.slice none 0 0) (.bool false) (.slice none 0 0))).trans' hE1)
    have hsz1 : w.heap.size + 2 ≤ w1.heap.size := by have := hE1.sz; simp at this; omega
    clear hE1
    have r0 := cellOf HR.out 0
    have r1 := cellOf HR.out 1
    have r2 := cellOf HR.out 2
    have r3 := cellOf HR.out 3
    simp only [List.getElem?_toArray, List.getElem?_cons_zero, List.getElem?_cons_succ] at r0 r1 r2 r3
    have y0 := freeOf HR.out 0
    have y1 := freeOf HR.out 1
    have y2 := freeOf HR.out 2
    have y3 := freeOf HR.out 3
    go_wp2
    refine bodyPost_ret (v := .tuple #[.agg #[.slice none 0 0, .slice none 0 0, .bool false, .slice none 0 0], .int .i64 2]) (by simp [results, Try.results33, go_sem, r0, r1, r2, r3]) rfl (zero_two ⟨rfl, box_ext HE1.out (by omega) _ _ _ _⟩)
  · have b1 : decide (n < 1) = false := by simpa using h1
    have b2 : decide (8 < n) = true := by simpa using h2
    go_enter Try.func33, Try.ntmps33
    go_wp2_with fail
    refine (refValid_calls a m c d f _ (by omega)).mono ?_
    rw [HVAL.out]
    rintro e w1 ⟨rfl, hE1⟩
    have HJ := Lib.hid (hE1.hp (((Ext.rf (w.alloc (journalT (.slice a m c) d f))).al (ckT (.slice none 0 0) (.slice none 0 0) (.bool false) (.slice none 0 0))).hp (heap_alloc_new w (journalT (.slice a m c) d f))))
    have HR := Lib.hid (hE1.hp (heap_new_eq (w := w.alloc (journalT (.slice a m c) d f)) (o := ckT (.slice none 0 0) (.slice none 0 0) (.bool false) (.slice none 0 0)) (b := w.heap.size + 1) (by simp)))
    have HE1 := Lib.hid ((((Ext.rf w).al (journalT (.slice a m c) d f)).al (ckT (.slice none 0 0) (.slice none 0 0) (.bool false) (.slice none 0 0))).trans' hE1)
    have hsz1 : w.heap.size + 2 ≤ w1.heap.size := by have := hE1.sz; simp at this; omega
    clear hE1
    have r0 := cellOf HR.out 0
    have r1 := cellOf HR.out 1
    have r2 := cellOf HR.out 2
    have r3 := cellOf HR.out 3
    simp only [List.getElem?_toArray, List.getElem?_cons_zero, List.getElem?_cons_succ] at r0 r1 r2 r3
    have y0 := freeOf HR.out 0
    have y1 := freeOf HR.out 1
    have y2 := freeOf HR.out 2
    have y3 := freeOf HR.out 3
    go_wp2
    refine bodyPost_ret (v := .tuple #[.agg #[.slice none 0 0, .slice none 0 0, .bool false, .slice none 0 0], .int .i64 2]) (by simp [results, Try.results33, go_sem, r0, r1, r2, r3]) rfl (zero_two ⟨rfl, box_ext HE1.out (by omega) _ _ _ _⟩)


set_option maxHeartbeats 8000000 in
set_option maxRecDepth 100000 in
theorem recR_form (v : Value) (l : List Int) (d f : Int) (M : Nat) (w : World) (hv : Bys w v l) (hn : l.length ≤ 200000) (hval : validJ l.length d f = true) (hM1 : 1 ≤ M) (hM2 : M ≤ 8) (hall : (recordsL l).all okR = false) :
    Calls Try.prog 33 #[.agg #[v, .int .i64 d, .int .i64 f], .int .i64 M] w fun e w' => TwoOut w w' e zeroC 3 := by
  have HV := Lib.hid hv
  obtain ⟨hby, a, c, rfl, hlc, hx⟩ := hv
  have hfew := recs_few hby
  have HRB := Lib.hid (fun r hr => records_byte l.length l (Nat.le_refl _) hby r hr)
  clear hx hby
  generalize hrs : recordsL l = rs at *
  have HRS := Lib.hid hrs
  generalize hm : l.length = m at *
  have HM := Lib.hid hm
  clear hrs hm
  have HVAL := Lib.hid hval
  have HALL := Lib.hid hall
  clear hval hall
  have b1 : decide ((M : Int) < 1) = false := by simp; omega
  have b1n : decide (M < 1) = false := by simp; omega
  have b2 : decide (8 < (M : Int)) = false := by simp; omega
  have b2n : decide (8 < M) = false := by simp; omega
  have HBB := Lib.hid (And.intro hM1 hM2)
  clear hM1 hM2
  go_enter Try.func33, Try.ntmps33
  go_wp2_with fail
  refine (refValid_calls a m c d f _ (by omega)).mono ?_
  rw [HVAL.out]
  rintro e w1 ⟨rfl, hE1⟩
  have HJ := Lib.hid (hE1.hp (((Ext.rf (w.alloc (journalT (.slice a m c) d f))).al (ckT (.slice none 0 0) (.slice none 0 0) (.bool false) (.slice none 0 0))).hp (heap_alloc_new w (journalT (.slice a m c) d f))))
  have HR := Lib.hid (hE1.hp (heap_new_eq (w := w.alloc (journalT (.slice a m c) d f)) (o := ckT (.slice none 0 0) (.slice none 0 0) (.bool false) (.slice none 0 0)) (b := w.heap.size + 1) (by simp)))
  have HE1 := Lib.hid ((((Ext.rf w).al (journalT (.slice a m c) d f)).al (ckT (.slice none 0 0) (.slice none 0 0) (.bool false) (.slice none 0 0))).trans' hE1)
  have hsz1 : w.heap.size + 2 ≤ w1.heap.size := by have := hE1.sz; simp at this; omega
  clear hE1
  have j0 := cellOf HJ.out 0
  have j1 := cellOf HJ.out 1
  have j2 := cellOf HJ.out 2
  simp only [List.getElem?_toArray, List.getElem?_cons_zero, List.getElem?_cons_succ] at j0 j1 j2
  go_wp2_with fail
  refine (read_calls (.slice a m c) l d f w1 (HV.out.ext HE1.out) (by rw [HM.out]; omega)).mono ?_
  rw [HRS.out]
  rintro e w4 ⟨v4, rfl, hRR, hE4⟩
  obtain ⟨ra, rc, rfl, hrc⟩ := hRR.anyShape
  have HRR := Lib.hid hRR
  have HSL := Lib.hid (hRR.sl (fun r hr => (HRB.out r hr).1))
  have HE4 := Lib.hid (HE1.out.trans' hE4)
  have HR4 := Lib.hid (hE4.hp HR.out)
  have hsz4 := hE4.sz
  generalize hnl : rs.length = N at *
  have HN := Lib.hid hnl
  clear hRR hE4 hnl j0 j1 j2
  go_wp2
  go_loopg [7, 8, 9, 10] N (fun g s7 _ _ _ wr => ∃ k : Nat, k ≤ N ∧ N - k ≤ g ∧ s7 = .int .i64 k ∧ Aside (∀ j, j < k → okR rs[j]! = true) ∧ Aside (Ext w4 wr))
  case atStart => exact ⟨0, Nat.zero_le _, by omega, rfl, (fun j hj => absurd hj (Nat.not_lt_zero _)), Ext.rf _⟩
  case round =>
    obtain ⟨k, hk, hg, rfl, HOK, HXR⟩ := hrel
    by_cases hlt : k < N
    · have hltz : (k : Int) < (N : Int) := by omega
      have hkz : (0 : Int) ≤ (k : Int) := by omega
      obtain ⟨B, O, C, cv, hue, _, _, hcell0, ⟨u, hu, hbu⟩⟩ := HSL.out.at1 k (by rw [HN.out]; exact hlt)
      simp only [List.cons.injEq, and_true] at hu
      subst hu
      simp only [Value.slice.injEq] at hue
      obtain ⟨rfl, hnn, rfl⟩ := hue
      have hrb := HRB.out rs[k]! (mem_at rs k (by rw [HN.out]; exact hlt))
      have hcell := HXR.out.cl hcell0
      clear hcell0 hnn
      cases hok : okR rs[k]! with
      | false =>
        have HST := Lib.hid (parseQ_no cv rs[k]! wr (hbu.ext HXR.out) (by have := hrb.2; omega) hok)
        clear hbu hrb hok
        go_wp2_with fail
        refine HST.out.mono ?_
        rintro e w5 ⟨rfl, hE5⟩
        have HR5 := Lib.hid ((HXR.out.trans' hE5).hp HR4.out)
        have HE5 := Lib.hid (HE4.out.trans' (HXR.out.trans' hE5))
        clear hE5 hcell
        have r0 := cellOf HR5.out 0
        have r1 := cellOf HR5.out 1
        have r2 := cellOf HR5.out 2
        have r3 := cellOf HR5.out 3
        simp only [List.getElem?_toArray, List.getElem?_cons_zero, List.getElem?_cons_succ] at r0 r1 r2 r3
        have y0 := freeOf HR5.out 0
        have y1 := freeOf HR5.out 1
        have y2 := freeOf HR5.out 2
        have y3 := freeOf HR5.out 3
        go_wp2
        refine bodyPost_ret (v := .tuple #[.agg #[.slice none 0 0, .slice none 0 0, .bool false, .slice none 0 0], .int .i64 3]) (by simp [results, Try.results33, go_sem, r0, r1, r2, r3]) rfl (zero_two ⟨rfl, box_ext HE5.out (by omega) _ _ _ _⟩)
      | true =>
        have HST := Lib.hid (parseQ_yes cv rs[k]! wr (hbu.ext HXR.out) (by have := hrb.2; omega) hok)
        have HK := Lib.hid hok
        clear hbu hrb hok
        go_wp2_with fail
        refine HST.out.mono ?_
        rintro e w5 ⟨v5, rfl, hR5, hE5⟩
        have HE5 := Lib.hid (HXR.out.trans' hE5)
        clear hE5 hcell hR5
        go_wp2
        go_roundg (N - (k + 1))
        case measure => omega
        case rel =>
          refine ⟨k + 1, by omega, by omega, by go_num, (show Aside _ from fun j hj => ?_), (show Ext _ _ from HE5.out)⟩
          by_cases e : j = k
          · subst e; exact HK.out
          · exact HOK.out j (by omega)
    · exfalso
      have ha := all_hit okR rs (fun j hj => HOK.out j (by rw [HN.out] at hj; omega))
      rw [HALL.out] at ha
      exact absurd ha (by simp)

set_option maxHeartbeats 16000000 in
set_option maxRecDepth 100000 in
theorem recR_ok (v : Value) (l : List Int) (d f : Int) (M : Nat) (w : World) (hv : Bys w v l) (hn : l.length ≤ 200000) (hval : validJ l.length d f = true) (hM1 : 1 ≤ M) (hM2 : M ≤ 8) (hall : (recordsL l).all okR = true) :
    Calls Try.prog 33 #[.agg #[v, .int .i64 d, .int .i64 f], .int .i64 M] w fun e w' => TwoOut w w' e (foldRec vecR (recordsL l) (newC M)).1 (foldRec vecR (recordsL l) (newC M)).2 := by
  have HV := Lib.hid hv
  obtain ⟨hby, a, c, rfl, hlc, hx⟩ := hv
  have hfew := recs_few hby
  have HRB := Lib.hid (fun r hr => records_byte l.length l (Nat.le_refl _) hby r hr)
  clear hx hby
  generalize hrs : recordsL l = rs at *
  have HRS := Lib.hid hrs
  generalize hm : l.length = m at *
  have HM := Lib.hid hm
  clear hrs hm
  have HVAL := Lib.hid hval
  have HALL := Lib.hid hall
  have HNB := Lib.hid (fun W => newR_ok M W hM1 hM2)
  have HSM0 := Lib.hid (newC_small M hM2)
  generalize hfr : foldRec vecR rs (newC M) = FR at *
  have HFR := Lib.hid hfr
  clear hval hall hfr
  have b1 : decide ((M : Int) < 1) = false := by simp; omega
  have b1n : decide (M < 1) = false := by simp; omega
  have b2 : decide (8 < (M : Int)) = false := by simp; omega
  have b2n : decide (8 < M) = false := by simp; omega
  have HBB := Lib.hid (And.intro hM1 hM2)
  clear hM1 hM2
  go_enter Try.func33, Try.ntmps33
  go_wp2_with fail
  refine (refValid_calls a m c d f _ (by omega)).mono ?_
  rw [HVAL.out]
  rintro e w1 ⟨rfl, hE1⟩
  have HJ := Lib.hid (hE1.hp (((Ext.rf (w.alloc (journalT (.slice a m c) d f))).al (ckT (.slice none 0 0) (.slice none 0 0) (.bool false) (.slice none 0 0))).hp (heap_alloc_new w (journalT (.slice a m c) d f))))
  have HR := Lib.hid (hE1.hp (heap_new_eq (w := w.alloc (journalT (.slice a m c) d f)) (o := ckT (.slice none 0 0) (.slice none 0 0) (.bool false) (.slice none 0 0)) (b := w.heap.size + 1) (by simp)))
  have HE1 := Lib.hid ((((Ext.rf w).al (journalT (.slice a m c) d f)).al (ckT (.slice none 0 0) (.slice none 0 0) (.bool false) (.slice none 0 0))).trans' hE1)
  have hsz1 : w.heap.size + 2 ≤ w1.heap.size := by have := hE1.sz; simp at this; omega
  clear hE1
  have j0 := cellOf HJ.out 0
  have j1 := cellOf HJ.out 1
  have j2 := cellOf HJ.out 2
  simp only [List.getElem?_toArray, List.getElem?_cons_zero, List.getElem?_cons_succ] at j0 j1 j2
  go_wp2_with fail
  refine (read_calls (.slice a m c) l d f w1 (HV.out.ext HE1.out) (by rw [HM.out]; omega)).mono ?_
  rw [HRS.out]
  rintro e w4 ⟨v4, rfl, hRR, hE4⟩
  obtain ⟨ra, rc, rfl, hrc⟩ := hRR.anyShape
  have HRR := Lib.hid hRR
  have HSL := Lib.hid (hRR.sl (fun r hr => (HRB.out r hr).1))
  have HE4 := Lib.hid (HE1.out.trans' hE4)
  have HR4 := Lib.hid (hE4.hp HR.out)
  have hsz4 := hE4.sz
  generalize hnl : rs.length = N at *
  have HN := Lib.hid hnl
  clear hRR hE4 hnl j0 j1 j2
  go_wp2
  go_loopg [7, 8, 9, 10] N (fun g s7 _ _ _ wr => ∃ k : Nat, k ≤ N ∧ N - k ≤ g ∧ s7 = .int .i64 k ∧ Aside (Ext w4 wr))
  case atStart => exact ⟨0, Nat.zero_le _, by omega, rfl, Ext.rf _⟩
  case round =>
    obtain ⟨k, hk, hg, rfl, HXR⟩ := hrel
    by_cases hlt : k < N
    · have hltz : (k : Int) < (N : Int) := by omega
      have hkz : (0 : Int) ≤ (k : Int) := by omega
      obtain ⟨B, O, C, cv, hue, _, _, hcell0, ⟨u, hu, hbu⟩⟩ := HSL.out.at1 k (by rw [HN.out]; exact hlt)
      simp only [List.cons.injEq, and_true] at hu
      subst hu
      simp only [Value.slice.injEq] at hue
      obtain ⟨rfl, hnn, rfl⟩ := hue
      have hrb := HRB.out rs[k]! (mem_at rs k (by rw [HN.out]; exact hlt))
      have hcell := HXR.out.cl hcell0
      clear hcell0 hnn
      have hok : okR rs[k]! = true := List.all_eq_true.1 HALL.out _ (mem_at rs k (by rw [HN.out]; exact hlt))
      have HST := Lib.hid (parseQ_yes cv rs[k]! wr (hbu.ext HXR.out) (by have := hrb.2; omega) hok)
      clear hbu hrb hok
      go_wp2_with fail
      refine HST.out.mono ?_
      rintro e w5 ⟨v5, rfl, hR5, hE5⟩
      have HE5 := Lib.hid (HXR.out.trans' hE5)
      clear hE5 hcell hR5
      go_wp2
      go_roundg (N - (k + 1))
      case measure => omega
      case rel => exact ⟨k + 1, by omega, by omega, by go_num, (show Ext _ _ from HE5.out)⟩
    · have hltz : ¬ (k : Int) < (N : Int) := by omega
      obtain rfl : N = k := by omega
      have hszr := HXR.out.sz
      go_wp2_with fail
      refine (HNB.out wr).mono ?_
      rintro e w2 ⟨vq, ve, vd, rfl, hO, hE2⟩
      have HR2 := Lib.hid (hE2.hp (HXR.out.hp HR4.out))
      have HE2 := Lib.hid (HE4.out.trans' (HXR.out.trans' hE2))
      have HRR2 := Lib.hid (HRR.out.ext (HXR.out.trans' hE2))
      have hsz2 := hE2.sz
      have hC := hO.read
      obtain ⟨qa, qc, rfl, _⟩ := hC.1.shape
      obtain ⟨ea, ec, rfl, _⟩ := hC.2.1.shape
      obtain ⟨ca, cc, hce, _, _⟩ := hC.2.2
      subst hce
      rw [show (newC M).done = false from rfl]
      have HBS := Lib.hid (heap_alloc_new w2 (ckT (.slice qa (newC M).qs.length qc) (.slice ea (newC M).ended.length ec) (.bool false) (.slice ca (newC M).cut.length cc)))
      have HE23 := Lib.hid ((Ext.rf w2).al (ckT (.slice qa (newC M).qs.length qc) (.slice ea (newC M).ended.length ec) (.bool false) (.slice ca (newC M).cut.length cc)))
      have HSZ3 := Lib.hid (show (w2.alloc (ckT (.slice qa (newC M).qs.length qc) (.slice ea (newC M).ended.length ec) (.bool false) (.slice ca (newC M).cut.length cc))).heap.size = w2.heap.size + 1 from by simp)
      have HO2 := Lib.hid (hO.mono (show w.heap.size ≤ wr.heap.size from by omega))
      clear hO hC hE2
      generalize (newC M).qs.length = q1 at *
      generalize (newC M).ended.length = q2 at *
      generalize (newC M).cut.length = q3 at *
      go_upto_region 13 with (fail)
      generalize hw3 : w2.alloc (ckT (.slice qa q1 qc) (.slice ea q2 ec) (.bool false) (.slice ca q3 cc)) = w3 at *
      clear hw3
      have hsz3 : w2.heap.size < w3.heap.size := by have := HSZ3.out; omega
      have HO6 := Lib.hid (HO2.out.ext HE23.out)
      have HRR6 := Lib.hid (HRR2.out.ext HE23.out)
      go_wp2
      go_loopg [12, 13, 14, 15, 16, 17] N (fun g s12 _ _ _ _ _ wr => ∃ (k : Nat) (s : Ck), k ≤ N ∧ N - k ≤ g ∧ s12 = .int .i64 k ∧ Aside (foldRec vecR (rs.drop k) s = FR) ∧ Aside (SmallC s) ∧ Aside (BoxCk wr w.heap.size w2.heap.size s) ∧ Aside (RowRows wr w1.heap.size 22 5 (Value.int .u8) (.slice ra N rc) rs) ∧ Aside (Ext w2 wr ∧ w3.heap.size ≤ wr.heap.size))
      case atStart => exact ⟨0, newC M, Nat.zero_le _, by omega, rfl, (show _ = _ from HFR.out), HSM0.out, (show BoxCk _ _ _ _ from ⟨_, _, _, _, _, _, _, _, _, HBS.out, HO6.out⟩), HRR6.out, (show _ ∧ _ from ⟨HE23.out, by omega⟩)⟩
      case round =>
        obtain ⟨k, s, hk, hg, rfl, HFD, HSM, HBX, HRRK, HEX⟩ := hrel
        obtain ⟨a1, n1, c1, a2, n2, c2, a3, n3, c3, hbx, how⟩ := HBX.out
        have HBX0 := Lib.hid hbx
        have HOW := Lib.hid how
        have hszk := HEX.out.2
        generalize hsd : s.done = sd at *
        have HSD := Lib.hid hsd
        clear hbx how hsd
        by_cases hlt : k < N
        · have hltz : (k : Int) < (N : Int) := by omega
          have hkz : (0 : Int) ≤ (k : Int) := by omega
          obtain ⟨B, O, C, cv, hue, _, _, hcell, ⟨u, hu, hbu⟩⟩ := (HRRK.out.sl (fun r hr => (HRB.out r hr).1)).at1 k (by rw [HN.out]; exact hlt)
          simp only [List.cons.injEq, and_true] at hu
          subst hu
          simp only [Value.slice.injEq] at hue
          obtain ⟨rfl, hnn, rfl⟩ := hue
          have hrb := HRB.out rs[k]! (mem_at rs k (by rw [HN.out]; exact hlt))
          have hok : okR rs[k]! = true := by
            have := List.all_eq_true.1 HALL.out _ (mem_at rs k (by rw [HN.out]; exact hlt))
            exact this
          have HST := Lib.hid (parseQ_yes cv rs[k]! wr hbu (by have := hrb.2; omega) hok)
          have HVB := Lib.hid (show (vecR rs[k]!).length ≤ 1000000 from by rw [vecR_len]; have := (okR_parts hok hrb.1).2.2.2; omega)
          clear hbu hrb hok hnn
          generalize hp0 : rs[k]![0]! = P0 at *
          generalize hvv : vecR rs[k]! = VV at *
          have HP0 := Lib.hid hp0
          have HVV := Lib.hid hvv
          clear hp0 hvv
          go_wp2_with fail
          refine HST.out.mono ?_
          rintro e w5 ⟨v5, rfl, hR5, hE5⟩
          obtain ⟨sa, sc, rfl, hsc, hsh⟩ := hR5.any
          have HI5 := Lib.hid hR5.ints
          have hsz5 := hE5.sz
          have HBX5 := Lib.hid (hE5.hp HBX0.out)
          have HOW5 := Lib.hid (HOW.out.ext hE5)
          have HRR5 := Lib.hid (HRRK.out.ext hE5)
          have HE5 := Lib.hid (HEX.out.1.trans' hE5)
          clear hsh hR5 hE5 hcell
          have HAL := Lib.hid ((Ext.rf w5).al (ckT (.slice none 0 0) (.slice none 0 0) (.bool false) (.slice none 0 0)))
          have HNX6 := Lib.hid (heap_alloc_new w5 (ckT (.slice none 0 0) (.slice none 0 0) (.bool false) (.slice none 0 0)))
          have HSZ6 := Lib.hid (show (w5.alloc (ckT (.slice none 0 0) (.slice none 0 0) (.bool false) (.slice none 0 0))).heap.size = w5.heap.size + 1 from by simp)
          generalize hvl : VV.length = vn at *
          have HVL := Lib.hid hvl
          clear hvl
          go_upto_region 19 with (fail)
          generalize hw6 : w5.alloc (ckT (.slice none 0 0) (.slice none 0 0) (.bool false) (.slice none 0 0)) = w6 at *
          clear hw6
          have hsz6 : w5.heap.size < w6.heap.size := by have := HSZ6.out; omega
          have HBX6 := Lib.hid (HAL.out.hp HBX5.out)
          have HOW6 := Lib.hid (HOW5.out.ext HAL.out)
          have HRR6 := Lib.hid (HRR5.out.ext HAL.out)
          have HE6 := Lib.hid (HE5.out.trans' HAL.out)
          have HI6 := Lib.hid (HI5.out.ext HAL.out)
          by_cases hv0 : vn = 0
          · obtain rfl : vn = 0 := hv0
            have hcall := endR_all (.slice a1 n1 c1) (.slice a2 n2 c2) (.slice a3 n3 c3) s P0 w6 HOW6.out.read HSM.out
            rw [HSD.out] at hcall
            generalize hir : endRes s P0 = CC at *
            generalize hie : endErr s P0 = EE at *
            have HIE := Lib.hid (show itemErr s P0 VV = EE from by unfold itemErr; rw [if_pos HVL.out]; exact hie)
            have HIR := Lib.hid (show itemRes s P0 VV = CC from by unfold itemRes; rw [if_pos HVL.out]; exact hir)
            clear hie hir
            have HCALL := Lib.hid hcall
            clear hcall
            have x0 := cellOf HBX6.out 0
            have x1 := cellOf HBX6.out 1
            have x2 := cellOf HBX6.out 2
            have x3 := cellOf HBX6.out 3
            simp only [List.getElem?_toArray, List.getElem?_cons_zero, List.getElem?_cons_succ] at x0 x1 x2 x3
            go_wp2_with fail
            refine HCALL.out.mono ?_
            rintro e w7 ⟨vq7, ve7, vd7, rfl, hO7, hE7⟩
            have hC7 := hO7.read
            obtain ⟨u1, v1, rfl, _⟩ := hC7.1.shape
            obtain ⟨u2, v2, rfl, _⟩ := hC7.2.1.shape
            obtain ⟨u3, v3, hce7, _, _⟩ := hC7.2.2
            subst hce7
            have HNX7 := Lib.hid (hE7.hp HNX6.out)
            have HBX7 := Lib.hid (hE7.hp HBX6.out)
            have HOW7 := Lib.hid (HOW6.out.ext hE7)
            have HOC7 := Lib.hid (hO7.mono (show w.heap.size ≤ w6.heap.size from by omega))
            have HRR7 := Lib.hid (HRR6.out.ext hE7)
            have HE7 := Lib.hid (HE6.out.trans' hE7)
            have hsz7 := hE7.sz
            generalize CC.qs.length = m1 at *
            generalize CC.ended.length = m2 at *
            generalize CC.cut.length = m3 at *
            generalize hcd : CC.done = cd at *
            have HCD := Lib.hid hcd
            clear hC7 hO7 hE7 x0 x1 x2 x3 hcd
            have y0 := cellOf HNX7.out 0
            have y1 := cellOf HNX7.out 1
            have y2 := cellOf HNX7.out 2
            have y3 := cellOf HNX7.out 3
            simp only [List.getElem?_toArray, List.getElem?_cons_zero, List.getElem?_cons_succ] at y0 y1 y2 y3
            have z0 := freeOf HNX7.out 0
            have z1 := freeOf HNX7.out 1
            have z2 := freeOf HNX7.out 2
            have z3 := freeOf HNX7.out 3
            have HNXA := Lib.hid (box_stored HNX7.out (.slice u1 m1 v1) (.slice u2 m2 v2) (.bool cd) (.slice u3 m3 v3)).1
            have HBXA := Lib.hid (box_far HBX7.out (show w2.heap.size ≠ w5.heap.size from by omega) (.slice u1 m1 v1) (.slice u2 m2 v2) (.bool cd) (.slice u3 m3 v3))
            have HOWA := Lib.hid (ownCk_st HNX7.out HOW7.out (.slice u1 m1 v1) (.slice u2 m2 v2) (.bool cd) (.slice u3 m3 v3))
            have HOCA := Lib.hid (ownCk_st HNX7.out HOC7.out (.slice u1 m1 v1) (.slice u2 m2 v2) (.bool cd) (.slice u3 m3 v3))
            have HRRA := Lib.hid (rr_st HNX7.out HRR7.out (.slice u1 m1 v1) (.slice u2 m2 v2) (.bool cd) (.slice u3 m3 v3))
            have HEA := Lib.hid (box_ext (K := w5.heap.size) HE7.out (by omega) (.slice u1 m1 v1) (.slice u2 m2 v2) (.bool cd) (.slice u3 m3 v3))
            have HSA := Lib.hid (size_st4 w7 w5.heap.size (.slice u1 m1 v1) (.slice u2 m2 v2) (.bool cd) (.slice u3 m3 v3))
            go_upto_region 22 with (fail)
            generalize hwA : (((w7.setCell ⟨w5.heap.size, 0, none⟩ (.slice u1 m1 v1)).setCell ⟨w5.heap.size, 1, none⟩ (.slice u2 m2 v2)).setCell ⟨w5.heap.size, 2, none⟩ (.bool cd)).setCell ⟨w5.heap.size, 3, none⟩ (.slice u3 m3 v3) = wA at *
            clear hwA y0 y1 y2 y3 z0 z1 z2 z3
            have hszA : w3.heap.size ≤ wA.heap.size := by have := HSA.out; omega
            have HFS := Lib.hid (fold_step vecR rs k (by rw [HN.out]; exact hlt) s)
            by_cases he0 : EE = 0
            · obtain rfl : EE = 0 := he0
              have HIE0 := Lib.hid HIE.out
              have x0 := cellOf HNXA.out 0
              have x1 := cellOf HNXA.out 1
              have x2 := cellOf HNXA.out 2
              have x3 := cellOf HNXA.out 3
              simp only [List.getElem?_toArray, List.getElem?_cons_zero, List.getElem?_cons_succ] at x0 x1 x2 x3
              have y0 := cellOf HBXA.out 0
              have y1 := cellOf HBXA.out 1
              have y2 := cellOf HBXA.out 2
              have y3 := cellOf HBXA.out 3
              simp only [List.getElem?_toArray, List.getElem?_cons_zero, List.getElem?_cons_succ] at y0 y1 y2 y3
              have z0 := freeOf HBXA.out 0
              have z1 := freeOf HBXA.out 1
              have z2 := freeOf HBXA.out 2
              have z3 := freeOf HBXA.out 3
              have HBXB := Lib.hid (box_stored HBXA.out (.slice u1 m1 v1) (.slice u2 m2 v2) (.bool cd) (.slice u3 m3 v3)).1
              have HOCB := Lib.hid (ownCk_st HBXA.out HOCA.out (.slice u1 m1 v1) (.slice u2 m2 v2) (.bool cd) (.slice u3 m3 v3))
              have HRRB := Lib.hid (rr_st HBXA.out HRRA.out (.slice u1 m1 v1) (.slice u2 m2 v2) (.bool cd) (.slice u3 m3 v3))
              have HEB := Lib.hid (box_ext (K := w2.heap.size) HEA.out (Nat.le_refl _) (.slice u1 m1 v1) (.slice u2 m2 v2) (.bool cd) (.slice u3 m3 v3))
              have HSB := Lib.hid (size_st4 wA w2.heap.size (.slice u1 m1 v1) (.slice u2 m2 v2) (.bool cd) (.slice u3 m3 v3))
              go_wp2
              go_roundg (N - (k + 1))
              case measure => omega
              case rel =>
                refine ⟨k + 1, CC, by omega, by omega, by go_num, (show _ = _ from ?_), (show SmallC _ from by rw [← HIR.out]; exact item_small HSM.out _ _), (show BoxCk _ _ _ _ from ⟨u1, m1, v1, u2, m2, v2, u3, m3, v3, by rw [HCD.out]; exact HBXB.out, HOCB.out⟩), (show RowRows _ _ _ _ _ _ _ from HRRB.out), (show _ ∧ _ from ⟨HEB.out, by have := HSB.out; omega⟩)⟩
                rw [← HFD.out, HFS.out, HP0.out, HVV.out, HIE.out, if_pos rfl, HIR.out]
            have e0 : (EE == 0) = false := by simpa using he0
            by_cases he6 : EE = 6
            · obtain rfl : EE = 6 := he6
              go_wp2
              go_roundg (N - (k + 1))
              case measure => omega
              case rel =>
                refine ⟨k + 1, s, by omega, by omega, by go_num, (show _ = _ from ?_), HSM.out, (show BoxCk _ _ _ _ from ⟨_, _, _, _, _, _, _, _, _, by rw [HSD.out]; exact HBXA.out, HOWA.out⟩), (show RowRows _ _ _ _ _ _ _ from HRRA.out), (show _ ∧ _ from ⟨HEA.out, hszA⟩)⟩
                rw [← HFD.out, HFS.out, HP0.out, HVV.out, HIE.out, if_neg (by decide), if_pos (.inl rfl)]
            have e6 : (EE == 6) = false := by simpa using he6
            have e6' : (EE != 6) = true := by simpa using he6
            by_cases he11 : EE = 11
            · obtain rfl : EE = 11 := he11
              go_wp2
              go_roundg (N - (k + 1))
              case measure => omega
              case rel =>
                refine ⟨k + 1, s, by omega, by omega, by go_num, (show _ = _ from ?_), HSM.out, (show BoxCk _ _ _ _ from ⟨_, _, _, _, _, _, _, _, _, by rw [HSD.out]; exact HBXA.out, HOWA.out⟩), (show RowRows _ _ _ _ _ _ _ from HRRA.out), (show _ ∧ _ from ⟨HEA.out, hszA⟩)⟩
                rw [← HFD.out, HFS.out, HP0.out, HVV.out, HIE.out, if_neg (by decide), if_pos (.inr rfl)]
            have e11 : (EE == 11) = false := by simpa using he11
            have e11' : (EE != 11) = true := by simpa using he11
            have HFR2 := Lib.hid (show FR = (zeroC, EE) from by rw [← HFD.out, HFS.out, HP0.out, HVV.out, HIE.out, if_neg he0, if_neg (by omega)])
            have HRA := Lib.hid (HEA.out.hp HR2.out)
            have HEWA := Lib.hid (HE2.out.trans' HEA.out)
            have r0 := cellOf HRA.out 0
            have r1 := cellOf HRA.out 1
            have r2 := cellOf HRA.out 2
            have r3 := cellOf HRA.out 3
            simp only [List.getElem?_toArray, List.getElem?_cons_zero, List.getElem?_cons_succ] at r0 r1 r2 r3
            have y0 := freeOf HRA.out 0
            have y1 := freeOf HRA.out 1
            have y2 := freeOf HRA.out 2
            have y3 := freeOf HRA.out 3
            go_wp2
            refine bodyPost_ret (v := .tuple #[.agg #[.slice none 0 0, .slice none 0 0, .bool false, .slice none 0 0], .int .i64 EE]) (by simp [results, Try.results33, go_sem, r0, r1, r2, r3]) rfl ?_
            rw [HFR2.out]
            exact zero_two ⟨rfl, box_ext HEWA.out (by omega) _ _ _ _⟩
          · have hvz : ¬ (vn : Int) = 0 := by omega
            have hvz' : ((vn : Int) == 0) = false := by simpa using hvz
            have hcall := putR_all (.slice a1 n1 c1) (.slice a2 n2 c2) (.slice a3 n3 c3) (.slice sa vn sc) s P0 VV w6 HOW6.out.read HSM.out HI6.out (by rw [HVL.out]; exact HVB.out)
            rw [HSD.out] at hcall
            generalize hir : putRes s P0 VV = CC at *
            generalize hie : putErr s P0 VV = EE at *
            have HIE := Lib.hid (show itemErr s P0 VV = EE from by unfold itemErr; rw [if_neg (by rw [HVL.out]; exact hv0)]; exact hie)
            have HIR := Lib.hid (show itemRes s P0 VV = CC from by unfold itemRes; rw [if_neg (by rw [HVL.out]; exact hv0)]; exact hir)
            clear hie hir
            have HCALL := Lib.hid hcall
            clear hcall
            have x0 := cellOf HBX6.out 0
            have x1 := cellOf HBX6.out 1
            have x2 := cellOf HBX6.out 2
            have x3 := cellOf HBX6.out 3
            simp only [List.getElem?_toArray, List.getElem?_cons_zero, List.getElem?_cons_succ] at x0 x1 x2 x3
            go_wp2_with fail
            refine HCALL.out.mono ?_
            rintro e w7 ⟨vq7, ve7, vd7, rfl, hO7, hE7⟩
            have hC7 := hO7.read
            obtain ⟨u1, v1, rfl, _⟩ := hC7.1.shape
            obtain ⟨u2, v2, rfl, _⟩ := hC7.2.1.shape
            obtain ⟨u3, v3, hce7, _, _⟩ := hC7.2.2
            subst hce7
            have HNX7 := Lib.hid (hE7.hp HNX6.out)
            have HBX7 := Lib.hid (hE7.hp HBX6.out)
            have HOW7 := Lib.hid (HOW6.out.ext hE7)
            have HOC7 := Lib.hid (hO7.mono (show w.heap.size ≤ w6.heap.size from by omega))
            have HRR7 := Lib.hid (HRR6.out.ext hE7)
            have HE7 := Lib.hid (HE6.out.trans' hE7)
            have hsz7 := hE7.sz
            generalize CC.qs.length = m1 at *
            generalize CC.ended.length = m2 at *
            generalize CC.cut.length = m3 at *
            generalize hcd : CC.done = cd at *
            have HCD := Lib.hid hcd
            clear hC7 hO7 hE7 x0 x1 x2 x3 hcd
            have y0 := cellOf HNX7.out 0
            have y1 := cellOf HNX7.out 1
            have y2 := cellOf HNX7.out 2
            have y3 := cellOf HNX7.out 3
            simp only [List.getElem?_toArray, List.getElem?_cons_zero, List.getElem?_cons_succ] at y0 y1 y2 y3
            have z0 := freeOf HNX7.out 0
            have z1 := freeOf HNX7.out 1
            have z2 := freeOf HNX7.out 2
            have z3 := freeOf HNX7.out 3
            have HNXA := Lib.hid (box_stored HNX7.out (.slice u1 m1 v1) (.slice u2 m2 v2) (.bool cd) (.slice u3 m3 v3)).1
            have HBXA := Lib.hid (box_far HBX7.out (show w2.heap.size ≠ w5.heap.size from by omega) (.slice u1 m1 v1) (.slice u2 m2 v2) (.bool cd) (.slice u3 m3 v3))
            have HOWA := Lib.hid (ownCk_st HNX7.out HOW7.out (.slice u1 m1 v1) (.slice u2 m2 v2) (.bool cd) (.slice u3 m3 v3))
            have HOCA := Lib.hid (ownCk_st HNX7.out HOC7.out (.slice u1 m1 v1) (.slice u2 m2 v2) (.bool cd) (.slice u3 m3 v3))
            have HRRA := Lib.hid (rr_st HNX7.out HRR7.out (.slice u1 m1 v1) (.slice u2 m2 v2) (.bool cd) (.slice u3 m3 v3))
            have HEA := Lib.hid (box_ext (K := w5.heap.size) HE7.out (by omega) (.slice u1 m1 v1) (.slice u2 m2 v2) (.bool cd) (.slice u3 m3 v3))
            have HSA := Lib.hid (size_st4 w7 w5.heap.size (.slice u1 m1 v1) (.slice u2 m2 v2) (.bool cd) (.slice u3 m3 v3))
            go_upto_region 22 with (fail)
            generalize hwA : (((w7.setCell ⟨w5.heap.size, 0, none⟩ (.slice u1 m1 v1)).setCell ⟨w5.heap.size, 1, none⟩ (.slice u2 m2 v2)).setCell ⟨w5.heap.size, 2, none⟩ (.bool cd)).setCell ⟨w5.heap.size, 3, none⟩ (.slice u3 m3 v3) = wA at *
            clear hwA y0 y1 y2 y3 z0 z1 z2 z3
            have hszA : w3.heap.size ≤ wA.heap.size := by have := HSA.out; omega
            have HFS := Lib.hid (fold_step vecR rs k (by rw [HN.out]; exact hlt) s)
            by_cases he0 : EE = 0
            · obtain rfl : EE = 0 := he0
              have HIE0 := Lib.hid HIE.out
              have x0 := cellOf HNXA.out 0
              have x1 := cellOf HNXA.out 1
              have x2 := cellOf HNXA.out 2
              have x3 := cellOf HNXA.out 3
              simp only [List.getElem?_toArray, List.getElem?_cons_zero, List.getElem?_cons_succ] at x0 x1 x2 x3
              have y0 := cellOf HBXA.out 0
              have y1 := cellOf HBXA.out 1
              have y2 := cellOf HBXA.out 2
              have y3 := cellOf HBXA.out 3
              simp only [List.getElem?_toArray, List.getElem?_cons_zero, List.getElem?_cons_succ] at y0 y1 y2 y3
              have z0 := freeOf HBXA.out 0
              have z1 := freeOf HBXA.out 1
              have z2 := freeOf HBXA.out 2
              have z3 := freeOf HBXA.out 3
              have HBXB := Lib.hid (box_stored HBXA.out (.slice u1 m1 v1) (.slice u2 m2 v2) (.bool cd) (.slice u3 m3 v3)).1
              have HOCB := Lib.hid (ownCk_st HBXA.out HOCA.out (.slice u1 m1 v1) (.slice u2 m2 v2) (.bool cd) (.slice u3 m3 v3))
              have HRRB := Lib.hid (rr_st HBXA.out HRRA.out (.slice u1 m1 v1) (.slice u2 m2 v2) (.bool cd) (.slice u3 m3 v3))
              have HEB := Lib.hid (box_ext (K := w2.heap.size) HEA.out (Nat.le_refl _) (.slice u1 m1 v1) (.slice u2 m2 v2) (.bool cd) (.slice u3 m3 v3))
              have HSB := Lib.hid (size_st4 wA w2.heap.size (.slice u1 m1 v1) (.slice u2 m2 v2) (.bool cd) (.slice u3 m3 v3))
              go_wp2
              go_roundg (N - (k + 1))
              case measure => omega
              case rel =>
                refine ⟨k + 1, CC, by omega, by omega, by go_num, (show _ = _ from ?_), (show SmallC _ from by rw [← HIR.out]; exact item_small HSM.out _ _), (show BoxCk _ _ _ _ from ⟨u1, m1, v1, u2, m2, v2, u3, m3, v3, by rw [HCD.out]; exact HBXB.out, HOCB.out⟩), (show RowRows _ _ _ _ _ _ _ from HRRB.out), (show _ ∧ _ from ⟨HEB.out, by have := HSB.out; omega⟩)⟩
                rw [← HFD.out, HFS.out, HP0.out, HVV.out, HIE.out, if_pos rfl, HIR.out]
            have e0 : (EE == 0) = false := by simpa using he0
            by_cases he6 : EE = 6
            · obtain rfl : EE = 6 := he6
              go_wp2
              go_roundg (N - (k + 1))
              case measure => omega
              case rel =>
                refine ⟨k + 1, s, by omega, by omega, by go_num, (show _ = _ from ?_), HSM.out, (show BoxCk _ _ _ _ from ⟨_, _, _, _, _, _, _, _, _, by rw [HSD.out]; exact HBXA.out, HOWA.out⟩), (show RowRows _ _ _ _ _ _ _ from HRRA.out), (show _ ∧ _ from ⟨HEA.out, hszA⟩)⟩
                rw [← HFD.out, HFS.out, HP0.out, HVV.out, HIE.out, if_neg (by decide), if_pos (.inl rfl)]
            have e6 : (EE == 6) = false := by simpa using he6
            have e6' : (EE != 6) = true := by simpa using he6
            by_cases he11 : EE = 11
            · obtain rfl : EE = 11 := he11
              go_wp2
              go_roundg (N - (k + 1))
              case measure => omega
              case rel =>
                refine ⟨k + 1, s, by omega, by omega, by go_num, (show _ = _ from ?_), HSM.out, (show BoxCk _ _ _ _ from ⟨_, _, _, _, _, _, _, _, _, by rw [HSD.out]; exact HBXA.out, HOWA.out⟩), (show RowRows _ _ _ _ _ _ _ from HRRA.out), (show _ ∧ _ from ⟨HEA.out, hszA⟩)⟩
                rw [← HFD.out, HFS.out, HP0.out, HVV.out, HIE.out, if_neg (by decide), if_pos (.inr rfl)]
            have e11 : (EE == 11) = false := by simpa using he11
            have e11' : (EE != 11) = true := by simpa using he11
            have HFR2 := Lib.hid (show FR = (zeroC, EE) from by rw [← HFD.out, HFS.out, HP0.out, HVV.out, HIE.out, if_neg he0, if_neg (by omega)])
            have HRA := Lib.hid (HEA.out.hp HR2.out)
            have HEWA := Lib.hid (HE2.out.trans' HEA.out)
            have r0 := cellOf HRA.out 0
            have r1 := cellOf HRA.out 1
            have r2 := cellOf HRA.out 2
            have r3 := cellOf HRA.out 3
            simp only [List.getElem?_toArray, List.getElem?_cons_zero, List.getElem?_cons_succ] at r0 r1 r2 r3
            have y0 := freeOf HRA.out 0
            have y1 := freeOf HRA.out 1
            have y2 := freeOf HRA.out 2
            have y3 := freeOf HRA.out 3
            go_wp2
            refine bodyPost_ret (v := .tuple #[.agg #[.slice none 0 0, .slice none 0 0, .bool false, .slice none 0 0], .int .i64 EE]) (by simp [results, Try.results33, go_sem, r0, r1, r2, r3]) rfl ?_
            rw [HFR2.out]
            exact zero_two ⟨rfl, box_ext HEWA.out (by omega) _ _ _ _⟩
        · have hltz : ¬ (k : Int) < (N : Int) := by omega
          obtain rfl : N = k := by omega
          have HFE := Lib.hid (show FR = (s, 0) from by rw [← HFD.out, ← HN.out, List.drop_length]; rfl)
          have HRX := Lib.hid (HEX.out.1.hp HR2.out)
          have HEX2 := Lib.hid (HE2.out.trans' HEX.out.1)
          have x0 := cellOf HBX0.out 0
          have x1 := cellOf HBX0.out 1
          have x2 := cellOf HBX0.out 2
          have x3 := cellOf HBX0.out 3
          simp only [List.getElem?_toArray, List.getElem?_cons_zero, List.getElem?_cons_succ] at x0 x1 x2 x3
          have r0 := cellOf HRX.out 0
          have r1 := cellOf HRX.out 1
          have r2 := cellOf HRX.out 2
          have r3 := cellOf HRX.out 3
          simp only [List.getElem?_toArray, List.getElem?_cons_zero, List.getElem?_cons_succ] at r0 r1 r2 r3
          have y0 := freeOf HRX.out 0
          have y1 := freeOf HRX.out 1
          have y2 := freeOf HRX.out 2
          have y3 := freeOf HRX.out 3
          go_wp2
          refine bodyPost_ret (v := .tuple #[.agg #[.slice a1 n1 c1, .slice a2 n2 c2, .bool sd, .slice a3 n3 c3], .int .i64 0]) (by simp [results, Try.results33, go_sem, r0, r1, r2, r3]) rfl ?_
          rw [HFE.out]
          exact ⟨_, _, _, by rw [HSD.out], ownCk_st HRX.out HOW.out _ _ _ _, box_ext HEX2.out (by omega) _ _ _ _⟩

end Go.Proofs.Ytggofkaakccoeaa

/-
  The law MonlogPuts: its walk.
-/
namespace Go.Proofs.Ytggofkaakccoeaa
open Go.RowKit
set_option linter.unusedVariables false
attribute [local go_sem ↓] Go.wp_at_zero Go.wp_at_succ

theorem enters_34 : ∀ args w, (callFunc 34 args).run Try.prog w = .ok (.enter 34 args) w := enters_of Try.func34 (by kernel_rfl) rfl

theorem recover_both (v : Value) (l : List Int) (d f n : Int) (w : World) (hv : Bys w v l) (hn : l.length ≤ 200000) :
    ∃ (S : Ck) (E : Int), SmallC S ∧
      (∀ W, Ext w W → Calls Try.prog 31 #[.agg #[v, .int .i64 d, .int .i64 f], .int .i64 n] W fun e w' => TwoOut W w' e S E) ∧
      (∀ W, Ext w W → Calls Try.prog 33 #[.agg #[v, .int .i64 d, .int .i64 f], .int .i64 n] W fun e w' => TwoOut W w' e S E) := by
  have hrb : ∀ b, b ∈ recordsL l → ∀ x, x ∈ b → Byte x := fun r hr => (records_byte l.length l (Nat.le_refl _) hv.1 r hr).1
  refine ⟨(recov vecP (validJ l.length d f) n (recordsL l)).1, (recov vecP (validJ l.length d f) n (recordsL l)).2, recov_small _ _ _ _, ?_, ?_⟩
  · intro W hW
    cases hval : validJ l.length d f with
    | false => rw [recov_no]; exact recP_no v l d f n W (hv.ext hW) hn hval
    | true =>
      by_cases hr : n < 1 ∨ 8 < n
      · rw [recov_range hr]; exact recP_range v l d f n W (hv.ext hW) hn hval hr
      · obtain ⟨M, rfl⟩ : ∃ M : Nat, n = M := ⟨n.toNat, by omega⟩
        cases ha : (recordsL l).all okR with
        | false => rw [recov_form hr ha]; exact recP_form v l d f M W (hv.ext hW) hn hval (by omega) (by omega) ha
        | true => rw [recov_fold (by omega) (by omega) ha]; exact recP_ok v l d f M W (hv.ext hW) hn hval (by omega) (by omega) ha
  · intro W hW
    rw [recov_alike _ _ _ hrb]
    cases hval : validJ l.length d f with
    | false => rw [recov_no]; exact recR_no v l d f n W (hv.ext hW) hn hval
    | true =>
      by_cases hr : n < 1 ∨ 8 < n
      · rw [recov_range hr]; exact recR_range v l d f n W (hv.ext hW) hn hval hr
      · obtain ⟨M, rfl⟩ : ∃ M : Nat, n = M := ⟨n.toNat, by omega⟩
        cases ha : (recordsL l).all okR with
        | false => rw [recov_form hr ha]; exact recR_form v l d f M W (hv.ext hW) hn hval (by omega) (by omega) ha
        | true => rw [recov_fold (by omega) (by omega) ha]; exact recR_ok v l d f M W (hv.ext hW) hn hval (by omega) (by omega) ha

set_option maxHeartbeats 4000000 in
set_option maxRecDepth 100000 in
theorem puts_out (a : Option Addr) (q c : Nat) (d f p N : Int) (ba : Option Addr) (n m : Nat) (w : World) (hq : q ≤ 9223372036854775807) (hn : n ≤ 9223372036854775807) (h : fitsB q = false ∨ (fitsB q = true ∧ 20 < n)) :
    Calls Try.prog 7 #[.agg #[.slice a q c, .int .i64 d, .int .i64 f], .int .i64 p, .slice ba n m, .int .i64 N] w fun e w' => e = .returned (.bool true) ∧ Ext w w' := by
  rcases h with hfit | ⟨hfit, h1⟩
  · have HFIT := Lib.hid hfit; clear hfit
    go_enter Try.func7, Try.ntmps7
    go_wp2_with fail
    refine (awake_calls _).mono ?_
    rintro e w1 ⟨rfl, hE1⟩
    obtain ⟨hb1, he1, hz1⟩ := box_cells hE1
    have HX1 := Lib.hid hE1
    have HB1 := Lib.hid hb1
    have HE1 := Lib.hid he1
    clear hE1 hb1 he1
    have c0 := cell_of HB1.out 0
    have c1 := cell_of HB1.out 1
    have c2 := cell_of HB1.out 2
    simp only [List.getElem?_toArray, List.getElem?_cons_zero, List.getElem?_cons_succ] at c0 c1 c2
    go_wp2_with fail
    refine (fits_calls a q c _ _ _ (by omega)).mono ?_
    rw [HFIT.out]
    rintro e w2 ⟨rfl, hE2⟩
    have HE2 := Lib.hid (HE1.out.trans' hE2)
    clear hE2
    go_wp2
    go_ret
    exact ⟨by simp, HE2.out⟩
  · have HFIT := Lib.hid hfit; clear hfit
    have b1 : decide (20 < (n : Int)) = true := by simp; omega
    have b1n : decide (20 < n) = true := by simp; omega
    go_enter Try.func7, Try.ntmps7
    go_wp2_with fail
    refine (awake_calls _).mono ?_
    rintro e w1 ⟨rfl, hE1⟩
    obtain ⟨hb1, he1, hz1⟩ := box_cells hE1
    have HX1 := Lib.hid hE1
    have HB1 := Lib.hid hb1
    have HE1 := Lib.hid he1
    clear hE1 hb1 he1
    have c0 := cell_of HB1.out 0
    have c1 := cell_of HB1.out 1
    have c2 := cell_of HB1.out 2
    simp only [List.getElem?_toArray, List.getElem?_cons_zero, List.getElem?_cons_succ] at c0 c1 c2
    go_wp2_with fail
    refine (fits_calls a q c _ _ _ (by omega)).mono ?_
    rw [HFIT.out]
    rintro e w2 ⟨rfl, hE2⟩
    have HE2 := Lib.hid (HE1.out.trans' hE2)
    clear hE2
    go_wp2
    go_ret
    exact ⟨by simp, HE2.out⟩

set_option maxHeartbeats 8000000 in
set_option maxRecDepth 100000 in
theorem puts_in (v : Value) (l : List Int) (d f p N : Int) (u : Value) (vs : List Int) (w : World) (hv : Bys w v l) (hu : Ints w u vs) (hq : l.length ≤ 9223372036854775807) (hfit : fitsB l.length = true) (hb : vs.length ≤ 20) :
    Calls Try.prog 7 #[.agg #[v, .int .i64 d, .int .i64 f], .int .i64 p, u, .int .i64 N] w fun e w' => e = .returned (.bool true) ∧ Ext w w' := by
  have hq2 : l.length ≤ 163940 := by simp only [fitsB, decide_eq_true_eq] at hfit; omega
  obtain ⟨L, D, A, E, hLb, hLl, hP, hR⟩ := put_both v l d f p u vs w hv (by omega) hu (by omega)
  obtain ⟨S, F, hS, hRP, hRR⟩ := recover_both v l d f N w hv (by omega)
  have HLB := Lib.hid hLb
  have HLL := Lib.hid hLl
  have HP := Lib.hid hP
  have HR := Lib.hid hR
  have HSS := Lib.hid hS
  have HRP := Lib.hid hRP
  have HRR := Lib.hid hRR
  clear hLb hLl hP hR hS hRP hRR
  have HV := Lib.hid hv
  obtain ⟨_, a, c, rfl, hlc, hvc⟩ := hv
  obtain ⟨ba, m, rfl, hlc2, hvc2⟩ := hu
  clear hvc hvc2
  have HFIT := Lib.hid hfit
  generalize hln : l.length = q at *
  generalize hbn : vs.length = n at *
  clear hfit hln hbn
  have hEE : (E == E) = true := by simp
  have hFF : (F == F) = true := by simp
  have b1 : decide (20 < (n : Int)) = false := by simp; omega
  have b1n : decide (20 < n) = false := by simp; omega
  go_enter Try.func7, Try.ntmps7
  go_wp2_with fail
  refine (awake_calls _).mono ?_
  rintro e w1 ⟨rfl, hE1⟩
  obtain ⟨hb1, he1, hz1⟩ := box_cells hE1
  have HX1 := Lib.hid hE1
  have HB1 := Lib.hid hb1
  have HE1 := Lib.hid he1
  clear hE1 hb1 he1
  have c0 := cell_of HB1.out 0
  have c1 := cell_of HB1.out 1
  have c2 := cell_of HB1.out 2
  simp only [List.getElem?_toArray, List.getElem?_cons_zero, List.getElem?_cons_succ] at c0 c1 c2
  go_wp2_with fail
  refine (fits_calls a q c _ _ _ (by omega)).mono ?_
  rw [HFIT.out]
  rintro e w2 ⟨rfl, hE2⟩
  obtain ⟨hb2, he2, hz2⟩ := box_cells (HX1.out.trans' hE2)
  have HX2 := Lib.hid (HX1.out.trans' hE2)
  have HB2 := Lib.hid hb2
  have HE2 := Lib.hid he2
  clear hb2 he2 c0 c1 c2
  have c0 := cell_of HB2.out 0
  have c1 := cell_of HB2.out 1
  have c2 := cell_of HB2.out 2
  simp only [List.getElem?_toArray, List.getElem?_cons_zero, List.getElem?_cons_succ] at c0 c1 c2
  clear hE2
  go_wp2_with fail
  refine (HP.out _ HE2.out).mono ?_
  rintro e w3 ⟨x3, rfl, hR3, hE3⟩
  obtain ⟨xa, xp, rfl, hxl, hsh⟩ := hR3.any
  have HX3b := Lib.hid (hR3.bys HLB.out)
  clear hsh hR3
  obtain ⟨hb3, he3, hz3⟩ := box_cells (HX2.out.trans' hE3)
  have HX3 := Lib.hid (HX2.out.trans' hE3)
  have HB3 := Lib.hid hb3
  have HE3 := Lib.hid he3
  clear hb3 he3 c0 c1 c2
  have c0 := cell_of HB3.out 0
  have c1 := cell_of HB3.out 1
  have c2 := cell_of HB3.out 2
  simp only [List.getElem?_toArray, List.getElem?_cons_zero, List.getElem?_cons_succ] at c0 c1 c2
  clear hE3
  go_wp2_with fail
  refine (HRP.out _ (HE3.out.al _)).mono ?_
  rintro e w4 ⟨sq, se, sv, rfl, hO4, hE4⟩
  have HC4 := Lib.hid hO4.read
  obtain ⟨s1, t1, rfl, _⟩ := HC4.out.1.shape
  obtain ⟨s2, t2, rfl, _⟩ := HC4.out.2.1.shape
  obtain ⟨s3, t3, hce4, _, _⟩ := HC4.out.2.2
  subst hce4
  have HXB4 := Lib.hid (hE4.hp (heap_alloc_new w3 (.cells #[.slice xa L.length xp, .int .i64 D, .int .i64 A] 24)))
  have G34 := Lib.hid (show Ext w3 w4 from ((Ext.rf w3).al _).trans' hE4)
  clear hO4
  obtain ⟨hb4, he4, hz4⟩ := box_cells (HX3.out.trans' ((((Ext.rf w3).al _)).trans' hE4))
  have HX4 := Lib.hid (HX3.out.trans' ((((Ext.rf w3).al _)).trans' hE4))
  have HB4 := Lib.hid hb4
  have HE4 := Lib.hid he4
  clear hb4 he4 c0 c1 c2
  have c0 := cell_of HB4.out 0
  have c1 := cell_of HB4.out 1
  have c2 := cell_of HB4.out 2
  simp only [List.getElem?_toArray, List.getElem?_cons_zero, List.getElem?_cons_succ] at c0 c1 c2
  clear hE4
  go_wp2_with fail
  refine (HR.out _ (HE4.out.al _)).mono ?_
  rintro e w5 ⟨y5, rfl, hR5, hE5⟩
  obtain ⟨ya, yp, rfl, hyl, hsh⟩ := hR5.any
  have HY5b := Lib.hid (hR5.bys HLB.out)
  have HSB5 := Lib.hid (hE5.hp (heap_alloc_new w4 (ckT (.slice s1 S.qs.length t1) (.slice s2 S.ended.length t2) (.bool S.done) (.slice s3 S.cut.length t3))))
  have G45 := Lib.hid (show Ext w4 w5 from ((Ext.rf w4).al _).trans' hE5)
  clear hsh hR5
  obtain ⟨hb5, he5, hz5⟩ := box_cells (HX4.out.trans' ((((Ext.rf w4).al _)).trans' hE5))
  have HX5 := Lib.hid (HX4.out.trans' ((((Ext.rf w4).al _)).trans' hE5))
  have HB5 := Lib.hid hb5
  have HE5 := Lib.hid he5
  clear hb5 he5 c0 c1 c2
  have c0 := cell_of HB5.out 0
  have c1 := cell_of HB5.out 1
  have c2 := cell_of HB5.out 2
  simp only [List.getElem?_toArray, List.getElem?_cons_zero, List.getElem?_cons_succ] at c0 c1 c2
  clear hE5
  go_wp2_with fail
  refine (HRR.out _ (HE5.out.al _)).mono ?_
  rintro e w6 ⟨rq, re, rv, rfl, hO6, hE6⟩
  have HC6 := Lib.hid hO6.read
  obtain ⟨r1, q1, rfl, _⟩ := HC6.out.1.shape
  obtain ⟨r2, q2, rfl, _⟩ := HC6.out.2.1.shape
  obtain ⟨r3, q3, hce6, _, _⟩ := HC6.out.2.2
  subst hce6
  have HYB6 := Lib.hid (hE6.hp (heap_alloc_new w5 (.cells #[.slice ya L.length yp, .int .i64 D, .int .i64 A] 24)))
  have G56 := Lib.hid (show Ext w5 w6 from ((Ext.rf w5).al _).trans' hE6)
  clear hO6
  obtain ⟨hb6, he6, hz6⟩ := box_cells (HX5.out.trans' ((((Ext.rf w5).al _)).trans' hE6))
  have HX6 := Lib.hid (HX5.out.trans' ((((Ext.rf w5).al _)).trans' hE6))
  have HB6 := Lib.hid hb6
  have HE6 := Lib.hid he6
  clear hb6 he6 c0 c1 c2
  have c0 := cell_of HB6.out 0
  have c1 := cell_of HB6.out 1
  have c2 := cell_of HB6.out 2
  simp only [List.getElem?_toArray, List.getElem?_cons_zero, List.getElem?_cons_succ] at c0 c1 c2
  clear hE6
  have HXB6 := Lib.hid (G56.out.hp (G45.out.hp HXB4.out))
  have HSB6 := Lib.hid (G56.out.hp HSB5.out)
  have hn7a : w3.heap.size < w6.heap.size := (Array.getElem?_eq_some_iff.1 HXB6.out).1
  have hn7b : w5.heap.size < w6.heap.size := (Array.getElem?_eq_some_iff.1 HYB6.out).1
  have hn7c : w3.heap.size ≠ w6.heap.size := by omega
  have hn7d : w5.heap.size ≠ w6.heap.size := by omega
  have hn7e : w.heap.size ≠ w6.heap.size := by omega
  have x0 := cell_of HXB6.out 0
  have x1 := cell_of HXB6.out 1
  have x2 := cell_of HXB6.out 2
  simp only [List.getElem?_toArray, List.getElem?_cons_zero, List.getElem?_cons_succ] at x0 x1 x2
  have y0 := cell_of HYB6.out 0
  have y1 := cell_of HYB6.out 1
  have y2 := cell_of HYB6.out 2
  simp only [List.getElem?_toArray, List.getElem?_cons_zero, List.getElem?_cons_succ] at y0 y1 y2
  go_wp2_with fail
  refine (same_calls _ _ L D A _ ((HX3b.out.ext (G34.out.trans' (G45.out.trans' G56.out))).ext (by repeat (first | refine Ext.st ?_ (by first | exact Nat.le_refl _ | exact Nat.le_succ _ | assumption | omega) _ | refine Ext.al ?_ _ | refine Ext.dr ?_ | refine Ext.drN ?_ _ | exact Ext.rf _))) ((HY5b.out.ext G56.out).ext (by repeat (first | refine Ext.st ?_ (by first | exact Nat.le_refl _ | exact Nat.le_succ _ | assumption | omega) _ | refine Ext.al ?_ _ | refine Ext.dr ?_ | refine Ext.drN ?_ _ | exact Ext.rf _))) HLL.out).mono ?_
  rintro e w7 ⟨rfl, hE7⟩
  have HRB7 := Lib.hid (hE7.hp (heap_alloc_new w6 (ckT (.slice r1 S.qs.length q1) (.slice r2 S.ended.length q2) (.bool S.done) (.slice r3 S.cut.length q3))))
  have G67 := Lib.hid (show Ext w6 w7 from ((Ext.rf w6).al _).trans' hE7)
  have HSB7 := Lib.hid (G67.out.hp HSB6.out)
  have HE7 := Lib.hid (HE6.out.trans' G67.out)
  clear x0 x1 x2 y0 y1 y2 c0 c1 c2 hE7
  have x0 := cellOf HSB7.out 0
  have x1 := cellOf HSB7.out 1
  have x2 := cellOf HSB7.out 2
  have x3 := cellOf HSB7.out 3
  simp only [List.getElem?_toArray, List.getElem?_cons_zero, List.getElem?_cons_succ] at x0 x1 x2 x3
  have y0 := cellOf HRB7.out 0
  have y1 := cellOf HRB7.out 1
  have y2 := cellOf HRB7.out 2
  have y3 := cellOf HRB7.out 3
  simp only [List.getElem?_toArray, List.getElem?_cons_zero, List.getElem?_cons_succ] at y0 y1 y2 y3
  go_wp2_with fail
  refine (same47_eq _ _ _ _ _ _ S _ (HC4.out.ext (G45.out.trans' (G56.out.trans' G67.out))) (HC6.out.ext G67.out) HSS.out).mono ?_
  rintro e w8 ⟨rfl, hE8⟩
  have HE8 := Lib.hid (HE7.out.trans' hE8)
  clear hE8
  go_wp2
  go_ret
  exact ⟨by simp, HE8.out⟩

end Go.Proofs.Ytggofkaakccoeaa
