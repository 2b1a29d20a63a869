/-
  Reducing and concluding, of the program's text.
-/
import Derived.Test.YtdcahdcnoeomhaaBase
import Derived.Test.YtdcahdcnoeomhaaProg
import Derived.BigQuiet
import Derived.Deep.QuietTactic
import Derived.Deep.LoopGhost
import Derived.Shelf.Abstract
import Derived.Test.YtdcahdcnoeomhaaCkH
import Derived.BigRegion
namespace Go.Proofs.Ytdcahdcnoeomhaa
open Go.RowKit
set_option linter.unusedVariables false
attribute [local go_sem ↓] Go.wp_at_zero Go.wp_at_succ

/-- The facts at the head of a queue that is beaten. -/
theorem beaten_at {qs : List (List (List Int))} {p : Nat} (h : beatenL qs = p) : p < qs.length ∧ 0 < qs[p]!.length := by
  obtain ⟨h1, h2, _⟩ := beaten_some qs p h
  exact ⟨h1, beaten_pos _ _ h2⟩
theorem fit_drop {qs : List (List (List Int))} {p : Nat} (hf : FitQ qs) (hp : p < qs.length) : FitQ (dropAt qs p) := by
  refine ⟨by rw [drop_len]; exact hf.1, fun q hq => ?_⟩
  rw [drop_len] at hq
  unfold dropAt
  rw [set_at _ _ _ _ hp]
  split
  · rename_i e
    subst e
    obtain ⟨h1, h2⟩ := hf.2 q hq
    refine ⟨by rw [List.length_drop]; omega, fun i hi => ?_⟩
    rw [List.length_drop] at hi
    rw [drop_at _ 1 i (by omega), List.length_set]
    exact h2 (1 + i) (by omega)
  · rw [List.length_set]
    exact hf.2 q hq

/-- A reduced checker with its conclusion, handed back: the queues lie where they lay. -/
def ConcludeOut (w w' : World) (base : Nat) (e : Ending) (vq ve : Value) (qs : List (List (List Int))) (ended : List Bool) : Prop :=
  ∃ vc, e = .returned (.agg #[vq, ve, .bool (doneB qs ended), vc]) ∧ OwnQs w' base 34 24 3 vq qs ∧ Row w' base 4 1 ve ended.length (ended.map Value.bool) ∧ Row w' base 3 1 vc (cutB qs).length ((cutB qs).map (Value.int .i64)) ∧ Below base w w'

/-- What lies behind the six stores at the end. -/
theorem conc_stored {w : World} {A B : Nat} {q e d c z0 z1 z2 z3 : Value} (hA : w.heap[A]? = some (ckT q e d c)) (hB : w.heap[B]? = some (ckT z0 z1 z2 z3)) (hne : A ≠ B) (x y a b c' d' : Value) :
    (∀ {base : Nat} {uq : Value} {qs : List (List (List Int))}, OwnQs w base 34 24 3 uq qs → OwnQs ((((((w.setCell ⟨A, 2, none⟩ x).setCell ⟨A, 3, none⟩ y).setCell ⟨B, 0, none⟩ a).setCell ⟨B, 1, none⟩ b).setCell ⟨B, 2, none⟩ c').setCell ⟨B, 3, none⟩ d') base 34 24 3 uq qs) ∧
    (∀ {base : Nat} {e : TypeId} {size : Nat} {v : Value} {n : Nat} {xs : List Value}, Row w base e size v n xs → 26 ≠ e → Row ((((((w.setCell ⟨A, 2, none⟩ x).setCell ⟨A, 3, none⟩ y).setCell ⟨B, 0, none⟩ a).setCell ⟨B, 1, none⟩ b).setCell ⟨B, 2, none⟩ c').setCell ⟨B, 3, none⟩ d') base e size v n xs) ∧
    (∀ {base : Nat} {w0 : World}, base ≤ A → base ≤ B → Below base w0 w → Below base w0 ((((((w.setCell ⟨A, 2, none⟩ x).setCell ⟨A, 3, none⟩ y).setCell ⟨B, 0, none⟩ a).setCell ⟨B, 1, none⟩ b).setCell ⟨B, 2, none⟩ c').setCell ⟨B, 3, none⟩ d')) := by
  have hA2 := ck_set2 (x := x) hA
  have hB2 : ((w.setCell ⟨A, 2, none⟩ x).setCell ⟨A, 3, none⟩ y).heap[B]? = some (ckT z0 z1 z2 z3) := by
    rw [Below.heap_setCell _ _ _ _ (by simp only; omega), Below.heap_setCell _ _ _ _ (by simp only; omega)]; exact hB
  obtain ⟨s1, s2, s3⟩ := box_stored hB2 a b c' d'
  refine ⟨fun h => ?_, fun h hne => s2 ((h.stO hA hne x).stO hA2 hne y) hne, fun h1 h2 h3 => ?_⟩
  · have g2 := (h.stO hA (by decide) (by decide) (by decide) x).stO hA2 (by decide) (by decide) (by decide) y (o := 3)
    exact (((g2.stO hB2 (by decide) (by decide) (by decide) a).stO (ck_set0 hB2) (by decide) (by decide) (by decide) b).stO (ck_set1 (ck_set0 hB2)) (by decide) (by decide) (by decide) c').stO (ck_set2 (ck_set1 (ck_set0 hB2))) (by decide) (by decide) (by decide) d'
  · exact Below.setCell (Below.setCell (Below.setCell (Below.setCell (Below.setCell (Below.setCell h3 h1 x) h1 y) h2 a) h2 b) h2 c') h2 d'


set_option maxHeartbeats 8000000 in
set_option maxRecDepth 100000 in
theorem concludeP_calls (vq ve vc : Value) (d : Bool) (qs : List (List (List Int))) (ended : List Bool) (base : Nat) (w : World) (hq : OwnQs w base 34 24 3 vq qs) (he : Row w base 4 1 ve ended.length (ended.map Value.bool))
    (hb : base ≤ w.heap.size) (hf : FitQ qs) (hl : ended.length = qs.length) :
    Calls Try.prog 36 #[.agg #[vq, ve, .bool d, vc]] w fun e w' => ConcludeOut w w' base e vq ve (reduceL qs) ended := by
  have HQ := Lib.hid hq
  have HEN := Lib.hid he
  have HF := Lib.hid hf
  have hn8 := hf.1
  obtain ⟨a, c, rfl, hlc⟩ := hq.read.shape
  obtain ⟨ea, ec, rfl, hec, hsh⟩ := he.any
  rw [hl] at hec HEN ⊢
  generalize hn : qs.length = n at *
  have HN := Lib.hid hn
  have HL := Lib.hid hl
  clear hq hf hn he hl hsh
  have HX0 := Lib.hid (((Ext.rf (w.alloc (ckT (.slice a n c) (.slice ea n ec) (.bool d) vc))).al (ckT (.slice none 0 0) (.slice none 0 0) (.bool false) (.slice none 0 0))).hp (heap_alloc_new w (ckT (.slice a n c) (.slice ea n ec) (.bool d) vc)))
  have HX1 := Lib.hid (heap_new_eq (w := w.alloc (ckT (.slice a n c) (.slice ea n ec) (.bool d) vc)) (o := ckT (.slice none 0 0) (.slice none 0 0) (.bool false) (.slice none 0 0)) (b := w.heap.size + 1) (by simp))
  have HE0 : Hid (Ext w ((w.alloc (ckT (.slice a n c) (.slice ea n ec) (.bool d) vc)).alloc (ckT (.slice none 0 0) (.slice none 0 0) (.bool false) (.slice none 0 0)))) := Lib.hid (((Ext.rf w).al _).al _)
  have hsz0 : w.heap.size + 2 ≤ ((w.alloc (ckT (.slice a n c) (.slice ea n ec) (.bool d) vc)).alloc (ckT (.slice none 0 0) (.slice none 0 0) (.bool false) (.slice none 0 0))).heap.size := by simp
  go_enter Try.func36, Try.ntmps36
  go_wp2_with fail
  generalize hw0 : (w.alloc (ckT (.slice a n c) (.slice ea n ec) (.bool d) vc)).alloc (ckT (.slice none 0 0) (.slice none 0 0) (.bool false) (.slice none 0 0)) = w0 at *
  clear hw0
  refine (beatenP_calls (.slice a n c) (.slice ea n ec) vc d qs w0 ((HQ.out.ext HE0.out).read) HF.out).mono ?_
  rintro e w1 ⟨rfl, hE1⟩
  have HQ1 := Lib.hid ((HQ.out.ext HE0.out).ext hE1)
  have HEN1 := Lib.hid ((HEN.out.ext HE0.out).ext hE1)
  have HXA := Lib.hid (hE1.hp HX0.out)
  have HXB := Lib.hid (hE1.hp HX1.out)
  have HE1 := Lib.hid (show Below base w w1 from (HE0.out.trans' hE1).mono hb)
  have hsz1 := hE1.sz
  clear hE1
  go_wp2
  go_loopg [3] (total qs) (fun g s3 wr => ∃ (q : List (List (List Int))) (r : Int), s3 = .int .i64 r ∧ total q ≤ g ∧ Aside (reduceL q = reduceL qs) ∧ Aside (beatenL q = r) ∧ Aside (FitQ q) ∧ Aside (q.length = n) ∧ Aside (OwnQs wr base 34 24 3 (.slice a n c) q) ∧ Aside (Row wr base 4 1 (.slice ea n ec) n (ended.map Value.bool)) ∧ Aside (wr.heap[w.heap.size]? = some (ckT (.slice a n c) (.slice ea n ec) (.bool d) vc)) ∧ Aside (wr.heap[w.heap.size + 1]? = some (ckT (.slice none 0 0) (.slice none 0 0) (.bool false) (.slice none 0 0))) ∧ Aside (Below base w wr ∧ w.heap.size + 2 ≤ wr.heap.size))
  case atStart => exact ⟨qs, _, rfl, Nat.le_refl _, rfl, rfl, HF.out, HN.out, HQ1.out, HEN1.out, HXA.out, HXB.out, (show _ ∧ _ from ⟨HE1.out, by omega⟩)⟩
  case round =>
    obtain ⟨q, r, rfl, hg, HRED, HBT, HFQ, HQN, HOQ, HRW, HBA, HBB, HBL⟩ := hrel
    have hszr := HBL.out.2
    have x0 := cellOf HBA.out 0
    have x1 := cellOf HBA.out 1
    have x2 := cellOf HBA.out 2
    have x3 := cellOf HBA.out 3
    simp only [List.getElem?_toArray, List.getElem?_cons_zero, List.getElem?_cons_succ] at x0 x1 x2 x3
    by_cases hr : 0 ≤ r
    · obtain ⟨p, rfl⟩ : ∃ p : Nat, r = p := ⟨r.toNat, by omega⟩
      have hrz : (0 : Int) ≤ (p : Int) := by omega
      obtain ⟨hpq, hpl⟩ := beaten_at HBT.out
      have hpn : (p : Int) < (n : Int) := by have := HQN.out; omega
      obtain ⟨G, O, C, hs, hue, hcell, hfrz, hbG, hrow, hqh⟩ := HOQ.out.at p hpq
      simp only [Value.slice.injEq] at hue
      obtain ⟨rfl, hnn, rfl⟩ := hue
      have htot := total_drop q p hpq hpl
      obtain ⟨m, hm⟩ : ∃ m, q[p]!.length = m + 1 := ⟨q[p]!.length - 1, by omega⟩
      have hrr := hqh.2.1 p hpq
      obtain ⟨g', o', cap, hse, hcap⟩ : ∃ g' o' cap, hs[p]! = .slice (some ⟨g', o', none⟩) (m + 1) cap ∧ m + 1 ≤ cap := by
        obtain ⟨vs, h1, _⟩ := hrr
        obtain ⟨g', o', cap, h2, _, _, h3⟩ := h1.shape hpl
        rw [hm] at h2 h3
        exact ⟨g', o', cap, h2, h3⟩
      rw [hse] at hcell hrr
      have htl := hrr.tail hm
      have HROW := Lib.hid hrow
      have HQH := Lib.hid hqh
      have HSE := Lib.hid hse
      have HTL := Lib.hid htl
      have HFD := Lib.hid (fit_drop HFQ.out hpq)
      have HRS := Lib.hid (reduce_step q p HBT.out)
      have hGne : G ≠ w.heap.size := by
        obtain ⟨cs, t, fr, hG, ht⟩ := hrow.block G rfl
        intro e
        subst e
        rw [HBA.out] at hG
        simp at hG
        have := hG.2.1
        rw [ht] at this
        exact absurd this (by decide)
      have hGne1 : G ≠ w.heap.size + 1 := by
        obtain ⟨cs, t, fr, hG, ht⟩ := hrow.block G rfl
        intro e
        subst e
        rw [HBB.out] at hG
        simp at hG
        have := hG.2.1
        rw [ht] at this
        exact absurd this (by decide)
      clear hnn hrow hqh hse htl hrr
      by_cases hc1 : cap = 1
      · subst hc1
        obtain rfl : m = 0 := by omega
        go_wp2
        go_region
        go_wp2_with fail
        have hrowq := HROW.out
        rw [← HQN.out] at hrowq
        have hown := (own_drop (u := (.slice (some ⟨g', o', none⟩) 0 0)) hrowq HQH.out hpq (by decide) (by decide) (HTL.out.2 (by first | rfl | trivial)) (by rw [HSE.out]; rfl)).ext ((Ext.rf _).dr)
        rw [HQN.out] at hown
        obtain ⟨cs, t, fr, hG, rfl⟩ := HROW.out.block G rfl
        have hrw := (HRW.out.stO (o := O + p) hG (by decide) (.slice (some ⟨g', o', none⟩) 0 0)).ext ((Ext.rf _).dr)
        have hba : ((wr.setCell ⟨G, O + p, none⟩ (.slice (some ⟨g', o', none⟩) 0 0)).drew).heap[w.heap.size]? = _ := (Below.heap_setCell wr ⟨G, O + p, none⟩ (.slice (some ⟨g', o', none⟩) 0 0) w.heap.size (fun e => hGne e.symm)).trans HBA.out
        have hbb : ((wr.setCell ⟨G, O + p, none⟩ (.slice (some ⟨g', o', none⟩) 0 0)).drew).heap[w.heap.size + 1]? = _ := (Below.heap_setCell wr ⟨G, O + p, none⟩ (.slice (some ⟨g', o', none⟩) 0 0) (w.heap.size + 1) (fun e => hGne1 e.symm)).trans HBB.out
        have hbl : Below base w ((wr.setCell ⟨G, O + p, none⟩ (.slice (some ⟨g', o', none⟩) 0 0)).drew) := (Below.setCell HBL.out.1 hbG (.slice (some ⟨g', o', none⟩) 0 0)).drew
        have hsz : ((wr.setCell ⟨G, O + p, none⟩ (.slice (some ⟨g', o', none⟩) 0 0)).drew).heap.size = wr.heap.size := size_setCell _ _ _
        clear x0 x1 x2 x3 hcell hfrz
        generalize (wr.setCell ⟨G, O + p, none⟩ (.slice (some ⟨g', o', none⟩) 0 0)).drew = w2 at *
        have HOWN := Lib.hid hown
        have HRW2 := Lib.hid hrw
        have HBA2 := Lib.hid hba
        have HBB2 := Lib.hid hbb
        have HBL2 := Lib.hid hbl
        clear hown hrw hba hbb hbl hG hrowq
        have x0 := cellOf HBA2.out 0
        have x1 := cellOf HBA2.out 1
        have x2 := cellOf HBA2.out 2
        have x3 := cellOf HBA2.out 3
        simp only [List.getElem?_toArray, List.getElem?_cons_zero, List.getElem?_cons_succ] at x0 x1 x2 x3
        refine (beatenP_calls (.slice (some ⟨G, O, none⟩) n c) (.slice ea n ec) vc d (dropAt q p) w2 HOWN.out.read HFD.out).mono ?_
        rintro e w3 ⟨rfl, hE3⟩
        have HE3 := Lib.hid hE3
        have hsz3 := hE3.sz
        clear hE3
        go_wp2
        go_roundg (total (dropAt q p))
        case measure => omega
        case rel =>
          refine ⟨dropAt q p, _, rfl, Nat.le_refl _, (show _ = _ from by rw [← HRS.out]; exact HRED.out), (show _ = _ from rfl), HFD.out, (show _ = _ from by rw [drop_len]; exact HQN.out), (show OwnQs _ _ _ _ _ _ _ from HOWN.out.ext HE3.out), (show Row _ _ _ _ _ _ _ from HRW2.out.ext HE3.out), (show _ = _ from HE3.out.hp HBA2.out), (show _ = _ from HE3.out.hp HBB2.out), (show _ ∧ _ from ⟨Below.trans HBL2.out (HE3.out.mono (by have := HBL2.out.size; omega)), by omega⟩)⟩
      · have hcz : (1 : Int) ≤ (cap : Int) := by omega
        have hczn : 1 ≤ cap := by omega
        go_wp2
        go_region
        go_wp2_with fail
        have hrowq := HROW.out
        rw [← HQN.out] at hrowq
        have hown := (own_drop (u := (.slice (some ⟨g', o' + 1, none⟩) m (cap - 1))) hrowq HQH.out hpq (by decide) (by decide) (HTL.out.1) (by rw [HSE.out]; rfl)).ext ((Ext.rf _).dr)
        rw [HQN.out] at hown
        obtain ⟨cs, t, fr, hG, rfl⟩ := HROW.out.block G rfl
        have hrw := (HRW.out.stO (o := O + p) hG (by decide) (.slice (some ⟨g', o' + 1, none⟩) m (cap - 1))).ext ((Ext.rf _).dr)
        have hba : ((wr.setCell ⟨G, O + p, none⟩ (.slice (some ⟨g', o' + 1, none⟩) m (cap - 1))).drew).heap[w.heap.size]? = _ := (Below.heap_setCell wr ⟨G, O + p, none⟩ (.slice (some ⟨g', o' + 1, none⟩) m (cap - 1)) w.heap.size (fun e => hGne e.symm)).trans HBA.out
        have hbb : ((wr.setCell ⟨G, O + p, none⟩ (.slice (some ⟨g', o' + 1, none⟩) m (cap - 1))).drew).heap[w.heap.size + 1]? = _ := (Below.heap_setCell wr ⟨G, O + p, none⟩ (.slice (some ⟨g', o' + 1, none⟩) m (cap - 1)) (w.heap.size + 1) (fun e => hGne1 e.symm)).trans HBB.out
        have hbl : Below base w ((wr.setCell ⟨G, O + p, none⟩ (.slice (some ⟨g', o' + 1, none⟩) m (cap - 1))).drew) := (Below.setCell HBL.out.1 hbG (.slice (some ⟨g', o' + 1, none⟩) m (cap - 1))).drew
        have hsz : ((wr.setCell ⟨G, O + p, none⟩ (.slice (some ⟨g', o' + 1, none⟩) m (cap - 1))).drew).heap.size = wr.heap.size := size_setCell _ _ _
        clear x0 x1 x2 x3 hcell hfrz
        generalize (wr.setCell ⟨G, O + p, none⟩ (.slice (some ⟨g', o' + 1, none⟩) m (cap - 1))).drew = w2 at *
        have HOWN := Lib.hid hown
        have HRW2 := Lib.hid hrw
        have HBA2 := Lib.hid hba
        have HBB2 := Lib.hid hbb
        have HBL2 := Lib.hid hbl
        clear hown hrw hba hbb hbl hG hrowq
        have x0 := cellOf HBA2.out 0
        have x1 := cellOf HBA2.out 1
        have x2 := cellOf HBA2.out 2
        have x3 := cellOf HBA2.out 3
        simp only [List.getElem?_toArray, List.getElem?_cons_zero, List.getElem?_cons_succ] at x0 x1 x2 x3
        refine (beatenP_calls (.slice (some ⟨G, O, none⟩) n c) (.slice ea n ec) vc d (dropAt q p) w2 HOWN.out.read HFD.out).mono ?_
        rintro e w3 ⟨rfl, hE3⟩
        have HE3 := Lib.hid hE3
        have hsz3 := hE3.sz
        clear hE3
        go_wp2
        go_roundg (total (dropAt q p))
        case measure => omega
        case rel =>
          refine ⟨dropAt q p, _, rfl, Nat.le_refl _, (show _ = _ from by rw [← HRS.out]; exact HRED.out), (show _ = _ from rfl), HFD.out, (show _ = _ from by rw [drop_len]; exact HQN.out), (show OwnQs _ _ _ _ _ _ _ from HOWN.out.ext HE3.out), (show Row _ _ _ _ _ _ _ from HRW2.out.ext HE3.out), (show _ = _ from HE3.out.hp HBA2.out), (show _ = _ from HE3.out.hp HBB2.out), (show _ ∧ _ from ⟨Below.trans HBL2.out (HE3.out.mono (by have := HBL2.out.size; omega)), by omega⟩)⟩
    · have hrn : r < 0 := by omega
      have hred := reduce_done q (by rw [HBT.out]; exact hrn)
      rw [HRED.out] at hred
      have HRQ := Lib.hid hred
      have hen := HRW.out.bools
      go_wp2_with fail
      refine (conclusionP_calls (.slice a n c) (.slice ea n ec) vc d q ended wr HOQ.out.read hen HFQ.out (by rw [HL.out, HQN.out])).mono ?_
      rintro e w2 ⟨v2, rfl, hI2, hE2⟩
      obtain ⟨ra, rc, rfl, hrc, hsh⟩ := hI2.any
      have HI2 := Lib.hid hI2
      clear hsh hI2
      have HE2 := Lib.hid hE2
      have HBA2 := Lib.hid (hE2.hp HBA.out)
      have HBB2 := Lib.hid (hE2.hp HBB.out)
      have hsz2 := hE2.sz
      clear hE2 x0 x1 x2 x3 hred hen
      generalize hclq : (cutB q).length = cl at *
      have HCLQ := Lib.hid hclq
      clear hclq
      generalize hdb : doneB q ended = db at *
      have HDB := Lib.hid hdb
      clear hdb
      have x0 := cellOf HBA2.out 0
      have x1 := cellOf HBA2.out 1
      have x2 := cellOf HBA2.out 2
      have x3 := cellOf HBA2.out 3
      simp only [List.getElem?_toArray, List.getElem?_cons_zero, List.getElem?_cons_succ] at x0 x1 x2 x3
      have f0 := freeOf HBA2.out 0
      have f1 := freeOf HBA2.out 1
      have f2 := freeOf HBA2.out 2
      have f3 := freeOf HBA2.out 3
      have r0 := cellOf HBB2.out 0
      have r1 := cellOf HBB2.out 1
      have r2 := cellOf HBB2.out 2
      have r3 := cellOf HBB2.out 3
      simp only [List.getElem?_toArray, List.getElem?_cons_zero, List.getElem?_cons_succ] at r0 r1 r2 r3
      have q0 := freeOf HBB2.out 0
      have q1 := freeOf HBB2.out 1
      have q2 := freeOf HBB2.out 2
      have q3 := freeOf HBB2.out 3
      go_wp2
      refine bodyPost_ret (v := .agg #[.slice a n c, .slice ea n ec, .bool db, .slice ra cl rc]) (by simp [results, Try.results36, go_sem, r0, r1, r2, r3]) rfl ?_
      rw [HRQ.out]
      obtain ⟨k1, k2, k3⟩ := conc_stored HBA2.out HBB2.out (by omega) (.bool db) (.slice ra cl rc) (.slice a n c) (.slice ea n ec) (.bool db) (.slice ra cl rc)
      exact ⟨_, by rw [HDB.out], k1 (HOQ.out.ext HE2.out), by rw [HL.out]; exact k2 (HRW.out.ext HE2.out) (by decide), by rw [HCLQ.out]; exact (k2 HI2.out (by decide)).mono (by omega), k3 (by omega) (by omega) (Below.trans HBL.out.1 (HE2.out.mono (by omega)))⟩

end Go.Proofs.Ytdcahdcnoeomhaa
