import Derived.Test.YtggofkaakccoeaaBase
import Derived.Test.YtggofkaakccoeaaProg
import Derived.Test.YtggofkaakccoeaaCkH
import Derived.Test.YtggofkaakccoeaaStep
import Derived.BigQuiet
import Derived.Deep.QuietTactic
import Derived.Deep.LoopGhost
import Derived.Shelf.Abstract
import Derived.BigRegion
/-
  Reducing and concluding, of the program's text.
-/
namespace Go.Proofs.Ytggofkaakccoeaa
open Go.RowKit
set_option linter.unusedVariables false
attribute [local go_sem ↓] Go.wp_at_zero Go.wp_at_succ

/-- The facts at the head of a queue that is beaten. -/
theorem beaten_at {qs : List (List (List Int))} {p : Nat} (h : beatenL qs = p) : p < qs.length ∧ 0 < qs[p]!.length := by
  obtain ⟨h1, h2, _⟩ := beaten_some qs p h
  exact ⟨h1, beaten_pos _ _ h2⟩
theorem fit_drop {qs : List (List (List Int))} {p : Nat} (hf : FitQ qs) (hp : p < qs.length) : FitQ (dropAt qs p) := by
  refine ⟨by rw [drop_len]; exact hf.1, fun q hq => ?_⟩
  rw [drop_len] at hq
  unfold dropAt
  rw [set_at _ _ _ _ hp]
  split
  · rename_i e
    subst e
    obtain ⟨h1, h2⟩ := hf.2 q hq
    refine ⟨by rw [List.length_drop]; omega, fun i hi => ?_⟩
    rw [List.length_drop] at hi
    rw [drop_at _ 1 i (by omega), List.length_set]
    exact h2 (1 + i) (by omega)
  · rw [List.length_set]
    exact hf.2 q hq

/-- A reduced checker with its conclusion, handed back: the queues lie where they lay. -/
def ConcludeOut (w w' : World) (base : Nat) (e : Ending) (vq ve : Value) (qs : List (List (List Int))) (ended : List Bool) : Prop :=
  ∃ vc, e = .returned (.agg #[vq, ve, .bool (doneB qs ended), vc]) ∧ OwnQs w' base 109 38 3 vq qs ∧ Row w' base 4 1 ve ended.length (ended.map Value.bool) ∧ Row w' base 3 1 vc (cutB qs).length ((cutB qs).map (Value.int .i64)) ∧ Below base w w'

/-- What lies behind the six stores at the end. -/
theorem conc_stored {w : World} {A B : Nat} {q e d c z0 z1 z2 z3 : Value} (hA : w.heap[A]? = some (ckT q e d c)) (hB : w.heap[B]? = some (ckT z0 z1 z2 z3)) (hne : A ≠ B) (x y a b c' d' : Value) :
    (∀ {base : Nat} {uq : Value} {qs : List (List (List Int))}, OwnQs w base 109 38 3 uq qs → OwnQs ((((((w.setCell ⟨A, 2, none⟩ x).setCell ⟨A, 3, none⟩ y).setCell ⟨B, 0, none⟩ a).setCell ⟨B, 1, none⟩ b).setCell ⟨B, 2, none⟩ c').setCell ⟨B, 3, none⟩ d') base 109 38 3 uq qs) ∧
    (∀ {base : Nat} {e : TypeId} {size : Nat} {v : Value} {n : Nat} {xs : List Value}, Row w base e size v n xs → 62 ≠ e → Row ((((((w.setCell ⟨A, 2, none⟩ x).setCell ⟨A, 3, none⟩ y).setCell ⟨B, 0, none⟩ a).setCell ⟨B, 1, none⟩ b).setCell ⟨B, 2, none⟩ c').setCell ⟨B, 3, none⟩ d') base e size v n xs) ∧
    (∀ {base : Nat} {w0 : World}, base ≤ A → base ≤ B → Below base w0 w → Below base w0 ((((((w.setCell ⟨A, 2, none⟩ x).setCell ⟨A, 3, none⟩ y).setCell ⟨B, 0, none⟩ a).setCell ⟨B, 1, none⟩ b).setCell ⟨B, 2, none⟩ c').setCell ⟨B, 3, none⟩ d')) := by
  have hA2 := ck_set2 (x := x) hA
  have hB2 : ((w.setCell ⟨A, 2, none⟩ x).setCell ⟨A, 3, none⟩ y).heap[B]? = some (ckT z0 z1 z2 z3) := by
    rw [Below.heap_setCell _ _ _ _ (by simp only; omega), Below.heap_setCell _ _ _ _ (by simp only; omega)]; exact hB
  obtain ⟨s1, s2, s3⟩ := box_stored hB2 a b c' d'
  refine ⟨fun h => ?_, fun h hne => s2 ((h.stO hA hne x).stO hA2 hne y) hne, fun h1 h2 h3 => ?_⟩
  · have g2 := (h.stO hA (by decide) (by decide) (by decide) x).stO hA2 (by decide) (by decide) (by decide) y (o := 3)
    exact (((g2.stO hB2 (by decide) (by decide) (by decide) a).stO (ck_set0 hB2) (by decide) (by decide) (by decide) b).stO (ck_set1 (ck_set0 hB2)) (by decide) (by decide) (by decide) c').stO (ck_set2 (ck_set1 (ck_set0 hB2))) (by decide) (by decide) (by decide) d'
  · exact Below.setCell (Below.setCell (Below.setCell (Below.setCell (Below.setCell (Below.setCell h3 h1 x) h1 y) h2 a) h2 b) h2 c') h2 d'


set_option maxHeartbeats 8000000 in
set_option maxRecDepth 100000 in
theorem concludeP_calls (vq ve vc : Value) (d : Bool) (qs : List (List (List Int))) (ended : List Bool) (base : Nat) (w : World) (hq : OwnQs w base 109 38 3 vq qs) (he : Row w base 4 1 ve ended.length (ended.map Value.bool))
    (hb : base ≤ w.heap.size) (hf : FitQ qs) (hl : ended.length = qs.length) :
    Calls Try.prog 71 #[.agg #[vq, ve, .bool d, vc]] w fun e w' => ConcludeOut w w' base e vq ve (reduceL qs) ended := by
  have HQ := Lib.hid hq
  have HEN := Lib.hid he
  have HF := Lib.hid hf
  have hn8 := hf.1
  obtain ⟨a, c, rfl, hlc⟩ := hq.read.shape
  obtain ⟨ea, ec, rfl, hec, hsh⟩ := he.any
  rw [hl] at hec HEN ⊢
  generalize hn : qs.length = n at *
  have HN := Lib.hid hn
  have HL := Lib.hid hl
  clear hq hf hn he hl hsh
  have HX0 := Lib.hid (((Ext.rf (w.alloc (ckT (.slice a n c) (.slice ea n ec) (.bool d) vc))).al (ckT (.slice none 0 0) (.slice none 0 0) (.bool false) (.slice none 0 0))).hp (heap_alloc_new w (ckT (.slice a n c) (.slice ea n ec) (.bool d) vc)))
  have HX1 := Lib.hid (heap_new_eq (w := w.alloc (ckT (.slice a n c) (.slice ea n ec) (.bool d) vc)) (o := ckT (.slice none 0 0) (.slice none 0 0) (.bool false) (.slice none 0 0)) (b := w.heap.size + 1) (by simp))
  have HE0 : Hid (Ext w ((w.alloc (ckT (.slice a n c) (.slice ea n ec) (.bool d) vc)).alloc (ckT (.slice none 0 0) (.slice none 0 0) (.bool false) (.slice none 0 0)))) := Lib.hid (((Ext.rf w).al _).al _)
  have hsz0 : w.heap.size + 2 ≤ ((w.alloc (ckT (.slice a n c) (.slice ea n ec) (.bool d) vc)).alloc (ckT (.slice none 0 0) (.slice none 0 0) (.bool false) (.slice none 0 0))).heap.size := by simp
  go_enter Try.func71, Try.ntmps71
  go_wp2_with fail
  generalize hw0 : (w.alloc (ckT (.slice a n c) (.slice ea n ec) (.bool d) vc)).alloc (ckT (.slice none 0 0) (.slice none 0 0) (.bool false) (.slice none 0 0)) = w0 at *
  clear hw0
  refine (beatenP_calls (.slice a n c) (.slice ea n ec) vc d qs w0 ((HQ.out.ext HE0.out).read) HF.out).mono ?_
  rintro e w1 ⟨rfl, hE1⟩
  have HQ1 := Lib.hid ((HQ.out.ext HE0.out).ext hE1)
  have HEN1 := Lib.hid ((HEN.out.ext HE0.out).ext hE1)
  have HXA := Lib.hid (hE1.hp HX0.out)
  have HXB := Lib.hid (hE1.hp HX1.out)
  have HE1 := Lib.hid (show Below base w w1 from (HE0.out.trans' hE1).mono hb)
  have hsz1 := hE1.sz
  clear hE1
  go_wp2
  go_loopg [3] (total qs) (fun g s3 wr => ∃ (q : List (List (List Int))) (r : Int), s3 = .int .i64 r ∧ total q ≤ g ∧ Aside (reduceL q = reduceL qs) ∧ Aside (beatenL q = r) ∧ Aside (FitQ q) ∧ Aside (q.length = n) ∧ Aside (OwnQs wr base 109 38 3 (.slice a n c) q) ∧ Aside (Row wr base 4 1 (.slice ea n ec) n (ended.map Value.bool)) ∧ Aside (wr.heap[w.heap.size]? = some (ckT (.slice a n c) (.slice ea n ec) (.bool d) vc)) ∧ Aside (wr.heap[w.heap.size + 1]? = some (ckT (.slice none 0 0) (.slice none 0 0) (.bool false) (.slice none 0 0))) ∧ Aside (Below base w wr ∧ w.heap.size + 2 ≤ wr.heap.size))
  case atStart => exact ⟨qs, _, rfl, Nat.le_refl _, rfl, rfl, HF.out, HN.out, HQ1.out, HEN1.out, HXA.out, HXB.out, (show _ ∧ _ from ⟨HE1.out, by omega⟩)⟩
  case round =>
    obtain ⟨q, r, rfl, hg, HRED, HBT, HFQ, HQN, HOQ, HRW, HBA, HBB, HBL⟩ := hrel
    have hszr := HBL.out.2
    have x0 := cellOf HBA.out 0
    have x1 := cellOf HBA.out 1
    have x2 := cellOf HBA.out 2
    have x3 := cellOf HBA.out 3
    simp only [List.getElem?_toArray, List.getElem?_cons_zero, List.getElem?_cons_succ] at x0 x1 x2 x3
    by_cases hr : 0 ≤ r
    · obtain ⟨p, rfl⟩ : ∃ p : Nat, r = p := ⟨r.toNat, by omega⟩
      have hrz : (0 : Int) ≤ (p : Int) := by omega
      obtain ⟨hpq, hpl⟩ := beaten_at HBT.out
      have hpn : (p : Int) < (n : Int) := by have := HQN.out; omega
      obtain ⟨G, O, C, hs, hue, hcell, hfrz, hbG, hrow, hqh⟩ := HOQ.out.at p hpq
      simp only [Value.slice.injEq] at hue
      obtain ⟨rfl, hnn, rfl⟩ := hue
      have htot := total_drop q p hpq hpl
      obtain ⟨m, hm⟩ : ∃ m, q[p]!.length = m + 1 := ⟨q[p]!.length - 1, by omega⟩
      have hrr := hqh.2.1 p hpq
      obtain ⟨g', o', cap, hse, hcap⟩ : ∃ g' o' cap, hs[p]! = .slice (some ⟨g', o', none⟩) (m + 1) cap ∧ m + 1 ≤ cap := by
        obtain ⟨vs, h1, _⟩ := hrr
        obtain ⟨g', o', cap, h2, _, _, h3⟩ := h1.shape hpl
        rw [hm] at h2 h3
        exact ⟨g', o', cap, h2, h3⟩
      rw [hse] at hcell hrr
      have htl := hrr.tail hm
      have HROW := Lib.hid hrow
      have HQH := Lib.hid hqh
      have HSE := Lib.hid hse
      have HTL := Lib.hid htl
      have HFD := Lib.hid (fit_drop HFQ.out hpq)
      have HRS := Lib.hid (reduce_step q p HBT.out)
      have hGne : G ≠ w.heap.size := by
        obtain ⟨cs, t, fr, hG, ht⟩ := hrow.block G rfl
        intro e
        subst e
        rw [HBA.out] at hG
        simp at hG
        have := hG.2.1
        rw [ht] at this
        exact absurd this (by decide)
      have hGne1 : G ≠ w.heap.size + 1 := by
        obtain ⟨cs, t, fr, hG, ht⟩ := hrow.block G rfl
        intro e
        subst e
        rw [HBB.out] at hG
        simp at hG
        have := hG.2.1
        rw [ht] at this
        exact absurd this (by decide)
      clear hnn hrow hqh hse htl hrr
      by_cases hc1 : cap = 1
      · subst hc1
        obtain rfl : m = 0 := by omega
        go_wp2
        go_region
        go_wp2_with fail
        have hrowq := HROW.out
        rw [← HQN.out] at hrowq
        have hown := (own_drop (u := (.slice (some ⟨g', o', none⟩) 0 0)) hrowq HQH.out hpq (by decide) (by decide) (HTL.out.2 (by first | rfl | trivial)) (by rw [HSE.out]; rfl)).ext ((Ext.rf _).dr)
        rw [HQN.out] at hown
        obtain ⟨cs, t, fr, hG, rfl⟩ := HROW.out.block G rfl
        have hrw := (HRW.out.stO (o := O + p) hG (by decide) (.slice (some ⟨g', o', none⟩) 0 0)).ext ((Ext.rf _).dr)
        have hba : ((wr.setCell ⟨G, O + p, none⟩ (.slice (some ⟨g', o', none⟩) 0 0)).drew).heap[w.heap.size]? = _ := (Below.heap_setCell wr ⟨G, O + p, none⟩ (.slice (some ⟨g', o', none⟩) 0 0) w.heap.size (fun e => hGne e.symm)).trans HBA.out
        have hbb : ((wr.setCell ⟨G, O + p, none⟩ (.slice (some ⟨g', o', none⟩) 0 0)).drew).heap[w.heap.size + 1]? = _ := (Below.heap_setCell wr ⟨G, O + p, none⟩ (.slice (some ⟨g', o', none⟩) 0 0) (w.heap.size + 1) (fun e => hGne1 e.symm)).trans HBB.out
        have hbl : Below base w ((wr.setCell ⟨G, O + p, none⟩ (.slice (some ⟨g', o', none⟩) 0 0)).drew) := (Below.setCell HBL.out.1 hbG (.slice (some ⟨g', o', none⟩) 0 0)).drew
        have hsz : ((wr.setCell ⟨G, O + p, none⟩ (.slice (some ⟨g', o', none⟩) 0 0)).drew).heap.size = wr.heap.size := size_setCell _ _ _
        clear x0 x1 x2 x3 hcell hfrz
        generalize (wr.setCell ⟨G, O + p, none⟩ (.slice (some ⟨g', o', none⟩) 0 0)).drew = w2 at *
        have HOWN := Lib.hid hown
        have HRW2 := Lib.hid hrw
        have HBA2 := Lib.hid hba
        have HBB2 := Lib.hid hbb
        have HBL2 := Lib.hid hbl
        clear hown hrw hba hbb hbl hG hrowq
        have x0 := cellOf HBA2.out 0
        have x1 := cellOf HBA2.out 1
        have x2 := cellOf HBA2.out 2
        have x3 := cellOf HBA2.out 3
        simp only [List.getElem?_toArray, List.getElem?_cons_zero, List.getElem?_cons_succ] at x0 x1 x2 x3
        refine (beatenP_calls (.slice (some ⟨G, O, none⟩) n c) (.slice ea n ec) vc d (dropAt q p) w2 HOWN.out.read HFD.out).mono ?_
        rintro e w3 ⟨rfl, hE3⟩
        have HE3 := Lib.hid hE3
        have hsz3 := hE3.sz
        clear hE3
        go_wp2
        go_roundg (total (dropAt q p))
        case measure => omega
        case rel =>
          refine ⟨dropAt q p, _, rfl, Nat.le_refl _, (show _ = _ from by rw [← HRS.out]; exact HRED.out), (show _ = _ from rfl), HFD.out, (show _ = _ from by rw [drop_len]; exact HQN.out), (show OwnQs _ _ _ _ _ _ _ from HOWN.out.ext HE3.out), (show Row _ _ _ _ _ _ _ from HRW2.out.ext HE3.out), (show _ = _ from HE3.out.hp HBA2.out), (show _ = _ from HE3.out.hp HBB2.out), (show _ ∧ _ from ⟨Below.trans HBL2.out (HE3.out.mono (by have := HBL2.out.size; omega)), by omega⟩)⟩
      · have hcz : (1 : Int) ≤ (cap : Int) := by omega
        have hczn : 1 ≤ cap := by omega
        go_wp2
        go_region
        go_wp2_with fail
        have hrowq := HROW.out
        rw [← HQN.out] at hrowq
        have hown := (own_drop (u := (.slice (some ⟨g', o' + 1, none⟩) m (cap - 1))) hrowq HQH.out hpq (by decide) (by decide) (HTL.out.1) (by rw [HSE.out]; rfl)).ext ((Ext.rf _).dr)
        rw [HQN.out] at hown
        obtain ⟨cs, t, fr, hG, rfl⟩ := HROW.out.block G rfl
        have hrw := (HRW.out.stO (o := O + p) hG (by decide) (.slice (some ⟨g', o' + 1, none⟩) m (cap - 1))).ext ((Ext.rf _).dr)
        have hba : ((wr.setCell ⟨G, O + p, none⟩ (.slice (some ⟨g', o' + 1, none⟩) m (cap - 1))).drew).heap[w.heap.size]? = _ := (Below.heap_setCell wr ⟨G, O + p, none⟩ (.slice (some ⟨g', o' + 1, none⟩) m (cap - 1)) w.heap.size (fun e => hGne e.symm)).trans HBA.out
        have hbb : ((wr.setCell ⟨G, O + p, none⟩ (.slice (some ⟨g', o' + 1, none⟩) m (cap - 1))).drew).heap[w.heap.size + 1]? = _ := (Below.heap_setCell wr ⟨G, O + p, none⟩ (.slice (some ⟨g', o' + 1, none⟩) m (cap - 1)) (w.heap.size + 1) (fun e => hGne1 e.symm)).trans HBB.out
        have hbl : Below base w ((wr.setCell ⟨G, O + p, none⟩ (.slice (some ⟨g', o' + 1, none⟩) m (cap - 1))).drew) := (Below.setCell HBL.out.1 hbG (.slice (some ⟨g', o' + 1, none⟩) m (cap - 1))).drew
        have hsz : ((wr.setCell ⟨G, O + p, none⟩ (.slice (some ⟨g', o' + 1, none⟩) m (cap - 1))).drew).heap.size = wr.heap.size := size_setCell _ _ _
        clear x0 x1 x2 x3 hcell hfrz
        generalize (wr.setCell ⟨G, O + p, none⟩ (.slice (some ⟨g', o' + 1, none⟩) m (cap - 1))).drew = w2 at *
        have HOWN := Lib.hid hown
        have HRW2 := Lib.hid hrw
        have HBA2 := Lib.hid hba
        have HBB2 := Lib.hid hbb
        have HBL2 := Lib.hid hbl
        clear hown hrw hba hbb hbl hG hrowq
        have x0 := cellOf HBA2.out 0
        have x1 := cellOf HBA2.out 1
        have x2 := cellOf HBA2.out 2
        have x3 := cellOf HBA2.out 3
        simp only [List.getElem?_toArray, List.getElem?_cons_zero, List.getElem?_cons_succ] at x0 x1 x2 x3
        refine (beatenP_calls (.slice (some ⟨G, O, none⟩) n c) (.slice ea n ec) vc d (dropAt q p) w2 HOWN.out.read HFD.out).mono ?_
        rintro e w3 ⟨rfl, hE3⟩
        have HE3 := Lib.hid hE3
        have hsz3 := hE3.sz
        clear hE3
        go_wp2
        go_roundg (total (dropAt q p))
        case measure => omega
        case rel =>
          refine ⟨dropAt q p, _, rfl, Nat.le_refl _, (show _ = _ from by rw [← HRS.out]; exact HRED.out), (show _ = _ from rfl), HFD.out, (show _ = _ from by rw [drop_len]; exact HQN.out), (show OwnQs _ _ _ _ _ _ _ from HOWN.out.ext HE3.out), (show Row _ _ _ _ _ _ _ from HRW2.out.ext HE3.out), (show _ = _ from HE3.out.hp HBA2.out), (show _ = _ from HE3.out.hp HBB2.out), (show _ ∧ _ from ⟨Below.trans HBL2.out (HE3.out.mono (by have := HBL2.out.size; omega)), by omega⟩)⟩
    · have hrn : r < 0 := by omega
      have hred := reduce_done q (by rw [HBT.out]; exact hrn)
      rw [HRED.out] at hred
      have HRQ := Lib.hid hred
      have hen := HRW.out.bools
      go_wp2_with fail
      refine (conclusionP_calls (.slice a n c) (.slice ea n ec) vc d q ended wr HOQ.out.read hen HFQ.out (by rw [HL.out, HQN.out])).mono ?_
      rintro e w2 ⟨v2, rfl, hI2, hE2⟩
      obtain ⟨ra, rc, rfl, hrc, hsh⟩ := hI2.any
      have HI2 := Lib.hid hI2
      clear hsh hI2
      have HE2 := Lib.hid hE2
      have HBA2 := Lib.hid (hE2.hp HBA.out)
      have HBB2 := Lib.hid (hE2.hp HBB.out)
      have hsz2 := hE2.sz
      clear hE2 x0 x1 x2 x3 hred hen
      generalize hclq : (cutB q).length = cl at *
      have HCLQ := Lib.hid hclq
      clear hclq
      generalize hdb : doneB q ended = db at *
      have HDB := Lib.hid hdb
      clear hdb
      have x0 := cellOf HBA2.out 0
      have x1 := cellOf HBA2.out 1
      have x2 := cellOf HBA2.out 2
      have x3 := cellOf HBA2.out 3
      simp only [List.getElem?_toArray, List.getElem?_cons_zero, List.getElem?_cons_succ] at x0 x1 x2 x3
      have f0 := freeOf HBA2.out 0
      have f1 := freeOf HBA2.out 1
      have f2 := freeOf HBA2.out 2
      have f3 := freeOf HBA2.out 3
      have r0 := cellOf HBB2.out 0
      have r1 := cellOf HBB2.out 1
      have r2 := cellOf HBB2.out 2
      have r3 := cellOf HBB2.out 3
      simp only [List.getElem?_toArray, List.getElem?_cons_zero, List.getElem?_cons_succ] at r0 r1 r2 r3
      have q0 := freeOf HBB2.out 0
      have q1 := freeOf HBB2.out 1
      have q2 := freeOf HBB2.out 2
      have q3 := freeOf HBB2.out 3
      go_wp2
      refine bodyPost_ret (v := .agg #[.slice a n c, .slice ea n ec, .bool db, .slice ra cl rc]) (by simp [results, Try.results71, go_sem, r0, r1, r2, r3]) rfl ?_
      rw [HRQ.out]
      obtain ⟨k1, k2, k3⟩ := conc_stored HBA2.out HBB2.out (by omega) (.bool db) (.slice ra cl rc) (.slice a n c) (.slice ea n ec) (.bool db) (.slice ra cl rc)
      exact ⟨_, by rw [HDB.out], k1 (HOQ.out.ext HE2.out), by rw [HL.out]; exact k2 (HRW.out.ext HE2.out) (by decide), by rw [HCLQ.out]; exact (k2 HI2.out (by decide)).mono (by omega), k3 (by omega) (by omega) (Below.trans HBL.out.1 (HE2.out.mono (by omega)))⟩

end Go.Proofs.Ytggofkaakccoeaa

/-
  Put of the program's text.
-/
namespace Go.Proofs.Ytggofkaakccoeaa
open Go.RowKit
set_option linter.unusedVariables false
attribute [local go_sem ↓] Go.wp_at_zero Go.wp_at_succ

def zeroCk : Value := .agg #[.slice none 0 0, .slice none 0 0, .bool false, .slice none 0 0]

set_option maxHeartbeats 1000000 in
theorem ckPut1_calls (E : Int) (w : World) : Calls Try.prog 72 #[.int .i64 E] w fun e w' => e = .returned (.tuple #[.agg #[.slice none 0 0, .slice none 0 0, .bool false, .slice none 0 0], .int .i64 E]) ∧ Ext w w' := by
  go_enter Try.func72, Try.ntmps72
  go_wp2
  exact bodyPost_ret (v := .tuple #[.agg #[.slice none 0 0, .slice none 0 0, .bool false, .slice none 0 0], .int .i64 E]) (by simp [results, Try.results72, go_sem]) rfl ⟨rfl, (by repeat (first | refine Ext.st ?_ (by first | exact Nat.le_refl _ | exact Nat.le_succ _ | assumption | omega) _ | refine Ext.al ?_ _ | refine Ext.dr ?_ | refine Ext.drN ?_ _ | exact Ext.rf _))⟩

theorem enters_72 : ∀ args w, (callFunc 72 args).run Try.prog w = .ok (.enter 72 args) w := enters_of Try.func72 (by kernel_rfl) rfl




set_option maxHeartbeats 8000000 in
set_option maxRecDepth 100000 in
theorem putP_bad (uq ue uc v : Value) (s : Ck) (p : Int) (lv : List Int) (w : World) (E : Int) (h : CkAt w uq ue uc s) (hs : SmallC s) (hv : Ints w v lv) (hvn : lv.length ≤ 1000000) (hE : putErr s p lv = E) (h0 : E ≠ 0) :
    Calls Try.prog 59 #[.agg #[uq, ue, .bool s.done, uc], .int .i64 p, v] w fun e w' => e = .returned (.tuple #[.agg #[.slice none 0 0, .slice none 0 0, .bool false, .slice none 0 0], .int .i64 E]) ∧ Ext w w' := by
  have HPE := Lib.hid (show putErr s p lv = if !validC s then 1
    else if p < 0 ∨ (s.qs.length : Int) ≤ p ∨ stampB lv s.qs.length = false then 2
    else if s.done = true ∨ s.ended[p.toNat]! = true then 6
    else if 0 < s.qs[p.toNat]!.length ∧ afterB s.qs[p.toNat]![s.qs[p.toNat]!.length - 1]! lv p.toNat = false then 11
    else if 65 ≤ s.qs[p.toNat]!.length then 5
    else 0 from rfl)
  rw [hE] at HPE
  clear hE
  cases hval : validC s with
  | false =>
    have hE1 : E = 1 := by rw [HPE.out, hval]; rfl
    have HER := Lib.hid hE1
    have HVAL := Lib.hid hval
    clear h0 hval hE1
    have HS := Lib.hid h
    have HSM := Lib.hid hs
    have HVI := Lib.hid hv
    have hs1 := hs.1
    have hs2 := hs.2.1
    obtain ⟨a, c, rfl, hlc⟩ := h.1.shape
    obtain ⟨ea, ec, rfl, hec⟩ := h.2.1.shape
    obtain ⟨ca, cc, hce, hcc, _⟩ := h.2.2
    subst hce
    obtain ⟨va, vc, rfl, hvc, _⟩ := hv
    clear h hs
    generalize hd : s.done = d at *
    have HD := Lib.hid hd
    clear hd
    generalize hn : s.qs.length = n at *
    generalize hl : s.ended.length = l at *
    generalize hcl : s.cut.length = cl at *
    have HN := Lib.hid hn
    have HL := Lib.hid hl
    have HCL := Lib.hid hcl
    clear hn hl hcl
    have HX0 := Lib.hid (((Ext.rf (w.alloc (ckT (.slice a n c) (.slice ea l ec) (.bool d) (.slice ca cl cc)))).al (ckT (.slice none 0 0) (.slice none 0 0) (.bool false) (.slice none 0 0))).hp (heap_alloc_new w (ckT (.slice a n c) (.slice ea l ec) (.bool d) (.slice ca cl cc))))
    have HX1 := Lib.hid (heap_new_eq (w := w.alloc (ckT (.slice a n c) (.slice ea l ec) (.bool d) (.slice ca cl cc))) (o := ckT (.slice none 0 0) (.slice none 0 0) (.bool false) (.slice none 0 0)) (b := w.heap.size + 1) (by simp))
    have HE0 : Hid (Ext w ((w.alloc (ckT (.slice a n c) (.slice ea l ec) (.bool d) (.slice ca cl cc))).alloc (ckT (.slice none 0 0) (.slice none 0 0) (.bool false) (.slice none 0 0)))) := Lib.hid (((Ext.rf w).al _).al _)
    have hsz0 : w.heap.size + 2 ≤ ((w.alloc (ckT (.slice a n c) (.slice ea l ec) (.bool d) (.slice ca cl cc))).alloc (ckT (.slice none 0 0) (.slice none 0 0) (.bool false) (.slice none 0 0))).heap.size := by simp
    go_enter Try.func59, Try.ntmps59
    go_wp2_with fail
    generalize hw0 : (w.alloc (ckT (.slice a n c) (.slice ea l ec) (.bool d) (.slice ca cl cc))).alloc (ckT (.slice none 0 0) (.slice none 0 0) (.bool false) (.slice none 0 0)) = w0 at *
    clear hw0
    have hvc := validP_calls (.slice a n c) (.slice ea l ec) (.slice ca cl cc) s w0 (HS.out.ext HE0.out) HSM.out
    rw [HD.out, HVAL.out] at hvc
    have HVC := Lib.hid hvc
    clear hvc
    refine HVC.out.mono ?_
    rintro e w1 ⟨rfl, hE1⟩
    have HXA := Lib.hid (hE1.hp HX0.out)
    have HXB := Lib.hid (hE1.hp HX1.out)
    have HEW := Lib.hid (HE0.out.trans' hE1)
    have hsz1 := hE1.sz
    clear hE1
    have x0 := cellOf HXA.out 0
    have x1 := cellOf HXA.out 1
    have x2 := cellOf HXA.out 2
    have x3 := cellOf HXA.out 3
    simp only [List.getElem?_toArray, List.getElem?_cons_zero, List.getElem?_cons_succ] at x0 x1 x2 x3
    go_wp2_with fail
    refine (ckPut1_calls 1 _).mono ?_
    rintro e wE ⟨rfl, hEE⟩
    have HXB := Lib.hid (hEE.hp HXB.out)
    have HEE := Lib.hid (HEW.out.trans' hEE)
    clear hEE
    have r0 := cellOf HXB.out 0
    have r1 := cellOf HXB.out 1
    have r2 := cellOf HXB.out 2
    have r3 := cellOf HXB.out 3
    simp only [List.getElem?_toArray, List.getElem?_cons_zero, List.getElem?_cons_succ] at r0 r1 r2 r3
    have f0 := freeOf HXB.out 0
    have f1 := freeOf HXB.out 1
    have f2 := freeOf HXB.out 2
    have f3 := freeOf HXB.out 3
    go_wp2
    refine bodyPost_ret (v := .tuple #[.agg #[.slice none 0 0, .slice none 0 0, .bool false, .slice none 0 0], .int .i64 1]) (by simp [results, Try.results59, go_sem, r0, r1, r2, r3]) rfl ⟨by rw [HER.out], box_ext HEE.out (by omega) _ _ _ _⟩
  | true =>
    have HVAL := Lib.hid hval
    rw [hval] at HPE
    obtain ⟨g1, g2, g3, g4⟩ := form_parts.1 (valid_parts.1 hval).1
    have HG4 := Lib.hid g4
    have HG3 := Lib.hid g3
    clear hval g3 g4
    by_cases hp1 : p < 0
    · have b1 : decide (p < 0) = true := by simpa using hp1
      have hE1 : E = 2 := by rw [HPE.out]; simp [hp1]
      have HER := Lib.hid hE1
      clear h0 hE1 hp1
      have HS := Lib.hid h
      have HSM := Lib.hid hs
      have HVI := Lib.hid hv
      have hs1 := hs.1
      have hs2 := hs.2.1
      obtain ⟨a, c, rfl, hlc⟩ := h.1.shape
      obtain ⟨ea, ec, rfl, hec⟩ := h.2.1.shape
      obtain ⟨ca, cc, hce, hcc, _⟩ := h.2.2
      subst hce
      obtain ⟨va, vc, rfl, hvc, _⟩ := hv
      clear h hs
      generalize hd : s.done = d at *
      have HD := Lib.hid hd
      clear hd
      generalize hn : s.qs.length = n at *
      generalize hl : s.ended.length = l at *
      generalize hcl : s.cut.length = cl at *
      have HN := Lib.hid hn
      have HL := Lib.hid hl
      have HCL := Lib.hid hcl
      clear hn hl hcl
      have HX0 := Lib.hid (((Ext.rf (w.alloc (ckT (.slice a n c) (.slice ea l ec) (.bool d) (.slice ca cl cc)))).al (ckT (.slice none 0 0) (.slice none 0 0) (.bool false) (.slice none 0 0))).hp (heap_alloc_new w (ckT (.slice a n c) (.slice ea l ec) (.bool d) (.slice ca cl cc))))
      have HX1 := Lib.hid (heap_new_eq (w := w.alloc (ckT (.slice a n c) (.slice ea l ec) (.bool d) (.slice ca cl cc))) (o := ckT (.slice none 0 0) (.slice none 0 0) (.bool false) (.slice none 0 0)) (b := w.heap.size + 1) (by simp))
      have HE0 : Hid (Ext w ((w.alloc (ckT (.slice a n c) (.slice ea l ec) (.bool d) (.slice ca cl cc))).alloc (ckT (.slice none 0 0) (.slice none 0 0) (.bool false) (.slice none 0 0)))) := Lib.hid (((Ext.rf w).al _).al _)
      have hsz0 : w.heap.size + 2 ≤ ((w.alloc (ckT (.slice a n c) (.slice ea l ec) (.bool d) (.slice ca cl cc))).alloc (ckT (.slice none 0 0) (.slice none 0 0) (.bool false) (.slice none 0 0))).heap.size := by simp
      go_enter Try.func59, Try.ntmps59
      go_wp2_with fail
      generalize hw0 : (w.alloc (ckT (.slice a n c) (.slice ea l ec) (.bool d) (.slice ca cl cc))).alloc (ckT (.slice none 0 0) (.slice none 0 0) (.bool false) (.slice none 0 0)) = w0 at *
      clear hw0
      have hvc := validP_calls (.slice a n c) (.slice ea l ec) (.slice ca cl cc) s w0 (HS.out.ext HE0.out) HSM.out
      rw [HD.out, HVAL.out] at hvc
      have HVC := Lib.hid hvc
      clear hvc
      refine HVC.out.mono ?_
      rintro e w1 ⟨rfl, hE1⟩
      have HXA := Lib.hid (hE1.hp HX0.out)
      have HXB := Lib.hid (hE1.hp HX1.out)
      have HEW := Lib.hid (HE0.out.trans' hE1)
      have hsz1 := hE1.sz
      clear hE1
      have x0 := cellOf HXA.out 0
      have x1 := cellOf HXA.out 1
      have x2 := cellOf HXA.out 2
      have x3 := cellOf HXA.out 3
      simp only [List.getElem?_toArray, List.getElem?_cons_zero, List.getElem?_cons_succ] at x0 x1 x2 x3
      go_wp2_with fail
      refine (ckPut1_calls 2 _).mono ?_
      rintro e wE ⟨rfl, hEE⟩
      have HXB := Lib.hid (hEE.hp HXB.out)
      have HEE := Lib.hid (HEW.out.trans' hEE)
      clear hEE
      have r0 := cellOf HXB.out 0
      have r1 := cellOf HXB.out 1
      have r2 := cellOf HXB.out 2
      have r3 := cellOf HXB.out 3
      simp only [List.getElem?_toArray, List.getElem?_cons_zero, List.getElem?_cons_succ] at r0 r1 r2 r3
      have f0 := freeOf HXB.out 0
      have f1 := freeOf HXB.out 1
      have f2 := freeOf HXB.out 2
      have f3 := freeOf HXB.out 3
      go_wp2
      refine bodyPost_ret (v := .tuple #[.agg #[.slice none 0 0, .slice none 0 0, .bool false, .slice none 0 0], .int .i64 2]) (by simp [results, Try.results59, go_sem, r0, r1, r2, r3]) rfl ⟨by rw [HER.out], box_ext HEE.out (by omega) _ _ _ _⟩
    have b1 : decide (p < 0) = false := by simpa using hp1
    by_cases hp2 : (s.qs.length : Int) ≤ p
    · have hE1 : E = 2 := by rw [HPE.out]; simp [hp2]
      have HER := Lib.hid hE1
      have b2 : decide ((s.qs.length : Int) ≤ p) = true := by simpa using hp2
      clear h0 hE1 hp2
      have HS := Lib.hid h
      have HSM := Lib.hid hs
      have HVI := Lib.hid hv
      have hs1 := hs.1
      have hs2 := hs.2.1
      obtain ⟨a, c, rfl, hlc⟩ := h.1.shape
      obtain ⟨ea, ec, rfl, hec⟩ := h.2.1.shape
      obtain ⟨ca, cc, hce, hcc, _⟩ := h.2.2
      subst hce
      obtain ⟨va, vc, rfl, hvc, _⟩ := hv
      clear h hs
      generalize hd : s.done = d at *
      have HD := Lib.hid hd
      clear hd
      generalize hn : s.qs.length = n at *
      generalize hl : s.ended.length = l at *
      generalize hcl : s.cut.length = cl at *
      have HN := Lib.hid hn
      have HL := Lib.hid hl
      have HCL := Lib.hid hcl
      clear hn hl hcl
      have HX0 := Lib.hid (((Ext.rf (w.alloc (ckT (.slice a n c) (.slice ea l ec) (.bool d) (.slice ca cl cc)))).al (ckT (.slice none 0 0) (.slice none 0 0) (.bool false) (.slice none 0 0))).hp (heap_alloc_new w (ckT (.slice a n c) (.slice ea l ec) (.bool d) (.slice ca cl cc))))
      have HX1 := Lib.hid (heap_new_eq (w := w.alloc (ckT (.slice a n c) (.slice ea l ec) (.bool d) (.slice ca cl cc))) (o := ckT (.slice none 0 0) (.slice none 0 0) (.bool false) (.slice none 0 0)) (b := w.heap.size + 1) (by simp))
      have HE0 : Hid (Ext w ((w.alloc (ckT (.slice a n c) (.slice ea l ec) (.bool d) (.slice ca cl cc))).alloc (ckT (.slice none 0 0) (.slice none 0 0) (.bool false) (.slice none 0 0)))) := Lib.hid (((Ext.rf w).al _).al _)
      have hsz0 : w.heap.size + 2 ≤ ((w.alloc (ckT (.slice a n c) (.slice ea l ec) (.bool d) (.slice ca cl cc))).alloc (ckT (.slice none 0 0) (.slice none 0 0) (.bool false) (.slice none 0 0))).heap.size := by simp
      go_enter Try.func59, Try.ntmps59
      go_wp2_with fail
      generalize hw0 : (w.alloc (ckT (.slice a n c) (.slice ea l ec) (.bool d) (.slice ca cl cc))).alloc (ckT (.slice none 0 0) (.slice none 0 0) (.bool false) (.slice none 0 0)) = w0 at *
      clear hw0
      have hvc := validP_calls (.slice a n c) (.slice ea l ec) (.slice ca cl cc) s w0 (HS.out.ext HE0.out) HSM.out
      rw [HD.out, HVAL.out] at hvc
      have HVC := Lib.hid hvc
      clear hvc
      refine HVC.out.mono ?_
      rintro e w1 ⟨rfl, hE1⟩
      have HXA := Lib.hid (hE1.hp HX0.out)
      have HXB := Lib.hid (hE1.hp HX1.out)
      have HEW := Lib.hid (HE0.out.trans' hE1)
      have hsz1 := hE1.sz
      clear hE1
      have x0 := cellOf HXA.out 0
      have x1 := cellOf HXA.out 1
      have x2 := cellOf HXA.out 2
      have x3 := cellOf HXA.out 3
      simp only [List.getElem?_toArray, List.getElem?_cons_zero, List.getElem?_cons_succ] at x0 x1 x2 x3
      go_wp2_with fail
      refine (ckPut1_calls 2 _).mono ?_
      rintro e wE ⟨rfl, hEE⟩
      have HXB := Lib.hid (hEE.hp HXB.out)
      have HEE := Lib.hid (HEW.out.trans' hEE)
      clear hEE
      have r0 := cellOf HXB.out 0
      have r1 := cellOf HXB.out 1
      have r2 := cellOf HXB.out 2
      have r3 := cellOf HXB.out 3
      simp only [List.getElem?_toArray, List.getElem?_cons_zero, List.getElem?_cons_succ] at r0 r1 r2 r3
      have f0 := freeOf HXB.out 0
      have f1 := freeOf HXB.out 1
      have f2 := freeOf HXB.out 2
      have f3 := freeOf HXB.out 3
      go_wp2
      refine bodyPost_ret (v := .tuple #[.agg #[.slice none 0 0, .slice none 0 0, .bool false, .slice none 0 0], .int .i64 2]) (by simp [results, Try.results59, go_sem, r0, r1, r2, r3]) rfl ⟨by rw [HER.out], box_ext HEE.out (by omega) _ _ _ _⟩
    have b2 : decide ((s.qs.length : Int) ≤ p) = false := by simpa using hp2
    obtain ⟨P, rfl⟩ : ∃ P : Nat, p = P := ⟨p.toNat, by omega⟩
    have hPn : P < s.qs.length := by omega
    cases hst : stampB lv s.qs.length with
    | false =>
      have hE1 : E = 2 := by rw [HPE.out, hst]; simp
      have HER := Lib.hid hE1
      have HSB := Lib.hid (fun W (hW : Ext w W) => stampP_calls v lv s.qs.length W (hv.ext hW) hvn)
      rw [hst] at HSB
      clear h0 hE1 hst
      have HS := Lib.hid h
      have HSM := Lib.hid hs
      have HVI := Lib.hid hv
      have hs1 := hs.1
      have hs2 := hs.2.1
      obtain ⟨a, c, rfl, hlc⟩ := h.1.shape
      obtain ⟨ea, ec, rfl, hec⟩ := h.2.1.shape
      obtain ⟨ca, cc, hce, hcc, _⟩ := h.2.2
      subst hce
      obtain ⟨va, vc, rfl, hvc, _⟩ := hv
      clear h hs
      generalize hd : s.done = d at *
      have HD := Lib.hid hd
      clear hd
      generalize hn : s.qs.length = n at *
      generalize hl : s.ended.length = l at *
      generalize hcl : s.cut.length = cl at *
      have HN := Lib.hid hn
      have HL := Lib.hid hl
      have HCL := Lib.hid hcl
      clear hn hl hcl
      have HX0 := Lib.hid (((Ext.rf (w.alloc (ckT (.slice a n c) (.slice ea l ec) (.bool d) (.slice ca cl cc)))).al (ckT (.slice none 0 0) (.slice none 0 0) (.bool false) (.slice none 0 0))).hp (heap_alloc_new w (ckT (.slice a n c) (.slice ea l ec) (.bool d) (.slice ca cl cc))))
      have HX1 := Lib.hid (heap_new_eq (w := w.alloc (ckT (.slice a n c) (.slice ea l ec) (.bool d) (.slice ca cl cc))) (o := ckT (.slice none 0 0) (.slice none 0 0) (.bool false) (.slice none 0 0)) (b := w.heap.size + 1) (by simp))
      have HE0 : Hid (Ext w ((w.alloc (ckT (.slice a n c) (.slice ea l ec) (.bool d) (.slice ca cl cc))).alloc (ckT (.slice none 0 0) (.slice none 0 0) (.bool false) (.slice none 0 0)))) := Lib.hid (((Ext.rf w).al _).al _)
      have hsz0 : w.heap.size + 2 ≤ ((w.alloc (ckT (.slice a n c) (.slice ea l ec) (.bool d) (.slice ca cl cc))).alloc (ckT (.slice none 0 0) (.slice none 0 0) (.bool false) (.slice none 0 0))).heap.size := by simp
      go_enter Try.func59, Try.ntmps59
      go_wp2_with fail
      generalize hw0 : (w.alloc (ckT (.slice a n c) (.slice ea l ec) (.bool d) (.slice ca cl cc))).alloc (ckT (.slice none 0 0) (.slice none 0 0) (.bool false) (.slice none 0 0)) = w0 at *
      clear hw0
      have hvc := validP_calls (.slice a n c) (.slice ea l ec) (.slice ca cl cc) s w0 (HS.out.ext HE0.out) HSM.out
      rw [HD.out, HVAL.out] at hvc
      have HVC := Lib.hid hvc
      clear hvc
      refine HVC.out.mono ?_
      rintro e w1 ⟨rfl, hE1⟩
      have HXA := Lib.hid (hE1.hp HX0.out)
      have HXB := Lib.hid (hE1.hp HX1.out)
      have HEW := Lib.hid (HE0.out.trans' hE1)
      have hsz1 := hE1.sz
      clear hE1
      have x0 := cellOf HXA.out 0
      have x1 := cellOf HXA.out 1
      have x2 := cellOf HXA.out 2
      have x3 := cellOf HXA.out 3
      simp only [List.getElem?_toArray, List.getElem?_cons_zero, List.getElem?_cons_succ] at x0 x1 x2 x3
      go_wp2_with fail
      refine (HSB.out w1 HEW.out).mono ?_
      rintro e w2 ⟨rfl, hD2⟩
      have HXA := Lib.hid (hD2.ext.hp HXA.out)
      have HXB := Lib.hid (hD2.ext.hp HXB.out)
      have HEW := Lib.hid (HEW.out.trans' hD2.ext)
      have hsz2 := hD2.ext.sz
      clear hD2 x0 x1 x2 x3
      have x0 := cellOf HXA.out 0
      have x1 := cellOf HXA.out 1
      have x2 := cellOf HXA.out 2
      have x3 := cellOf HXA.out 3
      simp only [List.getElem?_toArray, List.getElem?_cons_zero, List.getElem?_cons_succ] at x0 x1 x2 x3
      go_wp2_with fail
      refine (ckPut1_calls 2 _).mono ?_
      rintro e wE ⟨rfl, hEE⟩
      have HXB := Lib.hid (hEE.hp HXB.out)
      have HEE := Lib.hid (HEW.out.trans' hEE)
      clear hEE
      have r0 := cellOf HXB.out 0
      have r1 := cellOf HXB.out 1
      have r2 := cellOf HXB.out 2
      have r3 := cellOf HXB.out 3
      simp only [List.getElem?_toArray, List.getElem?_cons_zero, List.getElem?_cons_succ] at r0 r1 r2 r3
      have f0 := freeOf HXB.out 0
      have f1 := freeOf HXB.out 1
      have f2 := freeOf HXB.out 2
      have f3 := freeOf HXB.out 3
      go_wp2
      refine bodyPost_ret (v := .tuple #[.agg #[.slice none 0 0, .slice none 0 0, .bool false, .slice none 0 0], .int .i64 2]) (by simp [results, Try.results59, go_sem, r0, r1, r2, r3]) rfl ⟨by rw [HER.out], box_ext HEE.out (by omega) _ _ _ _⟩
    | true =>
      have HSTB := Lib.hid hst
      have HSB := Lib.hid (fun W (hW : Ext w W) => stampP_calls v lv s.qs.length W (hv.ext hW) hvn)
      rw [hst] at HSB
      have HPE := Lib.hid (show E = if s.done = true ∨ s.ended[P]! = true then 6
        else if 0 < s.qs[P]!.length ∧ afterB s.qs[P]![s.qs[P]!.length - 1]! lv P = false then 11
        else if 65 ≤ s.qs[P]!.length then 5
        else 0 from by rw [HPE.out, if_neg (by simp), if_neg (by rw [hst]; simp; omega), Int.toNat_natCast])
      clear hst
      have hPe : P < s.ended.length := by rw [HG3.out]; exact hPn
      cases hdn : s.done with
      | true =>
        have hE1 : E = 6 := by rw [HPE.out, if_pos (.inl hdn)]
        have HER := Lib.hid hE1
        rw [← hdn]
        have HDN := Lib.hid hdn
        clear h0 hE1 hdn
        have HS := Lib.hid h
        have HSM := Lib.hid hs
        have HVI := Lib.hid hv
        have hs1 := hs.1
        have hs2 := hs.2.1
        obtain ⟨a, c, rfl, hlc⟩ := h.1.shape
        obtain ⟨ea, ec, rfl, hec⟩ := h.2.1.shape
        obtain ⟨ca, cc, hce, hcc, _⟩ := h.2.2
        subst hce
        obtain ⟨va, vc, rfl, hvc, _⟩ := hv
        clear h hs
        generalize hd : s.done = d at *
        have HD := Lib.hid hd
        clear hd
        generalize hn : s.qs.length = n at *
        generalize hl : s.ended.length = l at *
        generalize hcl : s.cut.length = cl at *
        have HN := Lib.hid hn
        have HL := Lib.hid hl
        have HCL := Lib.hid hcl
        clear hn hl hcl
        have HX0 := Lib.hid (((Ext.rf (w.alloc (ckT (.slice a n c) (.slice ea l ec) (.bool d) (.slice ca cl cc)))).al (ckT (.slice none 0 0) (.slice none 0 0) (.bool false) (.slice none 0 0))).hp (heap_alloc_new w (ckT (.slice a n c) (.slice ea l ec) (.bool d) (.slice ca cl cc))))
        have HX1 := Lib.hid (heap_new_eq (w := w.alloc (ckT (.slice a n c) (.slice ea l ec) (.bool d) (.slice ca cl cc))) (o := ckT (.slice none 0 0) (.slice none 0 0) (.bool false) (.slice none 0 0)) (b := w.heap.size + 1) (by simp))
        have HE0 : Hid (Ext w ((w.alloc (ckT (.slice a n c) (.slice ea l ec) (.bool d) (.slice ca cl cc))).alloc (ckT (.slice none 0 0) (.slice none 0 0) (.bool false) (.slice none 0 0)))) := Lib.hid (((Ext.rf w).al _).al _)
        have hsz0 : w.heap.size + 2 ≤ ((w.alloc (ckT (.slice a n c) (.slice ea l ec) (.bool d) (.slice ca cl cc))).alloc (ckT (.slice none 0 0) (.slice none 0 0) (.bool false) (.slice none 0 0))).heap.size := by simp
        obtain rfl : d = true := HDN.out
        go_enter Try.func59, Try.ntmps59
        go_wp2_with fail
        generalize hw0 : (w.alloc (ckT (.slice a n c) (.slice ea l ec) (.bool true) (.slice ca cl cc))).alloc (ckT (.slice none 0 0) (.slice none 0 0) (.bool false) (.slice none 0 0)) = w0 at *
        clear hw0
        have hvc := validP_calls (.slice a n c) (.slice ea l ec) (.slice ca cl cc) s w0 (HS.out.ext HE0.out) HSM.out
        rw [HD.out, HVAL.out] at hvc
        have HVC := Lib.hid hvc
        clear hvc
        refine HVC.out.mono ?_
        rintro e w1 ⟨rfl, hE1⟩
        have HXA := Lib.hid (hE1.hp HX0.out)
        have HXB := Lib.hid (hE1.hp HX1.out)
        have HEW := Lib.hid (HE0.out.trans' hE1)
        have hsz1 := hE1.sz
        clear hE1
        have x0 := cellOf HXA.out 0
        have x1 := cellOf HXA.out 1
        have x2 := cellOf HXA.out 2
        have x3 := cellOf HXA.out 3
        simp only [List.getElem?_toArray, List.getElem?_cons_zero, List.getElem?_cons_succ] at x0 x1 x2 x3
        go_wp2_with fail
        refine (HSB.out w1 HEW.out).mono ?_
        rintro e w2 ⟨rfl, hD2⟩
        have HXA := Lib.hid (hD2.ext.hp HXA.out)
        have HXB := Lib.hid (hD2.ext.hp HXB.out)
        have HEW := Lib.hid (HEW.out.trans' hD2.ext)
        have hsz2 := hD2.ext.sz
        clear hD2 x0 x1 x2 x3
        have x0 := cellOf HXA.out 0
        have x1 := cellOf HXA.out 1
        have x2 := cellOf HXA.out 2
        have x3 := cellOf HXA.out 3
        simp only [List.getElem?_toArray, List.getElem?_cons_zero, List.getElem?_cons_succ] at x0 x1 x2 x3
        go_wp2_with fail
        refine (ckPut1_calls 6 _).mono ?_
        rintro e wE ⟨rfl, hEE⟩
        have HXB := Lib.hid (hEE.hp HXB.out)
        have HEE := Lib.hid (HEW.out.trans' hEE)
        clear hEE
        have r0 := cellOf HXB.out 0
        have r1 := cellOf HXB.out 1
        have r2 := cellOf HXB.out 2
        have r3 := cellOf HXB.out 3
        simp only [List.getElem?_toArray, List.getElem?_cons_zero, List.getElem?_cons_succ] at r0 r1 r2 r3
        have f0 := freeOf HXB.out 0
        have f1 := freeOf HXB.out 1
        have f2 := freeOf HXB.out 2
        have f3 := freeOf HXB.out 3
        go_wp2
        refine bodyPost_ret (v := .tuple #[.agg #[.slice none 0 0, .slice none 0 0, .bool false, .slice none 0 0], .int .i64 6]) (by simp [results, Try.results59, go_sem, r0, r1, r2, r3]) rfl ⟨by rw [HER.out], box_ext HEE.out (by omega) _ _ _ _⟩
      | false =>
        have HDN := Lib.hid hdn
        rw [← hdn]
        clear hdn
        cases hen : s.ended[P]! with
        | true =>
          have hE1 : E = 6 := by rw [HPE.out, if_pos (.inr hen)]
          have HER := Lib.hid hE1
          have HEN := Lib.hid hen
          clear h0 hE1 hen
          have HS := Lib.hid h
          have HSM := Lib.hid hs
          have HVI := Lib.hid hv
          have hs1 := hs.1
          have hs2 := hs.2.1
          obtain ⟨a, c, rfl, hlc⟩ := h.1.shape
          obtain ⟨ea, ec, rfl, hec⟩ := h.2.1.shape
          obtain ⟨ca, cc, hce, hcc, _⟩ := h.2.2
          subst hce
          obtain ⟨va, vc, rfl, hvc, _⟩ := hv
          clear h hs
          generalize hd : s.done = d at *
          have HD := Lib.hid hd
          clear hd
          generalize hn : s.qs.length = n at *
          generalize hl : s.ended.length = l at *
          generalize hcl : s.cut.length = cl at *
          have HN := Lib.hid hn
          have HL := Lib.hid hl
          have HCL := Lib.hid hcl
          clear hn hl hcl
          have HX0 := Lib.hid (((Ext.rf (w.alloc (ckT (.slice a n c) (.slice ea l ec) (.bool d) (.slice ca cl cc)))).al (ckT (.slice none 0 0) (.slice none 0 0) (.bool false) (.slice none 0 0))).hp (heap_alloc_new w (ckT (.slice a n c) (.slice ea l ec) (.bool d) (.slice ca cl cc))))
          have HX1 := Lib.hid (heap_new_eq (w := w.alloc (ckT (.slice a n c) (.slice ea l ec) (.bool d) (.slice ca cl cc))) (o := ckT (.slice none 0 0) (.slice none 0 0) (.bool false) (.slice none 0 0)) (b := w.heap.size + 1) (by simp))
          have HE0 : Hid (Ext w ((w.alloc (ckT (.slice a n c) (.slice ea l ec) (.bool d) (.slice ca cl cc))).alloc (ckT (.slice none 0 0) (.slice none 0 0) (.bool false) (.slice none 0 0)))) := Lib.hid (((Ext.rf w).al _).al _)
          have hsz0 : w.heap.size + 2 ≤ ((w.alloc (ckT (.slice a n c) (.slice ea l ec) (.bool d) (.slice ca cl cc))).alloc (ckT (.slice none 0 0) (.slice none 0 0) (.bool false) (.slice none 0 0))).heap.size := by simp
          obtain rfl : d = false := HDN.out
          go_enter Try.func59, Try.ntmps59
          go_wp2_with fail
          generalize hw0 : (w.alloc (ckT (.slice a n c) (.slice ea l ec) (.bool false) (.slice ca cl cc))).alloc (ckT (.slice none 0 0) (.slice none 0 0) (.bool false) (.slice none 0 0)) = w0 at *
          clear hw0
          have hvc := validP_calls (.slice a n c) (.slice ea l ec) (.slice ca cl cc) s w0 (HS.out.ext HE0.out) HSM.out
          rw [HD.out, HVAL.out] at hvc
          have HVC := Lib.hid hvc
          clear hvc
          refine HVC.out.mono ?_
          rintro e w1 ⟨rfl, hE1⟩
          have HXA := Lib.hid (hE1.hp HX0.out)
          have HXB := Lib.hid (hE1.hp HX1.out)
          have HEW := Lib.hid (HE0.out.trans' hE1)
          have hsz1 := hE1.sz
          clear hE1
          have x0 := cellOf HXA.out 0
          have x1 := cellOf HXA.out 1
          have x2 := cellOf HXA.out 2
          have x3 := cellOf HXA.out 3
          simp only [List.getElem?_toArray, List.getElem?_cons_zero, List.getElem?_cons_succ] at x0 x1 x2 x3
          go_wp2_with fail
          refine (HSB.out w1 HEW.out).mono ?_
          rintro e w2 ⟨rfl, hD2⟩
          have HXA := Lib.hid (hD2.ext.hp HXA.out)
          have HXB := Lib.hid (hD2.ext.hp HXB.out)
          have HEW := Lib.hid (HEW.out.trans' hD2.ext)
          have hsz2 := hD2.ext.sz
          clear hD2 x0 x1 x2 x3
          have x0 := cellOf HXA.out 0
          have x1 := cellOf HXA.out 1
          have x2 := cellOf HXA.out 2
          have x3 := cellOf HXA.out 3
          simp only [List.getElem?_toArray, List.getElem?_cons_zero, List.getElem?_cons_succ] at x0 x1 x2 x3
          obtain ⟨EB, EO, EC, ev, hee, _, _, hec0, hev⟩ := HS.out.2.1.at1 P (by rw [HL.out]; omega)
          simp only [Value.slice.injEq] at hee
          obtain ⟨rfl, hnn2, rfl⟩ := hee
          obtain rfl : ev = .bool s.ended[P]! := by simpa [RBool] using hev
          rw [HEN.out] at hec0
          have ce := HEW.out.cl hec0
          have hPz : (0 : Int) ≤ (P : Int) := by omega
          have hPl : (P : Int) < (l : Int) := by omega
          clear hnn2 hev hec0
          go_wp2_with fail
          refine (ckPut1_calls 6 _).mono ?_
          rintro e wE ⟨rfl, hEE⟩
          have HXB := Lib.hid (hEE.hp HXB.out)
          have HEE := Lib.hid (HEW.out.trans' hEE)
          clear hEE
          have r0 := cellOf HXB.out 0
          have r1 := cellOf HXB.out 1
          have r2 := cellOf HXB.out 2
          have r3 := cellOf HXB.out 3
          simp only [List.getElem?_toArray, List.getElem?_cons_zero, List.getElem?_cons_succ] at r0 r1 r2 r3
          have f0 := freeOf HXB.out 0
          have f1 := freeOf HXB.out 1
          have f2 := freeOf HXB.out 2
          have f3 := freeOf HXB.out 3
          go_wp2
          refine bodyPost_ret (v := .tuple #[.agg #[.slice none 0 0, .slice none 0 0, .bool false, .slice none 0 0], .int .i64 6]) (by simp [results, Try.results59, go_sem, r0, r1, r2, r3]) rfl ⟨by rw [HER.out], box_ext HEE.out (by omega) _ _ _ _⟩
        | false =>
          have HPE := Lib.hid (show E = if 0 < s.qs[P]!.length ∧ afterB s.qs[P]![s.qs[P]!.length - 1]! lv P = false then 11
            else if 65 ≤ s.qs[P]!.length then 5
            else 0 from by rw [HPE.out, if_neg (by rw [HDN.out, hen]; simp)])
          have HEN := Lib.hid hen
          clear hen
          cases haf : (decide (0 < s.qs[P]!.length) && !afterB s.qs[P]![s.qs[P]!.length - 1]! lv P) with
          | true =>
            simp only [Bool.and_eq_true, decide_eq_true_eq, Bool.not_eq_true'] at haf
            have hE1 : E = 11 := by rw [HPE.out, if_pos ⟨haf.1, haf.2⟩]
            have HER := Lib.hid hE1
            have hql := haf.1
            have HAF := Lib.hid haf.2
            clear h0 hE1 haf
            have HS := Lib.hid h
            have HSM := Lib.hid hs
            have HVI := Lib.hid hv
            have hs1 := hs.1
            have hs2 := hs.2.1
            obtain ⟨a, c, rfl, hlc⟩ := h.1.shape
            obtain ⟨ea, ec, rfl, hec⟩ := h.2.1.shape
            obtain ⟨ca, cc, hce, hcc, _⟩ := h.2.2
            subst hce
            obtain ⟨va, vc, rfl, hvc, _⟩ := hv
            clear h hs
            generalize hd : s.done = d at *
            have HD := Lib.hid hd
            clear hd
            generalize hn : s.qs.length = n at *
            generalize hl : s.ended.length = l at *
            generalize hcl : s.cut.length = cl at *
            have HN := Lib.hid hn
            have HL := Lib.hid hl
            have HCL := Lib.hid hcl
            clear hn hl hcl
            have HX0 := Lib.hid (((Ext.rf (w.alloc (ckT (.slice a n c) (.slice ea l ec) (.bool d) (.slice ca cl cc)))).al (ckT (.slice none 0 0) (.slice none 0 0) (.bool false) (.slice none 0 0))).hp (heap_alloc_new w (ckT (.slice a n c) (.slice ea l ec) (.bool d) (.slice ca cl cc))))
            have HX1 := Lib.hid (heap_new_eq (w := w.alloc (ckT (.slice a n c) (.slice ea l ec) (.bool d) (.slice ca cl cc))) (o := ckT (.slice none 0 0) (.slice none 0 0) (.bool false) (.slice none 0 0)) (b := w.heap.size + 1) (by simp))
            have HE0 : Hid (Ext w ((w.alloc (ckT (.slice a n c) (.slice ea l ec) (.bool d) (.slice ca cl cc))).alloc (ckT (.slice none 0 0) (.slice none 0 0) (.bool false) (.slice none 0 0)))) := Lib.hid (((Ext.rf w).al _).al _)
            have hsz0 : w.heap.size + 2 ≤ ((w.alloc (ckT (.slice a n c) (.slice ea l ec) (.bool d) (.slice ca cl cc))).alloc (ckT (.slice none 0 0) (.slice none 0 0) (.bool false) (.slice none 0 0))).heap.size := by simp
            obtain rfl : d = false := HDN.out
            go_enter Try.func59, Try.ntmps59
            go_wp2_with fail
            generalize hw0 : (w.alloc (ckT (.slice a n c) (.slice ea l ec) (.bool false) (.slice ca cl cc))).alloc (ckT (.slice none 0 0) (.slice none 0 0) (.bool false) (.slice none 0 0)) = w0 at *
            clear hw0
            have hvc := validP_calls (.slice a n c) (.slice ea l ec) (.slice ca cl cc) s w0 (HS.out.ext HE0.out) HSM.out
            rw [HD.out, HVAL.out] at hvc
            have HVC := Lib.hid hvc
            clear hvc
            refine HVC.out.mono ?_
            rintro e w1 ⟨rfl, hE1⟩
            have HXA := Lib.hid (hE1.hp HX0.out)
            have HXB := Lib.hid (hE1.hp HX1.out)
            have HEW := Lib.hid (HE0.out.trans' hE1)
            have hsz1 := hE1.sz
            clear hE1
            have x0 := cellOf HXA.out 0
            have x1 := cellOf HXA.out 1
            have x2 := cellOf HXA.out 2
            have x3 := cellOf HXA.out 3
            simp only [List.getElem?_toArray, List.getElem?_cons_zero, List.getElem?_cons_succ] at x0 x1 x2 x3
            go_wp2_with fail
            refine (HSB.out w1 HEW.out).mono ?_
            rintro e w2 ⟨rfl, hD2⟩
            have HXA := Lib.hid (hD2.ext.hp HXA.out)
            have HXB := Lib.hid (hD2.ext.hp HXB.out)
            have HEW := Lib.hid (HEW.out.trans' hD2.ext)
            have hsz2 := hD2.ext.sz
            clear hD2 x0 x1 x2 x3
            have x0 := cellOf HXA.out 0
            have x1 := cellOf HXA.out 1
            have x2 := cellOf HXA.out 2
            have x3 := cellOf HXA.out 3
            simp only [List.getElem?_toArray, List.getElem?_cons_zero, List.getElem?_cons_succ] at x0 x1 x2 x3
            obtain ⟨EB, EO, EC, ev, hee, _, _, hec0, hev⟩ := HS.out.2.1.at1 P (by rw [HL.out]; omega)
            simp only [Value.slice.injEq] at hee
            obtain ⟨rfl, hnn2, rfl⟩ := hee
            obtain rfl : ev = .bool s.ended[P]! := by simpa [RBool] using hev
            rw [HEN.out] at hec0
            have ce := HEW.out.cl hec0
            have hPz : (0 : Int) ≤ (P : Int) := by omega
            have hPl : (P : Int) < (l : Int) := by omega
            clear hnn2 hev hec0
            obtain ⟨B, O, C, a1, m1, c1, hue0, hcp0, M1, hmc1, HS1⟩ := queue_at HS.out.1 P (by rw [HN.out]; omega)
            simp only [Value.slice.injEq] at hue0
            obtain ⟨rfl, hnn, rfl⟩ := hue0
            have HCP := Lib.hid hcp0
            have hcp := HEW.out.cl hcp0
            have HM1 := Lib.hid M1
            have HQS := Lib.hid HS1
            have hPn1 : (P : Int) < (n : Int) := by omega
            have hm1b := (HSM.out.2.2.2 P (by rw [HN.out]; omega)).1
            rw [← M1] at hm1b
            clear M1 HS1 hnn hcp0
            have hm1p : 0 < m1 := by rw [HM1.out]; exact hql
            have c1' : decide (0 < (m1 : Int)) = true := by simp; omega
            have c1n : decide (0 < m1) = true := by simp; omega
            have hz1 : (0 : Int) ≤ (m1 : Int) - 1 := by omega
            have hz2 : (m1 : Int) - 1 < (m1 : Int) := by omega
            have hz3 : ((m1 : Int) - 1).toNat = m1 - 1 := by omega
            have hz4 : (1 : Int) ≤ (m1 : Int) := by omega
            obtain ⟨b', o', pv, rfl, hcj0, hpv⟩ := stamp_at HQS.out (m1 - 1) (by rw [← HM1.out]; omega)
            have hcj := HEW.out.cl hcj0
            have HPV := Lib.hid hpv
            have hplen := stamp_len ((queue_parts.1 (HG4.out P (by omega))).2 (m1 - 1) (by rw [← HM1.out]; omega)).1
            clear hcj0 hpv
            have haf := afterP_calls pv (.slice va lv.length vc) s.qs[P]![m1 - 1]! lv n P w2 (HPV.out.ext HEW.out) (HVI.out.ext HEW.out) hplen (by have := stamp_len HSTB.out; omega) (by omega) (by omega)
            rw [show m1 - 1 = s.qs[P]!.length - 1 from by rw [HM1.out], HAF.out] at haf
            have HAC := Lib.hid haf
            clear haf hplen
            go_wp2_with fail
            refine HAC.out.mono ?_
            rintro e w3 ⟨rfl, hD3⟩
            have HXA := Lib.hid (hD3.ext.hp HXA.out)
            have HXB := Lib.hid (hD3.ext.hp HXB.out)
            have HEW := Lib.hid (HEW.out.trans' hD3.ext)
            have hsz3 := hD3.ext.sz
            clear hD3 x0 x1 x2 x3
            have x0 := cellOf HXA.out 0
            have x1 := cellOf HXA.out 1
            have x2 := cellOf HXA.out 2
            have x3 := cellOf HXA.out 3
            simp only [List.getElem?_toArray, List.getElem?_cons_zero, List.getElem?_cons_succ] at x0 x1 x2 x3
            go_wp2_with fail
            refine (ckPut1_calls 11 _).mono ?_
            rintro e wE ⟨rfl, hEE⟩
            have HXB := Lib.hid (hEE.hp HXB.out)
            have HEE := Lib.hid (HEW.out.trans' hEE)
            clear hEE
            have r0 := cellOf HXB.out 0
            have r1 := cellOf HXB.out 1
            have r2 := cellOf HXB.out 2
            have r3 := cellOf HXB.out 3
            simp only [List.getElem?_toArray, List.getElem?_cons_zero, List.getElem?_cons_succ] at r0 r1 r2 r3
            have f0 := freeOf HXB.out 0
            have f1 := freeOf HXB.out 1
            have f2 := freeOf HXB.out 2
            have f3 := freeOf HXB.out 3
            go_wp2
            refine bodyPost_ret (v := .tuple #[.agg #[.slice none 0 0, .slice none 0 0, .bool false, .slice none 0 0], .int .i64 11]) (by simp [results, Try.results59, go_sem, r0, r1, r2, r3]) rfl ⟨by rw [HER.out], box_ext HEE.out (by omega) _ _ _ _⟩
          | false =>
            have hna : ¬ (0 < s.qs[P]!.length ∧ afterB s.qs[P]![s.qs[P]!.length - 1]! lv P = false) := by
              rintro ⟨k1, k2⟩; rw [decide_eq_true k1, k2] at haf; simp at haf
            have hE5 : E = 5 ∧ 65 ≤ s.qs[P]!.length := by
              by_cases h65 : 65 ≤ s.qs[P]!.length
              · exact ⟨by rw [HPE.out, if_neg hna, if_pos h65], h65⟩
              · exact absurd (by rw [HPE.out, if_neg hna, if_neg h65]) h0
            have HER := Lib.hid hE5.1
            have h65 := hE5.2
            have hql : 0 < s.qs[P]!.length := by omega
            have HAF := Lib.hid (show afterB s.qs[P]![s.qs[P]!.length - 1]! lv P = true from by
              cases hq : afterB s.qs[P]![s.qs[P]!.length - 1]! lv P with
              | true => rfl
              | false => exact absurd ⟨hql, hq⟩ hna)
            clear h0 haf hna hE5
            have HS := Lib.hid h
            have HSM := Lib.hid hs
            have HVI := Lib.hid hv
            have hs1 := hs.1
            have hs2 := hs.2.1
            obtain ⟨a, c, rfl, hlc⟩ := h.1.shape
            obtain ⟨ea, ec, rfl, hec⟩ := h.2.1.shape
            obtain ⟨ca, cc, hce, hcc, _⟩ := h.2.2
            subst hce
            obtain ⟨va, vc, rfl, hvc, _⟩ := hv
            clear h hs
            generalize hd : s.done = d at *
            have HD := Lib.hid hd
            clear hd
            generalize hn : s.qs.length = n at *
            generalize hl : s.ended.length = l at *
            generalize hcl : s.cut.length = cl at *
            have HN := Lib.hid hn
            have HL := Lib.hid hl
            have HCL := Lib.hid hcl
            clear hn hl hcl
            have HX0 := Lib.hid (((Ext.rf (w.alloc (ckT (.slice a n c) (.slice ea l ec) (.bool d) (.slice ca cl cc)))).al (ckT (.slice none 0 0) (.slice none 0 0) (.bool false) (.slice none 0 0))).hp (heap_alloc_new w (ckT (.slice a n c) (.slice ea l ec) (.bool d) (.slice ca cl cc))))
            have HX1 := Lib.hid (heap_new_eq (w := w.alloc (ckT (.slice a n c) (.slice ea l ec) (.bool d) (.slice ca cl cc))) (o := ckT (.slice none 0 0) (.slice none 0 0) (.bool false) (.slice none 0 0)) (b := w.heap.size + 1) (by simp))
            have HE0 : Hid (Ext w ((w.alloc (ckT (.slice a n c) (.slice ea l ec) (.bool d) (.slice ca cl cc))).alloc (ckT (.slice none 0 0) (.slice none 0 0) (.bool false) (.slice none 0 0)))) := Lib.hid (((Ext.rf w).al _).al _)
            have hsz0 : w.heap.size + 2 ≤ ((w.alloc (ckT (.slice a n c) (.slice ea l ec) (.bool d) (.slice ca cl cc))).alloc (ckT (.slice none 0 0) (.slice none 0 0) (.bool false) (.slice none 0 0))).heap.size := by simp
            obtain rfl : d = false := HDN.out
            go_enter Try.func59, Try.ntmps59
            go_wp2_with fail
            generalize hw0 : (w.alloc (ckT (.slice a n c) (.slice ea l ec) (.bool false) (.slice ca cl cc))).alloc (ckT (.slice none 0 0) (.slice none 0 0) (.bool false) (.slice none 0 0)) = w0 at *
            clear hw0
            have hvc := validP_calls (.slice a n c) (.slice ea l ec) (.slice ca cl cc) s w0 (HS.out.ext HE0.out) HSM.out
            rw [HD.out, HVAL.out] at hvc
            have HVC := Lib.hid hvc
            clear hvc
            refine HVC.out.mono ?_
            rintro e w1 ⟨rfl, hE1⟩
            have HXA := Lib.hid (hE1.hp HX0.out)
            have HXB := Lib.hid (hE1.hp HX1.out)
            have HEW := Lib.hid (HE0.out.trans' hE1)
            have hsz1 := hE1.sz
            clear hE1
            have x0 := cellOf HXA.out 0
            have x1 := cellOf HXA.out 1
            have x2 := cellOf HXA.out 2
            have x3 := cellOf HXA.out 3
            simp only [List.getElem?_toArray, List.getElem?_cons_zero, List.getElem?_cons_succ] at x0 x1 x2 x3
            go_wp2_with fail
            refine (HSB.out w1 HEW.out).mono ?_
            rintro e w2 ⟨rfl, hD2⟩
            have HXA := Lib.hid (hD2.ext.hp HXA.out)
            have HXB := Lib.hid (hD2.ext.hp HXB.out)
            have HEW := Lib.hid (HEW.out.trans' hD2.ext)
            have hsz2 := hD2.ext.sz
            clear hD2 x0 x1 x2 x3
            have x0 := cellOf HXA.out 0
            have x1 := cellOf HXA.out 1
            have x2 := cellOf HXA.out 2
            have x3 := cellOf HXA.out 3
            simp only [List.getElem?_toArray, List.getElem?_cons_zero, List.getElem?_cons_succ] at x0 x1 x2 x3
            obtain ⟨EB, EO, EC, ev, hee, _, _, hec0, hev⟩ := HS.out.2.1.at1 P (by rw [HL.out]; omega)
            simp only [Value.slice.injEq] at hee
            obtain ⟨rfl, hnn2, rfl⟩ := hee
            obtain rfl : ev = .bool s.ended[P]! := by simpa [RBool] using hev
            rw [HEN.out] at hec0
            have ce := HEW.out.cl hec0
            have hPz : (0 : Int) ≤ (P : Int) := by omega
            have hPl : (P : Int) < (l : Int) := by omega
            clear hnn2 hev hec0
            obtain ⟨B, O, C, a1, m1, c1, hue0, hcp0, M1, hmc1, HS1⟩ := queue_at HS.out.1 P (by rw [HN.out]; omega)
            simp only [Value.slice.injEq] at hue0
            obtain ⟨rfl, hnn, rfl⟩ := hue0
            have HCP := Lib.hid hcp0
            have hcp := HEW.out.cl hcp0
            have HM1 := Lib.hid M1
            have HQS := Lib.hid HS1
            have hPn1 : (P : Int) < (n : Int) := by omega
            have hm1b := (HSM.out.2.2.2 P (by rw [HN.out]; omega)).1
            rw [← M1] at hm1b
            clear M1 HS1 hnn hcp0
            have c65 : decide (65 ≤ (m1 : Int)) = true := by have := HM1.out; simp; omega
            have hm1p : 0 < m1 := by rw [HM1.out]; exact hql
            have c1' : decide (0 < (m1 : Int)) = true := by simp; omega
            have c1n : decide (0 < m1) = true := by simp; omega
            have hz1 : (0 : Int) ≤ (m1 : Int) - 1 := by omega
            have hz2 : (m1 : Int) - 1 < (m1 : Int) := by omega
            have hz3 : ((m1 : Int) - 1).toNat = m1 - 1 := by omega
            have hz4 : (1 : Int) ≤ (m1 : Int) := by omega
            obtain ⟨b', o', pv, rfl, hcj0, hpv⟩ := stamp_at HQS.out (m1 - 1) (by rw [← HM1.out]; omega)
            have hcj := HEW.out.cl hcj0
            have HPV := Lib.hid hpv
            have hplen := stamp_len ((queue_parts.1 (HG4.out P (by omega))).2 (m1 - 1) (by rw [← HM1.out]; omega)).1
            clear hcj0 hpv
            have haf := afterP_calls pv (.slice va lv.length vc) s.qs[P]![m1 - 1]! lv n P w2 (HPV.out.ext HEW.out) (HVI.out.ext HEW.out) hplen (by have := stamp_len HSTB.out; omega) (by omega) (by omega)
            rw [show m1 - 1 = s.qs[P]!.length - 1 from by rw [HM1.out], HAF.out] at haf
            have HAC := Lib.hid haf
            clear haf hplen
            go_wp2_with fail
            refine HAC.out.mono ?_
            rintro e w3 ⟨rfl, hD3⟩
            have HXA := Lib.hid (hD3.ext.hp HXA.out)
            have HXB := Lib.hid (hD3.ext.hp HXB.out)
            have HEW := Lib.hid (HEW.out.trans' hD3.ext)
            have hsz3 := hD3.ext.sz
            clear hD3 x0 x1 x2 x3
            have x0 := cellOf HXA.out 0
            have x1 := cellOf HXA.out 1
            have x2 := cellOf HXA.out 2
            have x3 := cellOf HXA.out 3
            simp only [List.getElem?_toArray, List.getElem?_cons_zero, List.getElem?_cons_succ] at x0 x1 x2 x3
            go_wp2_with fail
            refine (ckPut1_calls 5 _).mono ?_
            rintro e wE ⟨rfl, hEE⟩
            have HXB := Lib.hid (hEE.hp HXB.out)
            have HEE := Lib.hid (HEW.out.trans' hEE)
            clear hEE
            have r0 := cellOf HXB.out 0
            have r1 := cellOf HXB.out 1
            have r2 := cellOf HXB.out 2
            have r3 := cellOf HXB.out 3
            simp only [List.getElem?_toArray, List.getElem?_cons_zero, List.getElem?_cons_succ] at r0 r1 r2 r3
            have f0 := freeOf HXB.out 0
            have f1 := freeOf HXB.out 1
            have f2 := freeOf HXB.out 2
            have f3 := freeOf HXB.out 3
            go_wp2
            refine bodyPost_ret (v := .tuple #[.agg #[.slice none 0 0, .slice none 0 0, .bool false, .slice none 0 0], .int .i64 5]) (by simp [results, Try.results59, go_sem, r0, r1, r2, r3]) rfl ⟨by rw [HER.out], box_ext HEE.out (by omega) _ _ _ _⟩

end Go.Proofs.Ytggofkaakccoeaa
