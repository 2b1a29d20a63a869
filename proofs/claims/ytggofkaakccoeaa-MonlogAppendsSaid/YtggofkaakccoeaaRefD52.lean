/-
  The reference's Append.
-/
import Derived.Test.YtggofkaakccoeaaBase
import Derived.Test.YtggofkaakccoeaaProg
import Derived.BigQuiet
import Derived.Deep.QuietTactic
import Derived.Deep.LoopGhost
import Derived.Shelf.Abstract
import Derived.Test.YtggofkaakccoeaaRefC52
namespace Go.Proofs.Ytggofkaakccoeaa
open Go.RowKit
set_option linter.unusedVariables false
attribute [local go_sem ↓] Go.wp_at_zero Go.wp_at_succ

theorem jvar_behind {w wz : World} {base : Nat} {v : Value} {l : List Int} {d f : Int} {n : Nat} {xs : List Value} (hown : Row wz base 5 1 v n xs) (hb : w.heap.size ≤ base) (hn : n = l.length) (hxs : xs = l.map (Value.int .u8)) (hx : Ext w wz) :
    JVar (wz.alloc (.cells #[v, .int .i64 d, .int .i64 f] 24)) w.heap.size wz.heap.size v l d f ∧ Ext w (wz.alloc (.cells #[v, .int .i64 d, .int .i64 f] 24)) := by
  subst hn; subst hxs
  exact ⟨⟨hx.sz, heap_alloc_new _ _, (hown.mono hb).al _, fun h => by have := (hown.lt _ h).2; omega⟩, hx.al _⟩
theorem jvar_ahead {w wz : World} {K base : Nat} {v x y z : Value} {l : List Int} {d f : Int} {n : Nat} {xs : List Value} (hK : wz.heap[K]? = some (.cells #[x, y, z] 24)) (hw : w.heap.size ≤ K) (hown : Row wz base 5 1 v n xs) (hKb : K < base) (hn : n = l.length) (hxs : xs = l.map (Value.int .u8)) (hx : Ext w wz) :
    JVar (((wz.setCell ⟨K, 0, none⟩ v).setCell ⟨K, 1, none⟩ (.int .i64 d)).setCell ⟨K, 2, none⟩ (.int .i64 f)) w.heap.size K v l d f ∧ Ext w (((wz.setCell ⟨K, 0, none⟩ v).setCell ⟨K, 1, none⟩ (.int .i64 d)).setCell ⟨K, 2, none⟩ (.int .i64 f)) := by
  subst hn; subst hxs
  exact ⟨⟨hw, heap3 hK, ((hown.st3 hKb _ _ _).mono (by omega)), hown.far hKb⟩, ((hx.st (p := ⟨K, 0, none⟩) hw _).st (p := ⟨K, 1, none⟩) hw _).st (p := ⟨K, 2, none⟩) hw _⟩


set_option maxHeartbeats 4000000 in
set_option maxRecDepth 100000 in
theorem refAppend_bad (a : Option Addr) (c : Nat) (l : List Int) (d f : Int) (ba : Option Addr) (m n : Nat) (w : World) (E : Int) (hv : Bys w (.slice a l.length c) l) (hn : l.length ≤ 1000000) (hnn : n ≤ 1000000) (hE : checkN l d f n = E) (h0 : E ≠ 0) :
    Calls Try.prog 24 #[.agg #[.slice a l.length c, .int .i64 d, .int .i64 f], .slice ba n m] w fun e w' => e = .returned (.tuple #[.agg #[.slice none 0 0, .int .i64 0, .int .i64 0], .int .i64 E]) ∧ Ext w w' := by
  have hWL := whole_le' l hv.1
  have HV := Lib.hid hv
  generalize hT : wholeR (recordsL l) = T at *
  have HT := Lib.hid hT
  generalize hq : l.length = q at *
  have HQ := Lib.hid hq
  clear hv
  cases hval : validJ q d f with
  | false =>
    have HVAL := Lib.hid hval
    have hE1 : E = 1 := by rw [← hE]; unfold checkN; rw [hq, hval]; rfl
    subst hE1
    clear hE h0 hT hq hval
    go_enter Try.func24, Try.ntmps24
    go_wp2_with fail
    refine (refValid_calls _ _ _ _ _ _ (by omega)).mono ?_
    rw [HVAL.out]
    rintro e w1 ⟨rfl, hE1⟩
    obtain ⟨hb1, hb2, hb3, hb4⟩ := two_boxes hE1
    have HE1 := Lib.hid hE1
    have HB1 := Lib.hid hb1
    have HB2 := Lib.hid hb2
    have HB4 := Lib.hid hb4
    clear hb1 hb2 hb4 hE1
    have c0 := cell_of HB1.out 0
    have c1 := cell_of HB1.out 1
    have c2 := cell_of HB1.out 2
    simp only [List.getElem?_toArray, List.getElem?_cons_zero, List.getElem?_cons_succ] at c0 c1 c2
    have r0 := cell_of HB2.out 0
    have r1 := cell_of HB2.out 1
    have r2 := cell_of HB2.out 2
    simp only [List.getElem?_toArray, List.getElem?_cons_zero, List.getElem?_cons_succ] at r0 r1 r2
    have q0 := free_of HB2.out 0
    have q1 := free_of HB2.out 1
    have q2 := free_of HB2.out 2
    go_wp2
    refine bodyPost_ret (v := .tuple #[.agg #[.slice none 0 0, .int .i64 0, .int .i64 0], .int .i64 1]) (by simp [results, Try.results24, go_sem, r0, r1, r2]) rfl ⟨rfl, (by repeat (first | refine Ext.st ?_ (by first | exact Nat.le_refl _ | exact Nat.le_succ _ | assumption | omega) _ | refine Ext.al ?_ _ | refine Ext.dr ?_ | refine Ext.drN ?_ _ | exact HB4.out))⟩
  | true =>
    have HVAL := Lib.hid hval
    have hE1 : E = 5 ∧ fullB l n = true := by
      cases hfb : fullB l n with
      | true => exact ⟨by rw [← hE]; unfold checkN; rw [hq, hval, hfb]; rfl, rfl⟩
      | false => exact absurd (by rw [← hE]; unfold checkN; rw [hq, hval, hfb]; rfl) h0
    obtain ⟨rfl, hfull⟩ := hE1
    simp only [fullB, Bool.or_eq_true, decide_eq_true_eq, hT] at hfull
    clear hE h0 hT hq hval
    by_cases h1 : 16384 < n
    · have d1 : decide (16384 < (n : Int)) = true := by simp; omega
      go_enter Try.func24, Try.ntmps24
      go_wp2_with fail
      refine (refValid_calls _ _ _ _ _ _ (by omega)).mono ?_
      rw [HVAL.out]
      rintro e w1 ⟨rfl, hE1⟩
      obtain ⟨hb1, hb2, hb3, hb4⟩ := two_boxes hE1
      have HE1 := Lib.hid hE1
      have HB1 := Lib.hid hb1
      have HB2 := Lib.hid hb2
      have HB4 := Lib.hid hb4
      clear hb1 hb2 hb4 hE1
      have c0 := cell_of HB1.out 0
      have c1 := cell_of HB1.out 1
      have c2 := cell_of HB1.out 2
      simp only [List.getElem?_toArray, List.getElem?_cons_zero, List.getElem?_cons_succ] at c0 c1 c2
      have r0 := cell_of HB2.out 0
      have r1 := cell_of HB2.out 1
      have r2 := cell_of HB2.out 2
      simp only [List.getElem?_toArray, List.getElem?_cons_zero, List.getElem?_cons_succ] at r0 r1 r2
      have q0 := free_of HB2.out 0
      have q1 := free_of HB2.out 1
      have q2 := free_of HB2.out 2
      go_wp2_with fail
      refine (whole_calls _ l _ _ w1 (HV.out.ext HB4.out) (by rw [HQ.out]; omega)).mono ?_
      rw [HT.out]
      rintro e w2 ⟨rfl, hE2⟩
      obtain ⟨hb1, hb2, hb5, hb4⟩ := two_boxes (HE1.out.trans' hE2)
      clear c0 c1 c2 r0 r1 r2 q0 q1 q2 HB1 HB2 HB4
      have HB1 := Lib.hid hb1
      have HB2 := Lib.hid hb2
      have HB4 := Lib.hid hb4
      clear hb1 hb2 hb4 hE2
      have c0 := cell_of HB1.out 0
      have c1 := cell_of HB1.out 1
      have c2 := cell_of HB1.out 2
      simp only [List.getElem?_toArray, List.getElem?_cons_zero, List.getElem?_cons_succ] at c0 c1 c2
      have r0 := cell_of HB2.out 0
      have r1 := cell_of HB2.out 1
      have r2 := cell_of HB2.out 2
      simp only [List.getElem?_toArray, List.getElem?_cons_zero, List.getElem?_cons_succ] at r0 r1 r2
      have q0 := free_of HB2.out 0
      have q1 := free_of HB2.out 1
      have q2 := free_of HB2.out 2
      go_wp2
      refine bodyPost_ret (v := .tuple #[.agg #[.slice none 0 0, .int .i64 0, .int .i64 0], .int .i64 5]) (by simp [results, Try.results24, go_sem, r0, r1, r2]) rfl ⟨rfl, (by repeat (first | refine Ext.st ?_ (by first | exact Nat.le_refl _ | exact Nat.le_succ _ | assumption | omega) _ | refine Ext.al ?_ _ | refine Ext.dr ?_ | refine Ext.drN ?_ _ | exact HB4.out))⟩
    · have d1 : decide (16384 < (n : Int)) = false := by simp; omega
      have d2 : decide (163840 < (T : Int) + n + 8) = true := by simp; omega
      go_enter Try.func24, Try.ntmps24
      go_wp2_with fail
      refine (refValid_calls _ _ _ _ _ _ (by omega)).mono ?_
      rw [HVAL.out]
      rintro e w1 ⟨rfl, hE1⟩
      obtain ⟨hb1, hb2, hb3, hb4⟩ := two_boxes hE1
      have HE1 := Lib.hid hE1
      have HB1 := Lib.hid hb1
      have HB2 := Lib.hid hb2
      have HB4 := Lib.hid hb4
      clear hb1 hb2 hb4 hE1
      have c0 := cell_of HB1.out 0
      have c1 := cell_of HB1.out 1
      have c2 := cell_of HB1.out 2
      simp only [List.getElem?_toArray, List.getElem?_cons_zero, List.getElem?_cons_succ] at c0 c1 c2
      have r0 := cell_of HB2.out 0
      have r1 := cell_of HB2.out 1
      have r2 := cell_of HB2.out 2
      simp only [List.getElem?_toArray, List.getElem?_cons_zero, List.getElem?_cons_succ] at r0 r1 r2
      have q0 := free_of HB2.out 0
      have q1 := free_of HB2.out 1
      have q2 := free_of HB2.out 2
      go_wp2_with fail
      refine (whole_calls _ l _ _ w1 (HV.out.ext HB4.out) (by rw [HQ.out]; omega)).mono ?_
      rw [HT.out]
      rintro e w2 ⟨rfl, hE2⟩
      obtain ⟨hb1, hb2, hb5, hb4⟩ := two_boxes (HE1.out.trans' hE2)
      clear c0 c1 c2 r0 r1 r2 q0 q1 q2 HB1 HB2 HB4
      have HB1 := Lib.hid hb1
      have HB2 := Lib.hid hb2
      have HB4 := Lib.hid hb4
      clear hb1 hb2 hb4 hE2
      have c0 := cell_of HB1.out 0
      have c1 := cell_of HB1.out 1
      have c2 := cell_of HB1.out 2
      simp only [List.getElem?_toArray, List.getElem?_cons_zero, List.getElem?_cons_succ] at c0 c1 c2
      have r0 := cell_of HB2.out 0
      have r1 := cell_of HB2.out 1
      have r2 := cell_of HB2.out 2
      simp only [List.getElem?_toArray, List.getElem?_cons_zero, List.getElem?_cons_succ] at r0 r1 r2
      have q0 := free_of HB2.out 0
      have q1 := free_of HB2.out 1
      have q2 := free_of HB2.out 2
      go_wp2
      refine bodyPost_ret (v := .tuple #[.agg #[.slice none 0 0, .int .i64 0, .int .i64 0], .int .i64 5]) (by simp [results, Try.results24, go_sem, r0, r1, r2]) rfl ⟨rfl, (by repeat (first | refine Ext.st ?_ (by first | exact Nat.le_refl _ | exact Nat.le_succ _ | assumption | omega) _ | refine Ext.al ?_ _ | refine Ext.dr ?_ | refine Ext.drN ?_ _ | exact HB4.out))⟩

set_option maxHeartbeats 16000000 in
set_option maxRecDepth 100000 in
theorem refAppend_ok (a : Option Addr) (c : Nat) (l : List Int) (d f : Int) (ba : Option Addr) (m : Nat) (b : List Int) (w : World) (hv : Bys w (.slice a l.length c) l) (hn : l.length ≤ 1000000) (hb : Bys w (.slice ba b.length m) b) (hnn : b.length ≤ 100000) (hE : checkN l d f b.length = 0) (hf : -1 ≤ f) (hf2 : f ≤ 1073741824) :
    Calls Try.prog 24 #[.agg #[.slice a l.length c, .int .i64 d, .int .i64 f], .slice ba b.length m] w fun e w' => ∃ v', e = .returned (.tuple #[.agg #[v', .int .i64 (min d (wholeR (recordsL l))), .int .i64 (leftF f (recL b))], .int .i64 (crashE f (recL b))]) ∧ Row w' w.heap.size 5 1 v' (appL l f b).length ((appL l f b).map (Value.int .u8)) ∧ Ext w w' := by
  have hWL := whole_le' l hv.1
  have hrl := rec_len b
  have hE' : validJ l.length d f = true ∧ fullB l b.length = false := by
    unfold checkN at hE
    cases h1 : validJ l.length d f <;> cases h2 : fullB l b.length <;> simp [h1, h2] at hE ⊢
  obtain ⟨hval, hfull⟩ := hE'
  simp only [fullB, Bool.or_eq_false_iff, decide_eq_false_iff_not] at hfull
  have HTK := Lib.hid (hv.take (wholeR (recordsL l)) hWL)
  have HV := Lib.hid hv
  have HB := Lib.hid hb
  have HLL := Lib.hid (show appL l f b = l.take (wholeR (recordsL l)) ++ wrote f (recL b) from rfl)
  have hcE : crashE f (recL b) = if crashF f (recL b) then 19 else 0 := rfl
  generalize hcr : crashF f (recL b) = cr at hcE
  generalize crashE f (recL b) = ce at hcE ⊢
  have HCR := Lib.hid hcr
  generalize appL l f b = LL at *
  generalize hlf : leftF f (recL b) = lf at *
  have HLF := Lib.hid hlf
  generalize hT : wholeR (recordsL l) = T at *
  have HT := Lib.hid hT
  generalize hq : l.length = q at *
  have HQ := Lib.hid hq
  generalize hbl : b.length = n at *
  have HBL := Lib.hid hbl
  generalize hrc : recL b = R at *
  have HR := Lib.hid hrc
  have HRL := Lib.hid hrl
  have HVAL := Lib.hid hval
  clear hv hb hT hq hbl hrc hrl hval hE hlf hcr
  have d1 : decide (16384 < (n : Int)) = false := by simp; omega
  have d2 : decide (163840 < (T : Int) + n + 8) = false := by simp; omega
  have hTc : (T : Int) ≤ (c : Int) := by
    obtain ⟨_, a', c', h, h2, _⟩ := HV.out
    simp only [Value.slice.injEq] at h
    obtain ⟨_, _, rfl⟩ := h
    have := HQ.out
    omega
  have hT0 : (0 : Int) ≤ (T : Int) := by omega
  have hcase : ((T : Int) < d ∧ min d (T : Int) = T) ∨ (¬ (T : Int) < d ∧ min d (T : Int) = d) := by omega
  generalize min d (T : Int) = dm at hcase ⊢
  rcases hcase with ⟨hlt, rfl⟩ | ⟨hlt, rfl⟩
  · skip
    go_enter Try.func24, Try.ntmps24
    go_wp2_with fail
    refine (refValid_calls _ _ _ _ _ _ (by omega)).mono ?_
    rw [HVAL.out]
    rintro e w1 ⟨rfl, hE1⟩
    obtain ⟨hb1, hb2, hb3, hb4⟩ := two_boxes hE1
    have HE1 := Lib.hid hE1
    have HB1 := Lib.hid hb1
    have HB2 := Lib.hid hb2
    have HB4 := Lib.hid hb4
    clear hb1 hb2 hb4 hE1
    have c0 := cell_of HB1.out 0
    have c1 := cell_of HB1.out 1
    have c2 := cell_of HB1.out 2
    simp only [List.getElem?_toArray, List.getElem?_cons_zero, List.getElem?_cons_succ] at c0 c1 c2
    have r0 := cell_of HB2.out 0
    have r1 := cell_of HB2.out 1
    have r2 := cell_of HB2.out 2
    simp only [List.getElem?_toArray, List.getElem?_cons_zero, List.getElem?_cons_succ] at r0 r1 r2
    have q0 := free_of HB2.out 0
    have q1 := free_of HB2.out 1
    have q2 := free_of HB2.out 2
    go_wp2_with fail
    refine (whole_calls _ l _ _ w1 (HV.out.ext HB4.out) (by rw [HQ.out]; omega)).mono ?_
    rw [HT.out]
    rintro e w2 ⟨rfl, hE2⟩
    obtain ⟨hb1, hb2, hb5, hb4⟩ := two_boxes (HE1.out.trans' hE2)
    clear c0 c1 c2 r0 r1 r2 q0 q1 q2 HB1 HB2 HB4
    have HB1 := Lib.hid hb1
    have HB2 := Lib.hid hb2
    have HB4 := Lib.hid hb4
    clear hb1 hb2 hb4 hE2
    have c0 := cell_of HB1.out 0
    have c1 := cell_of HB1.out 1
    have c2 := cell_of HB1.out 2
    simp only [List.getElem?_toArray, List.getElem?_cons_zero, List.getElem?_cons_succ] at c0 c1 c2
    have r0 := cell_of HB2.out 0
    have r1 := cell_of HB2.out 1
    have r2 := cell_of HB2.out 2
    simp only [List.getElem?_toArray, List.getElem?_cons_zero, List.getElem?_cons_succ] at r0 r1 r2
    have q0 := free_of HB2.out 0
    have q1 := free_of HB2.out 1
    have q2 := free_of HB2.out 2
    go_upto_region 6 with (fail)
    go_cut [7, 8] (fun s7 s8 wx => ∃ (g : Nat) (v' : Value), s7 = .pointer (some ⟨g, 0, none⟩) ∧ s8 = .bool (!cr) ∧ Aside (JVar wx w2.heap.size g v' LL T lf) ∧ Aside (Ext w2 wx))
    case first =>
      have n1 : w.heap.size ≠ w2.heap.size + 1 := by omega
      have n2 : w.heap.size ≠ w2.heap.size := by omega
      have n3 : w2.heap.size + 1 ≠ w.heap.size := by omega
      have n4 : w2.heap.size ≠ w.heap.size := by omega
      go_region_held3 (fun w' => w'.cell? ⟨w.heap.size, 0, none⟩ = some (.slice a q c) ∧ w'.cell? ⟨w.heap.size, 1, none⟩ = some (.int .i64 d) ∧ w'.cell? ⟨w.heap.size, 2, none⟩ = some (.int .i64 f)) (go_keep)
        (first
          | (go_at_call 36
             refine (refRecord_calls _ b _ (HB.out.ext (by repeat (first | refine Ext.st ?_ (by first | exact Nat.le_refl _ | exact Nat.le_succ _ | assumption | omega) _ | refine Ext.al ?_ _ | refine Ext.dr ?_ | refine Ext.drN ?_ _ | exact HB4.out))) (by rw [HBL.out]; omega)).mono ?_
             rintro e wA ⟨vA, rfl, hRA, hEA⟩
             have hxA : Ext w2 wA := Ext.trans' (by repeat (first | refine Ext.st ?_ (by first | exact Nat.le_refl _ | exact Nat.le_succ _ | assumption | omega) _ | refine Ext.al ?_ _ | refine Ext.dr ?_ | refine Ext.drN ?_ _ | exact Ext.rf _)) hEA
             have HRA := Lib.hid hRA
             have HXA := Lib.hid hxA
             have kA0 := hxA.cl c0
             have kA1 := hxA.cl c1
             have kA2 := hxA.cl c2
             have fA1 := fun (k j : Nat) (h1 : k < _) => hEA.cell (p := ⟨k, j, none⟩) h1
             have fA2 := fun (k j : Nat) (h1 : k < _) => hEA.frozen (p := ⟨k, j, none⟩) h1
             have nA1 : w.heap.size ≠ wA.heap.size := by have := HXA.out.sz; omega
             have nA2 : wA.heap.size ≠ w.heap.size := by have := HXA.out.sz; omega
             have nA3 := HXA.out.sz
             have nA4 := hEA.size
             try simp at nA4
             clear hRA hxA)
          | (go_at_call 49
             refine (refWrite_calls _ (l.take T) _ _ _ R _ (HTK.out.ext (HB4.out.trans' (by repeat (first | refine Ext.st ?_ (by first | exact Nat.le_refl _ | exact Nat.le_succ _ | assumption | omega) _ | refine Ext.al ?_ _ | refine Ext.dr ?_ | refine Ext.drN ?_ _ | exact HXA.out)))) (Bys.ext (by rw [← HR.out]; exact HRA.out.bys (rec_byte HB.out.1)) (by repeat (first | refine Ext.st ?_ (by first | exact Nat.le_refl _ | exact Nat.le_succ _ | assumption | omega) _ | refine Ext.al ?_ _ | refine Ext.dr ?_ | refine Ext.drN ?_ _ | exact Ext.rf _))) (by rw [List.length_take]; omega) (by rw [HRL.out]; omega) hf hf2).mono ?_
             rintro e wB ⟨vB, rfl, hRB, hEB⟩
             rw [← HLL.out] at hRB
             obtain ⟨fa, fc, rfl, hle5, hsh5⟩ := hRB.any
             clear hsh5
             rw [HLF.out, HCR.out]
             have hxB : Ext w2 wB := Ext.trans' (by repeat (first | refine Ext.st ?_ (by first | exact Nat.le_refl _ | exact Nat.le_succ _ | assumption | omega) _ | refine Ext.al ?_ _ | refine Ext.dr ?_ | refine Ext.drN ?_ _ | exact HXA.out)) hEB
             have kB0 := hxB.cl c0
             have kB1 := hxB.cl c1
             have kB2 := hxB.cl c2
             have fB1 := fun (k j : Nat) (h1 : k < _) => hEB.cell (p := ⟨k, j, none⟩) h1
             have fB2 := fun (k j : Nat) (h1 : k < _) => hEB.frozen (p := ⟨k, j, none⟩) h1
             try (have z := hEB.hp (hEA.hp (heap_alloc_new w2 (journalT (.slice none 0 0) 0 0)))
                  have z0 := cell_of z 0
                  have z1 := cell_of z 1
                  have z2 := cell_of z 2
                  have y0 := free_of z 0
                  have y1 := free_of z 1
                  have y2 := free_of z 2
                  simp only [List.getElem?_toArray, List.getElem?_cons_zero, List.getElem?_cons_succ] at z0 z1 z2)))
      all_goals (go_wp2_with fail; go_meet)
      · obtain ⟨h1, h2⟩ := jvar_behind (w := w2) (d := T) (f := lf) hRB (by first | exact nA3 | (simp; omega)) rfl rfl hxB
        exact ⟨_, _, rfl, rfl, h1, h2⟩
      · obtain ⟨h1, h2⟩ := jvar_ahead (w := w2) (d := T) (f := lf) (hEB.hp (heap_alloc_new wA (journalT (.slice none 0 0) 0 0))) nA3 hRB (by simp) rfl rfl hxB
        exact ⟨_, _, rfl, rfl, h1, h2⟩
      · obtain ⟨h1, h2⟩ := jvar_ahead (w := w2) (d := T) (f := lf) (hEB.hp (hEA.hp (heap_alloc_new w2 (journalT (.slice none 0 0) 0 0)))) (Nat.le_refl _) hRB (by first | (simp; done) | (simp; omega) | exact nA4 | omega) rfl rfl hxB
        exact ⟨_, _, rfl, rfl, h1, h2⟩
      · obtain ⟨h1, h2⟩ := jvar_behind (w := w2) (d := T) (f := lf) hRB (by first | exact nA3 | (simp; omega)) rfl rfl hxB
        exact ⟨_, _, rfl, rfl, h1, h2⟩
      · obtain ⟨h1, h2⟩ := jvar_ahead (w := w2) (d := T) (f := lf) (hEB.hp (heap_alloc_new wA (journalT (.slice none 0 0) 0 0))) nA3 hRB (by simp) rfl rfl hxB
        exact ⟨_, _, rfl, rfl, h1, h2⟩
      · obtain ⟨h1, h2⟩ := jvar_ahead (w := w2) (d := T) (f := lf) (hEB.hp (heap_alloc_new wA (journalT (.slice none 0 0) 0 0))) nA3 hRB (by simp) rfl rfl hxB
        exact ⟨_, _, rfl, rfl, h1, h2⟩
      · obtain ⟨h1, h2⟩ := jvar_ahead (w := w2) (d := T) (f := lf) (hEB.hp (hEA.hp (heap_alloc_new w2 (journalT (.slice none 0 0) 0 0)))) (Nat.le_refl _) hRB (by first | (simp; done) | (simp; omega) | exact nA4 | omega) rfl rfl hxB
        exact ⟨_, _, rfl, rfl, h1, h2⟩
      · obtain ⟨h1, h2⟩ := jvar_ahead (w := w2) (d := T) (f := lf) (hEB.hp (hEA.hp (heap_alloc_new w2 (journalT (.slice none 0 0) 0 0)))) (Nat.le_refl _) hRB (by first | (simp; done) | (simp; omega) | exact nA4 | omega) rfl rfl hxB
        exact ⟨_, _, rfl, rfl, h1, h2⟩
    case rest =>
      obtain ⟨g, v', rfl, rfl, HJ, HX⟩ := hcut
      have hbg := HJ.out.1
      obtain ⟨va, vc, rfl, _, hsh⟩ := HJ.out.2.2.1.any
      clear hsh
      have HH := Lib.hid HJ.out.2.1
      have HB2' := Lib.hid (HX.out.hp HB2.out)
      have HROW := Lib.hid HJ.out.2.2.1
      have HE9 := Lib.hid (HB4.out.trans' HX.out)
      clear c0 c1 c2 r0 r1 r2 q0 q1 q2
      have g0 := cell_of HH.out 0
      have g1 := cell_of HH.out 1
      have g2 := cell_of HH.out 2
      simp only [List.getElem?_toArray, List.getElem?_cons_zero, List.getElem?_cons_succ] at g0 g1 g2
      have r0 := cell_of HB2'.out 0
      have r1 := cell_of HB2'.out 1
      have r2 := cell_of HB2'.out 2
      simp only [List.getElem?_toArray, List.getElem?_cons_zero, List.getElem?_cons_succ] at r0 r1 r2
      have q0 := free_of HB2'.out 0
      have q1 := free_of HB2'.out 1
      have q2 := free_of HB2'.out 2
      cases cr with
      | false =>
        simp only [Bool.not_false]
        simp only [Bool.false_eq_true, if_false] at hcE
        subst hcE
        go_wp2
        exact bodyPost_ret (v := .tuple #[.agg #[.slice va LL.length vc, .int .i64 T, .int .i64 lf], .int .i64 0]) (by simp [results, Try.results24, go_sem, r0, r1, r2]) rfl ⟨_, rfl, (Row.st3 (base := w2.heap.size) (g := w.heap.size + 1) HROW.out (by omega) _ _ _).mono (by omega), (by repeat (first | refine Ext.st ?_ (by first | exact Nat.le_refl _ | exact Nat.le_succ _ | assumption | omega) _ | refine Ext.al ?_ _ | refine Ext.dr ?_ | refine Ext.drN ?_ _ | exact HE9.out))⟩
      | true =>
        simp only [Bool.not_true]
        simp only [if_true] at hcE
        subst hcE
        go_wp2
        exact bodyPost_ret (v := .tuple #[.agg #[.slice va LL.length vc, .int .i64 T, .int .i64 lf], .int .i64 19]) (by simp [results, Try.results24, go_sem, r0, r1, r2]) rfl ⟨_, rfl, (Row.st3 (base := w2.heap.size) (g := w.heap.size + 1) HROW.out (by omega) _ _ _).mono (by omega), (by repeat (first | refine Ext.st ?_ (by first | exact Nat.le_refl _ | exact Nat.le_succ _ | assumption | omega) _ | refine Ext.al ?_ _ | refine Ext.dr ?_ | refine Ext.drN ?_ _ | exact HE9.out))⟩
  · skip
    go_enter Try.func24, Try.ntmps24
    go_wp2_with fail
    refine (refValid_calls _ _ _ _ _ _ (by omega)).mono ?_
    rw [HVAL.out]
    rintro e w1 ⟨rfl, hE1⟩
    obtain ⟨hb1, hb2, hb3, hb4⟩ := two_boxes hE1
    have HE1 := Lib.hid hE1
    have HB1 := Lib.hid hb1
    have HB2 := Lib.hid hb2
    have HB4 := Lib.hid hb4
    clear hb1 hb2 hb4 hE1
    have c0 := cell_of HB1.out 0
    have c1 := cell_of HB1.out 1
    have c2 := cell_of HB1.out 2
    simp only [List.getElem?_toArray, List.getElem?_cons_zero, List.getElem?_cons_succ] at c0 c1 c2
    have r0 := cell_of HB2.out 0
    have r1 := cell_of HB2.out 1
    have r2 := cell_of HB2.out 2
    simp only [List.getElem?_toArray, List.getElem?_cons_zero, List.getElem?_cons_succ] at r0 r1 r2
    have q0 := free_of HB2.out 0
    have q1 := free_of HB2.out 1
    have q2 := free_of HB2.out 2
    go_wp2_with fail
    refine (whole_calls _ l _ _ w1 (HV.out.ext HB4.out) (by rw [HQ.out]; omega)).mono ?_
    rw [HT.out]
    rintro e w2 ⟨rfl, hE2⟩
    obtain ⟨hb1, hb2, hb5, hb4⟩ := two_boxes (HE1.out.trans' hE2)
    clear c0 c1 c2 r0 r1 r2 q0 q1 q2 HB1 HB2 HB4
    have HB1 := Lib.hid hb1
    have HB2 := Lib.hid hb2
    have HB4 := Lib.hid hb4
    clear hb1 hb2 hb4 hE2
    have c0 := cell_of HB1.out 0
    have c1 := cell_of HB1.out 1
    have c2 := cell_of HB1.out 2
    simp only [List.getElem?_toArray, List.getElem?_cons_zero, List.getElem?_cons_succ] at c0 c1 c2
    have r0 := cell_of HB2.out 0
    have r1 := cell_of HB2.out 1
    have r2 := cell_of HB2.out 2
    simp only [List.getElem?_toArray, List.getElem?_cons_zero, List.getElem?_cons_succ] at r0 r1 r2
    have q0 := free_of HB2.out 0
    have q1 := free_of HB2.out 1
    have q2 := free_of HB2.out 2
    go_upto_region 6 with (fail)
    go_cut [7, 8] (fun s7 s8 wx => ∃ (g : Nat) (v' : Value), s7 = .pointer (some ⟨g, 0, none⟩) ∧ s8 = .bool (!cr) ∧ Aside (JVar wx w2.heap.size g v' LL dm lf) ∧ Aside (Ext w2 wx))
    case first =>
      have n1 : w.heap.size ≠ w2.heap.size + 1 := by omega
      have n2 : w.heap.size ≠ w2.heap.size := by omega
      have n3 : w2.heap.size + 1 ≠ w.heap.size := by omega
      have n4 : w2.heap.size ≠ w.heap.size := by omega
      go_region_held3 (fun w' => w'.cell? ⟨w.heap.size, 0, none⟩ = some (.slice a q c) ∧ w'.cell? ⟨w.heap.size, 1, none⟩ = some (.int .i64 dm) ∧ w'.cell? ⟨w.heap.size, 2, none⟩ = some (.int .i64 f)) (go_keep)
        (first
          | (go_at_call 36
             refine (refRecord_calls _ b _ (HB.out.ext (by repeat (first | refine Ext.st ?_ (by first | exact Nat.le_refl _ | exact Nat.le_succ _ | assumption | omega) _ | refine Ext.al ?_ _ | refine Ext.dr ?_ | refine Ext.drN ?_ _ | exact HB4.out))) (by rw [HBL.out]; omega)).mono ?_
             rintro e wA ⟨vA, rfl, hRA, hEA⟩
             have hxA : Ext w2 wA := Ext.trans' (by repeat (first | refine Ext.st ?_ (by first | exact Nat.le_refl _ | exact Nat.le_succ _ | assumption | omega) _ | refine Ext.al ?_ _ | refine Ext.dr ?_ | refine Ext.drN ?_ _ | exact Ext.rf _)) hEA
             have HRA := Lib.hid hRA
             have HXA := Lib.hid hxA
             have kA0 := hxA.cl c0
             have kA1 := hxA.cl c1
             have kA2 := hxA.cl c2
             have fA1 := fun (k j : Nat) (h1 : k < _) => hEA.cell (p := ⟨k, j, none⟩) h1
             have fA2 := fun (k j : Nat) (h1 : k < _) => hEA.frozen (p := ⟨k, j, none⟩) h1
             have nA1 : w.heap.size ≠ wA.heap.size := by have := HXA.out.sz; omega
             have nA2 : wA.heap.size ≠ w.heap.size := by have := HXA.out.sz; omega
             have nA3 := HXA.out.sz
             have nA4 := hEA.size
             try simp at nA4
             clear hRA hxA)
          | (go_at_call 49
             refine (refWrite_calls _ (l.take T) _ _ _ R _ (HTK.out.ext (HB4.out.trans' (by repeat (first | refine Ext.st ?_ (by first | exact Nat.le_refl _ | exact Nat.le_succ _ | assumption | omega) _ | refine Ext.al ?_ _ | refine Ext.dr ?_ | refine Ext.drN ?_ _ | exact HXA.out)))) (Bys.ext (by rw [← HR.out]; exact HRA.out.bys (rec_byte HB.out.1)) (by repeat (first | refine Ext.st ?_ (by first | exact Nat.le_refl _ | exact Nat.le_succ _ | assumption | omega) _ | refine Ext.al ?_ _ | refine Ext.dr ?_ | refine Ext.drN ?_ _ | exact Ext.rf _))) (by rw [List.length_take]; omega) (by rw [HRL.out]; omega) hf hf2).mono ?_
             rintro e wB ⟨vB, rfl, hRB, hEB⟩
             rw [← HLL.out] at hRB
             obtain ⟨fa, fc, rfl, hle5, hsh5⟩ := hRB.any
             clear hsh5
             rw [HLF.out, HCR.out]
             have hxB : Ext w2 wB := Ext.trans' (by repeat (first | refine Ext.st ?_ (by first | exact Nat.le_refl _ | exact Nat.le_succ _ | assumption | omega) _ | refine Ext.al ?_ _ | refine Ext.dr ?_ | refine Ext.drN ?_ _ | exact HXA.out)) hEB
             have kB0 := hxB.cl c0
             have kB1 := hxB.cl c1
             have kB2 := hxB.cl c2
             have fB1 := fun (k j : Nat) (h1 : k < _) => hEB.cell (p := ⟨k, j, none⟩) h1
             have fB2 := fun (k j : Nat) (h1 : k < _) => hEB.frozen (p := ⟨k, j, none⟩) h1
             try (have z := hEB.hp (hEA.hp (heap_alloc_new w2 (journalT (.slice none 0 0) 0 0)))
                  have z0 := cell_of z 0
                  have z1 := cell_of z 1
                  have z2 := cell_of z 2
                  have y0 := free_of z 0
                  have y1 := free_of z 1
                  have y2 := free_of z 2
                  simp only [List.getElem?_toArray, List.getElem?_cons_zero, List.getElem?_cons_succ] at z0 z1 z2)))
      all_goals (go_wp2_with fail; go_meet)
      · obtain ⟨h1, h2⟩ := jvar_behind (w := w2) (d := dm) (f := lf) hRB (by first | exact nA3 | (simp; omega)) rfl rfl hxB
        exact ⟨_, _, rfl, rfl, h1, h2⟩
      · obtain ⟨h1, h2⟩ := jvar_ahead (w := w2) (d := dm) (f := lf) (hEB.hp (heap_alloc_new wA (journalT (.slice none 0 0) 0 0))) nA3 hRB (by simp) rfl rfl hxB
        exact ⟨_, _, rfl, rfl, h1, h2⟩
      · obtain ⟨h1, h2⟩ := jvar_ahead (w := w2) (d := dm) (f := lf) (hEB.hp (hEA.hp (heap_alloc_new w2 (journalT (.slice none 0 0) 0 0)))) (Nat.le_refl _) hRB (by first | (simp; done) | (simp; omega) | exact nA4 | omega) rfl rfl hxB
        exact ⟨_, _, rfl, rfl, h1, h2⟩
      · obtain ⟨h1, h2⟩ := jvar_behind (w := w2) (d := dm) (f := lf) hRB (by first | exact nA3 | (simp; omega)) rfl rfl hxB
        exact ⟨_, _, rfl, rfl, h1, h2⟩
      · obtain ⟨h1, h2⟩ := jvar_ahead (w := w2) (d := dm) (f := lf) (hEB.hp (heap_alloc_new wA (journalT (.slice none 0 0) 0 0))) nA3 hRB (by simp) rfl rfl hxB
        exact ⟨_, _, rfl, rfl, h1, h2⟩
      · obtain ⟨h1, h2⟩ := jvar_ahead (w := w2) (d := dm) (f := lf) (hEB.hp (heap_alloc_new wA (journalT (.slice none 0 0) 0 0))) nA3 hRB (by simp) rfl rfl hxB
        exact ⟨_, _, rfl, rfl, h1, h2⟩
      · obtain ⟨h1, h2⟩ := jvar_ahead (w := w2) (d := dm) (f := lf) (hEB.hp (hEA.hp (heap_alloc_new w2 (journalT (.slice none 0 0) 0 0)))) (Nat.le_refl _) hRB (by first | (simp; done) | (simp; omega) | exact nA4 | omega) rfl rfl hxB
        exact ⟨_, _, rfl, rfl, h1, h2⟩
      · obtain ⟨h1, h2⟩ := jvar_ahead (w := w2) (d := dm) (f := lf) (hEB.hp (hEA.hp (heap_alloc_new w2 (journalT (.slice none 0 0) 0 0)))) (Nat.le_refl _) hRB (by first | (simp; done) | (simp; omega) | exact nA4 | omega) rfl rfl hxB
        exact ⟨_, _, rfl, rfl, h1, h2⟩
    case rest =>
      obtain ⟨g, v', rfl, rfl, HJ, HX⟩ := hcut
      have hbg := HJ.out.1
      obtain ⟨va, vc, rfl, _, hsh⟩ := HJ.out.2.2.1.any
      clear hsh
      have HH := Lib.hid HJ.out.2.1
      have HB2' := Lib.hid (HX.out.hp HB2.out)
      have HROW := Lib.hid HJ.out.2.2.1
      have HE9 := Lib.hid (HB4.out.trans' HX.out)
      clear c0 c1 c2 r0 r1 r2 q0 q1 q2
      have g0 := cell_of HH.out 0
      have g1 := cell_of HH.out 1
      have g2 := cell_of HH.out 2
      simp only [List.getElem?_toArray, List.getElem?_cons_zero, List.getElem?_cons_succ] at g0 g1 g2
      have r0 := cell_of HB2'.out 0
      have r1 := cell_of HB2'.out 1
      have r2 := cell_of HB2'.out 2
      simp only [List.getElem?_toArray, List.getElem?_cons_zero, List.getElem?_cons_succ] at r0 r1 r2
      have q0 := free_of HB2'.out 0
      have q1 := free_of HB2'.out 1
      have q2 := free_of HB2'.out 2
      cases cr with
      | false =>
        simp only [Bool.not_false]
        simp only [Bool.false_eq_true, if_false] at hcE
        subst hcE
        go_wp2
        exact bodyPost_ret (v := .tuple #[.agg #[.slice va LL.length vc, .int .i64 dm, .int .i64 lf], .int .i64 0]) (by simp [results, Try.results24, go_sem, r0, r1, r2]) rfl ⟨_, rfl, (Row.st3 (base := w2.heap.size) (g := w.heap.size + 1) HROW.out (by omega) _ _ _).mono (by omega), (by repeat (first | refine Ext.st ?_ (by first | exact Nat.le_refl _ | exact Nat.le_succ _ | assumption | omega) _ | refine Ext.al ?_ _ | refine Ext.dr ?_ | refine Ext.drN ?_ _ | exact HE9.out))⟩
      | true =>
        simp only [Bool.not_true]
        simp only [if_true] at hcE
        subst hcE
        go_wp2
        exact bodyPost_ret (v := .tuple #[.agg #[.slice va LL.length vc, .int .i64 dm, .int .i64 lf], .int .i64 19]) (by simp [results, Try.results24, go_sem, r0, r1, r2]) rfl ⟨_, rfl, (Row.st3 (base := w2.heap.size) (g := w.heap.size + 1) HROW.out (by omega) _ _ _).mono (by omega), (by repeat (first | refine Ext.st ?_ (by first | exact Nat.le_refl _ | exact Nat.le_succ _ | assumption | omega) _ | refine Ext.al ?_ _ | refine Ext.dr ?_ | refine Ext.drN ?_ _ | exact HE9.out))⟩

end Go.Proofs.Ytggofkaakccoeaa
