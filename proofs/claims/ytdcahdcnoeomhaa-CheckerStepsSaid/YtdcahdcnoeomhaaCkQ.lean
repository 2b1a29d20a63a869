/-
  The example of the chapter.
-/
import Derived.Test.YtdcahdcnoeomhaaBase
import Derived.Test.YtdcahdcnoeomhaaProg
import Derived.BigQuiet
import Derived.Deep.QuietTactic
import Derived.Deep.LoopGhost
import Derived.Shelf.Abstract
import Derived.Test.YtdcahdcnoeomhaaCkM
import Derived.Test.YtdcahdcnoeomhaaCkOs
import Derived.Test.YtdcahdcnoeomhaaCkPs
import Derived.Test.YtdcahdcnoeomhaaCkZ
namespace Go.Proofs.Ytdcahdcnoeomhaa
open Go.RowKit
set_option linter.unusedVariables false

def aw0 : Ck := newC 2
def aw1 : Ck := putC aw0 0 [1, 0]
def aw2 : Ck := putC aw1 1 [0, 1]
def aw3 : Ck := putC aw1 1 [2, 1]
theorem aw_e1 : putErr aw0 (0 : Nat) [1, 0] = 0 := by decide +kernel
theorem aw_e2 : putErr aw1 (1 : Nat) [0, 1] = 0 := by decide +kernel
theorem aw_e3 : putErr aw1 (1 : Nat) [2, 1] = 0 := by decide +kernel
theorem aw_v0 : validC aw0 = true := by decide +kernel
theorem aw_v1 : validC aw1 = true := by decide +kernel
theorem aw_d0 : aw0.done = false := by decide +kernel
theorem aw_d1 : aw1.done = false := by decide +kernel
theorem aw_d2 : aw2.done = true := by decide +kernel
theorem aw_d3 : aw3.done = false := by decide +kernel
theorem aw_c2 : aw2.cut = [1, 1] := by decide +kernel
theorem aw_q3 : aw3.qs.length = 2 := by decide +kernel
theorem aw_q30 : aw3.qs[0]!.length = 0 := by decide +kernel


theorem OwnQs.stored {w : World} {K base : Nat} {z0 z1 z2 z3 : Value} {uq : Value} {qs : List (List (List Int))} (hb : w.heap[K]? = some (ckT z0 z1 z2 z3)) (h : OwnQs w base 34 24 3 uq qs) (a b c d : Value) :
    OwnQs ((((w.setCell ⟨K, 0, none⟩ a).setCell ⟨K, 1, none⟩ b).setCell ⟨K, 2, none⟩ c).setCell ⟨K, 3, none⟩ d) base 34 24 3 uq qs :=
  (((h.stO hb (by decide) (by decide) (by decide) a).stO (ck_set0 hb) (by decide) (by decide) (by decide) b).stO (ck_set1 (ck_set0 hb)) (by decide) (by decide) (by decide) c).stO (ck_set2 (ck_set1 (ck_set0 hb))) (by decide) (by decide) (by decide) d
theorem OwnCk.stored {w : World} {K base : Nat} {z0 z1 z2 z3 vq ve vc : Value} {s : Ck} (hb : w.heap[K]? = some (ckT z0 z1 z2 z3)) (h : OwnCk w base vq ve vc s) (a b c d : Value) :
    OwnCk ((((w.setCell ⟨K, 0, none⟩ a).setCell ⟨K, 1, none⟩ b).setCell ⟨K, 2, none⟩ c).setCell ⟨K, 3, none⟩ d) base vq ve vc s := by
  obtain ⟨_, k2, _⟩ := box_stored hb a b c d
  exact ⟨OwnQs.stored hb h.1 a b c d, k2 h.2.1 (by decide), k2 h.2.2 (by decide)⟩

set_option maxHeartbeats 8000000 in
set_option maxRecDepth 100000 in
theorem awake_calls (w : World) : Calls Try.prog 5 #[] w fun e w' => e = .returned (.bool true) ∧ Ext w w' := by
  have hn := newP_ok 2 w (by omega) (by omega)
  rw [show ((2 : Nat) : Int) = 2 from rfl] at hn
  have HNEW := Lib.hid hn
  clear hn
  go_enter Try.func5, Try.ntmps5
  go_wp2_with fail
  refine HNEW.out.mono ?_
  rintro e w1 ⟨vq, ve, vc, rfl, hC, hE⟩
  have HC0 := Lib.hid (show CkAt w1 vq ve vc aw0 from hC.read)
  have HE1 := Lib.hid hE
  rw [show (newC 2).done = false from rfl]
  clear hC hE
  obtain ⟨a1, c1, rfl, _⟩ := HC0.out.1.shape
  obtain ⟨ea1, ec1, rfl, _⟩ := HC0.out.2.1.shape
  obtain ⟨ca1, cc1, hce1, _, _⟩ := HC0.out.2.2
  subst hce1
  generalize hn1 : (aw0).qs.length = n1 at *
  generalize hl1 : (aw0).ended.length = l1 at *
  generalize hcl1 : (aw0).cut.length = cl1 at *
  have HN1 := Lib.hid hn1
  have HL1 := Lib.hid hl1
  have HCL1 := Lib.hid hcl1
  clear hn1 hl1 hcl1
  have hp1 := fun W (hW : Ext w1 W) (v : Value) (hv : Ints W v [1, 0]) => putP_ok (.slice a1 n1 c1) (.slice ea1 l1 ec1) (.slice ca1 cl1 cc1) v aw0 0 [1, 0] W (HC0.out.ext hW) (valid_small aw_v0) hv (by decide) aw_e1
  rw [aw_d0, show ((0 : Nat) : Int) = 0 from rfl] at hp1
  have HP1 := Lib.hid hp1
  clear hp1
  go_wp2_with fail
  refine (HP1.out _ (by repeat (first | refine Ext.st ?_ (by first | exact Nat.le_refl _ | exact Nat.le_succ _ | assumption | omega) _ | refine Ext.al ?_ _ | refine Ext.dr ?_ | refine Ext.drN ?_ _ | exact Ext.rf _)) _ (ints_laid [1, 0] (heap_new_eq (by simp)))).mono ?_
  rintro e w2 ⟨vq, ve, vc, rfl, hO, hE⟩
  rw [show (putC aw0 0 [1, 0]).done = false from aw_d1]
  have HO1 := Lib.hid (show OwnCk w2 _ vq ve vc aw1 from hO)
  have HC1 := Lib.hid HO1.out.read
  have HB2 := Lib.hid (hE.hp ((Ext.al (Ext.rf _) _).hp (heap_alloc_new w1 (ckT (.slice a1 n1 c1) (.slice ea1 l1 ec1) (.bool false) (.slice ca1 cl1 cc1)))))
  have HE2 := Lib.hid (show Ext w1 w2 from Ext.trans' (by repeat (first | refine Ext.st ?_ (by first | exact Nat.le_refl _ | exact Nat.le_succ _ | assumption | omega) _ | refine Ext.al ?_ _ | refine Ext.dr ?_ | refine Ext.drN ?_ _ | exact Ext.rf _)) hE)
  have hs2 := hE.sz
  simp at hs2
  clear hO hE
  obtain ⟨a2, c2, rfl, _⟩ := HC1.out.1.shape
  obtain ⟨ea2, ec2, rfl, _⟩ := HC1.out.2.1.shape
  obtain ⟨ca2, cc2, hce2, _, _⟩ := HC1.out.2.2
  subst hce2
  generalize hn2 : (aw1).qs.length = n2 at *
  generalize hl2 : (aw1).ended.length = l2 at *
  generalize hcl2 : (aw1).cut.length = cl2 at *
  have HN2 := Lib.hid hn2
  have HL2 := Lib.hid hl2
  have HCL2 := Lib.hid hcl2
  clear hn2 hl2 hcl2
  have x0 := cellOf HB2.out 0
  have x1 := cellOf HB2.out 1
  have x2 := cellOf HB2.out 2
  have x3 := cellOf HB2.out 3
  simp only [List.getElem?_toArray, List.getElem?_cons_zero, List.getElem?_cons_succ] at x0 x1 x2 x3
  have f0 := freeOf HB2.out 0
  have f1 := freeOf HB2.out 1
  have f2 := freeOf HB2.out 2
  have f3 := freeOf HB2.out 3
  have HO3 := Lib.hid (OwnCk.stored HB2.out HO1.out (.slice a2 n2 c2) (.slice ea2 l2 ec2) (.bool false) (.slice ca2 cl2 cc2))
  have HB3 := Lib.hid (box_stored HB2.out (.slice a2 n2 c2) (.slice ea2 l2 ec2) (.bool false) (.slice ca2 cl2 cc2)).1
  have HE3 := Lib.hid (box_ext (K := w1.heap.size) HE2.out (Nat.le_refl _) (.slice a2 n2 c2) (.slice ea2 l2 ec2) (.bool false) (.slice ca2 cl2 cc2))
  have hs3 : ((((w2.setCell ⟨w1.heap.size, 0, none⟩ (.slice a2 n2 c2)).setCell ⟨w1.heap.size, 1, none⟩ (.slice ea2 l2 ec2)).setCell ⟨w1.heap.size, 2, none⟩ (.bool false)).setCell ⟨w1.heap.size, 3, none⟩ (.slice ca2 cl2 cc2)).heap.size = w2.heap.size := by simp [size_setCell]
  have HS3 := Lib.hid hs3
  clear hs3
  go_wp2_with fail
  generalize hw3 : (((w2.setCell ⟨w1.heap.size, 0, none⟩ (.slice a2 n2 c2)).setCell ⟨w1.heap.size, 1, none⟩ (.slice ea2 l2 ec2)).setCell ⟨w1.heap.size, 2, none⟩ (.bool false)).setCell ⟨w1.heap.size, 3, none⟩ (.slice ca2 cl2 cc2) = w3 at *
  clear hw3 x0 x1 x2 x3 f0 f1 f2 f3
  have HC3 := Lib.hid HO3.out.read
  have hp2 := fun W (hW : Ext w3 W) (v : Value) (hv : Ints W v [0, 1]) => putP_ok (.slice a2 n2 c2) (.slice ea2 l2 ec2) (.slice ca2 cl2 cc2) v aw1 1 [0, 1] W (HC3.out.ext hW) (valid_small aw_v1) hv (by decide) aw_e2
  rw [aw_d1, show ((1 : Nat) : Int) = 1 from rfl] at hp2
  have HP2 := Lib.hid hp2
  clear hp2
  refine (HP2.out _ (by repeat (first | refine Ext.st ?_ (by first | exact Nat.le_refl _ | exact Nat.le_succ _ | assumption | omega) _ | refine Ext.al ?_ _ | refine Ext.dr ?_ | refine Ext.drN ?_ _ | exact Ext.rf _)) _ (ints_laid [0, 1] (heap_new_eq HS3.out.symm))).mono ?_
  rintro e w4 ⟨vq, ve, vc, rfl, hO, hE⟩
  rw [show (putC aw1 1 [0, 1]).done = true from aw_d2]
  have HCT := Lib.hid (show CkAt w4 vq ve vc aw2 from hO.read)
  have HB4 := Lib.hid (hE.hp (((Ext.rf w3).al (.cells #[.int .i64 0, .int .i64 1] 3)).hp HB3.out))
  have HE34 := Lib.hid (show Ext w3 w4 from Ext.trans' (by repeat (first | refine Ext.st ?_ (by first | exact Nat.le_refl _ | exact Nat.le_succ _ | assumption | omega) _ | refine Ext.al ?_ _ | refine Ext.dr ?_ | refine Ext.drN ?_ _ | exact Ext.rf _)) hE)
  clear hO hE
  obtain ⟨a3, c3, rfl, _⟩ := HCT.out.1.shape
  obtain ⟨ea3, ec3, rfl, _⟩ := HCT.out.2.1.shape
  obtain ⟨ca3, cc3, hce3, _, _⟩ := HCT.out.2.2
  subst hce3
  generalize hn3 : (aw2).qs.length = n3 at *
  generalize hl3 : (aw2).ended.length = l3 at *
  generalize hcl3 : (aw2).cut.length = cl3 at *
  have HN3 := Lib.hid hn3
  have HL3 := Lib.hid hl3
  have HCL3 := Lib.hid hcl3
  clear hn3 hl3 hcl3
  have hp3 := fun W (hW : Ext w4 W) (v : Value) (hv : Ints W v [2, 1]) => putP_ok (.slice a2 n2 c2) (.slice ea2 l2 ec2) (.slice ca2 cl2 cc2) v aw1 1 [2, 1] W (HC3.out.ext (HE34.out.trans' hW)) (valid_small aw_v1) hv (by decide) aw_e3
  rw [aw_d1, show ((1 : Nat) : Int) = 1 from rfl] at hp3
  have HP3 := Lib.hid hp3
  clear hp3
  have nA1 := (Array.getElem?_eq_some_iff.1 HB4.out).1
  have nA2 : w1.heap.size ≠ w4.heap.size := Nat.ne_of_lt nA1
  have x0 := cellOf HB4.out 0
  have x1 := cellOf HB4.out 1
  have x2 := cellOf HB4.out 2
  have x3 := cellOf HB4.out 3
  simp only [List.getElem?_toArray, List.getElem?_cons_zero, List.getElem?_cons_succ] at x0 x1 x2 x3
  go_wp2_with fail
  refine (HP3.out _ (by repeat (first | refine Ext.st ?_ (by first | exact Nat.le_refl _ | exact Nat.le_succ _ | assumption | omega) _ | refine Ext.al ?_ _ | refine Ext.dr ?_ | refine Ext.drN ?_ _ | exact Ext.rf _)) _ (ints_laid [2, 1] (heap_new_eq (by simp)))).mono ?_
  rintro e w5 ⟨vq, ve, vc, rfl, hO, hE⟩
  rw [show (putC aw1 1 [2, 1]).done = false from aw_d3]
  have HCU := Lib.hid (show CkAt w5 vq ve vc aw3 from hO.read)
  have HE45 := Lib.hid (show Ext w4 w5 from Ext.trans' (by repeat (first | refine Ext.st ?_ (by first | exact Nat.le_refl _ | exact Nat.le_succ _ | assumption | omega) _ | refine Ext.al ?_ _ | refine Ext.dr ?_ | refine Ext.drN ?_ _ | exact Ext.rf _)) hE)
  have HB5 := Lib.hid (HE45.out.hp HB4.out)
  have HT5 := Lib.hid (hE.hp ((Ext.al (Ext.rf _) _).hp (heap_alloc_new w4 (ckT (.slice a3 n3 c3) (.slice ea3 l3 ec3) (.bool true) (.slice ca3 cl3 cc3)))))
  clear hO hE x0 x1 x2 x3
  obtain ⟨a4, c4, rfl, _⟩ := HCU.out.1.shape
  obtain ⟨ea4, ec4, rfl, _⟩ := HCU.out.2.1.shape
  obtain ⟨ca4, cc4, hce4, _, _⟩ := HCU.out.2.2
  subst hce4
  generalize hn4 : (aw3).qs.length = n4 at *
  generalize hl4 : (aw3).ended.length = l4 at *
  generalize hcl4 : (aw3).cut.length = cl4 at *
  have HN4 := Lib.hid hn4
  have HL4 := Lib.hid hl4
  have HCL4 := Lib.hid hcl4
  clear hn4 hl4 hcl4
  obtain rfl : n4 = 2 := by rw [← HN4.out]; exact aw_q3
  obtain ⟨B, O, C, aq, mq, cq, hue0, hcq, hmq, _, _⟩ := queue_at HCU.out.1 0 (by rw [aw_q3]; omega)
  rw [aw_q3] at hue0
  simp only [Value.slice.injEq, true_and] at hue0
  obtain ⟨rfl, rfl⟩ := hue0
  obtain rfl : mq = 0 := by rw [hmq]; exact aw_q30
  rw [Nat.add_zero] at hcq
  clear hmq
  have nB1 := (Array.getElem?_eq_some_iff.1 HB5.out).1
  have nB2 : w1.heap.size ≠ w5.heap.size := Nat.ne_of_lt nB1
  have nB3 := (Array.getElem?_eq_some_iff.1 HT5.out).1
  have nB4 : w4.heap.size ≠ w5.heap.size := Nat.ne_of_lt nB3
  have x0 := cellOf HB5.out 0
  have x1 := cellOf HB5.out 1
  have x2 := cellOf HB5.out 2
  have x3 := cellOf HB5.out 3
  simp only [List.getElem?_toArray, List.getElem?_cons_zero, List.getElem?_cons_succ] at x0 x1 x2 x3
  have y0 := cellOf HT5.out 0
  have y1 := cellOf HT5.out 1
  have y2 := cellOf HT5.out 2
  have y3 := cellOf HT5.out 3
  simp only [List.getElem?_toArray, List.getElem?_cons_zero, List.getElem?_cons_succ] at y0 y1 y2 y3
  have HCT5 := Lib.hid (HCT.out.2.2.ext HE45.out)
  have heq := fun W (hW : Ext w5 W) (v : Value) (hv : Ints W v [1, 1]) => equal_int (.slice ca3 cl3 cc3) v aw2.cut [1, 1] W (HCT5.out.ext hW) hv (by rw [aw_c2]; decide) (by decide)
  rw [aw_c2, show (([1, 1] : List Int) == [1, 1]) = true from rfl] at heq
  have HEQ := Lib.hid heq
  clear heq
  go_wp2_with fail
  refine (HEQ.out _ (by repeat (first | refine Ext.st ?_ (by first | exact Nat.le_refl _ | exact Nat.le_succ _ | assumption | omega) _ | refine Ext.al ?_ _ | refine Ext.dr ?_ | refine Ext.drN ?_ _ | exact Ext.rf _)) _ (ints_laid [1, 1] (heap_new_eq (by simp)))).mono ?_
  rintro e w6 ⟨rfl, hE⟩
  have HU6 := Lib.hid (hE.hp ((Ext.al (Ext.rf _) _).hp (heap_alloc_new w5 (ckT (.slice (some ⟨B, O, none⟩) 2 c4) (.slice ea4 l4 ec4) (.bool false) (.slice ca4 cl4 cc4)))))
  have HE56 := Lib.hid (show Ext w5 w6 from Ext.trans' (by repeat (first | refine Ext.st ?_ (by first | exact Nat.le_refl _ | exact Nat.le_succ _ | assumption | omega) _ | refine Ext.al ?_ _ | refine Ext.dr ?_ | refine Ext.drN ?_ _ | exact Ext.rf _)) hE)
  have hcq6 := HE56.out.cl hcq
  clear hE x0 x1 x2 x3 y0 y1 y2 y3 hcq
  have x0 := cellOf HU6.out 0
  have x1 := cellOf HU6.out 1
  have x2 := cellOf HU6.out 2
  have x3 := cellOf HU6.out 3
  simp only [List.getElem?_toArray, List.getElem?_cons_zero, List.getElem?_cons_succ] at x0 x1 x2 x3
  go_wp2
  go_ret
  exact ⟨rfl, HE1.out.trans' (HE3.out.trans' (HE34.out.trans' (HE45.out.trans' HE56.out)))⟩

end Go.Proofs.Ytdcahdcnoeomhaa
