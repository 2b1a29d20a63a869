/-
  The law TokenAgents: where all is asked.
-/
import Derived.Test.YtpjnppkhhbnfoaaBase
import Derived.Test.YtpjnppkhhbnfoaaProg
import Derived.BigQuiet
import Derived.Deep.QuietTactic
import Derived.Deep.LoopGhost
import Derived.Shelf.Abstract
import Derived.Test.YtpjnppkhhbnfoaaTokU
import Derived.Deep.RegionHeld3
namespace Go.Proofs.Ytpjnppkhhbnfoaa
open Go.RowKit
set_option linter.unusedVariables false
attribute [local go_sem ↓] Go.wp_at_zero Go.wp_at_succ

theorem zero_ba : SmallT [] := ⟨by simp, fun p hp => absurd hp (by simp)⟩
theorem nil_ints (w : World) : Ints w (.slice none 0 0) [] := ⟨none, 0, rfl, Nat.le_refl _, fun h => absurd rfl h⟩
theorem nil_bools (w : World) : Sl RBool 1 w (.slice none 0 0) [] := ⟨none, 0, rfl, Nat.le_refl _, fun h => absurd rfl h⟩
def zeroB : Ba := ⟨0, [], [], 0⟩

set_option maxHeartbeats 16000000 in
set_option maxRecDepth 100000 in
theorem lawAg_bad (N : Int) (uc ug u v : Value) (b : Ba) (l : List Ag) (p : Int) (lv : List Int) (w : World) (hc : Ints w uc b.cut) (hg : Sl RBool 1 w ug b.good) (h : Sl RAgent 3 w u l) (hv : Ints w v lv)
    (hfew : fewB l = true) (h1 : ¬ 20 < b.cut.length) (h2 : ¬ 20 < b.good.length) (h3 : ¬ 20 < lv.length) (hN : N < 1 ∨ ¬ N < 1 ∧ 8 < N) :
    Calls Try.prog 3 #[.int .i64 N, .agg #[.int .i64 b.at_, uc, ug, .int .i64 b.state], u, .int .i64 p, v] w fun e w' => e = .returned (.bool true) ∧ Ext w w' := by
  have hnew := fun W => newTP_bad N W (by omega)
  have HNEW := Lib.hid hnew
  clear hnew
  have hb1 : decide (N < 1) = true ∨ decide (N < 1) = false ∧ decide (8 < N) = true := by
    rcases hN with h | ⟨h, h2⟩
    · exact .inl (by simpa using h)
    · exact .inr ⟨by simpa using h, by simpa using h2⟩
  clear hN
  have hsame := fun W => same_calls (.slice none 0 0) (.slice none 0 0) (.slice none 0 0) (.slice none 0 0) zeroB W (nil_ints W) (nil_bools W) (nil_ints W) (nil_bools W) (by decide) (by decide)
  rw [show zeroB.at_ = 0 from rfl, show zeroB.state = 0 from rfl] at hsame
  have HSAME := Lib.hid hsame
  clear hsame
  obtain ⟨hsm, hn12⟩ := few_small hfew
  have hb := hv
  have HVP := Lib.hid (fun W (hW : Ext w W) => validTP_calls uc ug u b l W (hc.ext hW) (hg.ext rbool_lasts hW) (by omega) (by omega) (h.ext ragent_lasts hW) hsm)
  have HVR := Lib.hid (fun W (hW : Ext w W) => validTR_calls uc ug u b l W (hc.ext hW) (hg.ext rbool_lasts hW) (by omega) (by omega) (h.ext ragent_lasts hW) hsm)
  have HPP := Lib.hid (fun W (hW : Ext w W) => putTP_calls u v p l lv W (h.ext ragent_lasts hW) hsm (hv.ext hW) (by omega))
  have HPR := Lib.hid (fun W (hW : Ext w W) => putTRf_calls u v p l lv W (h.ext ragent_lasts hW) hsm (hv.ext hW) (by omega))
  have HEP := Lib.hid (fun W (hW : Ext w W) => endTP_calls u p l W (h.ext ragent_lasts hW) hsm)
  have HER := Lib.hid (fun W (hW : Ext w W) => endTR_calls u p l W (h.ext ragent_lasts hW) hsm)
  have HPS := Lib.hid (putTR_small hsm p lv (by omega))
  have HES := Lib.hid (endTR_small hsm p)
  generalize putTR l p lv = PA at *
  generalize putTE l p lv = PE at *
  generalize endTR l p = EA at *
  generalize endTE l p = EE at *
  generalize validT b l = vb at *
  have bPE : (PE == PE) = true := by simp
  have bEE : (EE == EE) = true := by simp
  have bvb : (vb == vb) = true := by simp
  have b1 : decide (20 < (b.cut.length : Int)) = false := by simp; omega
  have b1n : decide (20 < b.cut.length) = false := by simp; omega
  have b2 : decide (20 < (b.good.length : Int)) = false := by simp; omega
  have b2n : decide (20 < b.good.length) = false := by simp; omega
  have b3 : decide (20 < (lv.length : Int)) = false := by simp; omega
  have b3n : decide (20 < lv.length) = false := by simp; omega
  have HFB := Lib.hid hfew
  clear hb hsm hn12 hfew
  have HC := Lib.hid hc
  have HG := Lib.hid hg
  have HS := Lib.hid h
  have HVI := Lib.hid hv
  have HFEW := Lib.hid (fun W (hW : Ext w W) => few_calls u l W (h.ext ragent_lasts hW))
  obtain ⟨a, c, rfl, hlc⟩ := h.shape
  obtain ⟨ga, gc, rfl, hgc⟩ := hg.shape
  obtain ⟨ca, cc, rfl, hcc, hz1⟩ := hc
  obtain ⟨va, vc, rfl, hvc, hz2⟩ := hv
  clear hz1 hz2 h hg
  generalize hat : b.at_ = at_ at *
  generalize hst : b.state = st at *
  generalize hcl : b.cut.length = cl at *
  generalize hgl : b.good.length = gl at *
  generalize hvl : lv.length = vl at *
  generalize hln : l.length = n at *
  have HAT := Lib.hid hat
  have HST := Lib.hid hst
  have HCL := Lib.hid hcl
  have HGL := Lib.hid hgl
  have HVL := Lib.hid hvl
  have HN := Lib.hid hln
  clear hat hst hcl hgl hvl hln
  rcases hb1 with q1 | ⟨q1, q2⟩
  case inl =>
    go_enter Try.func3, Try.ntmps3
    go_wp2_with fail
    refine (awake_calls _).mono ?_
    rintro e w1 ⟨rfl, hE1⟩
    have HX1 := Lib.hid (hE1.hp (heap_alloc_new w (baT (.int .i64 at_) (.slice ca cl cc) (.slice ga gl gc) (.int .i64 st))))
    have HE1 := Lib.hid (show Ext w w1 from Ext.trans' (by repeat (first | refine Ext.st ?_ (by first | exact Nat.le_refl _ | exact Nat.le_succ _ | assumption | omega) _ | refine Ext.al ?_ _ | refine Ext.dr ?_ | refine Ext.drN ?_ _ | exact Ext.rf _)) hE1)
    clear hE1
    have x0 := cellOf HX1.out 0
    have x1 := cellOf HX1.out 1
    have x2 := cellOf HX1.out 2
    have x3 := cellOf HX1.out 3
    simp only [List.getElem?_toArray, List.getElem?_cons_zero, List.getElem?_cons_succ] at x0 x1 x2 x3
    go_wp2_with fail
    refine (HFEW.out _ HE1.out).mono ?_
    rw [HFB.out]
    rintro e w2 ⟨rfl, hE2⟩
    have HX2 := Lib.hid (hE2.hp HX1.out)
    have HE2 := Lib.hid (HE1.out.trans' hE2)
    clear hE2 x0 x1 x2 x3
    have x0 := cellOf HX2.out 0
    have x1 := cellOf HX2.out 1
    have x2 := cellOf HX2.out 2
    have x3 := cellOf HX2.out 3
    simp only [List.getElem?_toArray, List.getElem?_cons_zero, List.getElem?_cons_succ] at x0 x1 x2 x3
    go_wp2_with fail
    refine (HNEW.out _).mono ?_
    rintro e w3 ⟨rfl, hE⟩
    have HE3 := Lib.hid (HE2.out.trans' hE)
    have HX3 := Lib.hid (hE.hp HX2.out)
    clear hE x0 x1 x2 x3
    go_wp2_with fail
    refine (HSAME.out _).mono ?_
    rintro e w4 ⟨rfl, hE⟩
    have hX34 : Ext w3 w4 := Ext.trans' (by repeat (first | refine Ext.st ?_ (by first | exact Nat.le_refl _ | exact Nat.le_succ _ | assumption | omega) _ | refine Ext.al ?_ _ | refine Ext.dr ?_ | refine Ext.drN ?_ _ | exact Ext.rf _)) hE
    have HE4 := Lib.hid (HE3.out.trans' hX34)
    have HX4 := Lib.hid (hX34.hp HX3.out)
    clear hE hX34
    go_wp2_with fail
    refine (HPP.out _ HE4.out).mono ?_
    rintro e w5 ⟨v5, rfl, hO, hE⟩
    have HO5 := Lib.hid hO.read
    obtain ⟨a5, c5, rfl, hl5⟩ := hO.read.shape
    have HX5 := Lib.hid (hE.hp HX4.out)
    have HE45 := Lib.hid hE
    have HE5 := Lib.hid (HE4.out.trans' hE)
    clear hO hE
    go_wp2_with fail
    refine (HEP.out _ HE5.out).mono ?_
    rintro e w6 ⟨v6, rfl, hO, hE⟩
    have HO6 := Lib.hid hO.read
    obtain ⟨a6, c6, rfl, hl6⟩ := hO.read.shape
    have HX6 := Lib.hid (hE.hp HX5.out)
    have HE56 := Lib.hid hE
    have HE6 := Lib.hid (HE5.out.trans' hE)
    clear hO hE
    go_wp2_with fail
    refine (HPR.out _ HE6.out).mono ?_
    rintro e w7 ⟨v7, rfl, hO, hE⟩
    have HO7 := Lib.hid hO.read
    obtain ⟨a7, c7, rfl, hl7⟩ := hO.read.shape
    have HX7 := Lib.hid (hE.hp HX6.out)
    have HE67 := Lib.hid hE
    have HE7 := Lib.hid (HE6.out.trans' hE)
    clear hO hE
    go_wp2_with fail
    refine (HER.out _ HE7.out).mono ?_
    rintro e w8 ⟨v8, rfl, hO, hE⟩
    have HO8 := Lib.hid hO.read
    obtain ⟨a8, c8, rfl, hl8⟩ := hO.read.shape
    have HX8 := Lib.hid (hE.hp HX7.out)
    have HE78 := Lib.hid hE
    have HE8 := Lib.hid (HE7.out.trans' hE)
    clear hO hE
    have HS1 := Lib.hid (fun W (hW : Ext w8 W) => sameAgents_calls _ _ PA W (HO5.out.ext ragent_lasts (HE56.out.trans' (HE67.out.trans' (HE78.out.trans' hW)))) (HO7.out.ext ragent_lasts (HE78.out.trans' hW)) HPS.out)
    have HS2 := Lib.hid (fun W (hW : Ext w8 W) => sameAgents_calls _ _ EA W (HO6.out.ext ragent_lasts (HE67.out.trans' (HE78.out.trans' hW))) (HO8.out.ext ragent_lasts hW) HES.out)
    have HXA := Lib.hid (Ext.rf w8)
    have x0 := cellOf HX8.out 0
    have x1 := cellOf HX8.out 1
    have x2 := cellOf HX8.out 2
    have x3 := cellOf HX8.out 3
    simp only [List.getElem?_toArray, List.getElem?_cons_zero, List.getElem?_cons_succ] at x0 x1 x2 x3
    go_wp2_with fail
    go_region_held3 (fun w' => w'.cell? ⟨w.heap.size, 0, none⟩ = some (.int .i64 at_) ∧ w'.cell? ⟨w.heap.size, 1, none⟩ = some (.slice ca cl cc) ∧ w'.cell? ⟨w.heap.size, 2, none⟩ = some (.slice ga gl gc) ∧ w'.cell? ⟨w.heap.size, 3, none⟩ = some (.int .i64 st)) (go_keep)
      (first
        | (go_at_call 14
           refine (HVP.out _ (HE8.out.trans' (by repeat (first | refine Ext.st ?_ (by first | exact Nat.le_refl _ | exact Nat.le_succ _ | assumption | omega) _ | refine Ext.al ?_ _ | refine Ext.dr ?_ | refine Ext.drN ?_ _ | exact HXA.out)))).mono ?_
           rintro e wA ⟨rfl, hE⟩
           have hxA : Ext w8 wA := Ext.trans' (by repeat (first | refine Ext.st ?_ (by first | exact Nat.le_refl _ | exact Nat.le_succ _ | assumption | omega) _ | refine Ext.al ?_ _ | refine Ext.dr ?_ | refine Ext.drN ?_ _ | exact HXA.out)) hE
           have HXA := Lib.hid hxA
           have kx0 := hxA.cl x0
           have kx1 := hxA.cl x1
           have kx2 := hxA.cl x2
           have kx3 := hxA.cl x3
           clear hxA hE)
        | (go_at_call 15
           refine (HVR.out _ (HE8.out.trans' (by repeat (first | refine Ext.st ?_ (by first | exact Nat.le_refl _ | exact Nat.le_succ _ | assumption | omega) _ | refine Ext.al ?_ _ | refine Ext.dr ?_ | refine Ext.drN ?_ _ | exact HXA.out)))).mono ?_
           rintro e wB ⟨rfl, hE⟩
           have hxA : Ext w8 wB := Ext.trans' (by repeat (first | refine Ext.st ?_ (by first | exact Nat.le_refl _ | exact Nat.le_succ _ | assumption | omega) _ | refine Ext.al ?_ _ | refine Ext.dr ?_ | refine Ext.drN ?_ _ | exact HXA.out)) hE
           have HXA := Lib.hid hxA
           have kx0 := hxA.cl x0
           have kx1 := hxA.cl x1
           have kx2 := hxA.cl x2
           have kx3 := hxA.cl x3
           clear hxA hE)
        | (go_at_call 9
           (first | (refine (HS1.out _ (by repeat (first | refine Ext.st ?_ (by first | exact Nat.le_refl _ | exact Nat.le_succ _ | assumption | omega) _ | refine Ext.al ?_ _ | refine Ext.dr ?_ | refine Ext.drN ?_ _ | exact HXA.out))).mono ?_; clear HS1) | refine (HS2.out _ (by repeat (first | refine Ext.st ?_ (by first | exact Nat.le_refl _ | exact Nat.le_succ _ | assumption | omega) _ | refine Ext.al ?_ _ | refine Ext.dr ?_ | refine Ext.drN ?_ _ | exact HXA.out))).mono ?_)
           rintro e wC ⟨rfl, hD⟩
           have hE := hD.ext
           have hxA : Ext w8 wC := Ext.trans' (by repeat (first | refine Ext.st ?_ (by first | exact Nat.le_refl _ | exact Nat.le_succ _ | assumption | omega) _ | refine Ext.al ?_ _ | refine Ext.dr ?_ | refine Ext.drN ?_ _ | exact HXA.out)) hE
           clear hD
           have HXA := Lib.hid hxA
           have kx0 := hxA.cl x0
           have kx1 := hxA.cl x1
           have kx2 := hxA.cl x2
           have kx3 := hxA.cl x3
           clear hxA hE))
    all_goals (go_wp2; go_ret)
    all_goals exact ⟨by simp, HE8.out.trans' (by repeat (first | refine Ext.st ?_ (by first | exact Nat.le_refl _ | exact Nat.le_succ _ | assumption | omega) _ | refine Ext.al ?_ _ | refine Ext.dr ?_ | refine Ext.drN ?_ _ | exact HXA.out))⟩
  case inr =>
    go_enter Try.func3, Try.ntmps3
    go_wp2_with fail
    refine (awake_calls _).mono ?_
    rintro e w1 ⟨rfl, hE1⟩
    have HX1 := Lib.hid (hE1.hp (heap_alloc_new w (baT (.int .i64 at_) (.slice ca cl cc) (.slice ga gl gc) (.int .i64 st))))
    have HE1 := Lib.hid (show Ext w w1 from Ext.trans' (by repeat (first | refine Ext.st ?_ (by first | exact Nat.le_refl _ | exact Nat.le_succ _ | assumption | omega) _ | refine Ext.al ?_ _ | refine Ext.dr ?_ | refine Ext.drN ?_ _ | exact Ext.rf _)) hE1)
    clear hE1
    have x0 := cellOf HX1.out 0
    have x1 := cellOf HX1.out 1
    have x2 := cellOf HX1.out 2
    have x3 := cellOf HX1.out 3
    simp only [List.getElem?_toArray, List.getElem?_cons_zero, List.getElem?_cons_succ] at x0 x1 x2 x3
    go_wp2_with fail
    refine (HFEW.out _ HE1.out).mono ?_
    rw [HFB.out]
    rintro e w2 ⟨rfl, hE2⟩
    have HX2 := Lib.hid (hE2.hp HX1.out)
    have HE2 := Lib.hid (HE1.out.trans' hE2)
    clear hE2 x0 x1 x2 x3
    have x0 := cellOf HX2.out 0
    have x1 := cellOf HX2.out 1
    have x2 := cellOf HX2.out 2
    have x3 := cellOf HX2.out 3
    simp only [List.getElem?_toArray, List.getElem?_cons_zero, List.getElem?_cons_succ] at x0 x1 x2 x3
    go_wp2_with fail
    refine (HNEW.out _).mono ?_
    rintro e w3 ⟨rfl, hE⟩
    have HE3 := Lib.hid (HE2.out.trans' hE)
    have HX3 := Lib.hid (hE.hp HX2.out)
    clear hE x0 x1 x2 x3
    go_wp2_with fail
    refine (HSAME.out _).mono ?_
    rintro e w4 ⟨rfl, hE⟩
    have hX34 : Ext w3 w4 := Ext.trans' (by repeat (first | refine Ext.st ?_ (by first | exact Nat.le_refl _ | exact Nat.le_succ _ | assumption | omega) _ | refine Ext.al ?_ _ | refine Ext.dr ?_ | refine Ext.drN ?_ _ | exact Ext.rf _)) hE
    have HE4 := Lib.hid (HE3.out.trans' hX34)
    have HX4 := Lib.hid (hX34.hp HX3.out)
    clear hE hX34
    go_wp2_with fail
    refine (HPP.out _ HE4.out).mono ?_
    rintro e w5 ⟨v5, rfl, hO, hE⟩
    have HO5 := Lib.hid hO.read
    obtain ⟨a5, c5, rfl, hl5⟩ := hO.read.shape
    have HX5 := Lib.hid (hE.hp HX4.out)
    have HE45 := Lib.hid hE
    have HE5 := Lib.hid (HE4.out.trans' hE)
    clear hO hE
    go_wp2_with fail
    refine (HEP.out _ HE5.out).mono ?_
    rintro e w6 ⟨v6, rfl, hO, hE⟩
    have HO6 := Lib.hid hO.read
    obtain ⟨a6, c6, rfl, hl6⟩ := hO.read.shape
    have HX6 := Lib.hid (hE.hp HX5.out)
    have HE56 := Lib.hid hE
    have HE6 := Lib.hid (HE5.out.trans' hE)
    clear hO hE
    go_wp2_with fail
    refine (HPR.out _ HE6.out).mono ?_
    rintro e w7 ⟨v7, rfl, hO, hE⟩
    have HO7 := Lib.hid hO.read
    obtain ⟨a7, c7, rfl, hl7⟩ := hO.read.shape
    have HX7 := Lib.hid (hE.hp HX6.out)
    have HE67 := Lib.hid hE
    have HE7 := Lib.hid (HE6.out.trans' hE)
    clear hO hE
    go_wp2_with fail
    refine (HER.out _ HE7.out).mono ?_
    rintro e w8 ⟨v8, rfl, hO, hE⟩
    have HO8 := Lib.hid hO.read
    obtain ⟨a8, c8, rfl, hl8⟩ := hO.read.shape
    have HX8 := Lib.hid (hE.hp HX7.out)
    have HE78 := Lib.hid hE
    have HE8 := Lib.hid (HE7.out.trans' hE)
    clear hO hE
    have HS1 := Lib.hid (fun W (hW : Ext w8 W) => sameAgents_calls _ _ PA W (HO5.out.ext ragent_lasts (HE56.out.trans' (HE67.out.trans' (HE78.out.trans' hW)))) (HO7.out.ext ragent_lasts (HE78.out.trans' hW)) HPS.out)
    have HS2 := Lib.hid (fun W (hW : Ext w8 W) => sameAgents_calls _ _ EA W (HO6.out.ext ragent_lasts (HE67.out.trans' (HE78.out.trans' hW))) (HO8.out.ext ragent_lasts hW) HES.out)
    have HXA := Lib.hid (Ext.rf w8)
    have x0 := cellOf HX8.out 0
    have x1 := cellOf HX8.out 1
    have x2 := cellOf HX8.out 2
    have x3 := cellOf HX8.out 3
    simp only [List.getElem?_toArray, List.getElem?_cons_zero, List.getElem?_cons_succ] at x0 x1 x2 x3
    go_wp2_with fail
    go_region_held3 (fun w' => w'.cell? ⟨w.heap.size, 0, none⟩ = some (.int .i64 at_) ∧ w'.cell? ⟨w.heap.size, 1, none⟩ = some (.slice ca cl cc) ∧ w'.cell? ⟨w.heap.size, 2, none⟩ = some (.slice ga gl gc) ∧ w'.cell? ⟨w.heap.size, 3, none⟩ = some (.int .i64 st)) (go_keep)
      (first
        | (go_at_call 14
           refine (HVP.out _ (HE8.out.trans' (by repeat (first | refine Ext.st ?_ (by first | exact Nat.le_refl _ | exact Nat.le_succ _ | assumption | omega) _ | refine Ext.al ?_ _ | refine Ext.dr ?_ | refine Ext.drN ?_ _ | exact HXA.out)))).mono ?_
           rintro e wA ⟨rfl, hE⟩
           have hxA : Ext w8 wA := Ext.trans' (by repeat (first | refine Ext.st ?_ (by first | exact Nat.le_refl _ | exact Nat.le_succ _ | assumption | omega) _ | refine Ext.al ?_ _ | refine Ext.dr ?_ | refine Ext.drN ?_ _ | exact HXA.out)) hE
           have HXA := Lib.hid hxA
           have kx0 := hxA.cl x0
           have kx1 := hxA.cl x1
           have kx2 := hxA.cl x2
           have kx3 := hxA.cl x3
           clear hxA hE)
        | (go_at_call 15
           refine (HVR.out _ (HE8.out.trans' (by repeat (first | refine Ext.st ?_ (by first | exact Nat.le_refl _ | exact Nat.le_succ _ | assumption | omega) _ | refine Ext.al ?_ _ | refine Ext.dr ?_ | refine Ext.drN ?_ _ | exact HXA.out)))).mono ?_
           rintro e wB ⟨rfl, hE⟩
           have hxA : Ext w8 wB := Ext.trans' (by repeat (first | refine Ext.st ?_ (by first | exact Nat.le_refl _ | exact Nat.le_succ _ | assumption | omega) _ | refine Ext.al ?_ _ | refine Ext.dr ?_ | refine Ext.drN ?_ _ | exact HXA.out)) hE
           have HXA := Lib.hid hxA
           have kx0 := hxA.cl x0
           have kx1 := hxA.cl x1
           have kx2 := hxA.cl x2
           have kx3 := hxA.cl x3
           clear hxA hE)
        | (go_at_call 9
           (first | (refine (HS1.out _ (by repeat (first | refine Ext.st ?_ (by first | exact Nat.le_refl _ | exact Nat.le_succ _ | assumption | omega) _ | refine Ext.al ?_ _ | refine Ext.dr ?_ | refine Ext.drN ?_ _ | exact HXA.out))).mono ?_; clear HS1) | refine (HS2.out _ (by repeat (first | refine Ext.st ?_ (by first | exact Nat.le_refl _ | exact Nat.le_succ _ | assumption | omega) _ | refine Ext.al ?_ _ | refine Ext.dr ?_ | refine Ext.drN ?_ _ | exact HXA.out))).mono ?_)
           rintro e wC ⟨rfl, hD⟩
           have hE := hD.ext
           have hxA : Ext w8 wC := Ext.trans' (by repeat (first | refine Ext.st ?_ (by first | exact Nat.le_refl _ | exact Nat.le_succ _ | assumption | omega) _ | refine Ext.al ?_ _ | refine Ext.dr ?_ | refine Ext.drN ?_ _ | exact HXA.out)) hE
           clear hD
           have HXA := Lib.hid hxA
           have kx0 := hxA.cl x0
           have kx1 := hxA.cl x1
           have kx2 := hxA.cl x2
           have kx3 := hxA.cl x3
           clear hxA hE))
    all_goals (go_wp2; go_ret)
    all_goals exact ⟨by simp, HE8.out.trans' (by repeat (first | refine Ext.st ?_ (by first | exact Nat.le_refl _ | exact Nat.le_succ _ | assumption | omega) _ | refine Ext.al ?_ _ | refine Ext.dr ?_ | refine Ext.drN ?_ _ | exact HXA.out))⟩


theorem newB_len (M : Nat) : (newB M).cut.length = M ∧ (newB M).good.length = M ∧ (newA M).length = M := by simp [newB, newA]
theorem newA_small (M : Nat) (h : M ≤ 8) : SmallT (newA M) := by
  refine ⟨by rw [(newB_len M).2.2]; omega, fun p hp => ?_⟩
  rw [(newB_len M).2.2] at hp
  rw [show (newA M)[p]! = ⟨[], 0, false⟩ from rep_at _ _ _ hp]
  exact ⟨by simp, fun i hi => absurd hi (by simp)⟩

set_option maxHeartbeats 16000000 in
set_option maxRecDepth 100000 in
theorem lawAg_ok (M : Nat) (uc ug u v : Value) (b : Ba) (l : List Ag) (p : Int) (lv : List Int) (w : World) (hc : Ints w uc b.cut) (hg : Sl RBool 1 w ug b.good) (h : Sl RAgent 3 w u l) (hv : Ints w v lv)
    (hfew : fewB l = true) (h1 : ¬ 20 < b.cut.length) (h2 : ¬ 20 < b.good.length) (h3 : ¬ 20 < lv.length) (hM1 : 1 ≤ M) (hM2 : M ≤ 8) :
    Calls Try.prog 3 #[.int .i64 M, .agg #[.int .i64 b.at_, uc, ug, .int .i64 b.state], u, .int .i64 p, v] w fun e w' => e = .returned (.bool true) ∧ Ext w w' := by
  have d1 : decide ((M : Int) < 1) = false := by simp; omega
  have d1n : decide (M < 1) = false := by simp; omega
  have d2 : decide (8 < (M : Int)) = false := by simp; omega
  have d2n : decide (8 < M) = false := by simp; omega
  obtain ⟨hsm, hn12⟩ := few_small hfew
  have hb := hv
  have HVP := Lib.hid (fun W (hW : Ext w W) => validTP_calls uc ug u b l W (hc.ext hW) (hg.ext rbool_lasts hW) (by omega) (by omega) (h.ext ragent_lasts hW) hsm)
  have HVR := Lib.hid (fun W (hW : Ext w W) => validTR_calls uc ug u b l W (hc.ext hW) (hg.ext rbool_lasts hW) (by omega) (by omega) (h.ext ragent_lasts hW) hsm)
  have HPP := Lib.hid (fun W (hW : Ext w W) => putTP_calls u v p l lv W (h.ext ragent_lasts hW) hsm (hv.ext hW) (by omega))
  have HPR := Lib.hid (fun W (hW : Ext w W) => putTRf_calls u v p l lv W (h.ext ragent_lasts hW) hsm (hv.ext hW) (by omega))
  have HEP := Lib.hid (fun W (hW : Ext w W) => endTP_calls u p l W (h.ext ragent_lasts hW) hsm)
  have HER := Lib.hid (fun W (hW : Ext w W) => endTR_calls u p l W (h.ext ragent_lasts hW) hsm)
  have HPS := Lib.hid (putTR_small hsm p lv (by omega))
  have HES := Lib.hid (endTR_small hsm p)
  generalize putTR l p lv = PA at *
  generalize putTE l p lv = PE at *
  generalize endTR l p = EA at *
  generalize endTE l p = EE at *
  generalize validT b l = vb at *
  have bPE : (PE == PE) = true := by simp
  have bEE : (EE == EE) = true := by simp
  have bvb : (vb == vb) = true := by simp
  have b1 : decide (20 < (b.cut.length : Int)) = false := by simp; omega
  have b1n : decide (20 < b.cut.length) = false := by simp; omega
  have b2 : decide (20 < (b.good.length : Int)) = false := by simp; omega
  have b2n : decide (20 < b.good.length) = false := by simp; omega
  have b3 : decide (20 < (lv.length : Int)) = false := by simp; omega
  have b3n : decide (20 < lv.length) = false := by simp; omega
  have HFB := Lib.hid hfew
  clear hb hsm hn12 hfew
  have HC := Lib.hid hc
  have HG := Lib.hid hg
  have HS := Lib.hid h
  have HVI := Lib.hid hv
  have HFEW := Lib.hid (fun W (hW : Ext w W) => few_calls u l W (h.ext ragent_lasts hW))
  obtain ⟨a, c, rfl, hlc⟩ := h.shape
  obtain ⟨ga, gc, rfl, hgc⟩ := hg.shape
  obtain ⟨ca, cc, rfl, hcc, hz1⟩ := hc
  obtain ⟨va, vc, rfl, hvc, hz2⟩ := hv
  clear hz1 hz2 h hg
  generalize hat : b.at_ = at_ at *
  generalize hst : b.state = st at *
  generalize hcl : b.cut.length = cl at *
  generalize hgl : b.good.length = gl at *
  generalize hvl : lv.length = vl at *
  generalize hln : l.length = n at *
  have HAT := Lib.hid hat
  have HST := Lib.hid hst
  have HCL := Lib.hid hcl
  have HGL := Lib.hid hgl
  have HVL := Lib.hid hvl
  have HN := Lib.hid hln
  clear hat hst hcl hgl hvl hln
  obtain ⟨hl1, hl2, hl3⟩ := newB_len M
  have HL1 := Lib.hid hl1
  have HL2 := Lib.hid hl2
  have HL3 := Lib.hid hl3
  clear hl1 hl2 hl3
  go_enter Try.func3, Try.ntmps3
  go_wp2_with fail
  refine (awake_calls _).mono ?_
  rintro e w1 ⟨rfl, hE1⟩
  have HX1 := Lib.hid (hE1.hp (heap_alloc_new w (baT (.int .i64 at_) (.slice ca cl cc) (.slice ga gl gc) (.int .i64 st))))
  have HE1 := Lib.hid (show Ext w w1 from Ext.trans' (by repeat (first | refine Ext.st ?_ (by first | exact Nat.le_refl _ | exact Nat.le_succ _ | assumption | omega) _ | refine Ext.al ?_ _ | refine Ext.dr ?_ | refine Ext.drN ?_ _ | exact Ext.rf _)) hE1)
  clear hE1
  have x0 := cellOf HX1.out 0
  have x1 := cellOf HX1.out 1
  have x2 := cellOf HX1.out 2
  have x3 := cellOf HX1.out 3
  simp only [List.getElem?_toArray, List.getElem?_cons_zero, List.getElem?_cons_succ] at x0 x1 x2 x3
  go_wp2_with fail
  refine (HFEW.out _ HE1.out).mono ?_
  rw [HFB.out]
  rintro e w2 ⟨rfl, hE2⟩
  have HX2 := Lib.hid (hE2.hp HX1.out)
  have HE2 := Lib.hid (HE1.out.trans' hE2)
  clear hE2 x0 x1 x2 x3
  have x0 := cellOf HX2.out 0
  have x1 := cellOf HX2.out 1
  have x2 := cellOf HX2.out 2
  have x3 := cellOf HX2.out 3
  simp only [List.getElem?_toArray, List.getElem?_cons_zero, List.getElem?_cons_succ] at x0 x1 x2 x3
  go_wp2_with fail
  refine (newTP_ok M _ hM1 hM2).mono ?_
  rintro e w30 ⟨vc, vg, va, rfl, hB, hA, hE⟩
  rw [show (newB M).at_ = 0 from rfl, show (newB M).state = 0 from rfl]
  have hBc := hB.1.ints
  have hBg := hB.2.bools
  have hAr := hA.read
  obtain ⟨xa30, xc30, rfl, hx30, hsh⟩ := hB.1.any
  clear hsh
  obtain ⟨ya30, yc30, rfl, hy30, hsh⟩ := hB.2.any
  clear hsh
  obtain ⟨za30, zc30, rfl, hz30⟩ := hA.read.shape
  rw [HL1.out] at hBc hx30 ⊢
  rw [HL2.out] at hBg hy30 ⊢
  rw [HL3.out] at hAr hz30 ⊢
  have HBC30 := Lib.hid hBc
  have HBG30 := Lib.hid hBg
  have HAR30 := Lib.hid hAr
  clear hB hA hBc hBg hAr
  have HE30 := Lib.hid (HE2.out.trans' hE)
  have HX30 := Lib.hid (hE.hp HX2.out)
  clear hE x0 x1 x2 x3
  go_wp2_with fail
  refine (newTR_ok M _ hM1 hM2).mono ?_
  rintro e w31 ⟨vc, vg, va, rfl, hB, hA, hE⟩
  rw [show (newB M).at_ = 0 from rfl, show (newB M).state = 0 from rfl]
  have hBc := hB.1.ints
  have hBg := hB.2.bools
  have hAr := hA.read
  obtain ⟨xa31, xc31, rfl, hx31, hsh⟩ := hB.1.any
  clear hsh
  obtain ⟨ya31, yc31, rfl, hy31, hsh⟩ := hB.2.any
  clear hsh
  obtain ⟨za31, zc31, rfl, hz31⟩ := hA.read.shape
  rw [HL1.out] at hBc hx31 ⊢
  rw [HL2.out] at hBg hy31 ⊢
  rw [HL3.out] at hAr hz31 ⊢
  have HBC31 := Lib.hid hBc
  have HBG31 := Lib.hid hBg
  have HAR31 := Lib.hid hAr
  clear hB hA hBc hBg hAr
  have HB30 := Lib.hid (hE.hp (heap_alloc_new w30 (baT (.int .i64 0) (.slice xa30 M xc30) (.slice ya30 M yc30) (.int .i64 0))))
  have HE301 := Lib.hid (show Ext w30 w31 from Ext.trans' (by repeat (first | refine Ext.st ?_ (by first | exact Nat.le_refl _ | exact Nat.le_succ _ | assumption | omega) _ | refine Ext.al ?_ _ | refine Ext.dr ?_ | refine Ext.drN ?_ _ | exact Ext.rf _)) hE)
  have hlt30 : w30.heap.size < w31.heap.size := (Array.getElem?_eq_some_iff.1 HB30.out).1
  have hne30 : w30.heap.size ≠ w31.heap.size := Nat.ne_of_lt hlt30
  clear hE
  have x0 := cellOf HB30.out 0
  have x1 := cellOf HB30.out 1
  have x2 := cellOf HB30.out 2
  have x3 := cellOf HB30.out 3
  simp only [List.getElem?_toArray, List.getElem?_cons_zero, List.getElem?_cons_succ] at x0 x1 x2 x3
  go_wp2_with fail
  have hsame := fun W (hW : Ext w31 W) => same_calls (.slice xa30 M xc30) (.slice ya30 M yc30) (.slice xa31 M xc31) (.slice ya31 M yc31) (newB M) W (HBC30.out.ext (HE301.out.trans' hW)) (HBG30.out.ext rbool_lasts (HE301.out.trans' hW)) (HBC31.out.ext hW) (HBG31.out.ext rbool_lasts hW) (by rw [HL1.out]; omega) (by rw [HL2.out]; omega)
  rw [show (newB M).at_ = 0 from rfl, show (newB M).state = 0 from rfl] at hsame
  have HSAME := Lib.hid hsame
  clear hsame
  refine (HSAME.out _ (by repeat (first | refine Ext.st ?_ (by first | exact Nat.le_refl _ | exact Nat.le_succ _ | assumption | omega) _ | refine Ext.al ?_ _ | refine Ext.dr ?_ | refine Ext.drN ?_ _ | exact Ext.rf _))).mono ?_
  rintro e w32 ⟨rfl, hE⟩
  have HE312 := Lib.hid (show Ext w31 w32 from Ext.trans' (by repeat (first | refine Ext.st ?_ (by first | exact Nat.le_refl _ | exact Nat.le_succ _ | assumption | omega) _ | refine Ext.al ?_ _ | refine Ext.dr ?_ | refine Ext.drN ?_ _ | exact Ext.rf _)) hE)
  have HSA := Lib.hid (fun W (hW : Ext w32 W) => sameAgents_calls (.slice za30 M zc30) (.slice za31 M zc31) (newA M) W (HAR30.out.ext ragent_lasts (HE301.out.trans' (HE312.out.trans' hW))) (HAR31.out.ext ragent_lasts (HE312.out.trans' hW)) (newA_small M hM2))
  clear hE x0 x1 x2 x3
  go_wp2_with fail
  refine (HSA.out _ (by repeat (first | refine Ext.st ?_ (by first | exact Nat.le_refl _ | exact Nat.le_succ _ | assumption | omega) _ | refine Ext.al ?_ _ | refine Ext.dr ?_ | refine Ext.drN ?_ _ | exact Ext.rf _))).mono ?_
  rintro e w4 ⟨rfl, hD⟩
  have HEX := Lib.hid (HE301.out.trans' (HE312.out.trans' (Ext.trans' (by repeat (first | refine Ext.st ?_ (by first | exact Nat.le_refl _ | exact Nat.le_succ _ | assumption | omega) _ | refine Ext.al ?_ _ | refine Ext.dr ?_ | refine Ext.drN ?_ _ | exact Ext.rf _)) hD.ext)))
  have HE4 := Lib.hid (HE30.out.trans' HEX.out)
  have HX4 := Lib.hid (HEX.out.hp HX30.out)
  clear hD
  go_wp2_with fail
  refine (HPP.out _ HE4.out).mono ?_
  rintro e w5 ⟨v5, rfl, hO, hE⟩
  have HO5 := Lib.hid hO.read
  obtain ⟨a5, c5, rfl, hl5⟩ := hO.read.shape
  have HX5 := Lib.hid (hE.hp HX4.out)
  have HE45 := Lib.hid hE
  have HE5 := Lib.hid (HE4.out.trans' hE)
  clear hO hE
  go_wp2_with fail
  refine (HEP.out _ HE5.out).mono ?_
  rintro e w6 ⟨v6, rfl, hO, hE⟩
  have HO6 := Lib.hid hO.read
  obtain ⟨a6, c6, rfl, hl6⟩ := hO.read.shape
  have HX6 := Lib.hid (hE.hp HX5.out)
  have HE56 := Lib.hid hE
  have HE6 := Lib.hid (HE5.out.trans' hE)
  clear hO hE
  go_wp2_with fail
  refine (HPR.out _ HE6.out).mono ?_
  rintro e w7 ⟨v7, rfl, hO, hE⟩
  have HO7 := Lib.hid hO.read
  obtain ⟨a7, c7, rfl, hl7⟩ := hO.read.shape
  have HX7 := Lib.hid (hE.hp HX6.out)
  have HE67 := Lib.hid hE
  have HE7 := Lib.hid (HE6.out.trans' hE)
  clear hO hE
  go_wp2_with fail
  refine (HER.out _ HE7.out).mono ?_
  rintro e w8 ⟨v8, rfl, hO, hE⟩
  have HO8 := Lib.hid hO.read
  obtain ⟨a8, c8, rfl, hl8⟩ := hO.read.shape
  have HX8 := Lib.hid (hE.hp HX7.out)
  have HE78 := Lib.hid hE
  have HE8 := Lib.hid (HE7.out.trans' hE)
  clear hO hE
  have HS1 := Lib.hid (fun W (hW : Ext w8 W) => sameAgents_calls _ _ PA W (HO5.out.ext ragent_lasts (HE56.out.trans' (HE67.out.trans' (HE78.out.trans' hW)))) (HO7.out.ext ragent_lasts (HE78.out.trans' hW)) HPS.out)
  have HS2 := Lib.hid (fun W (hW : Ext w8 W) => sameAgents_calls _ _ EA W (HO6.out.ext ragent_lasts (HE67.out.trans' (HE78.out.trans' hW))) (HO8.out.ext ragent_lasts hW) HES.out)
  have HXA := Lib.hid (Ext.rf w8)
  have x0 := cellOf HX8.out 0
  have x1 := cellOf HX8.out 1
  have x2 := cellOf HX8.out 2
  have x3 := cellOf HX8.out 3
  simp only [List.getElem?_toArray, List.getElem?_cons_zero, List.getElem?_cons_succ] at x0 x1 x2 x3
  go_wp2_with fail
  go_region_held3 (fun w' => w'.cell? ⟨w.heap.size, 0, none⟩ = some (.int .i64 at_) ∧ w'.cell? ⟨w.heap.size, 1, none⟩ = some (.slice ca cl cc) ∧ w'.cell? ⟨w.heap.size, 2, none⟩ = some (.slice ga gl gc) ∧ w'.cell? ⟨w.heap.size, 3, none⟩ = some (.int .i64 st)) (go_keep)
    (first
      | (go_at_call 14
         refine (HVP.out _ (HE8.out.trans' (by repeat (first | refine Ext.st ?_ (by first | exact Nat.le_refl _ | exact Nat.le_succ _ | assumption | omega) _ | refine Ext.al ?_ _ | refine Ext.dr ?_ | refine Ext.drN ?_ _ | exact HXA.out)))).mono ?_
         rintro e wA ⟨rfl, hE⟩
         have hxA : Ext w8 wA := Ext.trans' (by repeat (first | refine Ext.st ?_ (by first | exact Nat.le_refl _ | exact Nat.le_succ _ | assumption | omega) _ | refine Ext.al ?_ _ | refine Ext.dr ?_ | refine Ext.drN ?_ _ | exact HXA.out)) hE
         have HXA := Lib.hid hxA
         have kx0 := hxA.cl x0
         have kx1 := hxA.cl x1
         have kx2 := hxA.cl x2
         have kx3 := hxA.cl x3
         clear hxA hE)
      | (go_at_call 15
         refine (HVR.out _ (HE8.out.trans' (by repeat (first | refine Ext.st ?_ (by first | exact Nat.le_refl _ | exact Nat.le_succ _ | assumption | omega) _ | refine Ext.al ?_ _ | refine Ext.dr ?_ | refine Ext.drN ?_ _ | exact HXA.out)))).mono ?_
         rintro e wB ⟨rfl, hE⟩
         have hxA : Ext w8 wB := Ext.trans' (by repeat (first | refine Ext.st ?_ (by first | exact Nat.le_refl _ | exact Nat.le_succ _ | assumption | omega) _ | refine Ext.al ?_ _ | refine Ext.dr ?_ | refine Ext.drN ?_ _ | exact HXA.out)) hE
         have HXA := Lib.hid hxA
         have kx0 := hxA.cl x0
         have kx1 := hxA.cl x1
         have kx2 := hxA.cl x2
         have kx3 := hxA.cl x3
         clear hxA hE)
      | (go_at_call 9
         (first | (refine (HS1.out _ (by repeat (first | refine Ext.st ?_ (by first | exact Nat.le_refl _ | exact Nat.le_succ _ | assumption | omega) _ | refine Ext.al ?_ _ | refine Ext.dr ?_ | refine Ext.drN ?_ _ | exact HXA.out))).mono ?_; clear HS1) | refine (HS2.out _ (by repeat (first | refine Ext.st ?_ (by first | exact Nat.le_refl _ | exact Nat.le_succ _ | assumption | omega) _ | refine Ext.al ?_ _ | refine Ext.dr ?_ | refine Ext.drN ?_ _ | exact HXA.out))).mono ?_)
         rintro e wC ⟨rfl, hD⟩
         have hE := hD.ext
         have hxA : Ext w8 wC := Ext.trans' (by repeat (first | refine Ext.st ?_ (by first | exact Nat.le_refl _ | exact Nat.le_succ _ | assumption | omega) _ | refine Ext.al ?_ _ | refine Ext.dr ?_ | refine Ext.drN ?_ _ | exact HXA.out)) hE
         clear hD
         have HXA := Lib.hid hxA
         have kx0 := hxA.cl x0
         have kx1 := hxA.cl x1
         have kx2 := hxA.cl x2
         have kx3 := hxA.cl x3
         clear hxA hE))
  all_goals (go_wp2; go_ret)
  all_goals exact ⟨by simp, HE8.out.trans' (by repeat (first | refine Ext.st ?_ (by first | exact Nat.le_refl _ | exact Nat.le_succ _ | assumption | omega) _ | refine Ext.al ?_ _ | refine Ext.dr ?_ | refine Ext.drN ?_ _ | exact HXA.out))⟩

end Go.Proofs.Ytpjnppkhhbnfoaa
