/-
  The law TokenAgents.
-/
import Derived.Test.YtpjnppkhhbnfoaaBase
import Derived.Test.YtpjnppkhhbnfoaaProg
import Derived.BigQuiet
import Derived.Deep.QuietTactic
import Derived.Deep.LoopGhost
import Derived.Shelf.Abstract
import Derived.Test.YtpjnppkhhbnfoaaTokT
import Derived.Test.YtpjnppkhhbnfoaaTokR
import Derived.Test.YtpjnppkhhbnfoaaTokS
import Derived.Test.YtpjnppkhhbnfoaaTokF
namespace Go.Proofs.Ytpjnppkhhbnfoaa
open Go.RowKit
set_option linter.unusedVariables false
attribute [local go_sem ↓] Go.wp_at_zero Go.wp_at_succ

theorem putTR_small {l : List Ag} (h : SmallT l) (p : Int) (x : List Int) (hx : x.length ≤ 1000000) : SmallT (putTR l p x) := by
  rw [putTR]
  split
  · rename_i hE
    have hab : agentsB l = true := by
      cases hab : agentsB l with
      | true => rfl
      | false => rw [putTE_1 p x hab] at hE; exact absurd hE (by decide)
    have hp : ¬ (p < 0 ∨ (l.length : Int) ≤ p ∨ stampB x l.length = false) := by
      intro h2; rw [putTE_2 hab h2] at hE; exact absurd hE (by decide)
    have hP : p.toNat < l.length := by omega
    have hq := (agent_parts.1 ((agents_parts.1 hab).2.2 _ hP)).1
    exact put_small h hP (by omega) hx
  · exact ⟨by simp, fun p hp => absurd hp (by simp)⟩
theorem endTR_small {l : List Ag} (h : SmallT l) (p : Int) : SmallT (endTR l p) := by
  rw [endTR]
  split
  · rename_i hE
    have hp : p.toNat < l.length ∨ ¬ p.toNat < l.length := by omega
    rcases hp with hp | hp
    · refine ⟨by rw [endTL, List.length_set]; exact h.1, fun q hq => ?_⟩
      rw [endTL, List.length_set] at hq
      rw [endTL, set_at l _ q _ hp]
      split
      · rename_i e; subst e; exact h.2 _ hp
      · exact h.2 q hq
    · rw [endTL, List.set_eq_of_length_le (by omega)]; exact h
  · exact ⟨by simp, fun p hp => absurd hp (by simp)⟩

set_option maxHeartbeats 4000000 in
set_option maxRecDepth 100000 in
theorem lawAg_out (N : Int) (uc ug u v : Value) (b : Ba) (l : List Ag) (p : Int) (lv : List Int) (w : World) (hc : Ints w uc b.cut) (hg : Sl RBool 1 w ug b.good) (h : Sl RAgent 3 w u l) (hv : Ints w v lv)
    (ho : fewB l = false ∨ (fewB l = true ∧ (20 < b.cut.length ∨ (¬ 20 < b.cut.length ∧ (20 < b.good.length ∨ (¬ 20 < b.good.length ∧ 20 < lv.length)))))) :
    Calls Try.prog 3 #[.int .i64 N, .agg #[.int .i64 b.at_, uc, ug, .int .i64 b.state], u, .int .i64 p, v] w fun e w' => e = .returned (.bool true) ∧ Ext w w' := by
  have HC := Lib.hid hc
  have HG := Lib.hid hg
  have HS := Lib.hid h
  have HVI := Lib.hid hv
  have HFEW := Lib.hid (fun W (hW : Ext w W) => few_calls u l W (h.ext ragent_lasts hW))
  obtain ⟨a, c, rfl, hlc⟩ := h.shape
  obtain ⟨ga, gc, rfl, hgc⟩ := hg.shape
  obtain ⟨ca, cc, rfl, hcc, hz1⟩ := hc
  obtain ⟨va, vc, rfl, hvc, hz2⟩ := hv
  clear hz1 hz2 h hg
  generalize hat : b.at_ = at_ at *
  generalize hst : b.state = st at *
  generalize hcl : b.cut.length = cl at *
  generalize hgl : b.good.length = gl at *
  generalize hvl : lv.length = vl at *
  generalize hln : l.length = n at *
  have HAT := Lib.hid hat
  have HST := Lib.hid hst
  have HCL := Lib.hid hcl
  have HGL := Lib.hid hgl
  have HVL := Lib.hid hvl
  have HN := Lib.hid hln
  clear hat hst hcl hgl hvl hln
  rcases ho with h1 | ⟨h1, h2 | ⟨h2, h3 | ⟨h3, h4⟩⟩⟩
  · have HFB := Lib.hid h1
    clear h1
    go_enter Try.func3, Try.ntmps3
    go_wp2_with fail
    refine (awake_calls _).mono ?_
    rintro e w1 ⟨rfl, hE1⟩
    have HX1 := Lib.hid (hE1.hp (heap_alloc_new w (baT (.int .i64 at_) (.slice ca cl cc) (.slice ga gl gc) (.int .i64 st))))
    have HE1 := Lib.hid (show Ext w w1 from Ext.trans' (by repeat (first | refine Ext.st ?_ (by first | exact Nat.le_refl _ | exact Nat.le_succ _ | assumption | omega) _ | refine Ext.al ?_ _ | refine Ext.dr ?_ | refine Ext.drN ?_ _ | exact Ext.rf _)) hE1)
    clear hE1
    have x0 := cellOf HX1.out 0
    have x1 := cellOf HX1.out 1
    have x2 := cellOf HX1.out 2
    have x3 := cellOf HX1.out 3
    simp only [List.getElem?_toArray, List.getElem?_cons_zero, List.getElem?_cons_succ] at x0 x1 x2 x3
    go_wp2_with fail
    refine (HFEW.out _ HE1.out).mono ?_
    rw [HFB.out]
    rintro e w2 ⟨rfl, hE2⟩
    have HX2 := Lib.hid (hE2.hp HX1.out)
    have HE2 := Lib.hid (HE1.out.trans' hE2)
    clear hE2 x0 x1 x2 x3
    go_wp2
    go_ret
    exact ⟨rfl, HE2.out⟩
  · have HFB := Lib.hid h1
    have b1 : decide (20 < (cl : Int)) = true := by simp; omega
    have b1n : decide (20 < cl) = true := by simp; omega
    clear h1
    go_enter Try.func3, Try.ntmps3
    go_wp2_with fail
    refine (awake_calls _).mono ?_
    rintro e w1 ⟨rfl, hE1⟩
    have HX1 := Lib.hid (hE1.hp (heap_alloc_new w (baT (.int .i64 at_) (.slice ca cl cc) (.slice ga gl gc) (.int .i64 st))))
    have HE1 := Lib.hid (show Ext w w1 from Ext.trans' (by repeat (first | refine Ext.st ?_ (by first | exact Nat.le_refl _ | exact Nat.le_succ _ | assumption | omega) _ | refine Ext.al ?_ _ | refine Ext.dr ?_ | refine Ext.drN ?_ _ | exact Ext.rf _)) hE1)
    clear hE1
    have x0 := cellOf HX1.out 0
    have x1 := cellOf HX1.out 1
    have x2 := cellOf HX1.out 2
    have x3 := cellOf HX1.out 3
    simp only [List.getElem?_toArray, List.getElem?_cons_zero, List.getElem?_cons_succ] at x0 x1 x2 x3
    go_wp2_with fail
    refine (HFEW.out _ HE1.out).mono ?_
    rw [HFB.out]
    rintro e w2 ⟨rfl, hE2⟩
    have HX2 := Lib.hid (hE2.hp HX1.out)
    have HE2 := Lib.hid (HE1.out.trans' hE2)
    clear hE2 x0 x1 x2 x3
    have x0 := cellOf HX2.out 0
    have x1 := cellOf HX2.out 1
    have x2 := cellOf HX2.out 2
    have x3 := cellOf HX2.out 3
    simp only [List.getElem?_toArray, List.getElem?_cons_zero, List.getElem?_cons_succ] at x0 x1 x2 x3
    go_wp2
    go_ret
    exact ⟨rfl, HE2.out⟩
  · have HFB := Lib.hid h1
    have b1 : decide (20 < (cl : Int)) = false := by simp; omega
    have b1n : decide (20 < cl) = false := by simp; omega
    have b2 : decide (20 < (gl : Int)) = true := by simp; omega
    have b2n : decide (20 < gl) = true := by simp; omega
    clear h1
    go_enter Try.func3, Try.ntmps3
    go_wp2_with fail
    refine (awake_calls _).mono ?_
    rintro e w1 ⟨rfl, hE1⟩
    have HX1 := Lib.hid (hE1.hp (heap_alloc_new w (baT (.int .i64 at_) (.slice ca cl cc) (.slice ga gl gc) (.int .i64 st))))
    have HE1 := Lib.hid (show Ext w w1 from Ext.trans' (by repeat (first | refine Ext.st ?_ (by first | exact Nat.le_refl _ | exact Nat.le_succ _ | assumption | omega) _ | refine Ext.al ?_ _ | refine Ext.dr ?_ | refine Ext.drN ?_ _ | exact Ext.rf _)) hE1)
    clear hE1
    have x0 := cellOf HX1.out 0
    have x1 := cellOf HX1.out 1
    have x2 := cellOf HX1.out 2
    have x3 := cellOf HX1.out 3
    simp only [List.getElem?_toArray, List.getElem?_cons_zero, List.getElem?_cons_succ] at x0 x1 x2 x3
    go_wp2_with fail
    refine (HFEW.out _ HE1.out).mono ?_
    rw [HFB.out]
    rintro e w2 ⟨rfl, hE2⟩
    have HX2 := Lib.hid (hE2.hp HX1.out)
    have HE2 := Lib.hid (HE1.out.trans' hE2)
    clear hE2 x0 x1 x2 x3
    have x0 := cellOf HX2.out 0
    have x1 := cellOf HX2.out 1
    have x2 := cellOf HX2.out 2
    have x3 := cellOf HX2.out 3
    simp only [List.getElem?_toArray, List.getElem?_cons_zero, List.getElem?_cons_succ] at x0 x1 x2 x3
    go_wp2
    go_ret
    exact ⟨rfl, HE2.out⟩
  · have HFB := Lib.hid h1
    have b1 : decide (20 < (cl : Int)) = false := by simp; omega
    have b1n : decide (20 < cl) = false := by simp; omega
    have b2 : decide (20 < (gl : Int)) = false := by simp; omega
    have b2n : decide (20 < gl) = false := by simp; omega
    have b3 : decide (20 < (vl : Int)) = true := by simp; omega
    have b3n : decide (20 < vl) = true := by simp; omega
    clear h1
    go_enter Try.func3, Try.ntmps3
    go_wp2_with fail
    refine (awake_calls _).mono ?_
    rintro e w1 ⟨rfl, hE1⟩
    have HX1 := Lib.hid (hE1.hp (heap_alloc_new w (baT (.int .i64 at_) (.slice ca cl cc) (.slice ga gl gc) (.int .i64 st))))
    have HE1 := Lib.hid (show Ext w w1 from Ext.trans' (by repeat (first | refine Ext.st ?_ (by first | exact Nat.le_refl _ | exact Nat.le_succ _ | assumption | omega) _ | refine Ext.al ?_ _ | refine Ext.dr ?_ | refine Ext.drN ?_ _ | exact Ext.rf _)) hE1)
    clear hE1
    have x0 := cellOf HX1.out 0
    have x1 := cellOf HX1.out 1
    have x2 := cellOf HX1.out 2
    have x3 := cellOf HX1.out 3
    simp only [List.getElem?_toArray, List.getElem?_cons_zero, List.getElem?_cons_succ] at x0 x1 x2 x3
    go_wp2_with fail
    refine (HFEW.out _ HE1.out).mono ?_
    rw [HFB.out]
    rintro e w2 ⟨rfl, hE2⟩
    have HX2 := Lib.hid (hE2.hp HX1.out)
    have HE2 := Lib.hid (HE1.out.trans' hE2)
    clear hE2 x0 x1 x2 x3
    have x0 := cellOf HX2.out 0
    have x1 := cellOf HX2.out 1
    have x2 := cellOf HX2.out 2
    have x3 := cellOf HX2.out 3
    simp only [List.getElem?_toArray, List.getElem?_cons_zero, List.getElem?_cons_succ] at x0 x1 x2 x3
    go_wp2
    go_ret
    exact ⟨rfl, HE2.out⟩

end Go.Proofs.Ytpjnppkhhbnfoaa
