/-
  End of both texts.
-/
import Derived.Test.YtggofkaakccoeaaBase
import Derived.Test.YtggofkaakccoeaaProg
import Derived.BigQuiet
import Derived.Deep.QuietTactic
import Derived.Deep.LoopGhost
import Derived.Shelf.Abstract
import Derived.Test.YtggofkaakccoeaaCkG
import Derived.Test.YtggofkaakccoeaaCkM
import Derived.Test.YtggofkaakccoeaaCkI
import Derived.Deep.RegionHeld3
namespace Go.Proofs.Ytggofkaakccoeaa
open Go.RowKit
set_option linter.unusedVariables false
attribute [local go_sem ↓] Go.wp_at_zero Go.wp_at_succ

/-- The error of an end. -/
def endErr (s : Ck) (p : Int) : Int :=
  if !validC s then 1
  else if p < 0 ∨ (s.qs.length : Int) ≤ p then 2
  else if s.done = true ∨ s.ended[p.toNat]! = true then 6
  else 0
theorem end_parts {s : Ck} {p : Int} (h : endErr s p = 0) : validC s = true ∧ 0 ≤ p ∧ p < s.qs.length ∧ s.done = false ∧ s.ended[p.toNat]! = false := by
  unfold endErr at h
  split at h
  · simp at h
  · split at h
    · simp at h
    · split at h
      · simp at h
      · rename_i h1 h2 h3
        simp only [not_or, Bool.not_eq_true] at h1 h2 h3
        exact ⟨by simpa using h1, by omega, by omega, h3.1, h3.2⟩

set_option maxHeartbeats 8000000 in
set_option maxRecDepth 100000 in
theorem endP_bad (uq ue uc : Value) (s : Ck) (p : Int) (w : World) (E : Int) (h : CkAt w uq ue uc s) (hs : SmallC s) (hE : endErr s p = E) (h0 : E ≠ 0) :
    Calls Try.prog 58 #[.agg #[uq, ue, .bool s.done, uc], .int .i64 p] w fun e w' => e = .returned (.tuple #[.agg #[.slice none 0 0, .slice none 0 0, .bool false, .slice none 0 0], .int .i64 E]) ∧ Ext w w' := by
  have HPE := Lib.hid (show endErr s p = if !validC s then 1
    else if p < 0 ∨ (s.qs.length : Int) ≤ p then 2
    else if s.done = true ∨ s.ended[p.toNat]! = true then 6
    else 0 from rfl)
  rw [hE] at HPE
  clear hE
  cases hval : validC s with
  | false =>
    have hE1 : E = 1 := by rw [HPE.out, hval]; rfl
    have HER := Lib.hid hE1
    have HVAL := Lib.hid hval
    clear h0 hval hE1
    have HS := Lib.hid h
    have HSM := Lib.hid hs
    have hs1 := hs.1
    have hs2 := hs.2.1
    obtain ⟨a, c, rfl, hlc⟩ := h.1.shape
    obtain ⟨ea, ec, rfl, hec⟩ := h.2.1.shape
    obtain ⟨ca, cc, hce, hcc, _⟩ := h.2.2
    subst hce
    clear h hs
    generalize hd : s.done = d at *
    have HD := Lib.hid hd
    clear hd
    generalize hn : s.qs.length = n at *
    generalize hl : s.ended.length = l at *
    generalize hcl : s.cut.length = cl at *
    have HN := Lib.hid hn
    have HL := Lib.hid hl
    have HCL := Lib.hid hcl
    clear hn hl hcl
    have HX0 := Lib.hid (((Ext.rf (w.alloc (ckT (.slice a n c) (.slice ea l ec) (.bool d) (.slice ca cl cc)))).al (ckT (.slice none 0 0) (.slice none 0 0) (.bool false) (.slice none 0 0))).hp (heap_alloc_new w (ckT (.slice a n c) (.slice ea l ec) (.bool d) (.slice ca cl cc))))
    have HX1 := Lib.hid (heap_new_eq (w := w.alloc (ckT (.slice a n c) (.slice ea l ec) (.bool d) (.slice ca cl cc))) (o := ckT (.slice none 0 0) (.slice none 0 0) (.bool false) (.slice none 0 0)) (b := w.heap.size + 1) (by simp))
    have HE0 : Hid (Ext w ((w.alloc (ckT (.slice a n c) (.slice ea l ec) (.bool d) (.slice ca cl cc))).alloc (ckT (.slice none 0 0) (.slice none 0 0) (.bool false) (.slice none 0 0)))) := Lib.hid (((Ext.rf w).al _).al _)
    have hsz0 : w.heap.size + 2 ≤ ((w.alloc (ckT (.slice a n c) (.slice ea l ec) (.bool d) (.slice ca cl cc))).alloc (ckT (.slice none 0 0) (.slice none 0 0) (.bool false) (.slice none 0 0))).heap.size := by simp
    go_enter Try.func58, Try.ntmps58
    go_wp2_with fail
    generalize hw0 : (w.alloc (ckT (.slice a n c) (.slice ea l ec) (.bool d) (.slice ca cl cc))).alloc (ckT (.slice none 0 0) (.slice none 0 0) (.bool false) (.slice none 0 0)) = w0 at *
    clear hw0
    have hvc := validP_calls (.slice a n c) (.slice ea l ec) (.slice ca cl cc) s w0 (HS.out.ext HE0.out) HSM.out
    rw [HD.out, HVAL.out] at hvc
    have HVC := Lib.hid hvc
    clear hvc
    refine HVC.out.mono ?_
    rintro e w1 ⟨rfl, hE1⟩
    have HXA := Lib.hid (hE1.hp HX0.out)
    have HXB := Lib.hid (hE1.hp HX1.out)
    have HEW := Lib.hid (HE0.out.trans' hE1)
    have hsz1 := hE1.sz
    clear hE1
    have x0 := cellOf HXA.out 0
    have x1 := cellOf HXA.out 1
    have x2 := cellOf HXA.out 2
    have x3 := cellOf HXA.out 3
    simp only [List.getElem?_toArray, List.getElem?_cons_zero, List.getElem?_cons_succ] at x0 x1 x2 x3
    have r0 := cellOf HXB.out 0
    have r1 := cellOf HXB.out 1
    have r2 := cellOf HXB.out 2
    have r3 := cellOf HXB.out 3
    simp only [List.getElem?_toArray, List.getElem?_cons_zero, List.getElem?_cons_succ] at r0 r1 r2 r3
    have f0 := freeOf HXB.out 0
    have f1 := freeOf HXB.out 1
    have f2 := freeOf HXB.out 2
    have f3 := freeOf HXB.out 3
    go_wp2
    refine bodyPost_ret (v := .tuple #[.agg #[.slice none 0 0, .slice none 0 0, .bool false, .slice none 0 0], .int .i64 1]) (by simp [results, Try.results58, go_sem, r0, r1, r2, r3]) rfl ⟨by rw [HER.out], box_ext HEW.out (by omega) _ _ _ _⟩
  | true =>
    have HVAL := Lib.hid hval
    rw [hval] at HPE
    obtain ⟨g1, g2, g3, g4⟩ := form_parts.1 (valid_parts.1 hval).1
    have HG3 := Lib.hid g3
    clear hval g3 g4
    by_cases hp1 : p < 0
    · have b1 : decide (p < 0) = true := by simpa using hp1
      have hE1 : E = 2 := by rw [HPE.out]; simp [hp1]
      have HER := Lib.hid hE1
      clear h0 hE1 hp1
      have HS := Lib.hid h
      have HSM := Lib.hid hs
      have hs1 := hs.1
      have hs2 := hs.2.1
      obtain ⟨a, c, rfl, hlc⟩ := h.1.shape
      obtain ⟨ea, ec, rfl, hec⟩ := h.2.1.shape
      obtain ⟨ca, cc, hce, hcc, _⟩ := h.2.2
      subst hce
      clear h hs
      generalize hd : s.done = d at *
      have HD := Lib.hid hd
      clear hd
      generalize hn : s.qs.length = n at *
      generalize hl : s.ended.length = l at *
      generalize hcl : s.cut.length = cl at *
      have HN := Lib.hid hn
      have HL := Lib.hid hl
      have HCL := Lib.hid hcl
      clear hn hl hcl
      have HX0 := Lib.hid (((Ext.rf (w.alloc (ckT (.slice a n c) (.slice ea l ec) (.bool d) (.slice ca cl cc)))).al (ckT (.slice none 0 0) (.slice none 0 0) (.bool false) (.slice none 0 0))).hp (heap_alloc_new w (ckT (.slice a n c) (.slice ea l ec) (.bool d) (.slice ca cl cc))))
      have HX1 := Lib.hid (heap_new_eq (w := w.alloc (ckT (.slice a n c) (.slice ea l ec) (.bool d) (.slice ca cl cc))) (o := ckT (.slice none 0 0) (.slice none 0 0) (.bool false) (.slice none 0 0)) (b := w.heap.size + 1) (by simp))
      have HE0 : Hid (Ext w ((w.alloc (ckT (.slice a n c) (.slice ea l ec) (.bool d) (.slice ca cl cc))).alloc (ckT (.slice none 0 0) (.slice none 0 0) (.bool false) (.slice none 0 0)))) := Lib.hid (((Ext.rf w).al _).al _)
      have hsz0 : w.heap.size + 2 ≤ ((w.alloc (ckT (.slice a n c) (.slice ea l ec) (.bool d) (.slice ca cl cc))).alloc (ckT (.slice none 0 0) (.slice none 0 0) (.bool false) (.slice none 0 0))).heap.size := by simp
      go_enter Try.func58, Try.ntmps58
      go_wp2_with fail
      generalize hw0 : (w.alloc (ckT (.slice a n c) (.slice ea l ec) (.bool d) (.slice ca cl cc))).alloc (ckT (.slice none 0 0) (.slice none 0 0) (.bool false) (.slice none 0 0)) = w0 at *
      clear hw0
      have hvc := validP_calls (.slice a n c) (.slice ea l ec) (.slice ca cl cc) s w0 (HS.out.ext HE0.out) HSM.out
      rw [HD.out, HVAL.out] at hvc
      have HVC := Lib.hid hvc
      clear hvc
      refine HVC.out.mono ?_
      rintro e w1 ⟨rfl, hE1⟩
      have HXA := Lib.hid (hE1.hp HX0.out)
      have HXB := Lib.hid (hE1.hp HX1.out)
      have HEW := Lib.hid (HE0.out.trans' hE1)
      have hsz1 := hE1.sz
      clear hE1
      have x0 := cellOf HXA.out 0
      have x1 := cellOf HXA.out 1
      have x2 := cellOf HXA.out 2
      have x3 := cellOf HXA.out 3
      simp only [List.getElem?_toArray, List.getElem?_cons_zero, List.getElem?_cons_succ] at x0 x1 x2 x3
      have r0 := cellOf HXB.out 0
      have r1 := cellOf HXB.out 1
      have r2 := cellOf HXB.out 2
      have r3 := cellOf HXB.out 3
      simp only [List.getElem?_toArray, List.getElem?_cons_zero, List.getElem?_cons_succ] at r0 r1 r2 r3
      have f0 := freeOf HXB.out 0
      have f1 := freeOf HXB.out 1
      have f2 := freeOf HXB.out 2
      have f3 := freeOf HXB.out 3
      go_wp2
      refine bodyPost_ret (v := .tuple #[.agg #[.slice none 0 0, .slice none 0 0, .bool false, .slice none 0 0], .int .i64 2]) (by simp [results, Try.results58, go_sem, r0, r1, r2, r3]) rfl ⟨by rw [HER.out], box_ext HEW.out (by omega) _ _ _ _⟩
    have b1 : decide (p < 0) = false := by simpa using hp1
    by_cases hp2 : (s.qs.length : Int) ≤ p
    · have hE1 : E = 2 := by rw [HPE.out]; simp [hp2]
      have HER := Lib.hid hE1
      have b2 : decide ((s.qs.length : Int) ≤ p) = true := by simpa using hp2
      clear h0 hE1 hp2
      have HS := Lib.hid h
      have HSM := Lib.hid hs
      have hs1 := hs.1
      have hs2 := hs.2.1
      obtain ⟨a, c, rfl, hlc⟩ := h.1.shape
      obtain ⟨ea, ec, rfl, hec⟩ := h.2.1.shape
      obtain ⟨ca, cc, hce, hcc, _⟩ := h.2.2
      subst hce
      clear h hs
      generalize hd : s.done = d at *
      have HD := Lib.hid hd
      clear hd
      generalize hn : s.qs.length = n at *
      generalize hl : s.ended.length = l at *
      generalize hcl : s.cut.length = cl at *
      have HN := Lib.hid hn
      have HL := Lib.hid hl
      have HCL := Lib.hid hcl
      clear hn hl hcl
      have HX0 := Lib.hid (((Ext.rf (w.alloc (ckT (.slice a n c) (.slice ea l ec) (.bool d) (.slice ca cl cc)))).al (ckT (.slice none 0 0) (.slice none 0 0) (.bool false) (.slice none 0 0))).hp (heap_alloc_new w (ckT (.slice a n c) (.slice ea l ec) (.bool d) (.slice ca cl cc))))
      have HX1 := Lib.hid (heap_new_eq (w := w.alloc (ckT (.slice a n c) (.slice ea l ec) (.bool d) (.slice ca cl cc))) (o := ckT (.slice none 0 0) (.slice none 0 0) (.bool false) (.slice none 0 0)) (b := w.heap.size + 1) (by simp))
      have HE0 : Hid (Ext w ((w.alloc (ckT (.slice a n c) (.slice ea l ec) (.bool d) (.slice ca cl cc))).alloc (ckT (.slice none 0 0) (.slice none 0 0) (.bool false) (.slice none 0 0)))) := Lib.hid (((Ext.rf w).al _).al _)
      have hsz0 : w.heap.size + 2 ≤ ((w.alloc (ckT (.slice a n c) (.slice ea l ec) (.bool d) (.slice ca cl cc))).alloc (ckT (.slice none 0 0) (.slice none 0 0) (.bool false) (.slice none 0 0))).heap.size := by simp
      go_enter Try.func58, Try.ntmps58
      go_wp2_with fail
      generalize hw0 : (w.alloc (ckT (.slice a n c) (.slice ea l ec) (.bool d) (.slice ca cl cc))).alloc (ckT (.slice none 0 0) (.slice none 0 0) (.bool false) (.slice none 0 0)) = w0 at *
      clear hw0
      have hvc := validP_calls (.slice a n c) (.slice ea l ec) (.slice ca cl cc) s w0 (HS.out.ext HE0.out) HSM.out
      rw [HD.out, HVAL.out] at hvc
      have HVC := Lib.hid hvc
      clear hvc
      refine HVC.out.mono ?_
      rintro e w1 ⟨rfl, hE1⟩
      have HXA := Lib.hid (hE1.hp HX0.out)
      have HXB := Lib.hid (hE1.hp HX1.out)
      have HEW := Lib.hid (HE0.out.trans' hE1)
      have hsz1 := hE1.sz
      clear hE1
      have x0 := cellOf HXA.out 0
      have x1 := cellOf HXA.out 1
      have x2 := cellOf HXA.out 2
      have x3 := cellOf HXA.out 3
      simp only [List.getElem?_toArray, List.getElem?_cons_zero, List.getElem?_cons_succ] at x0 x1 x2 x3
      have r0 := cellOf HXB.out 0
      have r1 := cellOf HXB.out 1
      have r2 := cellOf HXB.out 2
      have r3 := cellOf HXB.out 3
      simp only [List.getElem?_toArray, List.getElem?_cons_zero, List.getElem?_cons_succ] at r0 r1 r2 r3
      have f0 := freeOf HXB.out 0
      have f1 := freeOf HXB.out 1
      have f2 := freeOf HXB.out 2
      have f3 := freeOf HXB.out 3
      go_wp2
      refine bodyPost_ret (v := .tuple #[.agg #[.slice none 0 0, .slice none 0 0, .bool false, .slice none 0 0], .int .i64 2]) (by simp [results, Try.results58, go_sem, r0, r1, r2, r3]) rfl ⟨by rw [HER.out], box_ext HEW.out (by omega) _ _ _ _⟩
    have b2 : decide ((s.qs.length : Int) ≤ p) = false := by simpa using hp2
    obtain ⟨P, rfl⟩ : ∃ P : Nat, p = P := ⟨p.toNat, by omega⟩
    have hPn : P < s.qs.length := by omega
    have b2n : decide (s.qs.length ≤ P) = false := by simp; omega
    have HPE := Lib.hid (show E = if s.done = true ∨ s.ended[P]! = true then 6 else 0 from by rw [HPE.out, if_neg (by simp), if_neg (by omega), Int.toNat_natCast])
    have hPe : P < s.ended.length := by rw [HG3.out]; exact hPn
    cases hdn : s.done with
    | true =>
      have hE1 : E = 6 := by rw [HPE.out, if_pos (.inl hdn)]
      have HER := Lib.hid hE1
      rw [← hdn]
      have HDN := Lib.hid hdn
      clear h0 hE1 hdn
      have HS := Lib.hid h
      have HSM := Lib.hid hs
      have hs1 := hs.1
      have hs2 := hs.2.1
      obtain ⟨a, c, rfl, hlc⟩ := h.1.shape
      obtain ⟨ea, ec, rfl, hec⟩ := h.2.1.shape
      obtain ⟨ca, cc, hce, hcc, _⟩ := h.2.2
      subst hce
      clear h hs
      generalize hd : s.done = d at *
      have HD := Lib.hid hd
      clear hd
      generalize hn : s.qs.length = n at *
      generalize hl : s.ended.length = l at *
      generalize hcl : s.cut.length = cl at *
      have HN := Lib.hid hn
      have HL := Lib.hid hl
      have HCL := Lib.hid hcl
      clear hn hl hcl
      have HX0 := Lib.hid (((Ext.rf (w.alloc (ckT (.slice a n c) (.slice ea l ec) (.bool d) (.slice ca cl cc)))).al (ckT (.slice none 0 0) (.slice none 0 0) (.bool false) (.slice none 0 0))).hp (heap_alloc_new w (ckT (.slice a n c) (.slice ea l ec) (.bool d) (.slice ca cl cc))))
      have HX1 := Lib.hid (heap_new_eq (w := w.alloc (ckT (.slice a n c) (.slice ea l ec) (.bool d) (.slice ca cl cc))) (o := ckT (.slice none 0 0) (.slice none 0 0) (.bool false) (.slice none 0 0)) (b := w.heap.size + 1) (by simp))
      have HE0 : Hid (Ext w ((w.alloc (ckT (.slice a n c) (.slice ea l ec) (.bool d) (.slice ca cl cc))).alloc (ckT (.slice none 0 0) (.slice none 0 0) (.bool false) (.slice none 0 0)))) := Lib.hid (((Ext.rf w).al _).al _)
      have hsz0 : w.heap.size + 2 ≤ ((w.alloc (ckT (.slice a n c) (.slice ea l ec) (.bool d) (.slice ca cl cc))).alloc (ckT (.slice none 0 0) (.slice none 0 0) (.bool false) (.slice none 0 0))).heap.size := by simp
      obtain rfl : d = true := HDN.out
      go_enter Try.func58, Try.ntmps58
      go_wp2_with fail
      generalize hw0 : (w.alloc (ckT (.slice a n c) (.slice ea l ec) (.bool true) (.slice ca cl cc))).alloc (ckT (.slice none 0 0) (.slice none 0 0) (.bool false) (.slice none 0 0)) = w0 at *
      clear hw0
      have hvc := validP_calls (.slice a n c) (.slice ea l ec) (.slice ca cl cc) s w0 (HS.out.ext HE0.out) HSM.out
      rw [HD.out, HVAL.out] at hvc
      have HVC := Lib.hid hvc
      clear hvc
      refine HVC.out.mono ?_
      rintro e w1 ⟨rfl, hE1⟩
      have HXA := Lib.hid (hE1.hp HX0.out)
      have HXB := Lib.hid (hE1.hp HX1.out)
      have HEW := Lib.hid (HE0.out.trans' hE1)
      have hsz1 := hE1.sz
      clear hE1
      have x0 := cellOf HXA.out 0
      have x1 := cellOf HXA.out 1
      have x2 := cellOf HXA.out 2
      have x3 := cellOf HXA.out 3
      simp only [List.getElem?_toArray, List.getElem?_cons_zero, List.getElem?_cons_succ] at x0 x1 x2 x3
      have r0 := cellOf HXB.out 0
      have r1 := cellOf HXB.out 1
      have r2 := cellOf HXB.out 2
      have r3 := cellOf HXB.out 3
      simp only [List.getElem?_toArray, List.getElem?_cons_zero, List.getElem?_cons_succ] at r0 r1 r2 r3
      have f0 := freeOf HXB.out 0
      have f1 := freeOf HXB.out 1
      have f2 := freeOf HXB.out 2
      have f3 := freeOf HXB.out 3
      go_wp2
      refine bodyPost_ret (v := .tuple #[.agg #[.slice none 0 0, .slice none 0 0, .bool false, .slice none 0 0], .int .i64 6]) (by simp [results, Try.results58, go_sem, r0, r1, r2, r3]) rfl ⟨by rw [HER.out], box_ext HEW.out (by omega) _ _ _ _⟩
    | false =>
      have HDN := Lib.hid hdn
      rw [← hdn]
      clear hdn
      cases hen : s.ended[P]! with
      | true =>
        have hE1 : E = 6 := by rw [HPE.out, if_pos (.inr hen)]
        have HER := Lib.hid hE1
        have HEN := Lib.hid hen
        clear h0 hE1 hen
        have HS := Lib.hid h
        have HSM := Lib.hid hs
        have hs1 := hs.1
        have hs2 := hs.2.1
        obtain ⟨a, c, rfl, hlc⟩ := h.1.shape
        obtain ⟨ea, ec, rfl, hec⟩ := h.2.1.shape
        obtain ⟨ca, cc, hce, hcc, _⟩ := h.2.2
        subst hce
        clear h hs
        generalize hd : s.done = d at *
        have HD := Lib.hid hd
        clear hd
        generalize hn : s.qs.length = n at *
        generalize hl : s.ended.length = l at *
        generalize hcl : s.cut.length = cl at *
        have HN := Lib.hid hn
        have HL := Lib.hid hl
        have HCL := Lib.hid hcl
        clear hn hl hcl
        have HX0 := Lib.hid (((Ext.rf (w.alloc (ckT (.slice a n c) (.slice ea l ec) (.bool d) (.slice ca cl cc)))).al (ckT (.slice none 0 0) (.slice none 0 0) (.bool false) (.slice none 0 0))).hp (heap_alloc_new w (ckT (.slice a n c) (.slice ea l ec) (.bool d) (.slice ca cl cc))))
        have HX1 := Lib.hid (heap_new_eq (w := w.alloc (ckT (.slice a n c) (.slice ea l ec) (.bool d) (.slice ca cl cc))) (o := ckT (.slice none 0 0) (.slice none 0 0) (.bool false) (.slice none 0 0)) (b := w.heap.size + 1) (by simp))
        have HE0 : Hid (Ext w ((w.alloc (ckT (.slice a n c) (.slice ea l ec) (.bool d) (.slice ca cl cc))).alloc (ckT (.slice none 0 0) (.slice none 0 0) (.bool false) (.slice none 0 0)))) := Lib.hid (((Ext.rf w).al _).al _)
        have hsz0 : w.heap.size + 2 ≤ ((w.alloc (ckT (.slice a n c) (.slice ea l ec) (.bool d) (.slice ca cl cc))).alloc (ckT (.slice none 0 0) (.slice none 0 0) (.bool false) (.slice none 0 0))).heap.size := by simp
        obtain rfl : d = false := HDN.out
        go_enter Try.func58, Try.ntmps58
        go_wp2_with fail
        generalize hw0 : (w.alloc (ckT (.slice a n c) (.slice ea l ec) (.bool false) (.slice ca cl cc))).alloc (ckT (.slice none 0 0) (.slice none 0 0) (.bool false) (.slice none 0 0)) = w0 at *
        clear hw0
        have hvc := validP_calls (.slice a n c) (.slice ea l ec) (.slice ca cl cc) s w0 (HS.out.ext HE0.out) HSM.out
        rw [HD.out, HVAL.out] at hvc
        have HVC := Lib.hid hvc
        clear hvc
        refine HVC.out.mono ?_
        rintro e w1 ⟨rfl, hE1⟩
        have HXA := Lib.hid (hE1.hp HX0.out)
        have HXB := Lib.hid (hE1.hp HX1.out)
        have HEW := Lib.hid (HE0.out.trans' hE1)
        have hsz1 := hE1.sz
        clear hE1
        have x0 := cellOf HXA.out 0
        have x1 := cellOf HXA.out 1
        have x2 := cellOf HXA.out 2
        have x3 := cellOf HXA.out 3
        simp only [List.getElem?_toArray, List.getElem?_cons_zero, List.getElem?_cons_succ] at x0 x1 x2 x3
        obtain ⟨EB, EO, EC, ev, hee, _, _, hec0, hev⟩ := HS.out.2.1.at1 P (by rw [HL.out]; omega)
        simp only [Value.slice.injEq] at hee
        obtain ⟨rfl, hnn2, rfl⟩ := hee
        obtain rfl : ev = .bool s.ended[P]! := by simpa [RBool] using hev
        rw [HEN.out] at hec0
        have ce := HEW.out.cl hec0
        have hPz : (0 : Int) ≤ (P : Int) := by omega
        have hPl : (P : Int) < (l : Int) := by omega
        clear hnn2 hev hec0
        have r0 := cellOf HXB.out 0
        have r1 := cellOf HXB.out 1
        have r2 := cellOf HXB.out 2
        have r3 := cellOf HXB.out 3
        simp only [List.getElem?_toArray, List.getElem?_cons_zero, List.getElem?_cons_succ] at r0 r1 r2 r3
        have f0 := freeOf HXB.out 0
        have f1 := freeOf HXB.out 1
        have f2 := freeOf HXB.out 2
        have f3 := freeOf HXB.out 3
        go_wp2
        refine bodyPost_ret (v := .tuple #[.agg #[.slice none 0 0, .slice none 0 0, .bool false, .slice none 0 0], .int .i64 6]) (by simp [results, Try.results58, go_sem, r0, r1, r2, r3]) rfl ⟨by rw [HER.out], box_ext HEW.out (by omega) _ _ _ _⟩
      | false =>
        exact absurd (by rw [HPE.out, if_neg (by rw [HDN.out, hen]; simp)]) h0

set_option maxHeartbeats 8000000 in
set_option maxRecDepth 100000 in
theorem endR_bad (uq ue uc : Value) (s : Ck) (p : Int) (w : World) (E : Int) (h : CkAt w uq ue uc s) (hs : SmallC s) (hE : endErr s p = E) (h0 : E ≠ 0) :
    Calls Try.prog 62 #[.agg #[uq, ue, .bool s.done, uc], .int .i64 p] w fun e w' => e = .returned (.tuple #[.agg #[.slice none 0 0, .slice none 0 0, .bool false, .slice none 0 0], .int .i64 E]) ∧ Ext w w' := by
  have HPE := Lib.hid (show endErr s p = if !validC s then 1
    else if p < 0 ∨ (s.qs.length : Int) ≤ p then 2
    else if s.done = true ∨ s.ended[p.toNat]! = true then 6
    else 0 from rfl)
  rw [hE] at HPE
  clear hE
  cases hval : validC s with
  | false =>
    have hE1 : E = 1 := by rw [HPE.out, hval]; rfl
    have HER := Lib.hid hE1
    have HVAL := Lib.hid hval
    clear h0 hval hE1
    have HS := Lib.hid h
    have HSM := Lib.hid hs
    have hs1 := hs.1
    have hs2 := hs.2.1
    obtain ⟨a, c, rfl, hlc⟩ := h.1.shape
    obtain ⟨ea, ec, rfl, hec⟩ := h.2.1.shape
    obtain ⟨ca, cc, hce, hcc, _⟩ := h.2.2
    subst hce
    clear h hs
    generalize hd : s.done = d at *
    have HD := Lib.hid hd
    clear hd
    generalize hn : s.qs.length = n at *
    generalize hl : s.ended.length = l at *
    generalize hcl : s.cut.length = cl at *
    have HN := Lib.hid hn
    have HL := Lib.hid hl
    have HCL := Lib.hid hcl
    clear hn hl hcl
    have HX0 := Lib.hid (((Ext.rf (w.alloc (ckT (.slice a n c) (.slice ea l ec) (.bool d) (.slice ca cl cc)))).al (ckT (.slice none 0 0) (.slice none 0 0) (.bool false) (.slice none 0 0))).hp (heap_alloc_new w (ckT (.slice a n c) (.slice ea l ec) (.bool d) (.slice ca cl cc))))
    have HX1 := Lib.hid (heap_new_eq (w := w.alloc (ckT (.slice a n c) (.slice ea l ec) (.bool d) (.slice ca cl cc))) (o := ckT (.slice none 0 0) (.slice none 0 0) (.bool false) (.slice none 0 0)) (b := w.heap.size + 1) (by simp))
    have HE0 : Hid (Ext w ((w.alloc (ckT (.slice a n c) (.slice ea l ec) (.bool d) (.slice ca cl cc))).alloc (ckT (.slice none 0 0) (.slice none 0 0) (.bool false) (.slice none 0 0)))) := Lib.hid (((Ext.rf w).al _).al _)
    have hsz0 : w.heap.size + 2 ≤ ((w.alloc (ckT (.slice a n c) (.slice ea l ec) (.bool d) (.slice ca cl cc))).alloc (ckT (.slice none 0 0) (.slice none 0 0) (.bool false) (.slice none 0 0))).heap.size := by simp
    go_enter Try.func62, Try.ntmps62
    go_wp2_with fail
    generalize hw0 : (w.alloc (ckT (.slice a n c) (.slice ea l ec) (.bool d) (.slice ca cl cc))).alloc (ckT (.slice none 0 0) (.slice none 0 0) (.bool false) (.slice none 0 0)) = w0 at *
    clear hw0
    have hvc := validR_calls (.slice a n c) (.slice ea l ec) (.slice ca cl cc) s w0 (HS.out.ext HE0.out) HSM.out
    rw [HD.out, HVAL.out] at hvc
    have HVC := Lib.hid hvc
    clear hvc
    refine HVC.out.mono ?_
    rintro e w1 ⟨rfl, hE1⟩
    have HXA := Lib.hid (hE1.hp HX0.out)
    have HXB := Lib.hid (hE1.hp HX1.out)
    have HEW := Lib.hid (HE0.out.trans' hE1)
    have hsz1 := hE1.sz
    clear hE1
    have x0 := cellOf HXA.out 0
    have x1 := cellOf HXA.out 1
    have x2 := cellOf HXA.out 2
    have x3 := cellOf HXA.out 3
    simp only [List.getElem?_toArray, List.getElem?_cons_zero, List.getElem?_cons_succ] at x0 x1 x2 x3
    have r0 := cellOf HXB.out 0
    have r1 := cellOf HXB.out 1
    have r2 := cellOf HXB.out 2
    have r3 := cellOf HXB.out 3
    simp only [List.getElem?_toArray, List.getElem?_cons_zero, List.getElem?_cons_succ] at r0 r1 r2 r3
    have f0 := freeOf HXB.out 0
    have f1 := freeOf HXB.out 1
    have f2 := freeOf HXB.out 2
    have f3 := freeOf HXB.out 3
    go_wp2
    refine bodyPost_ret (v := .tuple #[.agg #[.slice none 0 0, .slice none 0 0, .bool false, .slice none 0 0], .int .i64 1]) (by simp [results, Try.results62, go_sem, r0, r1, r2, r3]) rfl ⟨by rw [HER.out], box_ext HEW.out (by omega) _ _ _ _⟩
  | true =>
    have HVAL := Lib.hid hval
    rw [hval] at HPE
    obtain ⟨g1, g2, g3, g4⟩ := form_parts.1 (valid_parts.1 hval).1
    have HG3 := Lib.hid g3
    clear hval g3 g4
    by_cases hp1 : p < 0
    · have b1 : decide (p < 0) = true := by simpa using hp1
      have hE1 : E = 2 := by rw [HPE.out]; simp [hp1]
      have HER := Lib.hid hE1
      clear h0 hE1 hp1
      have HS := Lib.hid h
      have HSM := Lib.hid hs
      have hs1 := hs.1
      have hs2 := hs.2.1
      obtain ⟨a, c, rfl, hlc⟩ := h.1.shape
      obtain ⟨ea, ec, rfl, hec⟩ := h.2.1.shape
      obtain ⟨ca, cc, hce, hcc, _⟩ := h.2.2
      subst hce
      clear h hs
      generalize hd : s.done = d at *
      have HD := Lib.hid hd
      clear hd
      generalize hn : s.qs.length = n at *
      generalize hl : s.ended.length = l at *
      generalize hcl : s.cut.length = cl at *
      have HN := Lib.hid hn
      have HL := Lib.hid hl
      have HCL := Lib.hid hcl
      clear hn hl hcl
      have HX0 := Lib.hid (((Ext.rf (w.alloc (ckT (.slice a n c) (.slice ea l ec) (.bool d) (.slice ca cl cc)))).al (ckT (.slice none 0 0) (.slice none 0 0) (.bool false) (.slice none 0 0))).hp (heap_alloc_new w (ckT (.slice a n c) (.slice ea l ec) (.bool d) (.slice ca cl cc))))
      have HX1 := Lib.hid (heap_new_eq (w := w.alloc (ckT (.slice a n c) (.slice ea l ec) (.bool d) (.slice ca cl cc))) (o := ckT (.slice none 0 0) (.slice none 0 0) (.bool false) (.slice none 0 0)) (b := w.heap.size + 1) (by simp))
      have HE0 : Hid (Ext w ((w.alloc (ckT (.slice a n c) (.slice ea l ec) (.bool d) (.slice ca cl cc))).alloc (ckT (.slice none 0 0) (.slice none 0 0) (.bool false) (.slice none 0 0)))) := Lib.hid (((Ext.rf w).al _).al _)
      have hsz0 : w.heap.size + 2 ≤ ((w.alloc (ckT (.slice a n c) (.slice ea l ec) (.bool d) (.slice ca cl cc))).alloc (ckT (.slice none 0 0) (.slice none 0 0) (.bool false) (.slice none 0 0))).heap.size := by simp
      go_enter Try.func62, Try.ntmps62
      go_wp2_with fail
      generalize hw0 : (w.alloc (ckT (.slice a n c) (.slice ea l ec) (.bool d) (.slice ca cl cc))).alloc (ckT (.slice none 0 0) (.slice none 0 0) (.bool false) (.slice none 0 0)) = w0 at *
      clear hw0
      have hvc := validR_calls (.slice a n c) (.slice ea l ec) (.slice ca cl cc) s w0 (HS.out.ext HE0.out) HSM.out
      rw [HD.out, HVAL.out] at hvc
      have HVC := Lib.hid hvc
      clear hvc
      refine HVC.out.mono ?_
      rintro e w1 ⟨rfl, hE1⟩
      have HXA := Lib.hid (hE1.hp HX0.out)
      have HXB := Lib.hid (hE1.hp HX1.out)
      have HEW := Lib.hid (HE0.out.trans' hE1)
      have hsz1 := hE1.sz
      clear hE1
      have x0 := cellOf HXA.out 0
      have x1 := cellOf HXA.out 1
      have x2 := cellOf HXA.out 2
      have x3 := cellOf HXA.out 3
      simp only [List.getElem?_toArray, List.getElem?_cons_zero, List.getElem?_cons_succ] at x0 x1 x2 x3
      have r0 := cellOf HXB.out 0
      have r1 := cellOf HXB.out 1
      have r2 := cellOf HXB.out 2
      have r3 := cellOf HXB.out 3
      simp only [List.getElem?_toArray, List.getElem?_cons_zero, List.getElem?_cons_succ] at r0 r1 r2 r3
      have f0 := freeOf HXB.out 0
      have f1 := freeOf HXB.out 1
      have f2 := freeOf HXB.out 2
      have f3 := freeOf HXB.out 3
      go_wp2
      refine bodyPost_ret (v := .tuple #[.agg #[.slice none 0 0, .slice none 0 0, .bool false, .slice none 0 0], .int .i64 2]) (by simp [results, Try.results62, go_sem, r0, r1, r2, r3]) rfl ⟨by rw [HER.out], box_ext HEW.out (by omega) _ _ _ _⟩
    have b1 : decide (p < 0) = false := by simpa using hp1
    by_cases hp2 : (s.qs.length : Int) ≤ p
    · have hE1 : E = 2 := by rw [HPE.out]; simp [hp2]
      have HER := Lib.hid hE1
      have b2 : decide ((s.qs.length : Int) ≤ p) = true := by simpa using hp2
      clear h0 hE1 hp2
      have HS := Lib.hid h
      have HSM := Lib.hid hs
      have hs1 := hs.1
      have hs2 := hs.2.1
      obtain ⟨a, c, rfl, hlc⟩ := h.1.shape
      obtain ⟨ea, ec, rfl, hec⟩ := h.2.1.shape
      obtain ⟨ca, cc, hce, hcc, _⟩ := h.2.2
      subst hce
      clear h hs
      generalize hd : s.done = d at *
      have HD := Lib.hid hd
      clear hd
      generalize hn : s.qs.length = n at *
      generalize hl : s.ended.length = l at *
      generalize hcl : s.cut.length = cl at *
      have HN := Lib.hid hn
      have HL := Lib.hid hl
      have HCL := Lib.hid hcl
      clear hn hl hcl
      have HX0 := Lib.hid (((Ext.rf (w.alloc (ckT (.slice a n c) (.slice ea l ec) (.bool d) (.slice ca cl cc)))).al (ckT (.slice none 0 0) (.slice none 0 0) (.bool false) (.slice none 0 0))).hp (heap_alloc_new w (ckT (.slice a n c) (.slice ea l ec) (.bool d) (.slice ca cl cc))))
      have HX1 := Lib.hid (heap_new_eq (w := w.alloc (ckT (.slice a n c) (.slice ea l ec) (.bool d) (.slice ca cl cc))) (o := ckT (.slice none 0 0) (.slice none 0 0) (.bool false) (.slice none 0 0)) (b := w.heap.size + 1) (by simp))
      have HE0 : Hid (Ext w ((w.alloc (ckT (.slice a n c) (.slice ea l ec) (.bool d) (.slice ca cl cc))).alloc (ckT (.slice none 0 0) (.slice none 0 0) (.bool false) (.slice none 0 0)))) := Lib.hid (((Ext.rf w).al _).al _)
      have hsz0 : w.heap.size + 2 ≤ ((w.alloc (ckT (.slice a n c) (.slice ea l ec) (.bool d) (.slice ca cl cc))).alloc (ckT (.slice none 0 0) (.slice none 0 0) (.bool false) (.slice none 0 0))).heap.size := by simp
      go_enter Try.func62, Try.ntmps62
      go_wp2_with fail
      generalize hw0 : (w.alloc (ckT (.slice a n c) (.slice ea l ec) (.bool d) (.slice ca cl cc))).alloc (ckT (.slice none 0 0) (.slice none 0 0) (.bool false) (.slice none 0 0)) = w0 at *
      clear hw0
      have hvc := validR_calls (.slice a n c) (.slice ea l ec) (.slice ca cl cc) s w0 (HS.out.ext HE0.out) HSM.out
      rw [HD.out, HVAL.out] at hvc
      have HVC := Lib.hid hvc
      clear hvc
      refine HVC.out.mono ?_
      rintro e w1 ⟨rfl, hE1⟩
      have HXA := Lib.hid (hE1.hp HX0.out)
      have HXB := Lib.hid (hE1.hp HX1.out)
      have HEW := Lib.hid (HE0.out.trans' hE1)
      have hsz1 := hE1.sz
      clear hE1
      have x0 := cellOf HXA.out 0
      have x1 := cellOf HXA.out 1
      have x2 := cellOf HXA.out 2
      have x3 := cellOf HXA.out 3
      simp only [List.getElem?_toArray, List.getElem?_cons_zero, List.getElem?_cons_succ] at x0 x1 x2 x3
      have r0 := cellOf HXB.out 0
      have r1 := cellOf HXB.out 1
      have r2 := cellOf HXB.out 2
      have r3 := cellOf HXB.out 3
      simp only [List.getElem?_toArray, List.getElem?_cons_zero, List.getElem?_cons_succ] at r0 r1 r2 r3
      have f0 := freeOf HXB.out 0
      have f1 := freeOf HXB.out 1
      have f2 := freeOf HXB.out 2
      have f3 := freeOf HXB.out 3
      go_wp2
      refine bodyPost_ret (v := .tuple #[.agg #[.slice none 0 0, .slice none 0 0, .bool false, .slice none 0 0], .int .i64 2]) (by simp [results, Try.results62, go_sem, r0, r1, r2, r3]) rfl ⟨by rw [HER.out], box_ext HEW.out (by omega) _ _ _ _⟩
    have b2 : decide ((s.qs.length : Int) ≤ p) = false := by simpa using hp2
    obtain ⟨P, rfl⟩ : ∃ P : Nat, p = P := ⟨p.toNat, by omega⟩
    have hPn : P < s.qs.length := by omega
    have b2n : decide (s.qs.length ≤ P) = false := by simp; omega
    have HPE := Lib.hid (show E = if s.done = true ∨ s.ended[P]! = true then 6 else 0 from by rw [HPE.out, if_neg (by simp), if_neg (by omega), Int.toNat_natCast])
    have hPe : P < s.ended.length := by rw [HG3.out]; exact hPn
    cases hdn : s.done with
    | true =>
      have hE1 : E = 6 := by rw [HPE.out, if_pos (.inl hdn)]
      have HER := Lib.hid hE1
      rw [← hdn]
      have HDN := Lib.hid hdn
      clear h0 hE1 hdn
      have HS := Lib.hid h
      have HSM := Lib.hid hs
      have hs1 := hs.1
      have hs2 := hs.2.1
      obtain ⟨a, c, rfl, hlc⟩ := h.1.shape
      obtain ⟨ea, ec, rfl, hec⟩ := h.2.1.shape
      obtain ⟨ca, cc, hce, hcc, _⟩ := h.2.2
      subst hce
      clear h hs
      generalize hd : s.done = d at *
      have HD := Lib.hid hd
      clear hd
      generalize hn : s.qs.length = n at *
      generalize hl : s.ended.length = l at *
      generalize hcl : s.cut.length = cl at *
      have HN := Lib.hid hn
      have HL := Lib.hid hl
      have HCL := Lib.hid hcl
      clear hn hl hcl
      have HX0 := Lib.hid (((Ext.rf (w.alloc (ckT (.slice a n c) (.slice ea l ec) (.bool d) (.slice ca cl cc)))).al (ckT (.slice none 0 0) (.slice none 0 0) (.bool false) (.slice none 0 0))).hp (heap_alloc_new w (ckT (.slice a n c) (.slice ea l ec) (.bool d) (.slice ca cl cc))))
      have HX1 := Lib.hid (heap_new_eq (w := w.alloc (ckT (.slice a n c) (.slice ea l ec) (.bool d) (.slice ca cl cc))) (o := ckT (.slice none 0 0) (.slice none 0 0) (.bool false) (.slice none 0 0)) (b := w.heap.size + 1) (by simp))
      have HE0 : Hid (Ext w ((w.alloc (ckT (.slice a n c) (.slice ea l ec) (.bool d) (.slice ca cl cc))).alloc (ckT (.slice none 0 0) (.slice none 0 0) (.bool false) (.slice none 0 0)))) := Lib.hid (((Ext.rf w).al _).al _)
      have hsz0 : w.heap.size + 2 ≤ ((w.alloc (ckT (.slice a n c) (.slice ea l ec) (.bool d) (.slice ca cl cc))).alloc (ckT (.slice none 0 0) (.slice none 0 0) (.bool false) (.slice none 0 0))).heap.size := by simp
      obtain rfl : d = true := HDN.out
      go_enter Try.func62, Try.ntmps62
      go_wp2_with fail
      generalize hw0 : (w.alloc (ckT (.slice a n c) (.slice ea l ec) (.bool true) (.slice ca cl cc))).alloc (ckT (.slice none 0 0) (.slice none 0 0) (.bool false) (.slice none 0 0)) = w0 at *
      clear hw0
      have hvc := validR_calls (.slice a n c) (.slice ea l ec) (.slice ca cl cc) s w0 (HS.out.ext HE0.out) HSM.out
      rw [HD.out, HVAL.out] at hvc
      have HVC := Lib.hid hvc
      clear hvc
      refine HVC.out.mono ?_
      rintro e w1 ⟨rfl, hE1⟩
      have HXA := Lib.hid (hE1.hp HX0.out)
      have HXB := Lib.hid (hE1.hp HX1.out)
      have HEW := Lib.hid (HE0.out.trans' hE1)
      have hsz1 := hE1.sz
      clear hE1
      have x0 := cellOf HXA.out 0
      have x1 := cellOf HXA.out 1
      have x2 := cellOf HXA.out 2
      have x3 := cellOf HXA.out 3
      simp only [List.getElem?_toArray, List.getElem?_cons_zero, List.getElem?_cons_succ] at x0 x1 x2 x3
      have r0 := cellOf HXB.out 0
      have r1 := cellOf HXB.out 1
      have r2 := cellOf HXB.out 2
      have r3 := cellOf HXB.out 3
      simp only [List.getElem?_toArray, List.getElem?_cons_zero, List.getElem?_cons_succ] at r0 r1 r2 r3
      have f0 := freeOf HXB.out 0
      have f1 := freeOf HXB.out 1
      have f2 := freeOf HXB.out 2
      have f3 := freeOf HXB.out 3
      go_wp2
      refine bodyPost_ret (v := .tuple #[.agg #[.slice none 0 0, .slice none 0 0, .bool false, .slice none 0 0], .int .i64 6]) (by simp [results, Try.results62, go_sem, r0, r1, r2, r3]) rfl ⟨by rw [HER.out], box_ext HEW.out (by omega) _ _ _ _⟩
    | false =>
      have HDN := Lib.hid hdn
      rw [← hdn]
      clear hdn
      cases hen : s.ended[P]! with
      | true =>
        have hE1 : E = 6 := by rw [HPE.out, if_pos (.inr hen)]
        have HER := Lib.hid hE1
        have HEN := Lib.hid hen
        clear h0 hE1 hen
        have HS := Lib.hid h
        have HSM := Lib.hid hs
        have hs1 := hs.1
        have hs2 := hs.2.1
        obtain ⟨a, c, rfl, hlc⟩ := h.1.shape
        obtain ⟨ea, ec, rfl, hec⟩ := h.2.1.shape
        obtain ⟨ca, cc, hce, hcc, _⟩ := h.2.2
        subst hce
        clear h hs
        generalize hd : s.done = d at *
        have HD := Lib.hid hd
        clear hd
        generalize hn : s.qs.length = n at *
        generalize hl : s.ended.length = l at *
        generalize hcl : s.cut.length = cl at *
        have HN := Lib.hid hn
        have HL := Lib.hid hl
        have HCL := Lib.hid hcl
        clear hn hl hcl
        have HX0 := Lib.hid (((Ext.rf (w.alloc (ckT (.slice a n c) (.slice ea l ec) (.bool d) (.slice ca cl cc)))).al (ckT (.slice none 0 0) (.slice none 0 0) (.bool false) (.slice none 0 0))).hp (heap_alloc_new w (ckT (.slice a n c) (.slice ea l ec) (.bool d) (.slice ca cl cc))))
        have HX1 := Lib.hid (heap_new_eq (w := w.alloc (ckT (.slice a n c) (.slice ea l ec) (.bool d) (.slice ca cl cc))) (o := ckT (.slice none 0 0) (.slice none 0 0) (.bool false) (.slice none 0 0)) (b := w.heap.size + 1) (by simp))
        have HE0 : Hid (Ext w ((w.alloc (ckT (.slice a n c) (.slice ea l ec) (.bool d) (.slice ca cl cc))).alloc (ckT (.slice none 0 0) (.slice none 0 0) (.bool false) (.slice none 0 0)))) := Lib.hid (((Ext.rf w).al _).al _)
        have hsz0 : w.heap.size + 2 ≤ ((w.alloc (ckT (.slice a n c) (.slice ea l ec) (.bool d) (.slice ca cl cc))).alloc (ckT (.slice none 0 0) (.slice none 0 0) (.bool false) (.slice none 0 0))).heap.size := by simp
        obtain rfl : d = false := HDN.out
        go_enter Try.func62, Try.ntmps62
        go_wp2_with fail
        generalize hw0 : (w.alloc (ckT (.slice a n c) (.slice ea l ec) (.bool false) (.slice ca cl cc))).alloc (ckT (.slice none 0 0) (.slice none 0 0) (.bool false) (.slice none 0 0)) = w0 at *
        clear hw0
        have hvc := validR_calls (.slice a n c) (.slice ea l ec) (.slice ca cl cc) s w0 (HS.out.ext HE0.out) HSM.out
        rw [HD.out, HVAL.out] at hvc
        have HVC := Lib.hid hvc
        clear hvc
        refine HVC.out.mono ?_
        rintro e w1 ⟨rfl, hE1⟩
        have HXA := Lib.hid (hE1.hp HX0.out)
        have HXB := Lib.hid (hE1.hp HX1.out)
        have HEW := Lib.hid (HE0.out.trans' hE1)
        have hsz1 := hE1.sz
        clear hE1
        have x0 := cellOf HXA.out 0
        have x1 := cellOf HXA.out 1
        have x2 := cellOf HXA.out 2
        have x3 := cellOf HXA.out 3
        simp only [List.getElem?_toArray, List.getElem?_cons_zero, List.getElem?_cons_succ] at x0 x1 x2 x3
        obtain ⟨EB, EO, EC, ev, hee, _, _, hec0, hev⟩ := HS.out.2.1.at1 P (by rw [HL.out]; omega)
        simp only [Value.slice.injEq] at hee
        obtain ⟨rfl, hnn2, rfl⟩ := hee
        obtain rfl : ev = .bool s.ended[P]! := by simpa [RBool] using hev
        rw [HEN.out] at hec0
        have ce := HEW.out.cl hec0
        have hPz : (0 : Int) ≤ (P : Int) := by omega
        have hPl : (P : Int) < (l : Int) := by omega
        clear hnn2 hev hec0
        have r0 := cellOf HXB.out 0
        have r1 := cellOf HXB.out 1
        have r2 := cellOf HXB.out 2
        have r3 := cellOf HXB.out 3
        simp only [List.getElem?_toArray, List.getElem?_cons_zero, List.getElem?_cons_succ] at r0 r1 r2 r3
        have f0 := freeOf HXB.out 0
        have f1 := freeOf HXB.out 1
        have f2 := freeOf HXB.out 2
        have f3 := freeOf HXB.out 3
        go_wp2
        refine bodyPost_ret (v := .tuple #[.agg #[.slice none 0 0, .slice none 0 0, .bool false, .slice none 0 0], .int .i64 6]) (by simp [results, Try.results62, go_sem, r0, r1, r2, r3]) rfl ⟨by rw [HER.out], box_ext HEW.out (by omega) _ _ _ _⟩
      | false =>
        exact absurd (by rw [HPE.out, if_neg (by rw [HDN.out, hen]; simp)]) h0


set_option maxHeartbeats 8000000 in
set_option maxRecDepth 100000 in
theorem endP_ok (uq ue uc : Value) (s : Ck) (P : Nat) (w : World) (h : CkAt w uq ue uc s) (hs : SmallC s) (hE : endErr s P = 0) :
    Calls Try.prog 58 #[.agg #[uq, ue, .bool s.done, uc], .int .i64 P] w fun e w' => PutOut w w' e (endC s P) := by
  obtain ⟨hval, _, hp2, hdn, hen⟩ := end_parts hE
  rw [Int.toNat_natCast] at hen
  have HVAL := Lib.hid hval
  have hvp := valid_parts.1 hval
  have HBT := Lib.hid hvp.2.1
  have HFQ := Lib.hid (form_fit hvp.1)
  obtain ⟨g1, g2, g3, g4⟩ := form_parts.1 hvp.1
  have HG3 := Lib.hid g3
  have hPn : P < s.qs.length := by omega
  have hPe : P < s.ended.length := by omega
  have HDN := Lib.hid hdn
  have HEN := Lib.hid hen
  have b1 : decide ((P : Int) < 0) = false := by simp
  have b2 : decide ((s.qs.length : Int) ≤ (P : Int)) = false := by simp; omega
  have b2n : decide (s.qs.length ≤ P) = false := by simp; omega
  clear hval g3 g4 hE hdn hen hvp
  have HS := Lib.hid h
  have HSM := Lib.hid hs
  have hs1 := hs.1
  have hs2 := hs.2.1
  obtain ⟨a, c, rfl, hlc⟩ := h.1.shape
  obtain ⟨ea, ec, rfl, hec⟩ := h.2.1.shape
  obtain ⟨ca, cc, hce, hcc, _⟩ := h.2.2
  subst hce
  clear h hs
  generalize hd : s.done = d at *
  have HD := Lib.hid hd
  clear hd
  generalize hn : s.qs.length = n at *
  generalize hl : s.ended.length = l at *
  generalize hcl : s.cut.length = cl at *
  have HN := Lib.hid hn
  have HL := Lib.hid hl
  have HCL := Lib.hid hcl
  clear hn hl hcl
  have HX0 := Lib.hid (((Ext.rf (w.alloc (ckT (.slice a n c) (.slice ea l ec) (.bool d) (.slice ca cl cc)))).al (ckT (.slice none 0 0) (.slice none 0 0) (.bool false) (.slice none 0 0))).hp (heap_alloc_new w (ckT (.slice a n c) (.slice ea l ec) (.bool d) (.slice ca cl cc))))
  have HX1 := Lib.hid (heap_new_eq (w := w.alloc (ckT (.slice a n c) (.slice ea l ec) (.bool d) (.slice ca cl cc))) (o := ckT (.slice none 0 0) (.slice none 0 0) (.bool false) (.slice none 0 0)) (b := w.heap.size + 1) (by simp))
  have HE0 : Hid (Ext w ((w.alloc (ckT (.slice a n c) (.slice ea l ec) (.bool d) (.slice ca cl cc))).alloc (ckT (.slice none 0 0) (.slice none 0 0) (.bool false) (.slice none 0 0)))) := Lib.hid (((Ext.rf w).al _).al _)
  have hsz0 : w.heap.size + 2 ≤ ((w.alloc (ckT (.slice a n c) (.slice ea l ec) (.bool d) (.slice ca cl cc))).alloc (ckT (.slice none 0 0) (.slice none 0 0) (.bool false) (.slice none 0 0))).heap.size := by simp
  obtain rfl : d = false := HDN.out
  go_enter Try.func58, Try.ntmps58
  go_wp2_with fail
  generalize hw0 : (w.alloc (ckT (.slice a n c) (.slice ea l ec) (.bool false) (.slice ca cl cc))).alloc (ckT (.slice none 0 0) (.slice none 0 0) (.bool false) (.slice none 0 0)) = w0 at *
  clear hw0
  have hvc := validP_calls (.slice a n c) (.slice ea l ec) (.slice ca cl cc) s w0 (HS.out.ext HE0.out) HSM.out
  rw [HD.out, HVAL.out] at hvc
  have HVC := Lib.hid hvc
  clear hvc
  refine HVC.out.mono ?_
  rintro e w1 ⟨rfl, hE1⟩
  have HXA := Lib.hid (hE1.hp HX0.out)
  have HXB := Lib.hid (hE1.hp HX1.out)
  have HEW := Lib.hid (HE0.out.trans' hE1)
  have hsz1 := hE1.sz
  clear hE1
  have x0 := cellOf HXA.out 0
  have x1 := cellOf HXA.out 1
  have x2 := cellOf HXA.out 2
  have x3 := cellOf HXA.out 3
  simp only [List.getElem?_toArray, List.getElem?_cons_zero, List.getElem?_cons_succ] at x0 x1 x2 x3
  obtain ⟨EB, EO, EC, ev, hee, _, _, hec0, hev⟩ := HS.out.2.1.at1 P (by rw [HL.out]; omega)
  simp only [Value.slice.injEq] at hee
  obtain ⟨rfl, hnn2, rfl⟩ := hee
  obtain rfl : ev = .bool s.ended[P]! := by simpa [RBool] using hev
  rw [HEN.out] at hec0
  have ce := HEW.out.cl hec0
  have hPz : (0 : Int) ≤ (P : Int) := by omega
  have hPl : (P : Int) < (l : Int) := by omega
  clear hnn2 hev hec0
  go_wp2_with fail
  have hcop := copied_calls (.slice a n c) (.slice (some ⟨EB, EO, none⟩) l ec) (.slice ca cl cc) s w1 (HS.out.ext HEW.out) HSM.out
  rw [HD.out] at hcop
  have HCOP := Lib.hid hcop
  clear hcop
  refine HCOP.out.mono ?_
  rintro e w4 ⟨vq, ve2, vc2, rfl, hOC, hE4⟩
  rw [HD.out]
  obtain ⟨hoq, hoe, hoc⟩ := hOC
  obtain ⟨qa, qc, rfl, hqc⟩ := hoq.read.shape
  obtain ⟨EG, EO2, EC2, rfl, hEb, hElt, hEc⟩ := hoe.shape (by rw [HL.out]; omega)
  obtain ⟨ta, tb, rfl, htb, hsh⟩ := hoc.any
  clear hsh
  rw [HN.out] at hqc hoq
  rw [HL.out] at hoe
  rw [HN.out, HL.out, HCL.out]
  have HXB4 := Lib.hid (hE4.hp HXB.out)
  have hsz4 := hE4.sz
  have HEW4 := Lib.hid (HEW.out.trans' hE4)
  obtain ⟨eu, hec⟩ := row_some hoe P (by omega)
  have hef := hoe.free (EO2 + P)
  have HOQ := Lib.hid hoq
  have HOE := Lib.hid hoe
  have HE4 := Lib.hid hE4
  have hne4 : EG ≠ w4.heap.size := by omega
  clear hoq hoe hoc hE4 x0 x1 x2 x3 ce
  have hec5 := ((Ext.rf w4).al (ckT (.slice qa n qc) (.slice (some ⟨EG, EO2, none⟩) l EC2) (.bool false) (.slice ta cl tb))).cl hec
  have hef5 := (((Ext.rf w4).al (ckT (.slice qa n qc) (.slice (some ⟨EG, EO2, none⟩) l EC2) (.bool false) (.slice ta cl tb))).frozen (p := ⟨EG, EO2 + P, none⟩) hElt).trans hef
  clear hec hef
  go_upto_region 8 with (fail)
  have HXO := Lib.hid (heap_alloc_new w4 (ckT (.slice qa n qc) (.slice (some ⟨EG, EO2, none⟩) l EC2) (.bool false) (.slice ta cl tb)))
  have HE45 := Lib.hid ((Ext.rf w4).al (ckT (.slice qa n qc) (.slice (some ⟨EG, EO2, none⟩) l EC2) (.bool false) (.slice ta cl tb)))
  have hsz5 : w4.heap.size < (w4.alloc (ckT (.slice qa n qc) (.slice (some ⟨EG, EO2, none⟩) l EC2) (.bool false) (.slice ta cl tb))).heap.size := by simp
  generalize hw5 : w4.alloc (ckT (.slice qa n qc) (.slice (some ⟨EG, EO2, none⟩) l EC2) (.bool false) (.slice ta cl tb)) = w5 at *
  clear hw5
  have hoe5 := HOE.out.ext HE45.out
  obtain ⟨cs, ct, cfr, hG, rfl⟩ := hoe5.block EG rfl
  have hset := hoe5.set P (.bool true) (by omega)
  have hqs6 := (HOQ.out.ext HE45.out).stO (o := EO2 + P) hG (by decide) (by decide) (by decide) (.bool true)
  have hxb6 : (w5.setCell ⟨EG, EO2 + P, none⟩ (.bool true)).heap[w.heap.size + 1]? = some (ckT (.slice none 0 0) (.slice none 0 0) (.bool false) (.slice none 0 0)) := (Below.heap_setCell w5 ⟨EG, EO2 + P, none⟩ (.bool true) (w.heap.size + 1) (by simp only; omega)).trans (HE45.out.hp HXB4.out)
  have hew6 : Ext w (w5.setCell ⟨EG, EO2 + P, none⟩ (.bool true)) := (HEW4.out.trans' HE45.out).st (p := ⟨EG, EO2 + P, none⟩) (by simp only; omega) _
  have hs6 : (w5.setCell ⟨EG, EO2 + P, none⟩ (.bool true)).heap.size = w5.heap.size := size_setCell _ _ _
  rw [← List.map_set] at hset
  have HQ6 := Lib.hid hqs6
  have HE6 := Lib.hid hset
  have HXB6 := Lib.hid hxb6
  have HEW6 := Lib.hid hew6
  have HS6 := Lib.hid hs6
  clear hset hqs6 hxb6 hew6 hs6 hG hoe5
  have x0 := cellOf HXO.out 0
  have x1 := cellOf HXO.out 1
  have x2 := cellOf HXO.out 2
  have x3 := cellOf HXO.out 3
  simp only [List.getElem?_toArray, List.getElem?_cons_zero, List.getElem?_cons_succ] at x0 x1 x2 x3
  go_wp2_with fail
  generalize hw6 : w5.setCell ⟨EG, EO2 + P, none⟩ (.bool true) = w6 at *
  clear hw6 hec5 hef5 x0 x1 x2 x3
  have hsz6 : w1.heap.size ≤ w6.heap.size := by have := HS6.out; omega
  have hl6 : (s.ended.set P true).length = l := by rw [List.length_set, HL.out]
  have HL6 := Lib.hid hl6
  clear hl6
  have hcon := concludeP_calls (.slice qa n qc) (.slice (some ⟨EG, EO2, none⟩) l EC2) (.slice ta cl tb) false s.qs (s.ended.set P true) w1.heap.size w6 HQ6.out (by rw [HL6.out]; exact HE6.out) hsz6 HFQ.out (by rw [HL6.out, HN.out]; exact HG3.out)
  rw [reduce_done s.qs HBT.out] at hcon
  have HCON := Lib.hid hcon
  clear hcon
  refine HCON.out.mono ?_
  rintro e w7 ⟨v7, rfl, hQ7, hE7, hC7, hB7⟩
  rw [HL6.out] at hE7
  have HQ7 := Lib.hid hQ7
  have HE7 := Lib.hid hE7
  have HXB7 := Lib.hid ((hB7.block (w.heap.size + 1) (by omega)).trans HXB6.out)
  have HEW7 := Lib.hid (show Ext w w7 from Below.trans HEW6.out (hB7.mono (by omega)))
  clear hQ7 hE7 hB7
  generalize hdb : doneB s.qs (s.ended.set P true) = db at *
  have HDB := Lib.hid hdb
  obtain ⟨ra, rc, rfl, hrc, hsh⟩ := hC7.any
  generalize hclq : (cutB s.qs).length = cl2 at *
  have HCLQ := Lib.hid hclq
  have HC7 := Lib.hid hC7
  clear hdb hclq hsh hC7
  have r0 := cellOf HXB7.out 0
  have r1 := cellOf HXB7.out 1
  have r2 := cellOf HXB7.out 2
  have r3 := cellOf HXB7.out 3
  simp only [List.getElem?_toArray, List.getElem?_cons_zero, List.getElem?_cons_succ] at r0 r1 r2 r3
  have f0 := freeOf HXB7.out 0
  have f1 := freeOf HXB7.out 1
  have f2 := freeOf HXB7.out 2
  have f3 := freeOf HXB7.out 3
  go_wp2
  refine bodyPost_ret (v := .tuple #[.agg #[.slice qa n qc, .slice (some ⟨EG, EO2, none⟩) l EC2, .bool db, .slice ra cl2 rc], .int .i64 0]) (by simp [results, Try.results58, go_sem, r0, r1, r2, r3]) rfl ⟨_, _, _, by rw [← HDB.out]; rfl, ?_, box_ext HEW7.out (by omega) _ _ _ _⟩
  obtain ⟨k1, k2, k3⟩ := box_stored HXB7.out (.slice qa n qc) (.slice (some ⟨EG, EO2, none⟩) l EC2) (.bool db) (.slice ra cl2 rc)
  refine ⟨?_, ?_, ?_⟩
  · exact ((((HQ7.out.stO HXB7.out (by decide) (by decide) (by decide) _).stO (ck_set0 HXB7.out) (by decide) (by decide) (by decide) _).stO (ck_set1 (ck_set0 HXB7.out)) (by decide) (by decide) (by decide) _).stO (ck_set2 (ck_set1 (ck_set0 HXB7.out))) (by decide) (by decide) (by decide) _).mono (by omega)
  · show Row _ _ _ 1 _ (s.ended.set P true).length ((s.ended.set P true).map Value.bool)
    rw [HL6.out]
    exact (k2 HE7.out (by decide)).mono (by omega)
  · show Row _ _ _ 1 _ (cutB s.qs).length ((cutB s.qs).map (Value.int .i64))
    rw [HCLQ.out]
    exact (k2 HC7.out (by decide)).mono (by omega)

set_option maxHeartbeats 8000000 in
set_option maxRecDepth 100000 in
theorem endR_ok (uq ue uc : Value) (s : Ck) (P : Nat) (w : World) (h : CkAt w uq ue uc s) (hs : SmallC s) (hE : endErr s P = 0) :
    Calls Try.prog 62 #[.agg #[uq, ue, .bool s.done, uc], .int .i64 P] w fun e w' => PutOut w w' e (endC s P) := by
  obtain ⟨hval, _, hp2, hdn, hen⟩ := end_parts hE
  rw [Int.toNat_natCast] at hen
  have HVAL := Lib.hid hval
  have hvp := valid_parts.1 hval
  have HBT := Lib.hid hvp.2.1
  have HFQ := Lib.hid (form_fit hvp.1)
  obtain ⟨g1, g2, g3, g4⟩ := form_parts.1 hvp.1
  have HG3 := Lib.hid g3
  have hPn : P < s.qs.length := by omega
  have hPe : P < s.ended.length := by omega
  have HDN := Lib.hid hdn
  have HEN := Lib.hid hen
  have b1 : decide ((P : Int) < 0) = false := by simp
  have b2 : decide ((s.qs.length : Int) ≤ (P : Int)) = false := by simp; omega
  have b2n : decide (s.qs.length ≤ P) = false := by simp; omega
  clear hval g3 g4 hE hdn hen hvp
  have HS := Lib.hid h
  have HSM := Lib.hid hs
  have hs1 := hs.1
  have hs2 := hs.2.1
  obtain ⟨a, c, rfl, hlc⟩ := h.1.shape
  obtain ⟨ea, ec, rfl, hec⟩ := h.2.1.shape
  obtain ⟨ca, cc, hce, hcc, _⟩ := h.2.2
  subst hce
  clear h hs
  generalize hd : s.done = d at *
  have HD := Lib.hid hd
  clear hd
  generalize hn : s.qs.length = n at *
  generalize hl : s.ended.length = l at *
  generalize hcl : s.cut.length = cl at *
  have HN := Lib.hid hn
  have HL := Lib.hid hl
  have HCL := Lib.hid hcl
  clear hn hl hcl
  have HX0 := Lib.hid (((Ext.rf (w.alloc (ckT (.slice a n c) (.slice ea l ec) (.bool d) (.slice ca cl cc)))).al (ckT (.slice none 0 0) (.slice none 0 0) (.bool false) (.slice none 0 0))).hp (heap_alloc_new w (ckT (.slice a n c) (.slice ea l ec) (.bool d) (.slice ca cl cc))))
  have HX1 := Lib.hid (heap_new_eq (w := w.alloc (ckT (.slice a n c) (.slice ea l ec) (.bool d) (.slice ca cl cc))) (o := ckT (.slice none 0 0) (.slice none 0 0) (.bool false) (.slice none 0 0)) (b := w.heap.size + 1) (by simp))
  have HE0 : Hid (Ext w ((w.alloc (ckT (.slice a n c) (.slice ea l ec) (.bool d) (.slice ca cl cc))).alloc (ckT (.slice none 0 0) (.slice none 0 0) (.bool false) (.slice none 0 0)))) := Lib.hid (((Ext.rf w).al _).al _)
  have hsz0 : w.heap.size + 2 ≤ ((w.alloc (ckT (.slice a n c) (.slice ea l ec) (.bool d) (.slice ca cl cc))).alloc (ckT (.slice none 0 0) (.slice none 0 0) (.bool false) (.slice none 0 0))).heap.size := by simp
  obtain rfl : d = false := HDN.out
  go_enter Try.func62, Try.ntmps62
  go_wp2_with fail
  generalize hw0 : (w.alloc (ckT (.slice a n c) (.slice ea l ec) (.bool false) (.slice ca cl cc))).alloc (ckT (.slice none 0 0) (.slice none 0 0) (.bool false) (.slice none 0 0)) = w0 at *
  clear hw0
  have hvc := validR_calls (.slice a n c) (.slice ea l ec) (.slice ca cl cc) s w0 (HS.out.ext HE0.out) HSM.out
  rw [HD.out, HVAL.out] at hvc
  have HVC := Lib.hid hvc
  clear hvc
  refine HVC.out.mono ?_
  rintro e w1 ⟨rfl, hE1⟩
  have HXA := Lib.hid (hE1.hp HX0.out)
  have HXB := Lib.hid (hE1.hp HX1.out)
  have HEW := Lib.hid (HE0.out.trans' hE1)
  have hsz1 := hE1.sz
  clear hE1
  have x0 := cellOf HXA.out 0
  have x1 := cellOf HXA.out 1
  have x2 := cellOf HXA.out 2
  have x3 := cellOf HXA.out 3
  simp only [List.getElem?_toArray, List.getElem?_cons_zero, List.getElem?_cons_succ] at x0 x1 x2 x3
  obtain ⟨EB, EO, EC, ev, hee, _, _, hec0, hev⟩ := HS.out.2.1.at1 P (by rw [HL.out]; omega)
  simp only [Value.slice.injEq] at hee
  obtain ⟨rfl, hnn2, rfl⟩ := hee
  obtain rfl : ev = .bool s.ended[P]! := by simpa [RBool] using hev
  rw [HEN.out] at hec0
  have ce := HEW.out.cl hec0
  have hPz : (0 : Int) ≤ (P : Int) := by omega
  have hPl : (P : Int) < (l : Int) := by omega
  clear hnn2 hev hec0
  go_wp2_with fail
  have hcop := copyR_calls (.slice a n c) (.slice (some ⟨EB, EO, none⟩) l ec) (.slice ca cl cc) s w1 (HS.out.ext HEW.out) HSM.out
  rw [HD.out] at hcop
  have HCOP := Lib.hid hcop
  clear hcop
  refine HCOP.out.mono ?_
  rintro e w4 ⟨vq, ve2, vc2, rfl, hOC, hE4⟩
  rw [HD.out]
  obtain ⟨hoq, hoe, hoc⟩ := hOC
  obtain ⟨qa, qc, rfl, hqc⟩ := hoq.read.shape
  obtain ⟨EG, EO2, EC2, rfl, hEb, hElt, hEc⟩ := hoe.shape (by rw [HL.out]; omega)
  obtain ⟨ta, tb, rfl, htb, hsh⟩ := hoc.any
  clear hsh
  rw [HN.out] at hqc hoq
  rw [HL.out] at hoe
  rw [HN.out, HL.out, HCL.out]
  have HXB4 := Lib.hid (hE4.hp HXB.out)
  have hsz4 := hE4.sz
  have HEW4 := Lib.hid (HEW.out.trans' hE4)
  obtain ⟨eu, hec⟩ := row_some hoe P (by omega)
  have hef := hoe.free (EO2 + P)
  have HOQ := Lib.hid hoq
  have HOE := Lib.hid hoe
  have HE4 := Lib.hid hE4
  have hne4 : EG ≠ w4.heap.size := by omega
  clear hoq hoe hoc hE4 x0 x1 x2 x3 ce
  have hec5 := ((Ext.rf w4).al (ckT (.slice qa n qc) (.slice (some ⟨EG, EO2, none⟩) l EC2) (.bool false) (.slice ta cl tb))).cl hec
  have hef5 := (((Ext.rf w4).al (ckT (.slice qa n qc) (.slice (some ⟨EG, EO2, none⟩) l EC2) (.bool false) (.slice ta cl tb))).frozen (p := ⟨EG, EO2 + P, none⟩) hElt).trans hef
  clear hec hef
  go_upto_region 8 with (fail)
  have HXO := Lib.hid (heap_alloc_new w4 (ckT (.slice qa n qc) (.slice (some ⟨EG, EO2, none⟩) l EC2) (.bool false) (.slice ta cl tb)))
  have HE45 := Lib.hid ((Ext.rf w4).al (ckT (.slice qa n qc) (.slice (some ⟨EG, EO2, none⟩) l EC2) (.bool false) (.slice ta cl tb)))
  have hsz5 : w4.heap.size < (w4.alloc (ckT (.slice qa n qc) (.slice (some ⟨EG, EO2, none⟩) l EC2) (.bool false) (.slice ta cl tb))).heap.size := by simp
  generalize hw5 : w4.alloc (ckT (.slice qa n qc) (.slice (some ⟨EG, EO2, none⟩) l EC2) (.bool false) (.slice ta cl tb)) = w5 at *
  clear hw5
  have hoe5 := HOE.out.ext HE45.out
  obtain ⟨cs, ct, cfr, hG, rfl⟩ := hoe5.block EG rfl
  have hset := hoe5.set P (.bool true) (by omega)
  have hqs6 := (HOQ.out.ext HE45.out).stO (o := EO2 + P) hG (by decide) (by decide) (by decide) (.bool true)
  have hxb6 : (w5.setCell ⟨EG, EO2 + P, none⟩ (.bool true)).heap[w.heap.size + 1]? = some (ckT (.slice none 0 0) (.slice none 0 0) (.bool false) (.slice none 0 0)) := (Below.heap_setCell w5 ⟨EG, EO2 + P, none⟩ (.bool true) (w.heap.size + 1) (by simp only; omega)).trans (HE45.out.hp HXB4.out)
  have hew6 : Ext w (w5.setCell ⟨EG, EO2 + P, none⟩ (.bool true)) := (HEW4.out.trans' HE45.out).st (p := ⟨EG, EO2 + P, none⟩) (by simp only; omega) _
  have hs6 : (w5.setCell ⟨EG, EO2 + P, none⟩ (.bool true)).heap.size = w5.heap.size := size_setCell _ _ _
  rw [← List.map_set] at hset
  have HQ6 := Lib.hid hqs6
  have HE6 := Lib.hid hset
  have HXB6 := Lib.hid hxb6
  have HEW6 := Lib.hid hew6
  have HS6 := Lib.hid hs6
  clear hset hqs6 hxb6 hew6 hs6 hG hoe5
  have x0 := cellOf HXO.out 0
  have x1 := cellOf HXO.out 1
  have x2 := cellOf HXO.out 2
  have x3 := cellOf HXO.out 3
  simp only [List.getElem?_toArray, List.getElem?_cons_zero, List.getElem?_cons_succ] at x0 x1 x2 x3
  go_wp2_with fail
  generalize hw6 : w5.setCell ⟨EG, EO2 + P, none⟩ (.bool true) = w6 at *
  clear hw6 hec5 hef5 x0 x1 x2 x3
  have hsz6 : w1.heap.size ≤ w6.heap.size := by have := HS6.out; omega
  have hl6 : (s.ended.set P true).length = l := by rw [List.length_set, HL.out]
  have HL6 := Lib.hid hl6
  clear hl6
  refine (concludeR_calls (.slice qa n qc) (.slice (some ⟨EG, EO2, none⟩) l EC2) (.slice ta cl tb) false s.qs (s.ended.set P true) w6 (by have := HQ6.out.read; exact this) (by have := HE6.out.bools; exact this) HFQ.out (by rw [HL6.out, HN.out]; exact HG3.out)).mono ?_
  rintro e w7 ⟨v7, rfl, hC7, hE7⟩
  have HQ7 := Lib.hid (HQ6.out.ext hE7)
  have HXB7 := Lib.hid (hE7.hp HXB6.out)
  have HEW7 := Lib.hid (show Ext w w7 from HEW6.out.trans' hE7)
  have HE7 := Lib.hid (HE6.out.ext hE7)
  clear hE7
  generalize hdb : doneB s.qs (s.ended.set P true) = db at *
  have HDB := Lib.hid hdb
  obtain ⟨ra, rc, rfl, hrc, hsh⟩ := hC7.any
  generalize hclq : (cutB s.qs).length = cl2 at *
  have HCLQ := Lib.hid hclq
  have HC7 := Lib.hid hC7
  clear hdb hclq hsh hC7
  have r0 := cellOf HXB7.out 0
  have r1 := cellOf HXB7.out 1
  have r2 := cellOf HXB7.out 2
  have r3 := cellOf HXB7.out 3
  simp only [List.getElem?_toArray, List.getElem?_cons_zero, List.getElem?_cons_succ] at r0 r1 r2 r3
  have f0 := freeOf HXB7.out 0
  have f1 := freeOf HXB7.out 1
  have f2 := freeOf HXB7.out 2
  have f3 := freeOf HXB7.out 3
  go_wp2
  refine bodyPost_ret (v := .tuple #[.agg #[.slice qa n qc, .slice (some ⟨EG, EO2, none⟩) l EC2, .bool db, .slice ra cl2 rc], .int .i64 0]) (by simp [results, Try.results62, go_sem, r0, r1, r2, r3]) rfl ⟨_, _, _, by rw [← HDB.out]; rfl, ?_, box_ext HEW7.out (by omega) _ _ _ _⟩
  obtain ⟨k1, k2, k3⟩ := box_stored HXB7.out (.slice qa n qc) (.slice (some ⟨EG, EO2, none⟩) l EC2) (.bool db) (.slice ra cl2 rc)
  refine ⟨?_, ?_, ?_⟩
  · exact ((((HQ7.out.stO HXB7.out (by decide) (by decide) (by decide) _).stO (ck_set0 HXB7.out) (by decide) (by decide) (by decide) _).stO (ck_set1 (ck_set0 HXB7.out)) (by decide) (by decide) (by decide) _).stO (ck_set2 (ck_set1 (ck_set0 HXB7.out))) (by decide) (by decide) (by decide) _).mono (by omega)
  · show Row _ _ _ 1 _ (s.ended.set P true).length ((s.ended.set P true).map Value.bool)
    rw [HL6.out]
    exact (k2 HE7.out (by decide)).mono (by omega)
  · show Row _ _ _ 1 _ (cutB s.qs).length ((cutB s.qs).map (Value.int .i64))
    rw [HCLQ.out]
    exact (k2 HC7.out (by decide)).mono (by omega)

end Go.Proofs.Ytggofkaakccoeaa
