import Derived.Test.YtggofkaakccoeaaBase
import Derived.Test.YtggofkaakccoeaaProg
import Derived.Test.YtggofkaakccoeaaCkI
import Derived.Test.YtggofkaakccoeaaCkM
import Derived.BigQuiet
import Derived.Deep.QuietTactic
import Derived.Deep.LoopGhost
import Derived.Shelf.Abstract
/-
  Put of the reference's text: all errors.
-/
namespace Go.Proofs.Ytggofkaakccoeaa
open Go.RowKit
set_option linter.unusedVariables false
attribute [local go_sem ↓] Go.wp_at_zero Go.wp_at_succ

set_option maxHeartbeats 8000000 in
set_option maxRecDepth 100000 in
theorem putR_bad (uq ue uc v : Value) (s : Ck) (p : Int) (lv : List Int) (w : World) (E : Int) (h : CkAt w uq ue uc s) (hs : SmallC s) (hv : Ints w v lv) (hvn : lv.length ≤ 1000000) (hE : putErr s p lv = E) (h0 : E ≠ 0) :
    Calls Try.prog 63 #[.agg #[uq, ue, .bool s.done, uc], .int .i64 p, v] w fun e w' => e = .returned (.tuple #[.agg #[.slice none 0 0, .slice none 0 0, .bool false, .slice none 0 0], .int .i64 E]) ∧ Ext w w' := by
  have HPE := Lib.hid (show putErr s p lv = if !validC s then 1
    else if p < 0 ∨ (s.qs.length : Int) ≤ p ∨ stampB lv s.qs.length = false then 2
    else if s.done = true ∨ s.ended[p.toNat]! = true then 6
    else if 0 < s.qs[p.toNat]!.length ∧ afterB s.qs[p.toNat]![s.qs[p.toNat]!.length - 1]! lv p.toNat = false then 11
    else if 65 ≤ s.qs[p.toNat]!.length then 5
    else 0 from rfl)
  rw [hE] at HPE
  clear hE
  cases hval : validC s with
  | false =>
    have hE1 : E = 1 := by rw [HPE.out, hval]; rfl
    have HER := Lib.hid hE1
    have HVAL := Lib.hid hval
    clear h0 hval hE1
    have HVI := Lib.hid hv
    obtain ⟨va, vc, rfl, hvc, _⟩ := hv
    have HS := Lib.hid h
    have HSM := Lib.hid hs
    have hs1 := hs.1
    have hs2 := hs.2.1
    obtain ⟨a, c, rfl, hlc⟩ := h.1.shape
    obtain ⟨ea, ec, rfl, hec⟩ := h.2.1.shape
    obtain ⟨ca, cc, hce, hcc, _⟩ := h.2.2
    subst hce
    clear h hs
    generalize hd : s.done = d at *
    have HD := Lib.hid hd
    clear hd
    generalize hn : s.qs.length = n at *
    generalize hl : s.ended.length = l at *
    generalize hcl : s.cut.length = cl at *
    have HN := Lib.hid hn
    have HL := Lib.hid hl
    have HCL := Lib.hid hcl
    clear hn hl hcl
    have HX0 := Lib.hid (((Ext.rf (w.alloc (ckT (.slice a n c) (.slice ea l ec) (.bool d) (.slice ca cl cc)))).al (ckT (.slice none 0 0) (.slice none 0 0) (.bool false) (.slice none 0 0))).hp (heap_alloc_new w (ckT (.slice a n c) (.slice ea l ec) (.bool d) (.slice ca cl cc))))
    have HX1 := Lib.hid (heap_new_eq (w := w.alloc (ckT (.slice a n c) (.slice ea l ec) (.bool d) (.slice ca cl cc))) (o := ckT (.slice none 0 0) (.slice none 0 0) (.bool false) (.slice none 0 0)) (b := w.heap.size + 1) (by simp))
    have HE0 : Hid (Ext w ((w.alloc (ckT (.slice a n c) (.slice ea l ec) (.bool d) (.slice ca cl cc))).alloc (ckT (.slice none 0 0) (.slice none 0 0) (.bool false) (.slice none 0 0)))) := Lib.hid (((Ext.rf w).al _).al _)
    have hsz0 : w.heap.size + 2 ≤ ((w.alloc (ckT (.slice a n c) (.slice ea l ec) (.bool d) (.slice ca cl cc))).alloc (ckT (.slice none 0 0) (.slice none 0 0) (.bool false) (.slice none 0 0))).heap.size := by simp
    go_enter Try.func63, Try.ntmps63
    go_wp2_with fail
    generalize hw0 : (w.alloc (ckT (.slice a n c) (.slice ea l ec) (.bool d) (.slice ca cl cc))).alloc (ckT (.slice none 0 0) (.slice none 0 0) (.bool false) (.slice none 0 0)) = w0 at *
    clear hw0
    have hvc := validR_calls (.slice a n c) (.slice ea l ec) (.slice ca cl cc) s w0 (HS.out.ext HE0.out) HSM.out
    rw [HD.out, HVAL.out] at hvc
    have HVC := Lib.hid hvc
    clear hvc
    refine HVC.out.mono ?_
    rintro e w1 ⟨rfl, hE1⟩
    have HXA := Lib.hid (hE1.hp HX0.out)
    have HXB := Lib.hid (hE1.hp HX1.out)
    have HEW := Lib.hid (HE0.out.trans' hE1)
    have hsz1 := hE1.sz
    clear hE1
    have x0 := cellOf HXA.out 0
    have x1 := cellOf HXA.out 1
    have x2 := cellOf HXA.out 2
    have x3 := cellOf HXA.out 3
    simp only [List.getElem?_toArray, List.getElem?_cons_zero, List.getElem?_cons_succ] at x0 x1 x2 x3
    have r0 := cellOf HXB.out 0
    have r1 := cellOf HXB.out 1
    have r2 := cellOf HXB.out 2
    have r3 := cellOf HXB.out 3
    simp only [List.getElem?_toArray, List.getElem?_cons_zero, List.getElem?_cons_succ] at r0 r1 r2 r3
    have f0 := freeOf HXB.out 0
    have f1 := freeOf HXB.out 1
    have f2 := freeOf HXB.out 2
    have f3 := freeOf HXB.out 3
    go_wp2
    refine bodyPost_ret (v := .tuple #[.agg #[.slice none 0 0, .slice none 0 0, .bool false, .slice none 0 0], .int .i64 1]) (by simp [results, Try.results63, go_sem, r0, r1, r2, r3]) rfl ⟨by rw [HER.out], box_ext HEW.out (by omega) _ _ _ _⟩
  | true =>
    have HVAL := Lib.hid hval
    rw [hval] at HPE
    obtain ⟨g1, g2, g3, g4⟩ := form_parts.1 (valid_parts.1 hval).1
    have HG4 := Lib.hid g4
    have HG3 := Lib.hid g3
    clear hval g3 g4
    by_cases hp1 : p < 0
    · have b1 : decide (p < 0) = true := by simpa using hp1
      have hE1 : E = 2 := by rw [HPE.out]; simp [hp1]
      have HER := Lib.hid hE1
      clear h0 hE1 hp1
      have HVI := Lib.hid hv
      obtain ⟨va, vc, rfl, hvc, _⟩ := hv
      have HS := Lib.hid h
      have HSM := Lib.hid hs
      have hs1 := hs.1
      have hs2 := hs.2.1
      obtain ⟨a, c, rfl, hlc⟩ := h.1.shape
      obtain ⟨ea, ec, rfl, hec⟩ := h.2.1.shape
      obtain ⟨ca, cc, hce, hcc, _⟩ := h.2.2
      subst hce
      clear h hs
      generalize hd : s.done = d at *
      have HD := Lib.hid hd
      clear hd
      generalize hn : s.qs.length = n at *
      generalize hl : s.ended.length = l at *
      generalize hcl : s.cut.length = cl at *
      have HN := Lib.hid hn
      have HL := Lib.hid hl
      have HCL := Lib.hid hcl
      clear hn hl hcl
      have HX0 := Lib.hid (((Ext.rf (w.alloc (ckT (.slice a n c) (.slice ea l ec) (.bool d) (.slice ca cl cc)))).al (ckT (.slice none 0 0) (.slice none 0 0) (.bool false) (.slice none 0 0))).hp (heap_alloc_new w (ckT (.slice a n c) (.slice ea l ec) (.bool d) (.slice ca cl cc))))
      have HX1 := Lib.hid (heap_new_eq (w := w.alloc (ckT (.slice a n c) (.slice ea l ec) (.bool d) (.slice ca cl cc))) (o := ckT (.slice none 0 0) (.slice none 0 0) (.bool false) (.slice none 0 0)) (b := w.heap.size + 1) (by simp))
      have HE0 : Hid (Ext w ((w.alloc (ckT (.slice a n c) (.slice ea l ec) (.bool d) (.slice ca cl cc))).alloc (ckT (.slice none 0 0) (.slice none 0 0) (.bool false) (.slice none 0 0)))) := Lib.hid (((Ext.rf w).al _).al _)
      have hsz0 : w.heap.size + 2 ≤ ((w.alloc (ckT (.slice a n c) (.slice ea l ec) (.bool d) (.slice ca cl cc))).alloc (ckT (.slice none 0 0) (.slice none 0 0) (.bool false) (.slice none 0 0))).heap.size := by simp
      go_enter Try.func63, Try.ntmps63
      go_wp2_with fail
      generalize hw0 : (w.alloc (ckT (.slice a n c) (.slice ea l ec) (.bool d) (.slice ca cl cc))).alloc (ckT (.slice none 0 0) (.slice none 0 0) (.bool false) (.slice none 0 0)) = w0 at *
      clear hw0
      have hvc := validR_calls (.slice a n c) (.slice ea l ec) (.slice ca cl cc) s w0 (HS.out.ext HE0.out) HSM.out
      rw [HD.out, HVAL.out] at hvc
      have HVC := Lib.hid hvc
      clear hvc
      refine HVC.out.mono ?_
      rintro e w1 ⟨rfl, hE1⟩
      have HXA := Lib.hid (hE1.hp HX0.out)
      have HXB := Lib.hid (hE1.hp HX1.out)
      have HEW := Lib.hid (HE0.out.trans' hE1)
      have hsz1 := hE1.sz
      clear hE1
      have x0 := cellOf HXA.out 0
      have x1 := cellOf HXA.out 1
      have x2 := cellOf HXA.out 2
      have x3 := cellOf HXA.out 3
      simp only [List.getElem?_toArray, List.getElem?_cons_zero, List.getElem?_cons_succ] at x0 x1 x2 x3
      have r0 := cellOf HXB.out 0
      have r1 := cellOf HXB.out 1
      have r2 := cellOf HXB.out 2
      have r3 := cellOf HXB.out 3
      simp only [List.getElem?_toArray, List.getElem?_cons_zero, List.getElem?_cons_succ] at r0 r1 r2 r3
      have f0 := freeOf HXB.out 0
      have f1 := freeOf HXB.out 1
      have f2 := freeOf HXB.out 2
      have f3 := freeOf HXB.out 3
      go_wp2
      refine bodyPost_ret (v := .tuple #[.agg #[.slice none 0 0, .slice none 0 0, .bool false, .slice none 0 0], .int .i64 2]) (by simp [results, Try.results63, go_sem, r0, r1, r2, r3]) rfl ⟨by rw [HER.out], box_ext HEW.out (by omega) _ _ _ _⟩
    have b1 : decide (p < 0) = false := by simpa using hp1
    by_cases hp2 : (s.qs.length : Int) ≤ p
    · have hE1 : E = 2 := by rw [HPE.out]; simp [hp2]
      have HER := Lib.hid hE1
      have b2 : decide ((s.qs.length : Int) ≤ p) = true := by simpa using hp2
      clear h0 hE1 hp2
      have HVI := Lib.hid hv
      obtain ⟨va, vc, rfl, hvc, _⟩ := hv
      have HS := Lib.hid h
      have HSM := Lib.hid hs
      have hs1 := hs.1
      have hs2 := hs.2.1
      obtain ⟨a, c, rfl, hlc⟩ := h.1.shape
      obtain ⟨ea, ec, rfl, hec⟩ := h.2.1.shape
      obtain ⟨ca, cc, hce, hcc, _⟩ := h.2.2
      subst hce
      clear h hs
      generalize hd : s.done = d at *
      have HD := Lib.hid hd
      clear hd
      generalize hn : s.qs.length = n at *
      generalize hl : s.ended.length = l at *
      generalize hcl : s.cut.length = cl at *
      have HN := Lib.hid hn
      have HL := Lib.hid hl
      have HCL := Lib.hid hcl
      clear hn hl hcl
      have HX0 := Lib.hid (((Ext.rf (w.alloc (ckT (.slice a n c) (.slice ea l ec) (.bool d) (.slice ca cl cc)))).al (ckT (.slice none 0 0) (.slice none 0 0) (.bool false) (.slice none 0 0))).hp (heap_alloc_new w (ckT (.slice a n c) (.slice ea l ec) (.bool d) (.slice ca cl cc))))
      have HX1 := Lib.hid (heap_new_eq (w := w.alloc (ckT (.slice a n c) (.slice ea l ec) (.bool d) (.slice ca cl cc))) (o := ckT (.slice none 0 0) (.slice none 0 0) (.bool false) (.slice none 0 0)) (b := w.heap.size + 1) (by simp))
      have HE0 : Hid (Ext w ((w.alloc (ckT (.slice a n c) (.slice ea l ec) (.bool d) (.slice ca cl cc))).alloc (ckT (.slice none 0 0) (.slice none 0 0) (.bool false) (.slice none 0 0)))) := Lib.hid (((Ext.rf w).al _).al _)
      have hsz0 : w.heap.size + 2 ≤ ((w.alloc (ckT (.slice a n c) (.slice ea l ec) (.bool d) (.slice ca cl cc))).alloc (ckT (.slice none 0 0) (.slice none 0 0) (.bool false) (.slice none 0 0))).heap.size := by simp
      go_enter Try.func63, Try.ntmps63
      go_wp2_with fail
      generalize hw0 : (w.alloc (ckT (.slice a n c) (.slice ea l ec) (.bool d) (.slice ca cl cc))).alloc (ckT (.slice none 0 0) (.slice none 0 0) (.bool false) (.slice none 0 0)) = w0 at *
      clear hw0
      have hvc := validR_calls (.slice a n c) (.slice ea l ec) (.slice ca cl cc) s w0 (HS.out.ext HE0.out) HSM.out
      rw [HD.out, HVAL.out] at hvc
      have HVC := Lib.hid hvc
      clear hvc
      refine HVC.out.mono ?_
      rintro e w1 ⟨rfl, hE1⟩
      have HXA := Lib.hid (hE1.hp HX0.out)
      have HXB := Lib.hid (hE1.hp HX1.out)
      have HEW := Lib.hid (HE0.out.trans' hE1)
      have hsz1 := hE1.sz
      clear hE1
      have x0 := cellOf HXA.out 0
      have x1 := cellOf HXA.out 1
      have x2 := cellOf HXA.out 2
      have x3 := cellOf HXA.out 3
      simp only [List.getElem?_toArray, List.getElem?_cons_zero, List.getElem?_cons_succ] at x0 x1 x2 x3
      have r0 := cellOf HXB.out 0
      have r1 := cellOf HXB.out 1
      have r2 := cellOf HXB.out 2
      have r3 := cellOf HXB.out 3
      simp only [List.getElem?_toArray, List.getElem?_cons_zero, List.getElem?_cons_succ] at r0 r1 r2 r3
      have f0 := freeOf HXB.out 0
      have f1 := freeOf HXB.out 1
      have f2 := freeOf HXB.out 2
      have f3 := freeOf HXB.out 3
      go_wp2
      refine bodyPost_ret (v := .tuple #[.agg #[.slice none 0 0, .slice none 0 0, .bool false, .slice none 0 0], .int .i64 2]) (by simp [results, Try.results63, go_sem, r0, r1, r2, r3]) rfl ⟨by rw [HER.out], box_ext HEW.out (by omega) _ _ _ _⟩
    have b2 : decide ((s.qs.length : Int) ≤ p) = false := by simpa using hp2
    obtain ⟨P, rfl⟩ : ∃ P : Nat, p = P := ⟨p.toNat, by omega⟩
    have hPn : P < s.qs.length := by omega
    cases hst : stampB lv s.qs.length with
    | false =>
      have hE1 : E = 2 := by rw [HPE.out, hst]; simp
      have HER := Lib.hid hE1
      have HSB := Lib.hid (fun W (hW : Ext w W) => stampR_calls v lv s.qs.length W (hv.ext hW) hvn)
      rw [hst] at HSB
      clear h0 hE1 hst
      have HVI := Lib.hid hv
      obtain ⟨va, vc, rfl, hvc, _⟩ := hv
      have HS := Lib.hid h
      have HSM := Lib.hid hs
      have hs1 := hs.1
      have hs2 := hs.2.1
      obtain ⟨a, c, rfl, hlc⟩ := h.1.shape
      obtain ⟨ea, ec, rfl, hec⟩ := h.2.1.shape
      obtain ⟨ca, cc, hce, hcc, _⟩ := h.2.2
      subst hce
      clear h hs
      generalize hd : s.done = d at *
      have HD := Lib.hid hd
      clear hd
      generalize hn : s.qs.length = n at *
      generalize hl : s.ended.length = l at *
      generalize hcl : s.cut.length = cl at *
      have HN := Lib.hid hn
      have HL := Lib.hid hl
      have HCL := Lib.hid hcl
      clear hn hl hcl
      have HX0 := Lib.hid (((Ext.rf (w.alloc (ckT (.slice a n c) (.slice ea l ec) (.bool d) (.slice ca cl cc)))).al (ckT (.slice none 0 0) (.slice none 0 0) (.bool false) (.slice none 0 0))).hp (heap_alloc_new w (ckT (.slice a n c) (.slice ea l ec) (.bool d) (.slice ca cl cc))))
      have HX1 := Lib.hid (heap_new_eq (w := w.alloc (ckT (.slice a n c) (.slice ea l ec) (.bool d) (.slice ca cl cc))) (o := ckT (.slice none 0 0) (.slice none 0 0) (.bool false) (.slice none 0 0)) (b := w.heap.size + 1) (by simp))
      have HE0 : Hid (Ext w ((w.alloc (ckT (.slice a n c) (.slice ea l ec) (.bool d) (.slice ca cl cc))).alloc (ckT (.slice none 0 0) (.slice none 0 0) (.bool false) (.slice none 0 0)))) := Lib.hid (((Ext.rf w).al _).al _)
      have hsz0 : w.heap.size + 2 ≤ ((w.alloc (ckT (.slice a n c) (.slice ea l ec) (.bool d) (.slice ca cl cc))).alloc (ckT (.slice none 0 0) (.slice none 0 0) (.bool false) (.slice none 0 0))).heap.size := by simp
      go_enter Try.func63, Try.ntmps63
      go_wp2_with fail
      generalize hw0 : (w.alloc (ckT (.slice a n c) (.slice ea l ec) (.bool d) (.slice ca cl cc))).alloc (ckT (.slice none 0 0) (.slice none 0 0) (.bool false) (.slice none 0 0)) = w0 at *
      clear hw0
      have hvc := validR_calls (.slice a n c) (.slice ea l ec) (.slice ca cl cc) s w0 (HS.out.ext HE0.out) HSM.out
      rw [HD.out, HVAL.out] at hvc
      have HVC := Lib.hid hvc
      clear hvc
      refine HVC.out.mono ?_
      rintro e w1 ⟨rfl, hE1⟩
      have HXA := Lib.hid (hE1.hp HX0.out)
      have HXB := Lib.hid (hE1.hp HX1.out)
      have HEW := Lib.hid (HE0.out.trans' hE1)
      have hsz1 := hE1.sz
      clear hE1
      have x0 := cellOf HXA.out 0
      have x1 := cellOf HXA.out 1
      have x2 := cellOf HXA.out 2
      have x3 := cellOf HXA.out 3
      simp only [List.getElem?_toArray, List.getElem?_cons_zero, List.getElem?_cons_succ] at x0 x1 x2 x3
      go_wp2_with fail
      refine (HSB.out w1 HEW.out).mono ?_
      rintro e w2 ⟨rfl, hD2⟩
      have HXA := Lib.hid (hD2.ext.hp HXA.out)
      have HXB := Lib.hid (hD2.ext.hp HXB.out)
      have HEW := Lib.hid (HEW.out.trans' hD2.ext)
      have hsz2 := hD2.ext.sz
      clear hD2 x0 x1 x2 x3
      have x0 := cellOf HXA.out 0
      have x1 := cellOf HXA.out 1
      have x2 := cellOf HXA.out 2
      have x3 := cellOf HXA.out 3
      simp only [List.getElem?_toArray, List.getElem?_cons_zero, List.getElem?_cons_succ] at x0 x1 x2 x3
      have r0 := cellOf HXB.out 0
      have r1 := cellOf HXB.out 1
      have r2 := cellOf HXB.out 2
      have r3 := cellOf HXB.out 3
      simp only [List.getElem?_toArray, List.getElem?_cons_zero, List.getElem?_cons_succ] at r0 r1 r2 r3
      have f0 := freeOf HXB.out 0
      have f1 := freeOf HXB.out 1
      have f2 := freeOf HXB.out 2
      have f3 := freeOf HXB.out 3
      go_wp2
      refine bodyPost_ret (v := .tuple #[.agg #[.slice none 0 0, .slice none 0 0, .bool false, .slice none 0 0], .int .i64 2]) (by simp [results, Try.results63, go_sem, r0, r1, r2, r3]) rfl ⟨by rw [HER.out], box_ext HEW.out (by omega) _ _ _ _⟩
    | true =>
      have HSTB := Lib.hid hst
      have HSB := Lib.hid (fun W (hW : Ext w W) => stampR_calls v lv s.qs.length W (hv.ext hW) hvn)
      rw [hst] at HSB
      have HPE := Lib.hid (show E = if s.done = true ∨ s.ended[P]! = true then 6
        else if 0 < s.qs[P]!.length ∧ afterB s.qs[P]![s.qs[P]!.length - 1]! lv P = false then 11
        else if 65 ≤ s.qs[P]!.length then 5
        else 0 from by rw [HPE.out, if_neg (by simp), if_neg (by rw [hst]; simp; omega), Int.toNat_natCast])
      clear hst
      have hPe : P < s.ended.length := by rw [HG3.out]; exact hPn
      cases hdn : s.done with
      | true =>
        have hE1 : E = 6 := by rw [HPE.out, if_pos (.inl hdn)]
        have HER := Lib.hid hE1
        rw [← hdn]
        have HDN := Lib.hid hdn
        clear h0 hE1 hdn
        have HVI := Lib.hid hv
        obtain ⟨va, vc, rfl, hvc, _⟩ := hv
        have HS := Lib.hid h
        have HSM := Lib.hid hs
        have hs1 := hs.1
        have hs2 := hs.2.1
        obtain ⟨a, c, rfl, hlc⟩ := h.1.shape
        obtain ⟨ea, ec, rfl, hec⟩ := h.2.1.shape
        obtain ⟨ca, cc, hce, hcc, _⟩ := h.2.2
        subst hce
        clear h hs
        generalize hd : s.done = d at *
        have HD := Lib.hid hd
        clear hd
        generalize hn : s.qs.length = n at *
        generalize hl : s.ended.length = l at *
        generalize hcl : s.cut.length = cl at *
        have HN := Lib.hid hn
        have HL := Lib.hid hl
        have HCL := Lib.hid hcl
        clear hn hl hcl
        have HX0 := Lib.hid (((Ext.rf (w.alloc (ckT (.slice a n c) (.slice ea l ec) (.bool d) (.slice ca cl cc)))).al (ckT (.slice none 0 0) (.slice none 0 0) (.bool false) (.slice none 0 0))).hp (heap_alloc_new w (ckT (.slice a n c) (.slice ea l ec) (.bool d) (.slice ca cl cc))))
        have HX1 := Lib.hid (heap_new_eq (w := w.alloc (ckT (.slice a n c) (.slice ea l ec) (.bool d) (.slice ca cl cc))) (o := ckT (.slice none 0 0) (.slice none 0 0) (.bool false) (.slice none 0 0)) (b := w.heap.size + 1) (by simp))
        have HE0 : Hid (Ext w ((w.alloc (ckT (.slice a n c) (.slice ea l ec) (.bool d) (.slice ca cl cc))).alloc (ckT (.slice none 0 0) (.slice none 0 0) (.bool false) (.slice none 0 0)))) := Lib.hid (((Ext.rf w).al _).al _)
        have hsz0 : w.heap.size + 2 ≤ ((w.alloc (ckT (.slice a n c) (.slice ea l ec) (.bool d) (.slice ca cl cc))).alloc (ckT (.slice none 0 0) (.slice none 0 0) (.bool false) (.slice none 0 0))).heap.size := by simp
        obtain rfl : d = true := HDN.out
        go_enter Try.func63, Try.ntmps63
        go_wp2_with fail
        generalize hw0 : (w.alloc (ckT (.slice a n c) (.slice ea l ec) (.bool true) (.slice ca cl cc))).alloc (ckT (.slice none 0 0) (.slice none 0 0) (.bool false) (.slice none 0 0)) = w0 at *
        clear hw0
        have hvc := validR_calls (.slice a n c) (.slice ea l ec) (.slice ca cl cc) s w0 (HS.out.ext HE0.out) HSM.out
        rw [HD.out, HVAL.out] at hvc
        have HVC := Lib.hid hvc
        clear hvc
        refine HVC.out.mono ?_
        rintro e w1 ⟨rfl, hE1⟩
        have HXA := Lib.hid (hE1.hp HX0.out)
        have HXB := Lib.hid (hE1.hp HX1.out)
        have HEW := Lib.hid (HE0.out.trans' hE1)
        have hsz1 := hE1.sz
        clear hE1
        have x0 := cellOf HXA.out 0
        have x1 := cellOf HXA.out 1
        have x2 := cellOf HXA.out 2
        have x3 := cellOf HXA.out 3
        simp only [List.getElem?_toArray, List.getElem?_cons_zero, List.getElem?_cons_succ] at x0 x1 x2 x3
        go_wp2_with fail
        refine (HSB.out w1 HEW.out).mono ?_
        rintro e w2 ⟨rfl, hD2⟩
        have HXA := Lib.hid (hD2.ext.hp HXA.out)
        have HXB := Lib.hid (hD2.ext.hp HXB.out)
        have HEW := Lib.hid (HEW.out.trans' hD2.ext)
        have hsz2 := hD2.ext.sz
        clear hD2 x0 x1 x2 x3
        have x0 := cellOf HXA.out 0
        have x1 := cellOf HXA.out 1
        have x2 := cellOf HXA.out 2
        have x3 := cellOf HXA.out 3
        simp only [List.getElem?_toArray, List.getElem?_cons_zero, List.getElem?_cons_succ] at x0 x1 x2 x3
        have r0 := cellOf HXB.out 0
        have r1 := cellOf HXB.out 1
        have r2 := cellOf HXB.out 2
        have r3 := cellOf HXB.out 3
        simp only [List.getElem?_toArray, List.getElem?_cons_zero, List.getElem?_cons_succ] at r0 r1 r2 r3
        have f0 := freeOf HXB.out 0
        have f1 := freeOf HXB.out 1
        have f2 := freeOf HXB.out 2
        have f3 := freeOf HXB.out 3
        go_wp2
        refine bodyPost_ret (v := .tuple #[.agg #[.slice none 0 0, .slice none 0 0, .bool false, .slice none 0 0], .int .i64 6]) (by simp [results, Try.results63, go_sem, r0, r1, r2, r3]) rfl ⟨by rw [HER.out], box_ext HEW.out (by omega) _ _ _ _⟩
      | false =>
        have HDN := Lib.hid hdn
        rw [← hdn]
        clear hdn
        cases hen : s.ended[P]! with
        | true =>
          have hE1 : E = 6 := by rw [HPE.out, if_pos (.inr hen)]
          have HER := Lib.hid hE1
          have HEN := Lib.hid hen
          clear h0 hE1 hen
          have HVI := Lib.hid hv
          obtain ⟨va, vc, rfl, hvc, _⟩ := hv
          have HS := Lib.hid h
          have HSM := Lib.hid hs
          have hs1 := hs.1
          have hs2 := hs.2.1
          obtain ⟨a, c, rfl, hlc⟩ := h.1.shape
          obtain ⟨ea, ec, rfl, hec⟩ := h.2.1.shape
          obtain ⟨ca, cc, hce, hcc, _⟩ := h.2.2
          subst hce
          clear h hs
          generalize hd : s.done = d at *
          have HD := Lib.hid hd
          clear hd
          generalize hn : s.qs.length = n at *
          generalize hl : s.ended.length = l at *
          generalize hcl : s.cut.length = cl at *
          have HN := Lib.hid hn
          have HL := Lib.hid hl
          have HCL := Lib.hid hcl
          clear hn hl hcl
          have HX0 := Lib.hid (((Ext.rf (w.alloc (ckT (.slice a n c) (.slice ea l ec) (.bool d) (.slice ca cl cc)))).al (ckT (.slice none 0 0) (.slice none 0 0) (.bool false) (.slice none 0 0))).hp (heap_alloc_new w (ckT (.slice a n c) (.slice ea l ec) (.bool d) (.slice ca cl cc))))
          have HX1 := Lib.hid (heap_new_eq (w := w.alloc (ckT (.slice a n c) (.slice ea l ec) (.bool d) (.slice ca cl cc))) (o := ckT (.slice none 0 0) (.slice none 0 0) (.bool false) (.slice none 0 0)) (b := w.heap.size + 1) (by simp))
          have HE0 : Hid (Ext w ((w.alloc (ckT (.slice a n c) (.slice ea l ec) (.bool d) (.slice ca cl cc))).alloc (ckT (.slice none 0 0) (.slice none 0 0) (.bool false) (.slice none 0 0)))) := Lib.hid (((Ext.rf w).al _).al _)
          have hsz0 : w.heap.size + 2 ≤ ((w.alloc (ckT (.slice a n c) (.slice ea l ec) (.bool d) (.slice ca cl cc))).alloc (ckT (.slice none 0 0) (.slice none 0 0) (.bool false) (.slice none 0 0))).heap.size := by simp
          obtain rfl : d = false := HDN.out
          go_enter Try.func63, Try.ntmps63
          go_wp2_with fail
          generalize hw0 : (w.alloc (ckT (.slice a n c) (.slice ea l ec) (.bool false) (.slice ca cl cc))).alloc (ckT (.slice none 0 0) (.slice none 0 0) (.bool false) (.slice none 0 0)) = w0 at *
          clear hw0
          have hvc := validR_calls (.slice a n c) (.slice ea l ec) (.slice ca cl cc) s w0 (HS.out.ext HE0.out) HSM.out
          rw [HD.out, HVAL.out] at hvc
          have HVC := Lib.hid hvc
          clear hvc
          refine HVC.out.mono ?_
          rintro e w1 ⟨rfl, hE1⟩
          have HXA := Lib.hid (hE1.hp HX0.out)
          have HXB := Lib.hid (hE1.hp HX1.out)
          have HEW := Lib.hid (HE0.out.trans' hE1)
          have hsz1 := hE1.sz
          clear hE1
          have x0 := cellOf HXA.out 0
          have x1 := cellOf HXA.out 1
          have x2 := cellOf HXA.out 2
          have x3 := cellOf HXA.out 3
          simp only [List.getElem?_toArray, List.getElem?_cons_zero, List.getElem?_cons_succ] at x0 x1 x2 x3
          go_wp2_with fail
          refine (HSB.out w1 HEW.out).mono ?_
          rintro e w2 ⟨rfl, hD2⟩
          have HXA := Lib.hid (hD2.ext.hp HXA.out)
          have HXB := Lib.hid (hD2.ext.hp HXB.out)
          have HEW := Lib.hid (HEW.out.trans' hD2.ext)
          have hsz2 := hD2.ext.sz
          clear hD2 x0 x1 x2 x3
          have x0 := cellOf HXA.out 0
          have x1 := cellOf HXA.out 1
          have x2 := cellOf HXA.out 2
          have x3 := cellOf HXA.out 3
          simp only [List.getElem?_toArray, List.getElem?_cons_zero, List.getElem?_cons_succ] at x0 x1 x2 x3
          obtain ⟨EB, EO, EC, ev, hee, _, _, hec0, hev⟩ := HS.out.2.1.at1 P (by rw [HL.out]; omega)
          simp only [Value.slice.injEq] at hee
          obtain ⟨rfl, hnn2, rfl⟩ := hee
          obtain rfl : ev = .bool s.ended[P]! := by simpa [RBool] using hev
          rw [HEN.out] at hec0
          have ce := HEW.out.cl hec0
          have hPz : (0 : Int) ≤ (P : Int) := by omega
          have hPl : (P : Int) < (l : Int) := by omega
          clear hnn2 hev hec0
          have r0 := cellOf HXB.out 0
          have r1 := cellOf HXB.out 1
          have r2 := cellOf HXB.out 2
          have r3 := cellOf HXB.out 3
          simp only [List.getElem?_toArray, List.getElem?_cons_zero, List.getElem?_cons_succ] at r0 r1 r2 r3
          have f0 := freeOf HXB.out 0
          have f1 := freeOf HXB.out 1
          have f2 := freeOf HXB.out 2
          have f3 := freeOf HXB.out 3
          go_wp2
          refine bodyPost_ret (v := .tuple #[.agg #[.slice none 0 0, .slice none 0 0, .bool false, .slice none 0 0], .int .i64 6]) (by simp [results, Try.results63, go_sem, r0, r1, r2, r3]) rfl ⟨by rw [HER.out], box_ext HEW.out (by omega) _ _ _ _⟩
        | false =>
          have HPE := Lib.hid (show E = if 0 < s.qs[P]!.length ∧ afterB s.qs[P]![s.qs[P]!.length - 1]! lv P = false then 11
            else if 65 ≤ s.qs[P]!.length then 5
            else 0 from by rw [HPE.out, if_neg (by rw [HDN.out, hen]; simp)])
          have HEN := Lib.hid hen
          clear hen
          cases haf : (decide (0 < s.qs[P]!.length) && !afterB s.qs[P]![s.qs[P]!.length - 1]! lv P) with
          | true =>
            simp only [Bool.and_eq_true, decide_eq_true_eq, Bool.not_eq_true'] at haf
            have hE1 : E = 11 := by rw [HPE.out, if_pos ⟨haf.1, haf.2⟩]
            have HER := Lib.hid hE1
            have hql := haf.1
            have HAF := Lib.hid haf.2
            clear h0 hE1 haf
            have HVI := Lib.hid hv
            obtain ⟨va, vc, rfl, hvc, _⟩ := hv
            have HS := Lib.hid h
            have HSM := Lib.hid hs
            have hs1 := hs.1
            have hs2 := hs.2.1
            obtain ⟨a, c, rfl, hlc⟩ := h.1.shape
            obtain ⟨ea, ec, rfl, hec⟩ := h.2.1.shape
            obtain ⟨ca, cc, hce, hcc, _⟩ := h.2.2
            subst hce
            clear h hs
            generalize hd : s.done = d at *
            have HD := Lib.hid hd
            clear hd
            generalize hn : s.qs.length = n at *
            generalize hl : s.ended.length = l at *
            generalize hcl : s.cut.length = cl at *
            have HN := Lib.hid hn
            have HL := Lib.hid hl
            have HCL := Lib.hid hcl
            clear hn hl hcl
            have HX0 := Lib.hid (((Ext.rf (w.alloc (ckT (.slice a n c) (.slice ea l ec) (.bool d) (.slice ca cl cc)))).al (ckT (.slice none 0 0) (.slice none 0 0) (.bool false) (.slice none 0 0))).hp (heap_alloc_new w (ckT (.slice a n c) (.slice ea l ec) (.bool d) (.slice ca cl cc))))
            have HX1 := Lib.hid (heap_new_eq (w := w.alloc (ckT (.slice a n c) (.slice ea l ec) (.bool d) (.slice ca cl cc))) (o := ckT (.slice none 0 0) (.slice none 0 0) (.bool false) (.slice none 0 0)) (b := w.heap.size + 1) (by simp))
            have HE0 : Hid (Ext w ((w.alloc (ckT (.slice a n c) (.slice ea l ec) (.bool d) (.slice ca cl cc))).alloc (ckT (.slice none 0 0) (.slice none 0 0) (.bool false) (.slice none 0 0)))) := Lib.hid (((Ext.rf w).al _).al _)
            have hsz0 : w.heap.size + 2 ≤ ((w.alloc (ckT (.slice a n c) (.slice ea l ec) (.bool d) (.slice ca cl cc))).alloc (ckT (.slice none 0 0) (.slice none 0 0) (.bool false) (.slice none 0 0))).heap.size := by simp
            obtain rfl : d = false := HDN.out
            go_enter Try.func63, Try.ntmps63
            go_wp2_with fail
            generalize hw0 : (w.alloc (ckT (.slice a n c) (.slice ea l ec) (.bool false) (.slice ca cl cc))).alloc (ckT (.slice none 0 0) (.slice none 0 0) (.bool false) (.slice none 0 0)) = w0 at *
            clear hw0
            have hvc := validR_calls (.slice a n c) (.slice ea l ec) (.slice ca cl cc) s w0 (HS.out.ext HE0.out) HSM.out
            rw [HD.out, HVAL.out] at hvc
            have HVC := Lib.hid hvc
            clear hvc
            refine HVC.out.mono ?_
            rintro e w1 ⟨rfl, hE1⟩
            have HXA := Lib.hid (hE1.hp HX0.out)
            have HXB := Lib.hid (hE1.hp HX1.out)
            have HEW := Lib.hid (HE0.out.trans' hE1)
            have hsz1 := hE1.sz
            clear hE1
            have x0 := cellOf HXA.out 0
            have x1 := cellOf HXA.out 1
            have x2 := cellOf HXA.out 2
            have x3 := cellOf HXA.out 3
            simp only [List.getElem?_toArray, List.getElem?_cons_zero, List.getElem?_cons_succ] at x0 x1 x2 x3
            go_wp2_with fail
            refine (HSB.out w1 HEW.out).mono ?_
            rintro e w2 ⟨rfl, hD2⟩
            have HXA := Lib.hid (hD2.ext.hp HXA.out)
            have HXB := Lib.hid (hD2.ext.hp HXB.out)
            have HEW := Lib.hid (HEW.out.trans' hD2.ext)
            have hsz2 := hD2.ext.sz
            clear hD2 x0 x1 x2 x3
            have x0 := cellOf HXA.out 0
            have x1 := cellOf HXA.out 1
            have x2 := cellOf HXA.out 2
            have x3 := cellOf HXA.out 3
            simp only [List.getElem?_toArray, List.getElem?_cons_zero, List.getElem?_cons_succ] at x0 x1 x2 x3
            obtain ⟨EB, EO, EC, ev, hee, _, _, hec0, hev⟩ := HS.out.2.1.at1 P (by rw [HL.out]; omega)
            simp only [Value.slice.injEq] at hee
            obtain ⟨rfl, hnn2, rfl⟩ := hee
            obtain rfl : ev = .bool s.ended[P]! := by simpa [RBool] using hev
            rw [HEN.out] at hec0
            have ce := HEW.out.cl hec0
            have hPz : (0 : Int) ≤ (P : Int) := by omega
            have hPl : (P : Int) < (l : Int) := by omega
            clear hnn2 hev hec0
            obtain ⟨B, O, C, a1, m1, c1, hue0, hcp0, M1, hmc1, HS1⟩ := queue_at HS.out.1 P (by rw [HN.out]; omega)
            simp only [Value.slice.injEq] at hue0
            obtain ⟨rfl, hnn, rfl⟩ := hue0
            have HCP := Lib.hid hcp0
            have hcp := HEW.out.cl hcp0
            have HM1 := Lib.hid M1
            have HQS := Lib.hid HS1
            have hPn1 : (P : Int) < (n : Int) := by omega
            have hm1b := (HSM.out.2.2.2 P (by rw [HN.out]; omega)).1
            rw [← M1] at hm1b
            clear M1 HS1 hnn hcp0
            have hm1p : 0 < m1 := by rw [HM1.out]; exact hql
            have c1' : decide (0 < (m1 : Int)) = true := by simp; omega
            have c1n : decide (0 < m1) = true := by simp; omega
            have hz1 : (0 : Int) ≤ (m1 : Int) - 1 := by omega
            have hz2 : (m1 : Int) - 1 < (m1 : Int) := by omega
            have hz3 : ((m1 : Int) - 1).toNat = m1 - 1 := by omega
            have hz4 : (1 : Int) ≤ (m1 : Int) := by omega
            obtain ⟨b', o', pv, rfl, hcj0, hpv⟩ := stamp_at HQS.out (m1 - 1) (by rw [← HM1.out]; omega)
            have hcj := HEW.out.cl hcj0
            have HPV := Lib.hid hpv
            have hplen := stamp_len ((queue_parts.1 (HG4.out P (by omega))).2 (m1 - 1) (by rw [← HM1.out]; omega)).1
            clear hcj0 hpv
            have haf := afterR_calls pv (.slice va lv.length vc) s.qs[P]![m1 - 1]! lv n P w2 (HPV.out.ext HEW.out) (HVI.out.ext HEW.out) hplen (by have := stamp_len HSTB.out; omega) (by omega) (by omega)
            rw [show m1 - 1 = s.qs[P]!.length - 1 from by rw [HM1.out], HAF.out] at haf
            have HAC := Lib.hid haf
            clear haf hplen
            go_wp2_with fail
            refine HAC.out.mono ?_
            rintro e w3 ⟨rfl, hD3⟩
            have HXA := Lib.hid (hD3.ext.hp HXA.out)
            have HXB := Lib.hid (hD3.ext.hp HXB.out)
            have HEW := Lib.hid (HEW.out.trans' hD3.ext)
            have hsz3 := hD3.ext.sz
            clear hD3 x0 x1 x2 x3
            have x0 := cellOf HXA.out 0
            have x1 := cellOf HXA.out 1
            have x2 := cellOf HXA.out 2
            have x3 := cellOf HXA.out 3
            simp only [List.getElem?_toArray, List.getElem?_cons_zero, List.getElem?_cons_succ] at x0 x1 x2 x3
            have r0 := cellOf HXB.out 0
            have r1 := cellOf HXB.out 1
            have r2 := cellOf HXB.out 2
            have r3 := cellOf HXB.out 3
            simp only [List.getElem?_toArray, List.getElem?_cons_zero, List.getElem?_cons_succ] at r0 r1 r2 r3
            have f0 := freeOf HXB.out 0
            have f1 := freeOf HXB.out 1
            have f2 := freeOf HXB.out 2
            have f3 := freeOf HXB.out 3
            go_wp2
            refine bodyPost_ret (v := .tuple #[.agg #[.slice none 0 0, .slice none 0 0, .bool false, .slice none 0 0], .int .i64 11]) (by simp [results, Try.results63, go_sem, r0, r1, r2, r3]) rfl ⟨by rw [HER.out], box_ext HEW.out (by omega) _ _ _ _⟩
          | false =>
            have hna : ¬ (0 < s.qs[P]!.length ∧ afterB s.qs[P]![s.qs[P]!.length - 1]! lv P = false) := by
              rintro ⟨k1, k2⟩; rw [decide_eq_true k1, k2] at haf; simp at haf
            have hE5 : E = 5 ∧ 65 ≤ s.qs[P]!.length := by
              by_cases h65 : 65 ≤ s.qs[P]!.length
              · exact ⟨by rw [HPE.out, if_neg hna, if_pos h65], h65⟩
              · exact absurd (by rw [HPE.out, if_neg hna, if_neg h65]) h0
            have HER := Lib.hid hE5.1
            have h65 := hE5.2
            have hql : 0 < s.qs[P]!.length := by omega
            have HAF := Lib.hid (show afterB s.qs[P]![s.qs[P]!.length - 1]! lv P = true from by
              cases hq : afterB s.qs[P]![s.qs[P]!.length - 1]! lv P with
              | true => rfl
              | false => exact absurd ⟨hql, hq⟩ hna)
            clear h0 haf hna hE5
            have HVI := Lib.hid hv
            obtain ⟨va, vc, rfl, hvc, _⟩ := hv
            have HS := Lib.hid h
            have HSM := Lib.hid hs
            have hs1 := hs.1
            have hs2 := hs.2.1
            obtain ⟨a, c, rfl, hlc⟩ := h.1.shape
            obtain ⟨ea, ec, rfl, hec⟩ := h.2.1.shape
            obtain ⟨ca, cc, hce, hcc, _⟩ := h.2.2
            subst hce
            clear h hs
            generalize hd : s.done = d at *
            have HD := Lib.hid hd
            clear hd
            generalize hn : s.qs.length = n at *
            generalize hl : s.ended.length = l at *
            generalize hcl : s.cut.length = cl at *
            have HN := Lib.hid hn
            have HL := Lib.hid hl
            have HCL := Lib.hid hcl
            clear hn hl hcl
            have HX0 := Lib.hid (((Ext.rf (w.alloc (ckT (.slice a n c) (.slice ea l ec) (.bool d) (.slice ca cl cc)))).al (ckT (.slice none 0 0) (.slice none 0 0) (.bool false) (.slice none 0 0))).hp (heap_alloc_new w (ckT (.slice a n c) (.slice ea l ec) (.bool d) (.slice ca cl cc))))
            have HX1 := Lib.hid (heap_new_eq (w := w.alloc (ckT (.slice a n c) (.slice ea l ec) (.bool d) (.slice ca cl cc))) (o := ckT (.slice none 0 0) (.slice none 0 0) (.bool false) (.slice none 0 0)) (b := w.heap.size + 1) (by simp))
            have HE0 : Hid (Ext w ((w.alloc (ckT (.slice a n c) (.slice ea l ec) (.bool d) (.slice ca cl cc))).alloc (ckT (.slice none 0 0) (.slice none 0 0) (.bool false) (.slice none 0 0)))) := Lib.hid (((Ext.rf w).al _).al _)
            have hsz0 : w.heap.size + 2 ≤ ((w.alloc (ckT (.slice a n c) (.slice ea l ec) (.bool d) (.slice ca cl cc))).alloc (ckT (.slice none 0 0) (.slice none 0 0) (.bool false) (.slice none 0 0))).heap.size := by simp
            obtain rfl : d = false := HDN.out
            go_enter Try.func63, Try.ntmps63
            go_wp2_with fail
            generalize hw0 : (w.alloc (ckT (.slice a n c) (.slice ea l ec) (.bool false) (.slice ca cl cc))).alloc (ckT (.slice none 0 0) (.slice none 0 0) (.bool false) (.slice none 0 0)) = w0 at *
            clear hw0
            have hvc := validR_calls (.slice a n c) (.slice ea l ec) (.slice ca cl cc) s w0 (HS.out.ext HE0.out) HSM.out
            rw [HD.out, HVAL.out] at hvc
            have HVC := Lib.hid hvc
            clear hvc
            refine HVC.out.mono ?_
            rintro e w1 ⟨rfl, hE1⟩
            have HXA := Lib.hid (hE1.hp HX0.out)
            have HXB := Lib.hid (hE1.hp HX1.out)
            have HEW := Lib.hid (HE0.out.trans' hE1)
            have hsz1 := hE1.sz
            clear hE1
            have x0 := cellOf HXA.out 0
            have x1 := cellOf HXA.out 1
            have x2 := cellOf HXA.out 2
            have x3 := cellOf HXA.out 3
            simp only [List.getElem?_toArray, List.getElem?_cons_zero, List.getElem?_cons_succ] at x0 x1 x2 x3
            go_wp2_with fail
            refine (HSB.out w1 HEW.out).mono ?_
            rintro e w2 ⟨rfl, hD2⟩
            have HXA := Lib.hid (hD2.ext.hp HXA.out)
            have HXB := Lib.hid (hD2.ext.hp HXB.out)
            have HEW := Lib.hid (HEW.out.trans' hD2.ext)
            have hsz2 := hD2.ext.sz
            clear hD2 x0 x1 x2 x3
            have x0 := cellOf HXA.out 0
            have x1 := cellOf HXA.out 1
            have x2 := cellOf HXA.out 2
            have x3 := cellOf HXA.out 3
            simp only [List.getElem?_toArray, List.getElem?_cons_zero, List.getElem?_cons_succ] at x0 x1 x2 x3
            obtain ⟨EB, EO, EC, ev, hee, _, _, hec0, hev⟩ := HS.out.2.1.at1 P (by rw [HL.out]; omega)
            simp only [Value.slice.injEq] at hee
            obtain ⟨rfl, hnn2, rfl⟩ := hee
            obtain rfl : ev = .bool s.ended[P]! := by simpa [RBool] using hev
            rw [HEN.out] at hec0
            have ce := HEW.out.cl hec0
            have hPz : (0 : Int) ≤ (P : Int) := by omega
            have hPl : (P : Int) < (l : Int) := by omega
            clear hnn2 hev hec0
            obtain ⟨B, O, C, a1, m1, c1, hue0, hcp0, M1, hmc1, HS1⟩ := queue_at HS.out.1 P (by rw [HN.out]; omega)
            simp only [Value.slice.injEq] at hue0
            obtain ⟨rfl, hnn, rfl⟩ := hue0
            have HCP := Lib.hid hcp0
            have hcp := HEW.out.cl hcp0
            have HM1 := Lib.hid M1
            have HQS := Lib.hid HS1
            have hPn1 : (P : Int) < (n : Int) := by omega
            have hm1b := (HSM.out.2.2.2 P (by rw [HN.out]; omega)).1
            rw [← M1] at hm1b
            clear M1 HS1 hnn hcp0
            have hq65 := (queue_parts.1 (HG4.out P (by omega))).1
            rw [← HM1.out] at hq65
            have c65 : ((m1 : Int) == 65) = true := by have := HM1.out; simp; omega
            have c65n : (m1 == 65) = true := by have := HM1.out; simp; omega
            have hm1p : 0 < m1 := by rw [HM1.out]; exact hql
            have c1' : decide (0 < (m1 : Int)) = true := by simp; omega
            have c1n : decide (0 < m1) = true := by simp; omega
            have hz1 : (0 : Int) ≤ (m1 : Int) - 1 := by omega
            have hz2 : (m1 : Int) - 1 < (m1 : Int) := by omega
            have hz3 : ((m1 : Int) - 1).toNat = m1 - 1 := by omega
            have hz4 : (1 : Int) ≤ (m1 : Int) := by omega
            obtain ⟨b', o', pv, rfl, hcj0, hpv⟩ := stamp_at HQS.out (m1 - 1) (by rw [← HM1.out]; omega)
            have hcj := HEW.out.cl hcj0
            have HPV := Lib.hid hpv
            have hplen := stamp_len ((queue_parts.1 (HG4.out P (by omega))).2 (m1 - 1) (by rw [← HM1.out]; omega)).1
            clear hcj0 hpv
            have haf := afterR_calls pv (.slice va lv.length vc) s.qs[P]![m1 - 1]! lv n P w2 (HPV.out.ext HEW.out) (HVI.out.ext HEW.out) hplen (by have := stamp_len HSTB.out; omega) (by omega) (by omega)
            rw [show m1 - 1 = s.qs[P]!.length - 1 from by rw [HM1.out], HAF.out] at haf
            have HAC := Lib.hid haf
            clear haf hplen
            go_wp2_with fail
            refine HAC.out.mono ?_
            rintro e w3 ⟨rfl, hD3⟩
            have HXA := Lib.hid (hD3.ext.hp HXA.out)
            have HXB := Lib.hid (hD3.ext.hp HXB.out)
            have HEW := Lib.hid (HEW.out.trans' hD3.ext)
            have hsz3 := hD3.ext.sz
            clear hD3 x0 x1 x2 x3
            have x0 := cellOf HXA.out 0
            have x1 := cellOf HXA.out 1
            have x2 := cellOf HXA.out 2
            have x3 := cellOf HXA.out 3
            simp only [List.getElem?_toArray, List.getElem?_cons_zero, List.getElem?_cons_succ] at x0 x1 x2 x3
            have r0 := cellOf HXB.out 0
            have r1 := cellOf HXB.out 1
            have r2 := cellOf HXB.out 2
            have r3 := cellOf HXB.out 3
            simp only [List.getElem?_toArray, List.getElem?_cons_zero, List.getElem?_cons_succ] at r0 r1 r2 r3
            have f0 := freeOf HXB.out 0
            have f1 := freeOf HXB.out 1
            have f2 := freeOf HXB.out 2
            have f3 := freeOf HXB.out 3
            go_wp2
            refine bodyPost_ret (v := .tuple #[.agg #[.slice none 0 0, .slice none 0 0, .bool false, .slice none 0 0], .int .i64 5]) (by simp [results, Try.results63, go_sem, r0, r1, r2, r3]) rfl ⟨by rw [HER.out], box_ext HEW.out (by omega) _ _ _ _⟩

end Go.Proofs.Ytggofkaakccoeaa

/-
  Put of the reference's text: where nothing is wrong.
-/
namespace Go.Proofs.Ytggofkaakccoeaa
open Go.RowKit
set_option linter.unusedVariables false
attribute [local go_sem ↓] Go.wp_at_zero Go.wp_at_succ


set_option maxHeartbeats 16000000 in
set_option maxRecDepth 100000 in
theorem putR_ok (uq ue uc v : Value) (s : Ck) (P : Nat) (lv : List Int) (w : World) (h : CkAt w uq ue uc s) (hs : SmallC s) (hv : Ints w v lv) (hvn : lv.length ≤ 1000000) (hE : putErr s P lv = 0) :
    Calls Try.prog 63 #[.agg #[uq, ue, .bool s.done, uc], .int .i64 P, v] w fun e w' => PutOut w w' e (putC s P lv) := by
  obtain ⟨i2, hi2, iz0, iz1, iz2⟩ := info_parts info_rows1
  obtain ⟨ii, hii, ij0, ij1, ij2⟩ := info_parts info_ints
  obtain ⟨hval, _, hp2, hst, hdn, hen, haf, h65⟩ := put_parts hE
  rw [Int.toNat_natCast] at hen haf h65
  have HPE := Lib.hid hE
  have HVAL := Lib.hid hval
  obtain ⟨g1, g2, g3, g4⟩ := form_parts.1 (valid_parts.1 hval).1
  have HG4 := Lib.hid g4
  have HG3 := Lib.hid g3
  have hPn : P < s.qs.length := by omega
  have hPe : P < s.ended.length := by omega
  have HSTB := Lib.hid hst
  have HSB := Lib.hid (fun W (hW : Ext w W) => stampR_calls v lv s.qs.length W (hv.ext hW) hvn)
  rw [hst] at HSB
  have HDN := Lib.hid hdn
  have HEN := Lib.hid hen
  have HAFT := Lib.hid haf
  have b1 : decide ((P : Int) < 0) = false := by simp
  have b2 : decide ((s.qs.length : Int) ≤ (P : Int)) = false := by simp; omega
  have b2n : decide (s.qs.length ≤ P) = false := by simp; omega
  clear hval g3 g4 hE hst hdn hen haf
  have HVI := Lib.hid hv
  obtain ⟨va, vc, rfl, hvc, _⟩ := hv
  have HS := Lib.hid h
  have HSM := Lib.hid hs
  have hs1 := hs.1
  have hs2 := hs.2.1
  obtain ⟨a, c, rfl, hlc⟩ := h.1.shape
  obtain ⟨ea, ec, rfl, hec⟩ := h.2.1.shape
  obtain ⟨ca, cc, hce, hcc, _⟩ := h.2.2
  subst hce
  clear h hs
  generalize hd : s.done = d at *
  have HD := Lib.hid hd
  clear hd
  generalize hn : s.qs.length = n at *
  generalize hl : s.ended.length = l at *
  generalize hcl : s.cut.length = cl at *
  have HN := Lib.hid hn
  have HL := Lib.hid hl
  have HCL := Lib.hid hcl
  clear hn hl hcl
  have HX0 := Lib.hid (((Ext.rf (w.alloc (ckT (.slice a n c) (.slice ea l ec) (.bool d) (.slice ca cl cc)))).al (ckT (.slice none 0 0) (.slice none 0 0) (.bool false) (.slice none 0 0))).hp (heap_alloc_new w (ckT (.slice a n c) (.slice ea l ec) (.bool d) (.slice ca cl cc))))
  have HX1 := Lib.hid (heap_new_eq (w := w.alloc (ckT (.slice a n c) (.slice ea l ec) (.bool d) (.slice ca cl cc))) (o := ckT (.slice none 0 0) (.slice none 0 0) (.bool false) (.slice none 0 0)) (b := w.heap.size + 1) (by simp))
  have HE0 : Hid (Ext w ((w.alloc (ckT (.slice a n c) (.slice ea l ec) (.bool d) (.slice ca cl cc))).alloc (ckT (.slice none 0 0) (.slice none 0 0) (.bool false) (.slice none 0 0)))) := Lib.hid (((Ext.rf w).al _).al _)
  have hsz0 : w.heap.size + 2 ≤ ((w.alloc (ckT (.slice a n c) (.slice ea l ec) (.bool d) (.slice ca cl cc))).alloc (ckT (.slice none 0 0) (.slice none 0 0) (.bool false) (.slice none 0 0))).heap.size := by simp
  obtain rfl : d = false := HDN.out
  go_enter Try.func63, Try.ntmps63
  go_wp2_with fail
  generalize hw0 : (w.alloc (ckT (.slice a n c) (.slice ea l ec) (.bool false) (.slice ca cl cc))).alloc (ckT (.slice none 0 0) (.slice none 0 0) (.bool false) (.slice none 0 0)) = w0 at *
  clear hw0
  have hvc := validR_calls (.slice a n c) (.slice ea l ec) (.slice ca cl cc) s w0 (HS.out.ext HE0.out) HSM.out
  rw [HD.out, HVAL.out] at hvc
  have HVC := Lib.hid hvc
  clear hvc
  refine HVC.out.mono ?_
  rintro e w1 ⟨rfl, hE1⟩
  have HXA := Lib.hid (hE1.hp HX0.out)
  have HXB := Lib.hid (hE1.hp HX1.out)
  have HEW := Lib.hid (HE0.out.trans' hE1)
  have hsz1 := hE1.sz
  clear hE1
  have x0 := cellOf HXA.out 0
  have x1 := cellOf HXA.out 1
  have x2 := cellOf HXA.out 2
  have x3 := cellOf HXA.out 3
  simp only [List.getElem?_toArray, List.getElem?_cons_zero, List.getElem?_cons_succ] at x0 x1 x2 x3
  go_wp2_with fail
  refine (HSB.out w1 HEW.out).mono ?_
  rintro e w2 ⟨rfl, hD2⟩
  have HXA := Lib.hid (hD2.ext.hp HXA.out)
  have HXB := Lib.hid (hD2.ext.hp HXB.out)
  have HEW := Lib.hid (HEW.out.trans' hD2.ext)
  have hsz2 := hD2.ext.sz
  clear hD2 x0 x1 x2 x3
  have x0 := cellOf HXA.out 0
  have x1 := cellOf HXA.out 1
  have x2 := cellOf HXA.out 2
  have x3 := cellOf HXA.out 3
  simp only [List.getElem?_toArray, List.getElem?_cons_zero, List.getElem?_cons_succ] at x0 x1 x2 x3
  obtain ⟨EB, EO, EC, ev, hee, _, _, hec0, hev⟩ := HS.out.2.1.at1 P (by rw [HL.out]; omega)
  simp only [Value.slice.injEq] at hee
  obtain ⟨rfl, hnn2, rfl⟩ := hee
  obtain rfl : ev = .bool s.ended[P]! := by simpa [RBool] using hev
  rw [HEN.out] at hec0
  have ce := HEW.out.cl hec0
  have hPz : (0 : Int) ≤ (P : Int) := by omega
  have hPl : (P : Int) < (l : Int) := by omega
  clear hnn2 hev hec0
  obtain ⟨B, O, C, a1, m1, c1, hue0, hcp0, M1, hmc1, HS1⟩ := queue_at HS.out.1 P (by rw [HN.out]; omega)
  simp only [Value.slice.injEq] at hue0
  obtain ⟨rfl, hnn, rfl⟩ := hue0
  have HCP := Lib.hid hcp0
  have hcp := HEW.out.cl hcp0
  have HM1 := Lib.hid M1
  have HQS := Lib.hid HS1
  have hPn1 : (P : Int) < (n : Int) := by omega
  have hm1b := (HSM.out.2.2.2 P (by rw [HN.out]; omega)).1
  rw [← M1] at hm1b
  clear M1 HS1 hnn hcp0
  go_upto_region 9 with (fail)
  go_cut [65] (fun s65 wx => s65 = .bool false ∧ Aside (Ext w wx) ∧ Aside (wx.heap[w.heap.size]? = some (ckT (.slice (some ⟨B, O, none⟩) n c) (.slice (some ⟨EB, EO, none⟩) l ec) (.bool false) (.slice ca cl cc))) ∧ Aside (wx.heap[w.heap.size + 1]? = some (ckT (.slice none 0 0) (.slice none 0 0) (.bool false) (.slice none 0 0))) ∧ w2.heap.size ≤ wx.heap.size)
  case first =>
    rcases Nat.eq_zero_or_pos m1 with h0 | hm1p
    · have c1' : decide (0 < (m1 : Int)) = false := by simp; omega
      have c1n : decide (0 < m1) = false := by simp; omega
      go_wp2_with fail
      go_meet
      exact ⟨rfl, HEW.out, HXA.out, HXB.out, Nat.le_refl _⟩
    · have HAF := Lib.hid (show afterB s.qs[P]![s.qs[P]!.length - 1]! lv P = true from HAFT.out.resolve_left (by have := HM1.out; omega))
      have hql : 0 < s.qs[P]!.length := by rw [← HM1.out]; exact hm1p
      have hm1p : 0 < m1 := by rw [HM1.out]; exact hql
      have c1' : decide (0 < (m1 : Int)) = true := by simp; omega
      have c1n : decide (0 < m1) = true := by simp; omega
      have hz1 : (0 : Int) ≤ (m1 : Int) - 1 := by omega
      have hz2 : (m1 : Int) - 1 < (m1 : Int) := by omega
      have hz3 : ((m1 : Int) - 1).toNat = m1 - 1 := by omega
      have hz4 : (1 : Int) ≤ (m1 : Int) := by omega
      obtain ⟨b', o', pv, rfl, hcj0, hpv⟩ := stamp_at HQS.out (m1 - 1) (by rw [← HM1.out]; omega)
      have hcj := HEW.out.cl hcj0
      have HPV := Lib.hid hpv
      have hplen := stamp_len ((queue_parts.1 (HG4.out P (by omega))).2 (m1 - 1) (by rw [← HM1.out]; omega)).1
      clear hcj0 hpv
      have haf := afterR_calls pv (.slice va lv.length vc) s.qs[P]![m1 - 1]! lv n P w2 (HPV.out.ext HEW.out) (HVI.out.ext HEW.out) hplen (by have := stamp_len HSTB.out; omega) (by omega) (by omega)
      rw [show m1 - 1 = s.qs[P]!.length - 1 from by rw [HM1.out], HAF.out] at haf
      have HAC := Lib.hid haf
      clear haf hplen
      go_wp2_with fail
      refine HAC.out.mono ?_
      rintro e w3 ⟨rfl, hD3⟩
      have HXA := Lib.hid (hD3.ext.hp HXA.out)
      have HXB := Lib.hid (hD3.ext.hp HXB.out)
      have HEW := Lib.hid (HEW.out.trans' hD3.ext)
      have hsz3 := hD3.ext.sz
      clear hD3 x0 x1 x2 x3
      have x0 := cellOf HXA.out 0
      have x1 := cellOf HXA.out 1
      have x2 := cellOf HXA.out 2
      have x3 := cellOf HXA.out 3
      simp only [List.getElem?_toArray, List.getElem?_cons_zero, List.getElem?_cons_succ] at x0 x1 x2 x3
      go_wp2_with fail
      go_meet
      exact ⟨rfl, HEW.out, HXA.out, HXB.out, by omega⟩
  case rest =>
    obtain ⟨rfl, HEW3, HXA3, HXB3, hsz3⟩ := hcut
    obtain ⟨w3, rfl⟩ : ∃ x, x = wc := ⟨_, rfl⟩
    clear x0 x1 x2 x3 hcp ce
    have c65 : ((m1 : Int) == 65) = false := by have := HM1.out; simp; omega
    have c65n : (m1 == 65) = false := by have := HM1.out; simp; omega
    have x0 := cellOf HXA3.out 0
    have x1 := cellOf HXA3.out 1
    have x2 := cellOf HXA3.out 2
    have x3 := cellOf HXA3.out 3
    simp only [List.getElem?_toArray, List.getElem?_cons_zero, List.getElem?_cons_succ] at x0 x1 x2 x3
    go_wp2_with fail
    have hcop := copyR_calls (.slice (some ⟨B, O, none⟩) n c) (.slice (some ⟨EB, EO, none⟩) l ec) (.slice ca cl cc) s w3 (HS.out.ext HEW3.out) HSM.out
    rw [HD.out] at hcop
    have HCOP := Lib.hid hcop
    clear hcop
    refine HCOP.out.mono ?_
    rintro e w4 ⟨vq, ve2, vc2, rfl, hOC, hE4⟩
    rw [HD.out]
    obtain ⟨hoq, hoe, hoc⟩ := hOC
    obtain ⟨G, O2, C2, hh, rfl, hhc, hhf, hGb, hrow, hqh⟩ := hoq.at P (by rw [HN.out]; omega)
    obtain ⟨ya, yb, rfl, hyb, hsh⟩ := hoe.any
    clear hsh
    obtain ⟨ta, tb, rfl, htb, hsh⟩ := hoc.any
    clear hsh
    have HXB4 := Lib.hid (hE4.hp HXB3.out)
    have hsz4 := hE4.sz
    have HEW4 := Lib.hid (HEW3.out.trans' hE4)
    have hbase : w.heap.size + 2 ≤ w3.heap.size := by omega
    obtain ⟨vs, hv, hel⟩ := hqh.2.1 P (by rw [HN.out]; omega)
    obtain ⟨qa, qc, hqe, hqc, hsh⟩ := hv.any
    clear hsh
    have HHE := Lib.hid hqe
    rw [hqe] at hhc hv
    rw [← HM1.out] at hqc hhc hv
    have HQV := Lib.hid hv
    have HEL := Lib.hid (fun i (hi : i < s.qs[P]!.length) => hel i hi)
    rw [HN.out] at hrow
    rw [HL.out] at hoe
    rw [HCL.out] at hoc
    have HROW := Lib.hid hrow
    have HQH := Lib.hid hqh
    have HOE := Lib.hid hoe
    have hGs : G < w4.heap.size := World.block_lt_of_cell? w4 _ hhc
    rw [HN.out, HL.out, HCL.out]
    have HE4 := Lib.hid hE4
    clear hoq hoe hoc hrow hqh hqe hv hel hE4 x0 x1 x2 x3
    go_upto_region 14 with (fail)
    have HXO := Lib.hid (heap_alloc_new w4 (ckT (.slice (some ⟨G, O2, none⟩) n C2) (.slice ya l yb) (.bool false) (.slice ta cl tb)))
    have HE45 := Lib.hid ((Ext.rf w4).al (ckT (.slice (some ⟨G, O2, none⟩) n C2) (.slice ya l yb) (.bool false) (.slice ta cl tb)))
    have hh0 := HE45.out.cl hhc
    have ff0 := (HE45.out.frozen (p := ⟨G, O2 + P, none⟩) hGs).trans hhf
    have hsz5 : w4.heap.size < (w4.alloc (ckT (.slice (some ⟨G, O2, none⟩) n C2) (.slice ya l yb) (.bool false) (.slice ta cl tb))).heap.size := by simp
    have hGn : G ≠ w4.heap.size := by omega
    generalize hw5 : w4.alloc (ckT (.slice (some ⟨G, O2, none⟩) n C2) (.slice ya l yb) (.bool false) (.slice ta cl tb)) = w5 at *
    clear hw5 hhc hhf
    have o0 := cellOf HXO.out 0
    simp only [List.getElem?_toArray, List.getElem?_cons_zero] at o0
    have hGs5 : G < w5.heap.size := by omega
    have hPm : P < n * 1 := by omega
    have HEW5 := Lib.hid (HEW4.out.trans' HE45.out)
    have hw5s : w4.heap.size ≤ w5.heap.size := by omega
    have hbs : w3.heap.size ≤ w5.heap.size := by omega
    have hPz : (0 : Int) ≤ (P : Int) := by omega
    have hPi : (P : Int) < (n : Int) := by omega
    have HFQ := Lib.hid (fit_put HPE.out)
    have HVC := Lib.hid HVI.out.cells
    have hvlen : (lv.map (Value.int .i64)).length = lv.length * 1 := by rw [List.length_map, Nat.mul_one]
    have HVLEN := Lib.hid hvlen
    clear hvlen
    go_cut [] (fun wy => Aside (OwnQs wy w3.heap.size 109 38 3 (.slice (some ⟨G, O2, none⟩) n C2) (putQs s P lv)) ∧ Aside (wy.heap[w4.heap.size]? = some (ckT (.slice (some ⟨G, O2, none⟩) n C2) (.slice ya l yb) (.bool false) (.slice ta cl tb))) ∧ Aside (Row wy w3.heap.size 4 1 (.slice ya l yb) l (s.ended.map Value.bool)) ∧ Aside (Ext w3 wy) ∧ w5.heap.size ≤ wy.heap.size)
    case first =>
      refine wp_region_tail (fun w' => w'.cell? ⟨w4.heap.size, 0, none⟩ = some (.slice (some ⟨G, O2, none⟩) n C2) ∧ w'.cell? ⟨G, O2 + P, none⟩ = some (.slice qa m1 qc)) 14 (by kernel_rfl) ?_ (fun hHeld => ?_)
      · exact ⟨o0, hh0⟩
      refine wpAnyT_take (i := 0) (d := some 72) (v := ?_) rfl rfl (by kernel_rfl) (by kernel_rfl) (by kernel_rfl) (by kernel_rfl) (fun _ _ _ h => h) (Or.inl ⟨by rfl, ?_⟩) (by assumption) ?_
      rotate_left
      · (intro w hSw; (try dsimp only at hSw); go_simp; try (with_reducible rfl))
      try simp only [Act.put]
      try simp only [List.setIfInBounds_toArray]
      try simp only [List.set_cons_zero, List.set_cons_succ]
      refine wpAnyT_take (i := 1) (d := some 73) (v := ?_) rfl rfl (by kernel_rfl) (by kernel_rfl) (by kernel_rfl) (by kernel_rfl) (fun _ _ _ h => h) (Or.inl ⟨by rfl, ?_⟩) (by assumption) ?_
      rotate_left
      · (intro w hSw; (try dsimp only at hSw); go_simp; try (with_reducible rfl))
      try simp only [Act.put]
      try simp only [List.setIfInBounds_toArray]
      try simp only [List.set_cons_zero, List.set_cons_succ]
      refine wpAnyT_take (i := 2) (d := some 74) (v := ?_) rfl rfl (by kernel_rfl) (by kernel_rfl) (by kernel_rfl) (by kernel_rfl) (fun _ _ _ h => h) (Or.inl ⟨by rfl, ?_⟩) (by assumption) ?_
      rotate_left
      · (intro w hSw; (try dsimp only at hSw); go_simp; try (with_reducible rfl))
      try simp only [Act.put]
      try simp only [List.setIfInBounds_toArray]
      try simp only [List.set_cons_zero, List.set_cons_succ]
      refine wpAnyT_take (i := 3) (d := some 75) (v := ?_) rfl rfl (by kernel_rfl) (by kernel_rfl) (by kernel_rfl) (by kernel_rfl) (fun _ _ _ h => h) (Or.inl ⟨by rfl, ?_⟩) (by assumption) ?_
      rotate_left
      · (intro w hSw; (try dsimp only at hSw); go_simp; try (with_reducible rfl))
      try simp only [Act.put]
      try simp only [List.setIfInBounds_toArray]
      try simp only [List.set_cons_zero, List.set_cons_succ]
      refine wpAnyT_take (i := 4) (d := some 76) (v := ?_) rfl rfl (by kernel_rfl) (by kernel_rfl) (by kernel_rfl) (by kernel_rfl) (fun _ _ _ h => h) (Or.inl ⟨by rfl, ?_⟩) (by assumption) ?_
      rotate_left
      · (intro w hSw; (try dsimp only at hSw); go_simp; try (with_reducible rfl))
      try simp only [Act.put]
      try simp only [List.setIfInBounds_toArray]
      try simp only [List.set_cons_zero, List.set_cons_succ]
      refine wpAnyT_take (i := 5) (d := some 77) (v := ?_) rfl rfl (by kernel_rfl) (by kernel_rfl) (by kernel_rfl) (by kernel_rfl) (fun _ _ _ h => h) (Or.inl ⟨by rfl, ?_⟩) (by assumption) ?_
      rotate_left
      · (intro w hSw; (try dsimp only at hSw); go_simp; try (with_reducible rfl))
      try simp only [Act.put]
      try simp only [List.setIfInBounds_toArray]
      try simp only [List.set_cons_zero, List.set_cons_succ]
      refine wpAnyT_take (i := 6) (d := some 78) (v := ?_) rfl rfl (by kernel_rfl) (by kernel_rfl) (by kernel_rfl) (by kernel_rfl) (fun _ _ _ h => h) (Or.inl ⟨by rfl, ?_⟩) (by assumption) ?_
      rotate_left
      · (intro w hSw; (try dsimp only at hSw); go_simp; try (with_reducible rfl))
      try simp only [Act.put]
      try simp only [List.setIfInBounds_toArray]
      try simp only [List.set_cons_zero, List.set_cons_succ]
      refine wpAnyT_take (i := 7) (d := some 79) (v := ?_) rfl rfl (by kernel_rfl) (by kernel_rfl) (by kernel_rfl) (by kernel_rfl) (fun _ _ _ h => h) (Or.inl ⟨by rfl, ?_⟩) (by assumption) ?_
      rotate_left
      · (intro w hSw; (try dsimp only at hSw); go_simp; try (with_reducible rfl))
      try simp only [Act.put]
      try simp only [List.setIfInBounds_toArray]
      try simp only [List.set_cons_zero, List.set_cons_succ]
      refine wpAnyT_take (i := 9) (d := some 81) (v := ?_) rfl rfl (by kernel_rfl) (by kernel_rfl) (by kernel_rfl) (by kernel_rfl) (fun _ _ _ h => h) (Or.inl ⟨by rfl, ?_⟩) (by assumption) ?_
      rotate_left
      · (intro w hSw; (try dsimp only at hSw); go_simp; try (with_reducible rfl))
      try simp only [Act.put]
      try simp only [List.setIfInBounds_toArray]
      try simp only [List.set_cons_zero, List.set_cons_succ]
      have HED := Lib.hid (show Ext w5 w5.drew from (Ext.rf w5).dr)
      generalize w5.drew = wD at *
      refine wpAnyT_step (i := 8) (by kernel_rfl) rfl (fun K hK => ?_)
      go_simp
      have HEM := Lib.hid (ckRow_empty (base := wD.heap.size) (size := 1) (heap_alloc_new wD (.cells #[] 3)) (Nat.le_refl _))
      have HEE := Lib.hid (HED.out.al (.cells #[] 3))
      have hszE : (wD.alloc (.cells #[] 3)).heap.size = wD.heap.size + 1 := by simp
      generalize hwE : wD.alloc (.cells #[] 3) = wE at *
      clear hwE
      refine hK.out _ _ ?_ (fun hHeld => ?_)
      · (try dsimp only)
        exact ⟨HEE.out.cl o0, HEE.out.cl hh0⟩
      clear hK K
      try simp only [Act.put]
      try simp only [List.setIfInBounds_toArray]
      try simp only [List.set_cons_zero, List.set_cons_succ]
      refine wpAnyT_step (i := 10) (by kernel_rfl) rfl (fun K hK => ?_)
      refine step_append_rowM rfl _ _ 38 rfl wD.heap.size 3 ii (.int .i64 0) 1 8 Try.underlying38 hii ij0 ij1 ij2 rfl (by decide) _ 0 [] rfl HEM.out va lv.length vc (lv.map (Value.int .i64)) rfl HVLEN.out (HVC.out.ext (HEW5.out.trans' HEE.out)).news (int_one _) (by unfold maxLen; omega) (by omega) (by omega) ?_
      intro vC wC hownA hgrowA hblkA
      rw [Nat.zero_add, List.nil_append] at hownA
      obtain ⟨ka, kc, rfl, hkc, hshC⟩ := hownA.any
      have HXC := Lib.hid (show Ext w5 wC from HEE.out.gr hgrowA (fun q hq => Nat.le_trans HED.out.sz (HEM.out.lt q hq).1))
      have HRC := Lib.hid (hownA.mono (show w3.heap.size ≤ wD.heap.size from Nat.le_trans hbs HED.out.sz))
      clear hshC hblkA hownA hgrowA
      refine hK.out _ _ ?_ (fun hHeld => ?_)
      · (try dsimp only)
        exact ⟨HXC.out.cl o0, HXC.out.cl hh0⟩
      clear hK K
      try simp only [Act.put]
      try simp only [List.setIfInBounds_toArray]
      try simp only [List.set_cons_zero, List.set_cons_succ]
      refine wpAnyT_step (i := 11) (by kernel_rfl) rfl (fun K hK => ?_)
      go_simp
      have HXG := Lib.hid (HXC.out.al (.cells #[.slice ka lv.length kc] 38))
      refine hK.out _ _ ?_ (fun hHeld => ?_)
      · (try dsimp only)
        exact ⟨HXG.out.cl o0, HXG.out.cl hh0⟩
      clear hK K
      try simp only [Act.put]
      try simp only [List.setIfInBounds_toArray]
      try simp only [List.set_cons_zero, List.set_cons_succ]
      refine wpAnyT_step (i := 12) (by kernel_rfl) rfl (fun K hK => ?_)
      refine step_append_rowN rfl _ _ 109 rfl w3.heap.size 38 i2 (.slice none 0 0) 1 24 Try.underlying109 hi2 iz0 iz1 iz2 rfl (by decide) (.slice qa m1 qc) m1 vs rfl ((HQV.out.ext (HE45.out.trans' HXC.out)).al _) _ 1 [.slice ka lv.length kc] rfl rfl ⟨_, heap_new_eq rfl⟩ (by simp [Value.oneCell']) (by unfold maxLen; omega) (by omega) (by have := HXG.out.sz; omega) ?_
      intro vN wN hownN hgrowN hblkN
      obtain ⟨na, nc, rfl, hnc, hshN⟩ := hownN.any
      clear hshN
      have hG5 : (wC.alloc (.cells #[.slice ka lv.length kc] 38)).grownBy wN (Value.slice qa m1 qc).ownBlock := hgrowN
      have hrA := (HROW.out.ext (HE45.out.trans' HXC.out)).al (.cells #[.slice ka lv.length kc] 38)
      have hvA := (HQV.out.ext (HE45.out.trans' HXC.out)).al (.cells #[.slice ka lv.length kc] 38)
      have hoA := ((Ext.rf wC).al (.cells #[.slice ka lv.length kc] 38)).hp (HXC.out.hp HXO.out)
      have hrN := hrA.grown hG5 (hrA.apart hvA (by decide))
      have hoN := grownKeep hG5 (hvA.notBox hoA (by decide)) hoA
      obtain ⟨uN, cN⟩ := row_some hrN P hPm
      have fN := hrN.free (O2 + P)
      have xN0 := cellOf hoN 0
      simp only [List.getElem?_toArray, List.getElem?_cons_zero] at xN0
      have cN2 : wN.cell? ⟨G, O2 + P, none⟩ = some (.slice qa m1 qc) := by
        rw [hrN.cell P hPm, List.getElem?_eq_getElem (by have := hrN.1; omega), ← getElem!_pos hh P (by have := hrN.1; omega), HHE.out, HM1.out]
      refine hK.out _ _ ?_ (fun hHeld => ?_)
      · (try dsimp only)
        exact ⟨xN0, cN2⟩
      clear hK K
      try simp only [Act.put]
      try simp only [List.setIfInBounds_toArray]
      try simp only [List.set_cons_zero, List.set_cons_succ]
      refine wpAnyT_take (i := 13) (d := some 85) (v := ?_) rfl rfl (by kernel_rfl) (by kernel_rfl) (by kernel_rfl) (by kernel_rfl) (fun _ _ _ h => h) (Or.inl ⟨by rfl, ?_⟩) (by assumption) ?_
      rotate_left
      · (intro w hSw; (try dsimp only at hSw); go_simp; try (with_reducible rfl))
      try simp only [Act.put]
      try simp only [List.setIfInBounds_toArray]
      try simp only [List.set_cons_zero, List.set_cons_succ]
      refine wpAnyT_last (by kernel_rfl) rfl (by kernel_rfl) (fun K hK => ?_)
      go_simp
      refine hK.out _ _ ?_
      go_wp2_with fail
      go_meet
      have hqs := own_put (by rw [HN.out]; exact hrA) (HQH.out.ext ((HE45.out.trans' HXC.out).al (.cells #[.slice ka lv.length kc] 38))) (by rw [HN.out]; exact hPn) (by decide) (by decide) (by decide) (by rw [HHE.out, ← HM1.out]; exact hvA) (fun i hi => (HEL.out i hi).ext ((HE45.out.trans' HXC.out).al (.cells #[.slice ka lv.length kc] 38))) (HRC.out.al (.cells #[.slice ka lv.length kc] 38)) (by rw [HHE.out, ← HM1.out]; exact hG5) (by rw [← HM1.out]; exact hownN) (by rw [HHE.out, ← HM1.out]; exact hblkN)
      rw [HN.out] at hqs
      obtain ⟨cs, ct, cfr, hG, rfl⟩ := hrN.block G rfl
      have hoeA := HOE.out.ext ((HE45.out.trans' HXC.out).al (.cells #[.slice ka lv.length kc] 38))
      refine ⟨(show OwnQs _ _ _ _ _ _ _ from hqs), (show _ = _ from (Below.heap_setCell wN ⟨G, O2 + P, none⟩ _ w4.heap.size (fun e => hGn e.symm)).trans hoN), (show Row _ _ _ _ _ _ _ from (hoeA.grown hG5 (Row.apart hoeA hvA (by decide))).stO hG (by decide) _), (show Ext _ _ from (((HE4.out.trans' (HE45.out.trans' HXC.out)).al (.cells #[.slice ka lv.length kc] 38)).gr hG5 (fun k hk => (hvA.lt k hk).1)).st (p := ⟨G, O2 + P, none⟩) hGb _), ?_⟩
      rw [size_setCell]
      have := hG5.size
      simp at this
      have := HXC.out.sz
      omega
    case rest =>
      obtain ⟨HOQ, HBX, HRE, HEY, hszy⟩ := hcut
      obtain ⟨w6, rfl⟩ : ∃ x, x = wc := ⟨_, rfl⟩
      clear o0 hh0 ff0
      have hpl : (putQs s P lv).length = n := by rw [putQs, List.length_set, HN.out]
      have HPL := Lib.hid hpl
      clear hpl
      have x0 := cellOf HBX.out 0
      have x1 := cellOf HBX.out 1
      have x2 := cellOf HBX.out 2
      have x3 := cellOf HBX.out 3
      simp only [List.getElem?_toArray, List.getElem?_cons_zero, List.getElem?_cons_succ] at x0 x1 x2 x3
      go_wp2_with fail
      refine (beatenR_calls (.slice (some ⟨G, O2, none⟩) n C2) (putQs s P lv) w6 HOQ.out.read HFQ.out).mono ?_
      rintro e w7 ⟨rfl, hD7⟩
      have HE7 := Lib.hid hD7.ext
      have hsz7 := hD7.ext.sz
      clear hD7 x0 x1 x2 x3
      go_wp2
      go_loopg [11] (total (putQs s P lv)) (fun g s11 wr => ∃ (q : List (List (List Int))) (r : Int), s11 = .int .i64 r ∧ total q ≤ g ∧ Aside (reduceL q = reduceL (putQs s P lv)) ∧ Aside (beatenL q = r) ∧ Aside (FitQ q) ∧ Aside (q.length = n) ∧ Aside (OwnQs wr w3.heap.size 109 38 3 (.slice (some ⟨G, O2, none⟩) n C2) q) ∧ Aside (Row wr w3.heap.size 4 1 (.slice ya l yb) l (s.ended.map Value.bool)) ∧ Aside (wr.heap[w4.heap.size]? = some (ckT (.slice (some ⟨G, O2, none⟩) n C2) (.slice ya l yb) (.bool false) (.slice ta cl tb))) ∧ Aside (Ext w3 wr ∧ w5.heap.size ≤ wr.heap.size))
      case atStart => exact ⟨putQs s P lv, _, rfl, Nat.le_refl _, rfl, rfl, HFQ.out, HPL.out, HOQ.out.ext HE7.out, HRE.out.ext HE7.out, HE7.out.hp HBX.out, (show _ ∧ _ from ⟨HEY.out.trans' HE7.out, by omega⟩)⟩
      case round =>
        obtain ⟨q, r, rfl, hg, HRED, HBT, HFQ2, HQN, HOQ2, HRW, HBO, HBL⟩ := hrel
        have hszr := HBL.out.2
        have x0 := cellOf HBO.out 0
        have x1 := cellOf HBO.out 1
        have x2 := cellOf HBO.out 2
        have x3 := cellOf HBO.out 3
        simp only [List.getElem?_toArray, List.getElem?_cons_zero, List.getElem?_cons_succ] at x0 x1 x2 x3
        by_cases hr : 0 ≤ r
        · obtain ⟨p, rfl⟩ : ∃ p : Nat, r = p := ⟨r.toNat, by omega⟩
          have hrz : (0 : Int) ≤ (p : Int) := by omega
          obtain ⟨hpq, hpl⟩ := beaten_at HBT.out
          have hpn : (p : Int) < (n : Int) := by have := HQN.out; omega
          obtain ⟨G', O', C', hs, hue, hcell, hfrz, hbG, hrow, hqh⟩ := HOQ2.out.at p hpq
          simp only [Value.slice.injEq, Option.some.injEq, Addr.mk.injEq, and_true] at hue
          obtain ⟨⟨rfl, rfl⟩, hnn, rfl⟩ := hue
          have htot := total_drop q p hpq hpl
          obtain ⟨m, hm⟩ : ∃ m, q[p]!.length = m + 1 := ⟨q[p]!.length - 1, by omega⟩
          have hrr := hqh.2.1 p hpq
          obtain ⟨g', o', cap, hse, hcap⟩ : ∃ g' o' cap, hs[p]! = .slice (some ⟨g', o', none⟩) (m + 1) cap ∧ m + 1 ≤ cap := by
            obtain ⟨vs, h1, _⟩ := hrr
            obtain ⟨g', o', cap, h2, _, _, h3⟩ := h1.shape hpl
            rw [hm] at h2 h3
            exact ⟨g', o', cap, h2, h3⟩
          rw [hse] at hcell hrr
          have htl := hrr.tail hm
          have HROW := Lib.hid hrow
          have HQH := Lib.hid hqh
          have HSE := Lib.hid hse
          have HTL := Lib.hid htl
          have HFD := Lib.hid (fit_drop HFQ2.out hpq)
          have HRS := Lib.hid (reduce_step q p HBT.out)
          have hGne : G ≠ w4.heap.size := hGn
          clear hnn hrow hqh hse htl hrr
          by_cases hc1 : cap = 1
          · subst hc1
            obtain rfl : m = 0 := by omega
            go_wp2
            go_region
            go_wp2_with fail
            have hrowq := HROW.out
            rw [← HQN.out] at hrowq
            have hown := (own_drop (u := (.slice (some ⟨g', o', none⟩) 0 0)) hrowq HQH.out hpq (by decide) (by decide) (HTL.out.2 (by first | rfl | trivial)) (by rw [HSE.out]; rfl)).ext ((Ext.rf _).dr)
            rw [HQN.out] at hown
            obtain ⟨cs, ct, cfr, hG, rfl⟩ := HROW.out.block G rfl
            have hrw := (HRW.out.stO (o := O2 + p) hG (by decide) (.slice (some ⟨g', o', none⟩) 0 0)).ext ((Ext.rf _).dr)
            have hbo : ((wr.setCell ⟨G, O2 + p, none⟩ (.slice (some ⟨g', o', none⟩) 0 0)).drew).heap[w4.heap.size]? = _ := (Below.heap_setCell wr ⟨G, O2 + p, none⟩ (.slice (some ⟨g', o', none⟩) 0 0) w4.heap.size (fun e => hGne e.symm)).trans HBO.out
            have hex : Ext w3 ((wr.setCell ⟨G, O2 + p, none⟩ (.slice (some ⟨g', o', none⟩) 0 0)).drew) := (HBL.out.1.st (p := ⟨G, O2 + p, none⟩) hGb (.slice (some ⟨g', o', none⟩) 0 0)).dr
            have hsz : ((wr.setCell ⟨G, O2 + p, none⟩ (.slice (some ⟨g', o', none⟩) 0 0)).drew).heap.size = wr.heap.size := size_setCell _ _ _
            clear x0 x1 x2 x3 hcell hfrz
            generalize (wr.setCell ⟨G, O2 + p, none⟩ (.slice (some ⟨g', o', none⟩) 0 0)).drew = w7 at *
            have HOWN := Lib.hid hown
            have HRW2 := Lib.hid hrw
            have HBO2 := Lib.hid hbo
            have HEX2 := Lib.hid hex
            clear hown hrw hbo hex hG hrowq
            have x0 := cellOf HBO2.out 0
            simp only [List.getElem?_toArray, List.getElem?_cons_zero] at x0
            go_wp2_with fail
            refine (beatenR_calls (.slice (some ⟨G, O2, none⟩) n C2) (dropAt q p) w7 HOWN.out.read HFD.out).mono ?_
            rintro e w8 ⟨rfl, hE8⟩
            have HE8 := Lib.hid hE8.ext
            have hsz8 := hE8.ext.sz
            clear hE8
            go_wp2
            go_roundg (total (dropAt q p))
            case measure => omega
            case rel =>
              refine ⟨dropAt q p, _, rfl, Nat.le_refl _, (show _ = _ from by rw [← HRS.out]; exact HRED.out), (show _ = _ from rfl), HFD.out, (show _ = _ from by rw [drop_len]; exact HQN.out), (show OwnQs _ _ _ _ _ _ _ from HOWN.out.ext HE8.out), (show Row _ _ _ _ _ _ _ from HRW2.out.ext HE8.out), (show _ = _ from HE8.out.hp HBO2.out), (show _ ∧ _ from ⟨HEX2.out.trans' HE8.out, by omega⟩)⟩
          · have hcz : (1 : Int) ≤ (cap : Int) := by omega
            have hczn : 1 ≤ cap := by omega
            go_wp2
            go_region
            go_wp2_with fail
            have hrowq := HROW.out
            rw [← HQN.out] at hrowq
            have hown := (own_drop (u := (.slice (some ⟨g', o' + 1, none⟩) m (cap - 1))) hrowq HQH.out hpq (by decide) (by decide) (HTL.out.1) (by rw [HSE.out]; rfl)).ext ((Ext.rf _).dr)
            rw [HQN.out] at hown
            obtain ⟨cs, ct, cfr, hG, rfl⟩ := HROW.out.block G rfl
            have hrw := (HRW.out.stO (o := O2 + p) hG (by decide) (.slice (some ⟨g', o' + 1, none⟩) m (cap - 1))).ext ((Ext.rf _).dr)
            have hbo : ((wr.setCell ⟨G, O2 + p, none⟩ (.slice (some ⟨g', o' + 1, none⟩) m (cap - 1))).drew).heap[w4.heap.size]? = _ := (Below.heap_setCell wr ⟨G, O2 + p, none⟩ (.slice (some ⟨g', o' + 1, none⟩) m (cap - 1)) w4.heap.size (fun e => hGne e.symm)).trans HBO.out
            have hex : Ext w3 ((wr.setCell ⟨G, O2 + p, none⟩ (.slice (some ⟨g', o' + 1, none⟩) m (cap - 1))).drew) := (HBL.out.1.st (p := ⟨G, O2 + p, none⟩) hGb (.slice (some ⟨g', o' + 1, none⟩) m (cap - 1))).dr
            have hsz : ((wr.setCell ⟨G, O2 + p, none⟩ (.slice (some ⟨g', o' + 1, none⟩) m (cap - 1))).drew).heap.size = wr.heap.size := size_setCell _ _ _
            clear x0 x1 x2 x3 hcell hfrz
            generalize (wr.setCell ⟨G, O2 + p, none⟩ (.slice (some ⟨g', o' + 1, none⟩) m (cap - 1))).drew = w7 at *
            have HOWN := Lib.hid hown
            have HRW2 := Lib.hid hrw
            have HBO2 := Lib.hid hbo
            have HEX2 := Lib.hid hex
            clear hown hrw hbo hex hG hrowq
            have x0 := cellOf HBO2.out 0
            simp only [List.getElem?_toArray, List.getElem?_cons_zero] at x0
            go_wp2_with fail
            refine (beatenR_calls (.slice (some ⟨G, O2, none⟩) n C2) (dropAt q p) w7 HOWN.out.read HFD.out).mono ?_
            rintro e w8 ⟨rfl, hE8⟩
            have HE8 := Lib.hid hE8.ext
            have hsz8 := hE8.ext.sz
            clear hE8
            go_wp2
            go_roundg (total (dropAt q p))
            case measure => omega
            case rel =>
              refine ⟨dropAt q p, _, rfl, Nat.le_refl _, (show _ = _ from by rw [← HRS.out]; exact HRED.out), (show _ = _ from rfl), HFD.out, (show _ = _ from by rw [drop_len]; exact HQN.out), (show OwnQs _ _ _ _ _ _ _ from HOWN.out.ext HE8.out), (show Row _ _ _ _ _ _ _ from HRW2.out.ext HE8.out), (show _ = _ from HE8.out.hp HBO2.out), (show _ ∧ _ from ⟨HEX2.out.trans' HE8.out, by omega⟩)⟩
        · have hrn : r < 0 := by omega
          have hred := reduce_done q (by rw [HBT.out]; exact hrn)
          rw [HRED.out] at hred
          have HRQ := Lib.hid hred
          have HXBR := Lib.hid (HBL.out.1.hp HXB3.out)
          go_wp2_with fail
          refine (concludeR_calls (.slice (some ⟨G, O2, none⟩) n C2) (.slice ya l yb) (.slice ta cl tb) false q s.ended wr HOQ2.out.read (by have := HRW.out.bools; exact this) HFQ2.out (by rw [HL.out, HQN.out]; exact HG3.out)).mono ?_
          rintro e w8 ⟨v8, rfl, hR8, hE8⟩
          generalize hdb : doneB q s.ended = db at *
          have HDB := Lib.hid hdb
          obtain ⟨ra, rc, rfl, hrc, hsh⟩ := hR8.any
          generalize hclq : (cutB q).length = cl2 at *
          have HCLQ := Lib.hid hclq
          have HC8 := Lib.hid hR8
          have HQ8 := Lib.hid (HOQ2.out.ext hE8)
          have HE8 := Lib.hid (HRW.out.ext hE8)
          have HXB8 := Lib.hid (hE8.hp HXBR.out)
          have HEW8 := Lib.hid (show Ext w w8 from HEW3.out.trans' (HBL.out.1.trans' hE8))
          have hszw := HBL.out.1.sz
          clear hdb hclq hsh hR8 hE8 x0 x1 x2 x3 hred
          have r0 := cellOf HXB8.out 0
          have r1 := cellOf HXB8.out 1
          have r2 := cellOf HXB8.out 2
          have r3 := cellOf HXB8.out 3
          simp only [List.getElem?_toArray, List.getElem?_cons_zero, List.getElem?_cons_succ] at r0 r1 r2 r3
          have f0 := freeOf HXB8.out 0
          have f1 := freeOf HXB8.out 1
          have f2 := freeOf HXB8.out 2
          have f3 := freeOf HXB8.out 3
          go_wp2
          refine bodyPost_ret (v := .tuple #[.agg #[.slice (some ⟨G, O2, none⟩) n C2, .slice ya l yb, .bool db, .slice ra cl2 rc], .int .i64 0]) (by simp [results, Try.results63, go_sem, r0, r1, r2, r3]) rfl ?_
          unfold PutOut putC
          rw [HRQ.out]
          refine ⟨_, _, _, by rw [← HDB.out]; rfl, ?_, box_ext HEW8.out (by omega) _ _ _ _⟩
          obtain ⟨k1, k2, k3⟩ := box_stored HXB8.out (.slice (some ⟨G, O2, none⟩) n C2) (.slice ya l yb) (.bool db) (.slice ra cl2 rc)
          refine ⟨?_, ?_, ?_⟩
          · exact ((((HQ8.out.stO HXB8.out (by decide) (by decide) (by decide) _).stO (ck_set0 HXB8.out) (by decide) (by decide) (by decide) _).stO (ck_set1 (ck_set0 HXB8.out)) (by decide) (by decide) (by decide) _).stO (ck_set2 (ck_set1 (ck_set0 HXB8.out))) (by decide) (by decide) (by decide) _).mono (by omega)
          · show Row _ _ _ 1 _ s.ended.length (s.ended.map Value.bool)
            rw [HL.out]
            exact (k2 HE8.out (by decide)).mono (by omega)
          · show Row _ _ _ 1 _ (cutB q).length ((cutB q).map (Value.int .i64))
            rw [HCLQ.out]
            exact (k2 HC8.out (by decide)).mono (by omega)

end Go.Proofs.Ytggofkaakccoeaa
