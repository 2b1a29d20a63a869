/-
  Put of the program's text.
-/
import Derived.Test.YtdcahdcnoeomhaaBase
import Derived.Test.YtdcahdcnoeomhaaProg
import Derived.BigQuiet
import Derived.Deep.QuietTactic
import Derived.Deep.LoopGhost
import Derived.Shelf.Abstract
import Derived.Test.YtdcahdcnoeomhaaCkJ
import Derived.Test.YtdcahdcnoeomhaaStep
namespace Go.Proofs.Ytdcahdcnoeomhaa
open Go.RowKit
set_option linter.unusedVariables false
attribute [local go_sem ↓] Go.wp_at_zero Go.wp_at_succ

def zeroCk : Value := .agg #[.slice none 0 0, .slice none 0 0, .bool false, .slice none 0 0]

set_option maxHeartbeats 1000000 in
theorem ckPut1_calls (E : Int) (w : World) : Calls Try.prog 31 #[.int .i64 E] w fun e w' => e = .returned (.tuple #[.agg #[.slice none 0 0, .slice none 0 0, .bool false, .slice none 0 0], .int .i64 E]) ∧ Ext w w' := by
  go_enter Try.func31, Try.ntmps31
  go_wp2
  exact bodyPost_ret (v := .tuple #[.agg #[.slice none 0 0, .slice none 0 0, .bool false, .slice none 0 0], .int .i64 E]) (by simp [results, Try.results31, go_sem]) rfl ⟨rfl, (by repeat (first | refine Ext.st ?_ (by first | exact Nat.le_refl _ | exact Nat.le_succ _ | assumption | omega) _ | refine Ext.al ?_ _ | refine Ext.dr ?_ | refine Ext.drN ?_ _ | exact Ext.rf _))⟩

theorem enters_31 : ∀ args w, (callFunc 31 args).run Try.prog w = .ok (.enter 31 args) w := enters_of Try.func31 (by kernel_rfl) rfl




set_option maxHeartbeats 8000000 in
set_option maxRecDepth 100000 in
theorem putP_bad (uq ue uc v : Value) (s : Ck) (p : Int) (lv : List Int) (w : World) (E : Int) (h : CkAt w uq ue uc s) (hs : SmallC s) (hv : Ints w v lv) (hvn : lv.length ≤ 1000000) (hE : putErr s p lv = E) (h0 : E ≠ 0) :
    Calls Try.prog 8 #[.agg #[uq, ue, .bool s.done, uc], .int .i64 p, v] w fun e w' => e = .returned (.tuple #[.agg #[.slice none 0 0, .slice none 0 0, .bool false, .slice none 0 0], .int .i64 E]) ∧ Ext w w' := by
  have HPE := Lib.hid (show putErr s p lv = if !validC s then 1
    else if p < 0 ∨ (s.qs.length : Int) ≤ p ∨ stampB lv s.qs.length = false then 2
    else if s.done = true ∨ s.ended[p.toNat]! = true then 6
    else if 0 < s.qs[p.toNat]!.length ∧ afterB s.qs[p.toNat]![s.qs[p.toNat]!.length - 1]! lv p.toNat = false then 11
    else if 65 ≤ s.qs[p.toNat]!.length then 5
    else 0 from rfl)
  rw [hE] at HPE
  clear hE
  cases hval : validC s with
  | false =>
    have hE1 : E = 1 := by rw [HPE.out, hval]; rfl
    have HER := Lib.hid hE1
    have HVAL := Lib.hid hval
    clear h0 hval hE1
    have HS := Lib.hid h
    have HSM := Lib.hid hs
    have HVI := Lib.hid hv
    have hs1 := hs.1
    have hs2 := hs.2.1
    obtain ⟨a, c, rfl, hlc⟩ := h.1.shape
    obtain ⟨ea, ec, rfl, hec⟩ := h.2.1.shape
    obtain ⟨ca, cc, hce, hcc, _⟩ := h.2.2
    subst hce
    obtain ⟨va, vc, rfl, hvc, _⟩ := hv
    clear h hs
    generalize hd : s.done = d at *
    have HD := Lib.hid hd
    clear hd
    generalize hn : s.qs.length = n at *
    generalize hl : s.ended.length = l at *
    generalize hcl : s.cut.length = cl at *
    have HN := Lib.hid hn
    have HL := Lib.hid hl
    have HCL := Lib.hid hcl
    clear hn hl hcl
    have HX0 := Lib.hid (((Ext.rf (w.alloc (ckT (.slice a n c) (.slice ea l ec) (.bool d) (.slice ca cl cc)))).al (ckT (.slice none 0 0) (.slice none 0 0) (.bool false) (.slice none 0 0))).hp (heap_alloc_new w (ckT (.slice a n c) (.slice ea l ec) (.bool d) (.slice ca cl cc))))
    have HX1 := Lib.hid (heap_new_eq (w := w.alloc (ckT (.slice a n c) (.slice ea l ec) (.bool d) (.slice ca cl cc))) (o := ckT (.slice none 0 0) (.slice none 0 0) (.bool false) (.slice none 0 0)) (b := w.heap.size + 1) (by simp))
    have HE0 : Hid (Ext w ((w.alloc (ckT (.slice a n c) (.slice ea l ec) (.bool d) (.slice ca cl cc))).alloc (ckT (.slice none 0 0) (.slice none 0 0) (.bool false) (.slice none 0 0)))) := Lib.hid (((Ext.rf w).al _).al _)
    have hsz0 : w.heap.size + 2 ≤ ((w.alloc (ckT (.slice a n c) (.slice ea l ec) (.bool d) (.slice ca cl cc))).alloc (ckT (.slice none 0 0) (.slice none 0 0) (.bool false) (.slice none 0 0))).heap.size := by simp
    go_enter Try.func8, Try.ntmps8
    go_wp2_with fail
    generalize hw0 : (w.alloc (ckT (.slice a n c) (.slice ea l ec) (.bool d) (.slice ca cl cc))).alloc (ckT (.slice none 0 0) (.slice none 0 0) (.bool false) (.slice none 0 0)) = w0 at *
    clear hw0
    have hvc := validP_calls (.slice a n c) (.slice ea l ec) (.slice ca cl cc) s w0 (HS.out.ext HE0.out) HSM.out
    rw [HD.out, HVAL.out] at hvc
    have HVC := Lib.hid hvc
    clear hvc
    refine HVC.out.mono ?_
    rintro e w1 ⟨rfl, hE1⟩
    have HXA := Lib.hid (hE1.hp HX0.out)
    have HXB := Lib.hid (hE1.hp HX1.out)
    have HEW := Lib.hid (HE0.out.trans' hE1)
    have hsz1 := hE1.sz
    clear hE1
    have x0 := cellOf HXA.out 0
    have x1 := cellOf HXA.out 1
    have x2 := cellOf HXA.out 2
    have x3 := cellOf HXA.out 3
    simp only [List.getElem?_toArray, List.getElem?_cons_zero, List.getElem?_cons_succ] at x0 x1 x2 x3
    go_wp2_with fail
    refine (ckPut1_calls 1 _).mono ?_
    rintro e wE ⟨rfl, hEE⟩
    have HXB := Lib.hid (hEE.hp HXB.out)
    have HEE := Lib.hid (HEW.out.trans' hEE)
    clear hEE
    have r0 := cellOf HXB.out 0
    have r1 := cellOf HXB.out 1
    have r2 := cellOf HXB.out 2
    have r3 := cellOf HXB.out 3
    simp only [List.getElem?_toArray, List.getElem?_cons_zero, List.getElem?_cons_succ] at r0 r1 r2 r3
    have f0 := freeOf HXB.out 0
    have f1 := freeOf HXB.out 1
    have f2 := freeOf HXB.out 2
    have f3 := freeOf HXB.out 3
    go_wp2
    refine bodyPost_ret (v := .tuple #[.agg #[.slice none 0 0, .slice none 0 0, .bool false, .slice none 0 0], .int .i64 1]) (by simp [results, Try.results8, go_sem, r0, r1, r2, r3]) rfl ⟨by rw [HER.out], box_ext HEE.out (by omega) _ _ _ _⟩
  | true =>
    have HVAL := Lib.hid hval
    rw [hval] at HPE
    obtain ⟨g1, g2, g3, g4⟩ := form_parts.1 (valid_parts.1 hval).1
    have HG4 := Lib.hid g4
    have HG3 := Lib.hid g3
    clear hval g3 g4
    by_cases hp1 : p < 0
    · have b1 : decide (p < 0) = true := by simpa using hp1
      have hE1 : E = 2 := by rw [HPE.out]; simp [hp1]
      have HER := Lib.hid hE1
      clear h0 hE1 hp1
      have HS := Lib.hid h
      have HSM := Lib.hid hs
      have HVI := Lib.hid hv
      have hs1 := hs.1
      have hs2 := hs.2.1
      obtain ⟨a, c, rfl, hlc⟩ := h.1.shape
      obtain ⟨ea, ec, rfl, hec⟩ := h.2.1.shape
      obtain ⟨ca, cc, hce, hcc, _⟩ := h.2.2
      subst hce
      obtain ⟨va, vc, rfl, hvc, _⟩ := hv
      clear h hs
      generalize hd : s.done = d at *
      have HD := Lib.hid hd
      clear hd
      generalize hn : s.qs.length = n at *
      generalize hl : s.ended.length = l at *
      generalize hcl : s.cut.length = cl at *
      have HN := Lib.hid hn
      have HL := Lib.hid hl
      have HCL := Lib.hid hcl
      clear hn hl hcl
      have HX0 := Lib.hid (((Ext.rf (w.alloc (ckT (.slice a n c) (.slice ea l ec) (.bool d) (.slice ca cl cc)))).al (ckT (.slice none 0 0) (.slice none 0 0) (.bool false) (.slice none 0 0))).hp (heap_alloc_new w (ckT (.slice a n c) (.slice ea l ec) (.bool d) (.slice ca cl cc))))
      have HX1 := Lib.hid (heap_new_eq (w := w.alloc (ckT (.slice a n c) (.slice ea l ec) (.bool d) (.slice ca cl cc))) (o := ckT (.slice none 0 0) (.slice none 0 0) (.bool false) (.slice none 0 0)) (b := w.heap.size + 1) (by simp))
      have HE0 : Hid (Ext w ((w.alloc (ckT (.slice a n c) (.slice ea l ec) (.bool d) (.slice ca cl cc))).alloc (ckT (.slice none 0 0) (.slice none 0 0) (.bool false) (.slice none 0 0)))) := Lib.hid (((Ext.rf w).al _).al _)
      have hsz0 : w.heap.size + 2 ≤ ((w.alloc (ckT (.slice a n c) (.slice ea l ec) (.bool d) (.slice ca cl cc))).alloc (ckT (.slice none 0 0) (.slice none 0 0) (.bool false) (.slice none 0 0))).heap.size := by simp
      go_enter Try.func8, Try.ntmps8
      go_wp2_with fail
      generalize hw0 : (w.alloc (ckT (.slice a n c) (.slice ea l ec) (.bool d) (.slice ca cl cc))).alloc (ckT (.slice none 0 0) (.slice none 0 0) (.bool false) (.slice none 0 0)) = w0 at *
      clear hw0
      have hvc := validP_calls (.slice a n c) (.slice ea l ec) (.slice ca cl cc) s w0 (HS.out.ext HE0.out) HSM.out
      rw [HD.out, HVAL.out] at hvc
      have HVC := Lib.hid hvc
      clear hvc
      refine HVC.out.mono ?_
      rintro e w1 ⟨rfl, hE1⟩
      have HXA := Lib.hid (hE1.hp HX0.out)
      have HXB := Lib.hid (hE1.hp HX1.out)
      have HEW := Lib.hid (HE0.out.trans' hE1)
      have hsz1 := hE1.sz
      clear hE1
      have x0 := cellOf HXA.out 0
      have x1 := cellOf HXA.out 1
      have x2 := cellOf HXA.out 2
      have x3 := cellOf HXA.out 3
      simp only [List.getElem?_toArray, List.getElem?_cons_zero, List.getElem?_cons_succ] at x0 x1 x2 x3
      go_wp2_with fail
      refine (ckPut1_calls 2 _).mono ?_
      rintro e wE ⟨rfl, hEE⟩
      have HXB := Lib.hid (hEE.hp HXB.out)
      have HEE := Lib.hid (HEW.out.trans' hEE)
      clear hEE
      have r0 := cellOf HXB.out 0
      have r1 := cellOf HXB.out 1
      have r2 := cellOf HXB.out 2
      have r3 := cellOf HXB.out 3
      simp only [List.getElem?_toArray, List.getElem?_cons_zero, List.getElem?_cons_succ] at r0 r1 r2 r3
      have f0 := freeOf HXB.out 0
      have f1 := freeOf HXB.out 1
      have f2 := freeOf HXB.out 2
      have f3 := freeOf HXB.out 3
      go_wp2
      refine bodyPost_ret (v := .tuple #[.agg #[.slice none 0 0, .slice none 0 0, .bool false, .slice none 0 0], .int .i64 2]) (by simp [results, Try.results8, go_sem, r0, r1, r2, r3]) rfl ⟨by rw [HER.out], box_ext HEE.out (by omega) _ _ _ _⟩
    have b1 : decide (p < 0) = false := by simpa using hp1
    by_cases hp2 : (s.qs.length : Int) ≤ p
    · have hE1 : E = 2 := by rw [HPE.out]; simp [hp2]
      have HER := Lib.hid hE1
      have b2 : decide ((s.qs.length : Int) ≤ p) = true := by simpa using hp2
      clear h0 hE1 hp2
      have HS := Lib.hid h
      have HSM := Lib.hid hs
      have HVI := Lib.hid hv
      have hs1 := hs.1
      have hs2 := hs.2.1
      obtain ⟨a, c, rfl, hlc⟩ := h.1.shape
      obtain ⟨ea, ec, rfl, hec⟩ := h.2.1.shape
      obtain ⟨ca, cc, hce, hcc, _⟩ := h.2.2
      subst hce
      obtain ⟨va, vc, rfl, hvc, _⟩ := hv
      clear h hs
      generalize hd : s.done = d at *
      have HD := Lib.hid hd
      clear hd
      generalize hn : s.qs.length = n at *
      generalize hl : s.ended.length = l at *
      generalize hcl : s.cut.length = cl at *
      have HN := Lib.hid hn
      have HL := Lib.hid hl
      have HCL := Lib.hid hcl
      clear hn hl hcl
      have HX0 := Lib.hid (((Ext.rf (w.alloc (ckT (.slice a n c) (.slice ea l ec) (.bool d) (.slice ca cl cc)))).al (ckT (.slice none 0 0) (.slice none 0 0) (.bool false) (.slice none 0 0))).hp (heap_alloc_new w (ckT (.slice a n c) (.slice ea l ec) (.bool d) (.slice ca cl cc))))
      have HX1 := Lib.hid (heap_new_eq (w := w.alloc (ckT (.slice a n c) (.slice ea l ec) (.bool d) (.slice ca cl cc))) (o := ckT (.slice none 0 0) (.slice none 0 0) (.bool false) (.slice none 0 0)) (b := w.heap.size + 1) (by simp))
      have HE0 : Hid (Ext w ((w.alloc (ckT (.slice a n c) (.slice ea l ec) (.bool d) (.slice ca cl cc))).alloc (ckT (.slice none 0 0) (.slice none 0 0) (.bool false) (.slice none 0 0)))) := Lib.hid (((Ext.rf w).al _).al _)
      have hsz0 : w.heap.size + 2 ≤ ((w.alloc (ckT (.slice a n c) (.slice ea l ec) (.bool d) (.slice ca cl cc))).alloc (ckT (.slice none 0 0) (.slice none 0 0) (.bool false) (.slice none 0 0))).heap.size := by simp
      go_enter Try.func8, Try.ntmps8
      go_wp2_with fail
      generalize hw0 : (w.alloc (ckT (.slice a n c) (.slice ea l ec) (.bool d) (.slice ca cl cc))).alloc (ckT (.slice none 0 0) (.slice none 0 0) (.bool false) (.slice none 0 0)) = w0 at *
      clear hw0
      have hvc := validP_calls (.slice a n c) (.slice ea l ec) (.slice ca cl cc) s w0 (HS.out.ext HE0.out) HSM.out
      rw [HD.out, HVAL.out] at hvc
      have HVC := Lib.hid hvc
      clear hvc
      refine HVC.out.mono ?_
      rintro e w1 ⟨rfl, hE1⟩
      have HXA := Lib.hid (hE1.hp HX0.out)
      have HXB := Lib.hid (hE1.hp HX1.out)
      have HEW := Lib.hid (HE0.out.trans' hE1)
      have hsz1 := hE1.sz
      clear hE1
      have x0 := cellOf HXA.out 0
      have x1 := cellOf HXA.out 1
      have x2 := cellOf HXA.out 2
      have x3 := cellOf HXA.out 3
      simp only [List.getElem?_toArray, List.getElem?_cons_zero, List.getElem?_cons_succ] at x0 x1 x2 x3
      go_wp2_with fail
      refine (ckPut1_calls 2 _).mono ?_
      rintro e wE ⟨rfl, hEE⟩
      have HXB := Lib.hid (hEE.hp HXB.out)
      have HEE := Lib.hid (HEW.out.trans' hEE)
      clear hEE
      have r0 := cellOf HXB.out 0
      have r1 := cellOf HXB.out 1
      have r2 := cellOf HXB.out 2
      have r3 := cellOf HXB.out 3
      simp only [List.getElem?_toArray, List.getElem?_cons_zero, List.getElem?_cons_succ] at r0 r1 r2 r3
      have f0 := freeOf HXB.out 0
      have f1 := freeOf HXB.out 1
      have f2 := freeOf HXB.out 2
      have f3 := freeOf HXB.out 3
      go_wp2
      refine bodyPost_ret (v := .tuple #[.agg #[.slice none 0 0, .slice none 0 0, .bool false, .slice none 0 0], .int .i64 2]) (by simp [results, Try.results8, go_sem, r0, r1, r2, r3]) rfl ⟨by rw [HER.out], box_ext HEE.out (by omega) _ _ _ _⟩
    have b2 : decide ((s.qs.length : Int) ≤ p) = false := by simpa using hp2
    obtain ⟨P, rfl⟩ : ∃ P : Nat, p = P := ⟨p.toNat, by omega⟩
    have hPn : P < s.qs.length := by omega
    cases hst : stampB lv s.qs.length with
    | false =>
      have hE1 : E = 2 := by rw [HPE.out, hst]; simp
      have HER := Lib.hid hE1
      have HSB := Lib.hid (fun W (hW : Ext w W) => stampP_calls v lv s.qs.length W (hv.ext hW) hvn)
      rw [hst] at HSB
      clear h0 hE1 hst
      have HS := Lib.hid h
      have HSM := Lib.hid hs
      have HVI := Lib.hid hv
      have hs1 := hs.1
      have hs2 := hs.2.1
      obtain ⟨a, c, rfl, hlc⟩ := h.1.shape
      obtain ⟨ea, ec, rfl, hec⟩ := h.2.1.shape
      obtain ⟨ca, cc, hce, hcc, _⟩ := h.2.2
      subst hce
      obtain ⟨va, vc, rfl, hvc, _⟩ := hv
      clear h hs
      generalize hd : s.done = d at *
      have HD := Lib.hid hd
      clear hd
      generalize hn : s.qs.length = n at *
      generalize hl : s.ended.length = l at *
      generalize hcl : s.cut.length = cl at *
      have HN := Lib.hid hn
      have HL := Lib.hid hl
      have HCL := Lib.hid hcl
      clear hn hl hcl
      have HX0 := Lib.hid (((Ext.rf (w.alloc (ckT (.slice a n c) (.slice ea l ec) (.bool d) (.slice ca cl cc)))).al (ckT (.slice none 0 0) (.slice none 0 0) (.bool false) (.slice none 0 0))).hp (heap_alloc_new w (ckT (.slice a n c) (.slice ea l ec) (.bool d) (.slice ca cl cc))))
      have HX1 := Lib.hid (heap_new_eq (w := w.alloc (ckT (.slice a n c) (.slice ea l ec) (.bool d) (.slice ca cl cc))) (o := ckT (.slice none 0 0) (.slice none 0 0) (.bool false) (.slice none 0 0)) (b := w.heap.size + 1) (by simp))
      have HE0 : Hid (Ext w ((w.alloc (ckT (.slice a n c) (.slice ea l ec) (.bool d) (.slice ca cl cc))).alloc (ckT (.slice none 0 0) (.slice none 0 0) (.bool false) (.slice none 0 0)))) := Lib.hid (((Ext.rf w).al _).al _)
      have hsz0 : w.heap.size + 2 ≤ ((w.alloc (ckT (.slice a n c) (.slice ea l ec) (.bool d) (.slice ca cl cc))).alloc (ckT (.slice none 0 0) (.slice none 0 0) (.bool false) (.slice none 0 0))).heap.size := by simp
      go_enter Try.func8, Try.ntmps8
      go_wp2_with fail
      generalize hw0 : (w.alloc (ckT (.slice a n c) (.slice ea l ec) (.bool d) (.slice ca cl cc))).alloc (ckT (.slice none 0 0) (.slice none 0 0) (.bool false) (.slice none 0 0)) = w0 at *
      clear hw0
      have hvc := validP_calls (.slice a n c) (.slice ea l ec) (.slice ca cl cc) s w0 (HS.out.ext HE0.out) HSM.out
      rw [HD.out, HVAL.out] at hvc
      have HVC := Lib.hid hvc
      clear hvc
      refine HVC.out.mono ?_
      rintro e w1 ⟨rfl, hE1⟩
      have HXA := Lib.hid (hE1.hp HX0.out)
      have HXB := Lib.hid (hE1.hp HX1.out)
      have HEW := Lib.hid (HE0.out.trans' hE1)
      have hsz1 := hE1.sz
      clear hE1
      have x0 := cellOf HXA.out 0
      have x1 := cellOf HXA.out 1
      have x2 := cellOf HXA.out 2
      have x3 := cellOf HXA.out 3
      simp only [List.getElem?_toArray, List.getElem?_cons_zero, List.getElem?_cons_succ] at x0 x1 x2 x3
      go_wp2_with fail
      refine (HSB.out w1 HEW.out).mono ?_
      rintro e w2 ⟨rfl, hD2⟩
      have HXA := Lib.hid (hD2.ext.hp HXA.out)
      have HXB := Lib.hid (hD2.ext.hp HXB.out)
      have HEW := Lib.hid (HEW.out.trans' hD2.ext)
      have hsz2 := hD2.ext.sz
      clear hD2 x0 x1 x2 x3
      have x0 := cellOf HXA.out 0
      have x1 := cellOf HXA.out 1
      have x2 := cellOf HXA.out 2
      have x3 := cellOf HXA.out 3
      simp only [List.getElem?_toArray, List.getElem?_cons_zero, List.getElem?_cons_succ] at x0 x1 x2 x3
      go_wp2_with fail
      refine (ckPut1_calls 2 _).mono ?_
      rintro e wE ⟨rfl, hEE⟩
      have HXB := Lib.hid (hEE.hp HXB.out)
      have HEE := Lib.hid (HEW.out.trans' hEE)
      clear hEE
      have r0 := cellOf HXB.out 0
      have r1 := cellOf HXB.out 1
      have r2 := cellOf HXB.out 2
      have r3 := cellOf HXB.out 3
      simp only [List.getElem?_toArray, List.getElem?_cons_zero, List.getElem?_cons_succ] at r0 r1 r2 r3
      have f0 := freeOf HXB.out 0
      have f1 := freeOf HXB.out 1
      have f2 := freeOf HXB.out 2
      have f3 := freeOf HXB.out 3
      go_wp2
      refine bodyPost_ret (v := .tuple #[.agg #[.slice none 0 0, .slice none 0 0, .bool false, .slice none 0 0], .int .i64 2]) (by simp [results, Try.results8, go_sem, r0, r1, r2, r3]) rfl ⟨by rw [HER.out], box_ext HEE.out (by omega) _ _ _ _⟩
    | true =>
      have HSTB := Lib.hid hst
      have HSB := Lib.hid (fun W (hW : Ext w W) => stampP_calls v lv s.qs.length W (hv.ext hW) hvn)
      rw [hst] at HSB
      have HPE := Lib.hid (show E = if s.done = true ∨ s.ended[P]! = true then 6
        else if 0 < s.qs[P]!.length ∧ afterB s.qs[P]![s.qs[P]!.length - 1]! lv P = false then 11
        else if 65 ≤ s.qs[P]!.length then 5
        else 0 from by rw [HPE.out, if_neg (by simp), if_neg (by rw [hst]; simp; omega), Int.toNat_natCast])
      clear hst
      have hPe : P < s.ended.length := by rw [HG3.out]; exact hPn
      cases hdn : s.done with
      | true =>
        have hE1 : E = 6 := by rw [HPE.out, if_pos (.inl hdn)]
        have HER := Lib.hid hE1
        rw [← hdn]
        have HDN := Lib.hid hdn
        clear h0 hE1 hdn
        have HS := Lib.hid h
        have HSM := Lib.hid hs
        have HVI := Lib.hid hv
        have hs1 := hs.1
        have hs2 := hs.2.1
        obtain ⟨a, c, rfl, hlc⟩ := h.1.shape
        obtain ⟨ea, ec, rfl, hec⟩ := h.2.1.shape
        obtain ⟨ca, cc, hce, hcc, _⟩ := h.2.2
        subst hce
        obtain ⟨va, vc, rfl, hvc, _⟩ := hv
        clear h hs
        generalize hd : s.done = d at *
        have HD := Lib.hid hd
        clear hd
        generalize hn : s.qs.length = n at *
        generalize hl : s.ended.length = l at *
        generalize hcl : s.cut.length = cl at *
        have HN := Lib.hid hn
        have HL := Lib.hid hl
        have HCL := Lib.hid hcl
        clear hn hl hcl
        have HX0 := Lib.hid (((Ext.rf (w.alloc (ckT (.slice a n c) (.slice ea l ec) (.bool d) (.slice ca cl cc)))).al (ckT (.slice none 0 0) (.slice none 0 0) (.bool false) (.slice none 0 0))).hp (heap_alloc_new w (ckT (.slice a n c) (.slice ea l ec) (.bool d) (.slice ca cl cc))))
        have HX1 := Lib.hid (heap_new_eq (w := w.alloc (ckT (.slice a n c) (.slice ea l ec) (.bool d) (.slice ca cl cc))) (o := ckT (.slice none 0 0) (.slice none 0 0) (.bool false) (.slice none 0 0)) (b := w.heap.size + 1) (by simp))
        have HE0 : Hid (Ext w ((w.alloc (ckT (.slice a n c) (.slice ea l ec) (.bool d) (.slice ca cl cc))).alloc (ckT (.slice none 0 0) (.slice none 0 0) (.bool false) (.slice none 0 0)))) := Lib.hid (((Ext.rf w).al _).al _)
        have hsz0 : w.heap.size + 2 ≤ ((w.alloc (ckT (.slice a n c) (.slice ea l ec) (.bool d) (.slice ca cl cc))).alloc (ckT (.slice none 0 0) (.slice none 0 0) (.bool false) (.slice none 0 0))).heap.size := by simp
        obtain rfl : d = true := HDN.out
        go_enter Try.func8, Try.ntmps8
        go_wp2_with fail
        generalize hw0 : (w.alloc (ckT (.slice a n c) (.slice ea l ec) (.bool true) (.slice ca cl cc))).alloc (ckT (.slice none 0 0) (.slice none 0 0) (.bool false) (.slice none 0 0)) = w0 at *
        clear hw0
        have hvc := validP_calls (.slice a n c) (.slice ea l ec) (.slice ca cl cc) s w0 (HS.out.ext HE0.out) HSM.out
        rw [HD.out, HVAL.out] at hvc
        have HVC := Lib.hid hvc
        clear hvc
        refine HVC.out.mono ?_
        rintro e w1 ⟨rfl, hE1⟩
        have HXA := Lib.hid (hE1.hp HX0.out)
        have HXB := Lib.hid (hE1.hp HX1.out)
        have HEW := Lib.hid (HE0.out.trans' hE1)
        have hsz1 := hE1.sz
        clear hE1
        have x0 := cellOf HXA.out 0
        have x1 := cellOf HXA.out 1
        have x2 := cellOf HXA.out 2
        have x3 := cellOf HXA.out 3
        simp only [List.getElem?_toArray, List.getElem?_cons_zero, List.getElem?_cons_succ] at x0 x1 x2 x3
        go_wp2_with fail
        refine (HSB.out w1 HEW.out).mono ?_
        rintro e w2 ⟨rfl, hD2⟩
        have HXA := Lib.hid (hD2.ext.hp HXA.out)
        have HXB := Lib.hid (hD2.ext.hp HXB.out)
        have HEW := Lib.hid (HEW.out.trans' hD2.ext)
        have hsz2 := hD2.ext.sz
        clear hD2 x0 x1 x2 x3
        have x0 := cellOf HXA.out 0
        have x1 := cellOf HXA.out 1
        have x2 := cellOf HXA.out 2
        have x3 := cellOf HXA.out 3
        simp only [List.getElem?_toArray, List.getElem?_cons_zero, List.getElem?_cons_succ] at x0 x1 x2 x3
        go_wp2_with fail
        refine (ckPut1_calls 6 _).mono ?_
        rintro e wE ⟨rfl, hEE⟩
        have HXB := Lib.hid (hEE.hp HXB.out)
        have HEE := Lib.hid (HEW.out.trans' hEE)
        clear hEE
        have r0 := cellOf HXB.out 0
        have r1 := cellOf HXB.out 1
        have r2 := cellOf HXB.out 2
        have r3 := cellOf HXB.out 3
        simp only [List.getElem?_toArray, List.getElem?_cons_zero, List.getElem?_cons_succ] at r0 r1 r2 r3
        have f0 := freeOf HXB.out 0
        have f1 := freeOf HXB.out 1
        have f2 := freeOf HXB.out 2
        have f3 := freeOf HXB.out 3
        go_wp2
        refine bodyPost_ret (v := .tuple #[.agg #[.slice none 0 0, .slice none 0 0, .bool false, .slice none 0 0], .int .i64 6]) (by simp [results, Try.results8, go_sem, r0, r1, r2, r3]) rfl ⟨by rw [HER.out], box_ext HEE.out (by omega) _ _ _ _⟩
      | false =>
        have HDN := Lib.hid hdn
        rw [← hdn]
        clear hdn
        cases hen : s.ended[P]! with
        | true =>
          have hE1 : E = 6 := by rw [HPE.out, if_pos (.inr hen)]
          have HER := Lib.hid hE1
          have HEN := Lib.hid hen
          clear h0 hE1 hen
          have HS := Lib.hid h
          have HSM := Lib.hid hs
          have HVI := Lib.hid hv
          have hs1 := hs.1
          have hs2 := hs.2.1
          obtain ⟨a, c, rfl, hlc⟩ := h.1.shape
          obtain ⟨ea, ec, rfl, hec⟩ := h.2.1.shape
          obtain ⟨ca, cc, hce, hcc, _⟩ := h.2.2
          subst hce
          obtain ⟨va, vc, rfl, hvc, _⟩ := hv
          clear h hs
          generalize hd : s.done = d at *
          have HD := Lib.hid hd
          clear hd
          generalize hn : s.qs.length = n at *
          generalize hl : s.ended.length = l at *
          generalize hcl : s.cut.length = cl at *
          have HN := Lib.hid hn
          have HL := Lib.hid hl
          have HCL := Lib.hid hcl
          clear hn hl hcl
          have HX0 := Lib.hid (((Ext.rf (w.alloc (ckT (.slice a n c) (.slice ea l ec) (.bool d) (.slice ca cl cc)))).al (ckT (.slice none 0 0) (.slice none 0 0) (.bool false) (.slice none 0 0))).hp (heap_alloc_new w (ckT (.slice a n c) (.slice ea l ec) (.bool d) (.slice ca cl cc))))
          have HX1 := Lib.hid (heap_new_eq (w := w.alloc (ckT (.slice a n c) (.slice ea l ec) (.bool d) (.slice ca cl cc))) (o := ckT (.slice none 0 0) (.slice none 0 0) (.bool false) (.slice none 0 0)) (b := w.heap.size + 1) (by simp))
          have HE0 : Hid (Ext w ((w.alloc (ckT (.slice a n c) (.slice ea l ec) (.bool d) (.slice ca cl cc))).alloc (ckT (.slice none 0 0) (.slice none 0 0) (.bool false) (.slice none 0 0)))) := Lib.hid (((Ext.rf w).al _).al _)
          have hsz0 : w.heap.size + 2 ≤ ((w.alloc (ckT (.slice a n c) (.slice ea l ec) (.bool d) (.slice ca cl cc))).alloc (ckT (.slice none 0 0) (.slice none 0 0) (.bool false) (.slice none 0 0))).heap.size := by simp
          obtain rfl : d = false := HDN.out
          go_enter Try.func8, Try.ntmps8
          go_wp2_with fail
          generalize hw0 : (w.alloc (ckT (.slice a n c) (.slice ea l ec) (.bool false) (.slice ca cl cc))).alloc (ckT (.slice none 0 0) (.slice none 0 0) (.bool false) (.slice none 0 0)) = w0 at *
          clear hw0
          have hvc := validP_calls (.slice a n c) (.slice ea l ec) (.slice ca cl cc) s w0 (HS.out.ext HE0.out) HSM.out
          rw [HD.out, HVAL.out] at hvc
          have HVC := Lib.hid hvc
          clear hvc
          refine HVC.out.mono ?_
          rintro e w1 ⟨rfl, hE1⟩
          have HXA := Lib.hid (hE1.hp HX0.out)
          have HXB := Lib.hid (hE1.hp HX1.out)
          have HEW := Lib.hid (HE0.out.trans' hE1)
          have hsz1 := hE1.sz
          clear hE1
          have x0 := cellOf HXA.out 0
          have x1 := cellOf HXA.out 1
          have x2 := cellOf HXA.out 2
          have x3 := cellOf HXA.out 3
          simp only [List.getElem?_toArray, List.getElem?_cons_zero, List.getElem?_cons_succ] at x0 x1 x2 x3
          go_wp2_with fail
          refine (HSB.out w1 HEW.out).mono ?_
          rintro e w2 ⟨rfl, hD2⟩
          have HXA := Lib.hid (hD2.ext.hp HXA.out)
          have HXB := Lib.hid (hD2.ext.hp HXB.out)
          have HEW := Lib.hid (HEW.out.trans' hD2.ext)
          have hsz2 := hD2.ext.sz
          clear hD2 x0 x1 x2 x3
          have x0 := cellOf HXA.out 0
          have x1 := cellOf HXA.out 1
          have x2 := cellOf HXA.out 2
          have x3 := cellOf HXA.out 3
          simp only [List.getElem?_toArray, List.getElem?_cons_zero, List.getElem?_cons_succ] at x0 x1 x2 x3
          obtain ⟨EB, EO, EC, ev, hee, _, _, hec0, hev⟩ := HS.out.2.1.at1 P (by rw [HL.out]; omega)
          simp only [Value.slice.injEq] at hee
          obtain ⟨rfl, hnn2, rfl⟩ := hee
          obtain rfl : ev = .bool s.ended[P]! := by simpa [RBool] using hev
          rw [HEN.out] at hec0
          have ce := HEW.out.cl hec0
          have hPz : (0 : Int) ≤ (P : Int) := by omega
          have hPl : (P : Int) < (l : Int) := by omega
          clear hnn2 hev hec0
          go_wp2_with fail
          refine (ckPut1_calls 6 _).mono ?_
          rintro e wE ⟨rfl, hEE⟩
          have HXB := Lib.hid (hEE.hp HXB.out)
          have HEE := Lib.hid (HEW.out.trans' hEE)
          clear hEE
          have r0 := cellOf HXB.out 0
          have r1 := cellOf HXB.out 1
          have r2 := cellOf HXB.out 2
          have r3 := cellOf HXB.out 3
          simp only [List.getElem?_toArray, List.getElem?_cons_zero, List.getElem?_cons_succ] at r0 r1 r2 r3
          have f0 := freeOf HXB.out 0
          have f1 := freeOf HXB.out 1
          have f2 := freeOf HXB.out 2
          have f3 := freeOf HXB.out 3
          go_wp2
          refine bodyPost_ret (v := .tuple #[.agg #[.slice none 0 0, .slice none 0 0, .bool false, .slice none 0 0], .int .i64 6]) (by simp [results, Try.results8, go_sem, r0, r1, r2, r3]) rfl ⟨by rw [HER.out], box_ext HEE.out (by omega) _ _ _ _⟩
        | false =>
          have HPE := Lib.hid (show E = if 0 < s.qs[P]!.length ∧ afterB s.qs[P]![s.qs[P]!.length - 1]! lv P = false then 11
            else if 65 ≤ s.qs[P]!.length then 5
            else 0 from by rw [HPE.out, if_neg (by rw [HDN.out, hen]; simp)])
          have HEN := Lib.hid hen
          clear hen
          cases haf : (decide (0 < s.qs[P]!.length) && !afterB s.qs[P]![s.qs[P]!.length - 1]! lv P) with
          | true =>
            simp only [Bool.and_eq_true, decide_eq_true_eq, Bool.not_eq_true'] at haf
            have hE1 : E = 11 := by rw [HPE.out, if_pos ⟨haf.1, haf.2⟩]
            have HER := Lib.hid hE1
            have hql := haf.1
            have HAF := Lib.hid haf.2
            clear h0 hE1 haf
            have HS := Lib.hid h
            have HSM := Lib.hid hs
            have HVI := Lib.hid hv
            have hs1 := hs.1
            have hs2 := hs.2.1
            obtain ⟨a, c, rfl, hlc⟩ := h.1.shape
            obtain ⟨ea, ec, rfl, hec⟩ := h.2.1.shape
            obtain ⟨ca, cc, hce, hcc, _⟩ := h.2.2
            subst hce
            obtain ⟨va, vc, rfl, hvc, _⟩ := hv
            clear h hs
            generalize hd : s.done = d at *
            have HD := Lib.hid hd
            clear hd
            generalize hn : s.qs.length = n at *
            generalize hl : s.ended.length = l at *
            generalize hcl : s.cut.length = cl at *
            have HN := Lib.hid hn
            have HL := Lib.hid hl
            have HCL := Lib.hid hcl
            clear hn hl hcl
            have HX0 := Lib.hid (((Ext.rf (w.alloc (ckT (.slice a n c) (.slice ea l ec) (.bool d) (.slice ca cl cc)))).al (ckT (.slice none 0 0) (.slice none 0 0) (.bool false) (.slice none 0 0))).hp (heap_alloc_new w (ckT (.slice a n c) (.slice ea l ec) (.bool d) (.slice ca cl cc))))
            have HX1 := Lib.hid (heap_new_eq (w := w.alloc (ckT (.slice a n c) (.slice ea l ec) (.bool d) (.slice ca cl cc))) (o := ckT (.slice none 0 0) (.slice none 0 0) (.bool false) (.slice none 0 0)) (b := w.heap.size + 1) (by simp))
            have HE0 : Hid (Ext w ((w.alloc (ckT (.slice a n c) (.slice ea l ec) (.bool d) (.slice ca cl cc))).alloc (ckT (.slice none 0 0) (.slice none 0 0) (.bool false) (.slice none 0 0)))) := Lib.hid (((Ext.rf w).al _).al _)
            have hsz0 : w.heap.size + 2 ≤ ((w.alloc (ckT (.slice a n c) (.slice ea l ec) (.bool d) (.slice ca cl cc))).alloc (ckT (.slice none 0 0) (.slice none 0 0) (.bool false) (.slice none 0 0))).heap.size := by simp
            obtain rfl : d = false := HDN.out
            go_enter Try.func8, Try.ntmps8
            go_wp2_with fail
            generalize hw0 : (w.alloc (ckT (.slice a n c) (.slice ea l ec) (.bool false) (.slice ca cl cc))).alloc (ckT (.slice none 0 0) (.slice none 0 0) (.bool false) (.slice none 0 0)) = w0 at *
            clear hw0
            have hvc := validP_calls (.slice a n c) (.slice ea l ec) (.slice ca cl cc) s w0 (HS.out.ext HE0.out) HSM.out
            rw [HD.out, HVAL.out] at hvc
            have HVC := Lib.hid hvc
            clear hvc
            refine HVC.out.mono ?_
            rintro e w1 ⟨rfl, hE1⟩
            have HXA := Lib.hid (hE1.hp HX0.out)
            have HXB := Lib.hid (hE1.hp HX1.out)
            have HEW := Lib.hid (HE0.out.trans' hE1)
            have hsz1 := hE1.sz
            clear hE1
            have x0 := cellOf HXA.out 0
            have x1 := cellOf HXA.out 1
            have x2 := cellOf HXA.out 2
            have x3 := cellOf HXA.out 3
            simp only [List.getElem?_toArray, List.getElem?_cons_zero, List.getElem?_cons_succ] at x0 x1 x2 x3
            go_wp2_with fail
            refine (HSB.out w1 HEW.out).mono ?_
            rintro e w2 ⟨rfl, hD2⟩
            have HXA := Lib.hid (hD2.ext.hp HXA.out)
            have HXB := Lib.hid (hD2.ext.hp HXB.out)
            have HEW := Lib.hid (HEW.out.trans' hD2.ext)
            have hsz2 := hD2.ext.sz
            clear hD2 x0 x1 x2 x3
            have x0 := cellOf HXA.out 0
            have x1 := cellOf HXA.out 1
            have x2 := cellOf HXA.out 2
            have x3 := cellOf HXA.out 3
            simp only [List.getElem?_toArray, List.getElem?_cons_zero, List.getElem?_cons_succ] at x0 x1 x2 x3
            obtain ⟨EB, EO, EC, ev, hee, _, _, hec0, hev⟩ := HS.out.2.1.at1 P (by rw [HL.out]; omega)
            simp only [Value.slice.injEq] at hee
            obtain ⟨rfl, hnn2, rfl⟩ := hee
            obtain rfl : ev = .bool s.ended[P]! := by simpa [RBool] using hev
            rw [HEN.out] at hec0
            have ce := HEW.out.cl hec0
            have hPz : (0 : Int) ≤ (P : Int) := by omega
            have hPl : (P : Int) < (l : Int) := by omega
            clear hnn2 hev hec0
            obtain ⟨B, O, C, a1, m1, c1, hue0, hcp0, M1, hmc1, HS1⟩ := queue_at HS.out.1 P (by rw [HN.out]; omega)
            simp only [Value.slice.injEq] at hue0
            obtain ⟨rfl, hnn, rfl⟩ := hue0
            have HCP := Lib.hid hcp0
            have hcp := HEW.out.cl hcp0
            have HM1 := Lib.hid M1
            have HQS := Lib.hid HS1
            have hPn1 : (P : Int) < (n : Int) := by omega
            have hm1b := (HSM.out.2.2.2 P (by rw [HN.out]; omega)).1
            rw [← M1] at hm1b
            clear M1 HS1 hnn hcp0
            have hm1p : 0 < m1 := by rw [HM1.out]; exact hql
            have c1' : decide (0 < (m1 : Int)) = true := by simp; omega
            have c1n : decide (0 < m1) = true := by simp; omega
            have hz1 : (0 : Int) ≤ (m1 : Int) - 1 := by omega
            have hz2 : (m1 : Int) - 1 < (m1 : Int) := by omega
            have hz3 : ((m1 : Int) - 1).toNat = m1 - 1 := by omega
            have hz4 : (1 : Int) ≤ (m1 : Int) := by omega
            obtain ⟨b', o', pv, rfl, hcj0, hpv⟩ := stamp_at HQS.out (m1 - 1) (by rw [← HM1.out]; omega)
            have hcj := HEW.out.cl hcj0
            have HPV := Lib.hid hpv
            have hplen := stamp_len ((queue_parts.1 (HG4.out P (by omega))).2 (m1 - 1) (by rw [← HM1.out]; omega)).1
            clear hcj0 hpv
            have haf := afterP_calls pv (.slice va lv.length vc) s.qs[P]![m1 - 1]! lv n P w2 (HPV.out.ext HEW.out) (HVI.out.ext HEW.out) hplen (by have := stamp_len HSTB.out; omega) (by omega) (by omega)
            rw [show m1 - 1 = s.qs[P]!.length - 1 from by rw [HM1.out], HAF.out] at haf
            have HAC := Lib.hid haf
            clear haf hplen
            go_wp2_with fail
            refine HAC.out.mono ?_
            rintro e w3 ⟨rfl, hD3⟩
            have HXA := Lib.hid (hD3.ext.hp HXA.out)
            have HXB := Lib.hid (hD3.ext.hp HXB.out)
            have HEW := Lib.hid (HEW.out.trans' hD3.ext)
            have hsz3 := hD3.ext.sz
            clear hD3 x0 x1 x2 x3
            have x0 := cellOf HXA.out 0
            have x1 := cellOf HXA.out 1
            have x2 := cellOf HXA.out 2
            have x3 := cellOf HXA.out 3
            simp only [List.getElem?_toArray, List.getElem?_cons_zero, List.getElem?_cons_succ] at x0 x1 x2 x3
            go_wp2_with fail
            refine (ckPut1_calls 11 _).mono ?_
            rintro e wE ⟨rfl, hEE⟩
            have HXB := Lib.hid (hEE.hp HXB.out)
            have HEE := Lib.hid (HEW.out.trans' hEE)
            clear hEE
            have r0 := cellOf HXB.out 0
            have r1 := cellOf HXB.out 1
            have r2 := cellOf HXB.out 2
            have r3 := cellOf HXB.out 3
            simp only [List.getElem?_toArray, List.getElem?_cons_zero, List.getElem?_cons_succ] at r0 r1 r2 r3
            have f0 := freeOf HXB.out 0
            have f1 := freeOf HXB.out 1
            have f2 := freeOf HXB.out 2
            have f3 := freeOf HXB.out 3
            go_wp2
            refine bodyPost_ret (v := .tuple #[.agg #[.slice none 0 0, .slice none 0 0, .bool false, .slice none 0 0], .int .i64 11]) (by simp [results, Try.results8, go_sem, r0, r1, r2, r3]) rfl ⟨by rw [HER.out], box_ext HEE.out (by omega) _ _ _ _⟩
          | false =>
            have hna : ¬ (0 < s.qs[P]!.length ∧ afterB s.qs[P]![s.qs[P]!.length - 1]! lv P = false) := by
              rintro ⟨k1, k2⟩; rw [decide_eq_true k1, k2] at haf; simp at haf
            have hE5 : E = 5 ∧ 65 ≤ s.qs[P]!.length := by
              by_cases h65 : 65 ≤ s.qs[P]!.length
              · exact ⟨by rw [HPE.out, if_neg hna, if_pos h65], h65⟩
              · exact absurd (by rw [HPE.out, if_neg hna, if_neg h65]) h0
            have HER := Lib.hid hE5.1
            have h65 := hE5.2
            have hql : 0 < s.qs[P]!.length := by omega
            have HAF := Lib.hid (show afterB s.qs[P]![s.qs[P]!.length - 1]! lv P = true from by
              cases hq : afterB s.qs[P]![s.qs[P]!.length - 1]! lv P with
              | true => rfl
              | false => exact absurd ⟨hql, hq⟩ hna)
            clear h0 haf hna hE5
            have HS := Lib.hid h
            have HSM := Lib.hid hs
            have HVI := Lib.hid hv
            have hs1 := hs.1
            have hs2 := hs.2.1
            obtain ⟨a, c, rfl, hlc⟩ := h.1.shape
            obtain ⟨ea, ec, rfl, hec⟩ := h.2.1.shape
            obtain ⟨ca, cc, hce, hcc, _⟩ := h.2.2
            subst hce
            obtain ⟨va, vc, rfl, hvc, _⟩ := hv
            clear h hs
            generalize hd : s.done = d at *
            have HD := Lib.hid hd
            clear hd
            generalize hn : s.qs.length = n at *
            generalize hl : s.ended.length = l at *
            generalize hcl : s.cut.length = cl at *
            have HN := Lib.hid hn
            have HL := Lib.hid hl
            have HCL := Lib.hid hcl
            clear hn hl hcl
            have HX0 := Lib.hid (((Ext.rf (w.alloc (ckT (.slice a n c) (.slice ea l ec) (.bool d) (.slice ca cl cc)))).al (ckT (.slice none 0 0) (.slice none 0 0) (.bool false) (.slice none 0 0))).hp (heap_alloc_new w (ckT (.slice a n c) (.slice ea l ec) (.bool d) (.slice ca cl cc))))
            have HX1 := Lib.hid (heap_new_eq (w := w.alloc (ckT (.slice a n c) (.slice ea l ec) (.bool d) (.slice ca cl cc))) (o := ckT (.slice none 0 0) (.slice none 0 0) (.bool false) (.slice none 0 0)) (b := w.heap.size + 1) (by simp))
            have HE0 : Hid (Ext w ((w.alloc (ckT (.slice a n c) (.slice ea l ec) (.bool d) (.slice ca cl cc))).alloc (ckT (.slice none 0 0) (.slice none 0 0) (.bool false) (.slice none 0 0)))) := Lib.hid (((Ext.rf w).al _).al _)
            have hsz0 : w.heap.size + 2 ≤ ((w.alloc (ckT (.slice a n c) (.slice ea l ec) (.bool d) (.slice ca cl cc))).alloc (ckT (.slice none 0 0) (.slice none 0 0) (.bool false) (.slice none 0 0))).heap.size := by simp
            obtain rfl : d = false := HDN.out
            go_enter Try.func8, Try.ntmps8
            go_wp2_with fail
            generalize hw0 : (w.alloc (ckT (.slice a n c) (.slice ea l ec) (.bool false) (.slice ca cl cc))).alloc (ckT (.slice none 0 0) (.slice none 0 0) (.bool false) (.slice none 0 0)) = w0 at *
            clear hw0
            have hvc := validP_calls (.slice a n c) (.slice ea l ec) (.slice ca cl cc) s w0 (HS.out.ext HE0.out) HSM.out
            rw [HD.out, HVAL.out] at hvc
            have HVC := Lib.hid hvc
            clear hvc
            refine HVC.out.mono ?_
            rintro e w1 ⟨rfl, hE1⟩
            have HXA := Lib.hid (hE1.hp HX0.out)
            have HXB := Lib.hid (hE1.hp HX1.out)
            have HEW := Lib.hid (HE0.out.trans' hE1)
            have hsz1 := hE1.sz
            clear hE1
            have x0 := cellOf HXA.out 0
            have x1 := cellOf HXA.out 1
            have x2 := cellOf HXA.out 2
            have x3 := cellOf HXA.out 3
            simp only [List.getElem?_toArray, List.getElem?_cons_zero, List.getElem?_cons_succ] at x0 x1 x2 x3
            go_wp2_with fail
            refine (HSB.out w1 HEW.out).mono ?_
            rintro e w2 ⟨rfl, hD2⟩
            have HXA := Lib.hid (hD2.ext.hp HXA.out)
            have HXB := Lib.hid (hD2.ext.hp HXB.out)
            have HEW := Lib.hid (HEW.out.trans' hD2.ext)
            have hsz2 := hD2.ext.sz
            clear hD2 x0 x1 x2 x3
            have x0 := cellOf HXA.out 0
            have x1 := cellOf HXA.out 1
            have x2 := cellOf HXA.out 2
            have x3 := cellOf HXA.out 3
            simp only [List.getElem?_toArray, List.getElem?_cons_zero, List.getElem?_cons_succ] at x0 x1 x2 x3
            obtain ⟨EB, EO, EC, ev, hee, _, _, hec0, hev⟩ := HS.out.2.1.at1 P (by rw [HL.out]; omega)
            simp only [Value.slice.injEq] at hee
            obtain ⟨rfl, hnn2, rfl⟩ := hee
            obtain rfl : ev = .bool s.ended[P]! := by simpa [RBool] using hev
            rw [HEN.out] at hec0
            have ce := HEW.out.cl hec0
            have hPz : (0 : Int) ≤ (P : Int) := by omega
            have hPl : (P : Int) < (l : Int) := by omega
            clear hnn2 hev hec0
            obtain ⟨B, O, C, a1, m1, c1, hue0, hcp0, M1, hmc1, HS1⟩ := queue_at HS.out.1 P (by rw [HN.out]; omega)
            simp only [Value.slice.injEq] at hue0
            obtain ⟨rfl, hnn, rfl⟩ := hue0
            have HCP := Lib.hid hcp0
            have hcp := HEW.out.cl hcp0
            have HM1 := Lib.hid M1
            have HQS := Lib.hid HS1
            have hPn1 : (P : Int) < (n : Int) := by omega
            have hm1b := (HSM.out.2.2.2 P (by rw [HN.out]; omega)).1
            rw [← M1] at hm1b
            clear M1 HS1 hnn hcp0
            have c65 : decide (65 ≤ (m1 : Int)) = true := by have := HM1.out; simp; omega
            have hm1p : 0 < m1 := by rw [HM1.out]; exact hql
            have c1' : decide (0 < (m1 : Int)) = true := by simp; omega
            have c1n : decide (0 < m1) = true := by simp; omega
            have hz1 : (0 : Int) ≤ (m1 : Int) - 1 := by omega
            have hz2 : (m1 : Int) - 1 < (m1 : Int) := by omega
            have hz3 : ((m1 : Int) - 1).toNat = m1 - 1 := by omega
            have hz4 : (1 : Int) ≤ (m1 : Int) := by omega
            obtain ⟨b', o', pv, rfl, hcj0, hpv⟩ := stamp_at HQS.out (m1 - 1) (by rw [← HM1.out]; omega)
            have hcj := HEW.out.cl hcj0
            have HPV := Lib.hid hpv
            have hplen := stamp_len ((queue_parts.1 (HG4.out P (by omega))).2 (m1 - 1) (by rw [← HM1.out]; omega)).1
            clear hcj0 hpv
            have haf := afterP_calls pv (.slice va lv.length vc) s.qs[P]![m1 - 1]! lv n P w2 (HPV.out.ext HEW.out) (HVI.out.ext HEW.out) hplen (by have := stamp_len HSTB.out; omega) (by omega) (by omega)
            rw [show m1 - 1 = s.qs[P]!.length - 1 from by rw [HM1.out], HAF.out] at haf
            have HAC := Lib.hid haf
            clear haf hplen
            go_wp2_with fail
            refine HAC.out.mono ?_
            rintro e w3 ⟨rfl, hD3⟩
            have HXA := Lib.hid (hD3.ext.hp HXA.out)
            have HXB := Lib.hid (hD3.ext.hp HXB.out)
            have HEW := Lib.hid (HEW.out.trans' hD3.ext)
            have hsz3 := hD3.ext.sz
            clear hD3 x0 x1 x2 x3
            have x0 := cellOf HXA.out 0
            have x1 := cellOf HXA.out 1
            have x2 := cellOf HXA.out 2
            have x3 := cellOf HXA.out 3
            simp only [List.getElem?_toArray, List.getElem?_cons_zero, List.getElem?_cons_succ] at x0 x1 x2 x3
            go_wp2_with fail
            refine (ckPut1_calls 5 _).mono ?_
            rintro e wE ⟨rfl, hEE⟩
            have HXB := Lib.hid (hEE.hp HXB.out)
            have HEE := Lib.hid (HEW.out.trans' hEE)
            clear hEE
            have r0 := cellOf HXB.out 0
            have r1 := cellOf HXB.out 1
            have r2 := cellOf HXB.out 2
            have r3 := cellOf HXB.out 3
            simp only [List.getElem?_toArray, List.getElem?_cons_zero, List.getElem?_cons_succ] at r0 r1 r2 r3
            have f0 := freeOf HXB.out 0
            have f1 := freeOf HXB.out 1
            have f2 := freeOf HXB.out 2
            have f3 := freeOf HXB.out 3
            go_wp2
            refine bodyPost_ret (v := .tuple #[.agg #[.slice none 0 0, .slice none 0 0, .bool false, .slice none 0 0], .int .i64 5]) (by simp [results, Try.results8, go_sem, r0, r1, r2, r3]) rfl ⟨by rw [HER.out], box_ext HEE.out (by omega) _ _ _ _⟩

end Go.Proofs.Ytdcahdcnoeomhaa
