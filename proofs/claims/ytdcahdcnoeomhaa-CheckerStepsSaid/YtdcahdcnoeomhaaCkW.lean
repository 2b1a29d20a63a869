/-
  The law CheckerSteps.
-/
import Derived.Test.YtdcahdcnoeomhaaBase
import Derived.Test.YtdcahdcnoeomhaaProg
import Derived.BigQuiet
import Derived.Deep.QuietTactic
import Derived.Deep.LoopGhost
import Derived.Shelf.Abstract
import Derived.Test.YtdcahdcnoeomhaaCkN
import Derived.Test.YtdcahdcnoeomhaaCkR
import Derived.Test.YtdcahdcnoeomhaaCkTs
import Derived.Test.YtdcahdcnoeomhaaCkY
namespace Go.Proofs.Ytdcahdcnoeomhaa
open Go.RowKit
set_option linter.unusedVariables false
attribute [local go_sem ↓] Go.wp_at_zero Go.wp_at_succ

set_option maxHeartbeats 4000000 in
set_option maxRecDepth 100000 in
theorem lawSteps_out (N : Int) (uq ue uc v : Value) (s : Ck) (p : Int) (lv : List Int) (w : World) (h : CkAt w uq ue uc s) (hv : Ints w v lv) (ho : greatB s = true ∨ 20 < lv.length) :
    Calls Try.prog 4 #[.int .i64 N, .agg #[uq, ue, .bool s.done, uc], .int .i64 p, v] w fun e w' => e = .returned (.bool true) ∧ Ext w w' := by
  have HS := Lib.hid h
  have HVI := Lib.hid hv
  obtain ⟨a, c, rfl, hlc⟩ := h.1.shape
  obtain ⟨ea, ec, rfl, hec⟩ := h.2.1.shape
  obtain ⟨ca, cc, hce, hcc, _⟩ := h.2.2
  subst hce
  obtain ⟨va, vc, rfl, hvc, _⟩ := hv
  clear h
  have hgr := fun W (hW : Ext w W) => great_calls (.slice a s.qs.length c) (.slice ea s.ended.length ec) (.slice ca s.cut.length cc) s W (HS.out.ext hW)
  cases hg : greatB s with
  | true =>
    rw [hg] at hgr
    clear ho hg
    generalize hd : s.done = d at *
    have HD := Lib.hid hd
    clear hd
    generalize hn : s.qs.length = n at *
    generalize hl : s.ended.length = l at *
    generalize hcl : s.cut.length = cl at *
    generalize hvl : lv.length = vl at *
    have HN := Lib.hid hn
    have HL := Lib.hid hl
    have HCL := Lib.hid hcl
    have HVL := Lib.hid hvl
    clear hn hl hcl hvl
    have HGR := Lib.hid hgr
    clear hgr
    go_enter Try.func4, Try.ntmps4
    go_wp2_with fail
    refine (awake_calls _).mono ?_
    rintro e w1 ⟨rfl, hE1⟩
    have HX1 := Lib.hid (hE1.hp (heap_alloc_new w (ckT (.slice a n c) (.slice ea l ec) (.bool d) (.slice ca cl cc))))
    have HE1 := Lib.hid (show Ext w w1 from Ext.trans' (by repeat (first | refine Ext.st ?_ (by first | exact Nat.le_refl _ | exact Nat.le_succ _ | assumption | omega) _ | refine Ext.al ?_ _ | refine Ext.dr ?_ | refine Ext.drN ?_ _ | exact Ext.rf _)) hE1)
    clear hE1
    have x0 := cellOf HX1.out 0
    have x1 := cellOf HX1.out 1
    have x2 := cellOf HX1.out 2
    have x3 := cellOf HX1.out 3
    simp only [List.getElem?_toArray, List.getElem?_cons_zero, List.getElem?_cons_succ] at x0 x1 x2 x3
    go_wp2_with fail
    refine (HGR.out _ HE1.out).mono ?_
    rintro e w2 ⟨rfl, hE2⟩
    have HX2 := Lib.hid (hE2.hp HX1.out)
    have HE2 := Lib.hid (HE1.out.trans' hE2)
    clear hE2 x0 x1 x2 x3
    go_wp2
    go_ret
    exact ⟨rfl, HE2.out⟩
  | false =>
    rw [hg] at hgr
    have h20 : 20 < lv.length := ho.resolve_left (by rw [hg]; simp)
    have b1 : decide (20 < (lv.length : Int)) = true := by simp; omega
    have b1n : decide (20 < lv.length) = true := by simp; omega
    clear ho hg
    generalize hd : s.done = d at *
    have HD := Lib.hid hd
    clear hd
    generalize hn : s.qs.length = n at *
    generalize hl : s.ended.length = l at *
    generalize hcl : s.cut.length = cl at *
    generalize hvl : lv.length = vl at *
    have HN := Lib.hid hn
    have HL := Lib.hid hl
    have HCL := Lib.hid hcl
    have HVL := Lib.hid hvl
    clear hn hl hcl hvl
    have HGR := Lib.hid hgr
    clear hgr
    go_enter Try.func4, Try.ntmps4
    go_wp2_with fail
    refine (awake_calls _).mono ?_
    rintro e w1 ⟨rfl, hE1⟩
    have HX1 := Lib.hid (hE1.hp (heap_alloc_new w (ckT (.slice a n c) (.slice ea l ec) (.bool d) (.slice ca cl cc))))
    have HE1 := Lib.hid (show Ext w w1 from Ext.trans' (by repeat (first | refine Ext.st ?_ (by first | exact Nat.le_refl _ | exact Nat.le_succ _ | assumption | omega) _ | refine Ext.al ?_ _ | refine Ext.dr ?_ | refine Ext.drN ?_ _ | exact Ext.rf _)) hE1)
    clear hE1
    have x0 := cellOf HX1.out 0
    have x1 := cellOf HX1.out 1
    have x2 := cellOf HX1.out 2
    have x3 := cellOf HX1.out 3
    simp only [List.getElem?_toArray, List.getElem?_cons_zero, List.getElem?_cons_succ] at x0 x1 x2 x3
    go_wp2_with fail
    refine (HGR.out _ HE1.out).mono ?_
    rintro e w2 ⟨rfl, hE2⟩
    have HX2 := Lib.hid (hE2.hp HX1.out)
    have HE2 := Lib.hid (HE1.out.trans' hE2)
    clear hE2 x0 x1 x2 x3
    go_wp2
    go_ret
    exact ⟨rfl, HE2.out⟩



set_option maxHeartbeats 16000000 in
set_option maxRecDepth 100000 in
theorem lawSteps_bad (N : Int) (uq ue uc v : Value) (s : Ck) (p : Int) (lv : List Int) (w : World) (h : CkAt w uq ue uc s) (hv : Ints w v lv) (hg : greatB s = false) (h20 : ¬ 20 < lv.length) (hN : N < 1 ∨ ¬ N < 1 ∧ 8 < N) :
    Calls Try.prog 4 #[.int .i64 N, .agg #[uq, ue, .bool s.done, uc], .int .i64 p, v] w fun e w' => e = .returned (.bool true) ∧ Ext w w' := by
  have hnew := fun W => newP_bad N W (by omega)
  have HNEW := Lib.hid hnew
  clear hnew
  have hb1 : decide (N < 1) = true ∨ decide (N < 1) = false ∧ decide (8 < N) = true := by
    rcases hN with h | ⟨h, h2⟩
    · exact .inl (by simpa using h)
    · exact .inr ⟨by simpa using h, by simpa using h2⟩
  clear hN
  have HS := Lib.hid h
  have HVI := Lib.hid hv
  obtain ⟨a, c, rfl, hlc⟩ := h.1.shape
  obtain ⟨ea, ec, rfl, hec⟩ := h.2.1.shape
  obtain ⟨ca, cc, hce, hcc, _⟩ := h.2.2
  subst hce
  obtain ⟨va, vc, rfl, hvc, _⟩ := hv
  clear h
  have hgr := fun W (hW : Ext w W) => great_calls (.slice a s.qs.length c) (.slice ea s.ended.length ec) (.slice ca s.cut.length cc) s W (HS.out.ext hW)
  rw [hg] at hgr
  have b1 : decide (20 < (lv.length : Int)) = false := by simp; omega
  have b1n : decide (20 < lv.length) = false := by simp; omega
  obtain ⟨hsm, hn10, _, _, hq70⟩ := great_small hg
  have hvr := fun W (hW : Ext w W) => validR_calls (.slice a s.qs.length c) (.slice ea s.ended.length ec) (.slice ca s.cut.length cc) s W (HS.out.ext hW) hsm
  have hvp := fun W (hW : Ext w W) => validP_calls (.slice a s.qs.length c) (.slice ea s.ended.length ec) (.slice ca s.cut.length cc) s W (HS.out.ext hW) hsm
  have hpp := fun W (hW : Ext w W) => putP_all (.slice a s.qs.length c) (.slice ea s.ended.length ec) (.slice ca s.cut.length cc) (.slice va lv.length vc) s p lv W (HS.out.ext hW) hsm (HVI.out.ext hW) (by omega)
  have hpr := fun W (hW : Ext w W) => putR_all (.slice a s.qs.length c) (.slice ea s.ended.length ec) (.slice ca s.cut.length cc) (.slice va lv.length vc) s p lv W (HS.out.ext hW) hsm (HVI.out.ext hW) (by omega)
  have hep := fun W (hW : Ext w W) => endP_all (.slice a s.qs.length c) (.slice ea s.ended.length ec) (.slice ca s.cut.length cc) s p W (HS.out.ext hW) hsm
  have her := fun W (hW : Ext w W) => endR_all (.slice a s.qs.length c) (.slice ea s.ended.length ec) (.slice ca s.cut.length cc) s p W (HS.out.ext hW) hsm
  have hst := fun W (hW : Ext w W) => storedP_calls (.slice a s.qs.length c) (.slice ea s.ended.length ec) (.slice ca s.cut.length cc) s W (HS.out.ext hW) hsm
  have HPS := Lib.hid (putRes_small s p lv)
  have HES := Lib.hid (endRes_small hsm p)
  generalize putRes s p lv = PC at *
  generalize putErr s p lv = PE at *
  generalize endRes s p = EC at *
  generalize endErr s p = EE at *
  have HSMC := Lib.hid hsm
  have HQ70 := Lib.hid hq70
  have bPE : (PE != PE) = false := by simp
  have bEE : (EE != EE) = false := by simp
  cases hval : validC s with
  | false =>
    have hrs := fun W (hW : Ext w W) => resultP_bad (.slice a s.qs.length c) (.slice ea s.ended.length ec) (.slice ca s.cut.length cc) s W (HS.out.ext hW) hsm hval
    obtain ⟨tS, hts⟩ : ∃ tS, storedL s.qs = tS := ⟨_, rfl⟩
    rw [hval] at hvr hvp hst
    simp only [if_true, if_false, Bool.false_eq_true, hts] at hst
    have HTS := Lib.hid hts
    clear hval hts
    obtain ⟨p1, hp1⟩ : ∃ k, PC.qs.length = k := ⟨_, rfl⟩
    obtain ⟨p2, hp2⟩ : ∃ k, PC.ended.length = k := ⟨_, rfl⟩
    obtain ⟨p3, hp3⟩ : ∃ k, PC.cut.length = k := ⟨_, rfl⟩
    obtain ⟨pd, hpd⟩ : ∃ k, PC.done = k := ⟨_, rfl⟩
    obtain ⟨q1, hq1⟩ : ∃ k, EC.qs.length = k := ⟨_, rfl⟩
    obtain ⟨q2, hq2⟩ : ∃ k, EC.ended.length = k := ⟨_, rfl⟩
    obtain ⟨q3, hq3⟩ : ∃ k, EC.cut.length = k := ⟨_, rfl⟩
    obtain ⟨qd, hqd⟩ : ∃ k, EC.done = k := ⟨_, rfl⟩
    generalize hd : s.done = d at *
    have HD := Lib.hid hd
    clear hd
    generalize hn : s.qs.length = n at *
    generalize hl : s.ended.length = l at *
    generalize hcl : s.cut.length = cl at *
    generalize hvl : lv.length = vl at *
    have HN := Lib.hid hn
    have HL := Lib.hid hl
    have HCL := Lib.hid hcl
    have HVL := Lib.hid hvl
    clear hn hl hcl hvl
    have HGR := Lib.hid hgr
    clear hgr
    have HRS := Lib.hid hrs
    clear hrs
    have HVR := Lib.hid hvr
    have HVP := Lib.hid hvp
    have HPP := Lib.hid hpp
    have HPR := Lib.hid hpr
    have HEP := Lib.hid hep
    have HER := Lib.hid her
    have HST := Lib.hid hst
    clear hvr hvp hpp hpr hep her hst hg hsm hq70
    go_enter Try.func4, Try.ntmps4
    go_wp2_with fail
    refine (awake_calls _).mono ?_
    rintro e w1 ⟨rfl, hE1⟩
    have HX1 := Lib.hid (hE1.hp (heap_alloc_new w (ckT (.slice a n c) (.slice ea l ec) (.bool d) (.slice ca cl cc))))
    have HE1 := Lib.hid (show Ext w w1 from Ext.trans' (by repeat (first | refine Ext.st ?_ (by first | exact Nat.le_refl _ | exact Nat.le_succ _ | assumption | omega) _ | refine Ext.al ?_ _ | refine Ext.dr ?_ | refine Ext.drN ?_ _ | exact Ext.rf _)) hE1)
    clear hE1
    have x0 := cellOf HX1.out 0
    have x1 := cellOf HX1.out 1
    have x2 := cellOf HX1.out 2
    have x3 := cellOf HX1.out 3
    simp only [List.getElem?_toArray, List.getElem?_cons_zero, List.getElem?_cons_succ] at x0 x1 x2 x3
    go_wp2_with fail
    refine (HGR.out _ HE1.out).mono ?_
    rintro e w2 ⟨rfl, hE2⟩
    have HX2 := Lib.hid (hE2.hp HX1.out)
    have HE2 := Lib.hid (HE1.out.trans' hE2)
    clear hE2 x0 x1 x2 x3
    rcases hb1 with c1 | ⟨c1, c2⟩
    ·
      go_wp2_with fail
      refine (HNEW.out _).mono ?_
      rintro e w3 ⟨rfl, hE⟩
      have HE3 := Lib.hid (HE2.out.trans' hE)
      have HX3 := Lib.hid (hE.hp HX2.out)
      clear hE
      go_wp2_with fail
      refine (same47_eq (.slice none 0 0) (.slice none 0 0) (.slice none 0 0) (.slice none 0 0) (.slice none 0 0) (.slice none 0 0) zeroC _ (zero_at _) (zero_at _) zero_small).mono ?_
      rintro e w4 ⟨rfl, hE⟩
      have hX34 : Ext w3 w4 := Ext.trans' (by repeat (first | refine Ext.st ?_ (by first | exact Nat.le_refl _ | exact Nat.le_succ _ | assumption | omega) _ | refine Ext.al ?_ _ | refine Ext.dr ?_ | refine Ext.drN ?_ _ | exact Ext.rf _)) hE
      have HEN := Lib.hid (HE3.out.trans' hX34)
      have HXS := Lib.hid (hX34.hp HX3.out)
      clear hE hX34
      have HP1 := Lib.hid hp1
      have HP2 := Lib.hid hp2
      have HP3 := Lib.hid hp3
      have HPD := Lib.hid hpd
      have HQ1 := Lib.hid hq1
      have HQ2 := Lib.hid hq2
      have HQ3 := Lib.hid hq3
      have HQD := Lib.hid hqd
      clear hp1 hp2 hp3 hpd hq1 hq2 hq3 hqd
      have x0 := cellOf HXS.out 0
      have x1 := cellOf HXS.out 1
      have x2 := cellOf HXS.out 2
      have x3 := cellOf HXS.out 3
      simp only [List.getElem?_toArray, List.getElem?_cons_zero, List.getElem?_cons_succ] at x0 x1 x2 x3
      go_wp2_with fail
      refine (HVR.out _ HEN.out).mono ?_
      rintro e w5 ⟨rfl, hE⟩
      have HXS := Lib.hid (hE.hp HXS.out)
      have HE5 := Lib.hid (HEN.out.trans' hE)
      clear hE x0 x1 x2 x3
      have x0 := cellOf HXS.out 0
      have x1 := cellOf HXS.out 1
      have x2 := cellOf HXS.out 2
      have x3 := cellOf HXS.out 3
      simp only [List.getElem?_toArray, List.getElem?_cons_zero, List.getElem?_cons_succ] at x0 x1 x2 x3
      go_wp2_with fail
      refine (HPP.out _ HE5.out).mono ?_
      rintro e w6 ⟨vq, ve, vd, rfl, hC, hE⟩
      have HXS := Lib.hid (hE.hp HXS.out)
      have HE6 := Lib.hid (HE5.out.trans' hE)
      clear hE x0 x1 x2 x3
      have hC := hC.read
      obtain ⟨a6, c6, rfl, _⟩ := hC.1.shape
      obtain ⟨ea6, ec6, rfl, _⟩ := hC.2.1.shape
      obtain ⟨ca6, cc6, hce6, _, _⟩ := hC.2.2
      subst hce6
      rw [HP1.out, HP2.out, HP3.out] at hC
      rw [HPD.out, HP1.out, HP2.out, HP3.out]
      have HC6 := Lib.hid hC
      clear hC
      have nk7 : w.heap.size < w6.heap.size := (Array.getElem?_eq_some_iff.1 HXS.out).1
      have nj7 : w.heap.size ≠ w6.heap.size := Nat.ne_of_lt nk7
      have x0 := cellOf HXS.out 0
      have x1 := cellOf HXS.out 1
      have x2 := cellOf HXS.out 2
      have x3 := cellOf HXS.out 3
      simp only [List.getElem?_toArray, List.getElem?_cons_zero, List.getElem?_cons_succ] at x0 x1 x2 x3
      go_wp2_with fail
      refine (HPR.out _ (HE6.out.al (ckT (.slice a6 p1 c6) (.slice ea6 p2 ec6) (.bool pd) (.slice ca6 p3 cc6)))).mono ?_
      rintro e w7 ⟨vq, ve, vd, rfl, hC, hE⟩
      have HE67 := Lib.hid (((Ext.rf w6).al (ckT (.slice a6 p1 c6) (.slice ea6 p2 ec6) (.bool pd) (.slice ca6 p3 cc6))).trans' hE)
      have HB6 := Lib.hid (hE.hp (heap_alloc_new w6 (ckT (.slice a6 p1 c6) (.slice ea6 p2 ec6) (.bool pd) (.slice ca6 p3 cc6))))
      have HXS := Lib.hid (HE67.out.hp HXS.out)
      have HE7 := Lib.hid (HE6.out.trans' HE67.out)
      clear hE x0 x1 x2 x3
      have hC := hC.read
      obtain ⟨a7, c7, rfl, _⟩ := hC.1.shape
      obtain ⟨ea7, ec7, rfl, _⟩ := hC.2.1.shape
      obtain ⟨ca7, cc7, hce7, _, _⟩ := hC.2.2
      subst hce7
      rw [HP1.out, HP2.out, HP3.out] at hC
      rw [HPD.out, HP1.out, HP2.out, HP3.out]
      have HC7 := Lib.hid hC
      clear hC
      have nk8 : w.heap.size < w7.heap.size := (Array.getElem?_eq_some_iff.1 HXS.out).1
      have nj8 : w.heap.size ≠ w7.heap.size := Nat.ne_of_lt nk8
      have x0 := cellOf HXS.out 0
      have x1 := cellOf HXS.out 1
      have x2 := cellOf HXS.out 2
      have x3 := cellOf HXS.out 3
      simp only [List.getElem?_toArray, List.getElem?_cons_zero, List.getElem?_cons_succ] at x0 x1 x2 x3
      go_wp2_with fail
      refine (HEP.out _ (HE7.out.al (ckT (.slice a7 p1 c7) (.slice ea7 p2 ec7) (.bool pd) (.slice ca7 p3 cc7)))).mono ?_
      rintro e w8 ⟨vq, ve, vd, rfl, hC, hE⟩
      have HE78 := Lib.hid (((Ext.rf w7).al (ckT (.slice a7 p1 c7) (.slice ea7 p2 ec7) (.bool pd) (.slice ca7 p3 cc7))).trans' hE)
      have HB7 := Lib.hid (hE.hp (heap_alloc_new w7 (ckT (.slice a7 p1 c7) (.slice ea7 p2 ec7) (.bool pd) (.slice ca7 p3 cc7))))
      have HXS := Lib.hid (HE78.out.hp HXS.out)
      have HE8 := Lib.hid (HE7.out.trans' HE78.out)
      clear hE x0 x1 x2 x3
      have hC := hC.read
      obtain ⟨a8, c8, rfl, _⟩ := hC.1.shape
      obtain ⟨ea8, ec8, rfl, _⟩ := hC.2.1.shape
      obtain ⟨ca8, cc8, hce8, _, _⟩ := hC.2.2
      subst hce8
      rw [HQ1.out, HQ2.out, HQ3.out] at hC
      rw [HQD.out, HQ1.out, HQ2.out, HQ3.out]
      have HC8 := Lib.hid hC
      clear hC
      have nk9 : w.heap.size < w8.heap.size := (Array.getElem?_eq_some_iff.1 HXS.out).1
      have nj9 : w.heap.size ≠ w8.heap.size := Nat.ne_of_lt nk9
      have x0 := cellOf HXS.out 0
      have x1 := cellOf HXS.out 1
      have x2 := cellOf HXS.out 2
      have x3 := cellOf HXS.out 3
      simp only [List.getElem?_toArray, List.getElem?_cons_zero, List.getElem?_cons_succ] at x0 x1 x2 x3
      go_wp2_with fail
      refine (HER.out _ (HE8.out.al (ckT (.slice a8 q1 c8) (.slice ea8 q2 ec8) (.bool qd) (.slice ca8 q3 cc8)))).mono ?_
      rintro e w9 ⟨vq, ve, vd, rfl, hC, hE⟩
      have HE89 := Lib.hid (((Ext.rf w8).al (ckT (.slice a8 q1 c8) (.slice ea8 q2 ec8) (.bool qd) (.slice ca8 q3 cc8))).trans' hE)
      have HB8 := Lib.hid (hE.hp (heap_alloc_new w8 (ckT (.slice a8 q1 c8) (.slice ea8 q2 ec8) (.bool qd) (.slice ca8 q3 cc8))))
      have HXS := Lib.hid (HE89.out.hp HXS.out)
      have HE9 := Lib.hid (HE8.out.trans' HE89.out)
      clear hE x0 x1 x2 x3
      have hC := hC.read
      obtain ⟨a9, c9, rfl, _⟩ := hC.1.shape
      obtain ⟨ea9, ec9, rfl, _⟩ := hC.2.1.shape
      obtain ⟨ca9, cc9, hce9, _, _⟩ := hC.2.2
      subst hce9
      rw [HQ1.out, HQ2.out, HQ3.out] at hC
      rw [HQD.out, HQ1.out, HQ2.out, HQ3.out]
      have HC9 := Lib.hid hC
      clear hC
      have nk10 : w.heap.size < w9.heap.size := (Array.getElem?_eq_some_iff.1 HXS.out).1
      have nj10 : w.heap.size ≠ w9.heap.size := Nat.ne_of_lt nk10
      have x0 := cellOf HXS.out 0
      have x1 := cellOf HXS.out 1
      have x2 := cellOf HXS.out 2
      have x3 := cellOf HXS.out 3
      simp only [List.getElem?_toArray, List.getElem?_cons_zero, List.getElem?_cons_succ] at x0 x1 x2 x3
      go_wp2_with fail
      refine (HRS.out _ (HE9.out.al (ckT (.slice a9 q1 c9) (.slice ea9 q2 ec9) (.bool qd) (.slice ca9 q3 cc9)))).mono ?_
      rintro e w10 ⟨rfl, hE⟩
      have HE910 := Lib.hid (((Ext.rf w9).al (ckT (.slice a9 q1 c9) (.slice ea9 q2 ec9) (.bool qd) (.slice ca9 q3 cc9))).trans' hE)
      have HB9 := Lib.hid (hE.hp (heap_alloc_new w9 (ckT (.slice a9 q1 c9) (.slice ea9 q2 ec9) (.bool qd) (.slice ca9 q3 cc9))))
      have HB8 := Lib.hid (HE910.out.hp HB8.out)
      have HB7 := Lib.hid ((HE89.out.trans' HE910.out).hp HB7.out)
      have HB6 := Lib.hid ((HE78.out.trans' (HE89.out.trans' HE910.out)).hp HB6.out)
      have HXS := Lib.hid (HE910.out.hp HXS.out)
      have HE10 := Lib.hid (HE9.out.trans' HE910.out)
      have HC6 := Lib.hid (HC6.out.ext (HE67.out.trans' (HE78.out.trans' (HE89.out.trans' HE910.out))))
      have HC7 := Lib.hid (HC7.out.ext (HE78.out.trans' (HE89.out.trans' HE910.out)))
      have HC8 := Lib.hid (HC8.out.ext (HE89.out.trans' HE910.out))
      have HC9 := Lib.hid (HC9.out.ext HE910.out)
      clear hE x0 x1 x2 x3
      have x0 := cellOf HXS.out 0
      have x1 := cellOf HXS.out 1
      have x2 := cellOf HXS.out 2
      have x3 := cellOf HXS.out 3
      simp only [List.getElem?_toArray, List.getElem?_cons_zero, List.getElem?_cons_succ] at x0 x1 x2 x3
      go_wp2
      clear x0 x1 x2 x3
      go_loopg [23, 25, 100] n (fun g s23 _ s100 wr => ∃ (k t : Nat), k ≤ n ∧ n - k ≤ g ∧ s23 = .int .i64 t ∧ s100 = .int .i64 k ∧ Aside (t = storedL (s.qs.take k)) ∧ t ≤ k * 70 ∧ wr = w10)
      case atStart => exact ⟨0, 0, Nat.zero_le _, by omega, rfl, rfl, (show _ = _ from by simp [storedL]), by omega, rfl⟩
      case round =>
        obtain ⟨k, t, hk, hg, rfl, rfl, HT, htb, rfl⟩ := hrel
        by_cases hlt : k < n
        · have hltz : (k : Int) < (n : Int) := by omega
          have hkz : (0 : Int) ≤ (k : Int) := by omega
          have hkq : k < s.qs.length := by rw [HN.out]; exact hlt
          obtain ⟨B, O, C, a1, m1, c1, hue0, hcp0, M1, hmc1, HS1⟩ := queue_at HS.out.1 k hkq
          simp only [Value.slice.injEq] at hue0
          obtain ⟨rfl, hnn, rfl⟩ := hue0
          have hcp := HE10.out.cl hcp0
          have HM1 := Lib.hid M1
          have hm70 := HQ70.out k hlt
          rw [← M1] at hm70
          have HSN := Lib.hid (stored_snoc s.qs k hkq)
          clear M1 HS1 hnn hcp0
          go_wp2
          go_roundg (n - (k + 1))
          case measure => omega
          case rel => exact ⟨k + 1, t + m1, by omega, by omega, by go_num, by go_num, (show _ = _ from by rw [HSN.out, HT.out, HM1.out]), by omega, rfl⟩
        · have hltz : ¬ (k : Int) < (n : Int) := by omega
          obtain rfl : n = k := by omega
          have htt := HT.out
          rw [List.take_of_length_le (by rw [HN.out]; omega), HTS.out] at htt
          obtain rfl : tS = t := htt.symm
          clear htt
          have hs1 := fun W (hW : Ext wr W) => same47_eq _ _ _ _ _ _ PC W (HC6.out.ext hW) (HC7.out.ext hW) HPS.out
          rw [HPD.out] at hs1
          have hs2 := fun W (hW : Ext wr W) => same47_eq _ _ _ _ _ _ EC W (HC8.out.ext hW) (HC9.out.ext hW) HES.out
          rw [HQD.out] at hs2
          have HS1 := Lib.hid hs1
          have HS2 := Lib.hid hs2
          clear hs1 hs2
          have x0 := cellOf HXS.out 0
          have x1 := cellOf HXS.out 1
          have x2 := cellOf HXS.out 2
          have x3 := cellOf HXS.out 3
          simp only [List.getElem?_toArray, List.getElem?_cons_zero, List.getElem?_cons_succ] at x0 x1 x2 x3
          go_wp2_with fail
          refine (HVP.out _ HE10.out).mono ?_
          rintro e w11 ⟨rfl, hE⟩
          have HE11 := Lib.hid hE
          have HA := Lib.hid (hE.hp HB6.out)
          have HB := Lib.hid (hE.hp HB7.out)
          clear hE x0 x1 x2 x3
          have x0 := cellOf HA.out 0
          have x1 := cellOf HA.out 1
          have x2 := cellOf HA.out 2
          have x3 := cellOf HA.out 3
          simp only [List.getElem?_toArray, List.getElem?_cons_zero, List.getElem?_cons_succ] at x0 x1 x2 x3
          have y0 := cellOf HB.out 0
          have y1 := cellOf HB.out 1
          have y2 := cellOf HB.out 2
          have y3 := cellOf HB.out 3
          simp only [List.getElem?_toArray, List.getElem?_cons_zero, List.getElem?_cons_succ] at y0 y1 y2 y3
          go_wp2_with fail
          refine (HS1.out _ HE11.out).mono ?_
          rintro e w12 ⟨rfl, hE⟩
          have HE12 := Lib.hid (HE11.out.trans' hE)
          clear hE x0 x1 x2 x3 y0 y1 y2 y3
          have HA := Lib.hid (HE12.out.hp HB8.out)
          have HB := Lib.hid (HE12.out.hp HB9.out)
          have x0 := cellOf HA.out 0
          have x1 := cellOf HA.out 1
          have x2 := cellOf HA.out 2
          have x3 := cellOf HA.out 3
          simp only [List.getElem?_toArray, List.getElem?_cons_zero, List.getElem?_cons_succ] at x0 x1 x2 x3
          have y0 := cellOf HB.out 0
          have y1 := cellOf HB.out 1
          have y2 := cellOf HB.out 2
          have y3 := cellOf HB.out 3
          simp only [List.getElem?_toArray, List.getElem?_cons_zero, List.getElem?_cons_succ] at y0 y1 y2 y3
          go_wp2_with fail
          refine (HS2.out _ HE12.out).mono ?_
          rintro e w13 ⟨rfl, hE⟩
          have HE13 := Lib.hid (HE12.out.trans' hE)
          have HX13 := Lib.hid (HE13.out.hp HXS.out)
          have HEF := Lib.hid (HE10.out.trans' HE13.out)
          clear hE x0 x1 x2 x3 y0 y1 y2 y3
          have x0 := cellOf HX13.out 0
          have x1 := cellOf HX13.out 1
          have x2 := cellOf HX13.out 2
          have x3 := cellOf HX13.out 3
          simp only [List.getElem?_toArray, List.getElem?_cons_zero, List.getElem?_cons_succ] at x0 x1 x2 x3
          go_wp2_with fail
          refine (HST.out _ HEF.out).mono ?_
          rintro e w14 ⟨rfl, hE⟩
          have HE14 := Lib.hid (HEF.out.trans' hE)
          clear hE
          go_wp2
          go_ret
          exact ⟨rfl, HE14.out⟩
    ·
      go_wp2_with fail
      refine (HNEW.out _).mono ?_
      rintro e w3 ⟨rfl, hE⟩
      have HE3 := Lib.hid (HE2.out.trans' hE)
      have HX3 := Lib.hid (hE.hp HX2.out)
      clear hE
      go_wp2_with fail
      refine (same47_eq (.slice none 0 0) (.slice none 0 0) (.slice none 0 0) (.slice none 0 0) (.slice none 0 0) (.slice none 0 0) zeroC _ (zero_at _) (zero_at _) zero_small).mono ?_
      rintro e w4 ⟨rfl, hE⟩
      have hX34 : Ext w3 w4 := Ext.trans' (by repeat (first | refine Ext.st ?_ (by first | exact Nat.le_refl _ | exact Nat.le_succ _ | assumption | omega) _ | refine Ext.al ?_ _ | refine Ext.dr ?_ | refine Ext.drN ?_ _ | exact Ext.rf _)) hE
      have HEN := Lib.hid (HE3.out.trans' hX34)
      have HXS := Lib.hid (hX34.hp HX3.out)
      clear hE hX34
      have HP1 := Lib.hid hp1
      have HP2 := Lib.hid hp2
      have HP3 := Lib.hid hp3
      have HPD := Lib.hid hpd
      have HQ1 := Lib.hid hq1
      have HQ2 := Lib.hid hq2
      have HQ3 := Lib.hid hq3
      have HQD := Lib.hid hqd
      clear hp1 hp2 hp3 hpd hq1 hq2 hq3 hqd
      have x0 := cellOf HXS.out 0
      have x1 := cellOf HXS.out 1
      have x2 := cellOf HXS.out 2
      have x3 := cellOf HXS.out 3
      simp only [List.getElem?_toArray, List.getElem?_cons_zero, List.getElem?_cons_succ] at x0 x1 x2 x3
      go_wp2_with fail
      refine (HVR.out _ HEN.out).mono ?_
      rintro e w5 ⟨rfl, hE⟩
      have HXS := Lib.hid (hE.hp HXS.out)
      have HE5 := Lib.hid (HEN.out.trans' hE)
      clear hE x0 x1 x2 x3
      have x0 := cellOf HXS.out 0
      have x1 := cellOf HXS.out 1
      have x2 := cellOf HXS.out 2
      have x3 := cellOf HXS.out 3
      simp only [List.getElem?_toArray, List.getElem?_cons_zero, List.getElem?_cons_succ] at x0 x1 x2 x3
      go_wp2_with fail
      refine (HPP.out _ HE5.out).mono ?_
      rintro e w6 ⟨vq, ve, vd, rfl, hC, hE⟩
      have HXS := Lib.hid (hE.hp HXS.out)
      have HE6 := Lib.hid (HE5.out.trans' hE)
      clear hE x0 x1 x2 x3
      have hC := hC.read
      obtain ⟨a6, c6, rfl, _⟩ := hC.1.shape
      obtain ⟨ea6, ec6, rfl, _⟩ := hC.2.1.shape
      obtain ⟨ca6, cc6, hce6, _, _⟩ := hC.2.2
      subst hce6
      rw [HP1.out, HP2.out, HP3.out] at hC
      rw [HPD.out, HP1.out, HP2.out, HP3.out]
      have HC6 := Lib.hid hC
      clear hC
      have nk7 : w.heap.size < w6.heap.size := (Array.getElem?_eq_some_iff.1 HXS.out).1
      have nj7 : w.heap.size ≠ w6.heap.size := Nat.ne_of_lt nk7
      have x0 := cellOf HXS.out 0
      have x1 := cellOf HXS.out 1
      have x2 := cellOf HXS.out 2
      have x3 := cellOf HXS.out 3
      simp only [List.getElem?_toArray, List.getElem?_cons_zero, List.getElem?_cons_succ] at x0 x1 x2 x3
      go_wp2_with fail
      refine (HPR.out _ (HE6.out.al (ckT (.slice a6 p1 c6) (.slice ea6 p2 ec6) (.bool pd) (.slice ca6 p3 cc6)))).mono ?_
      rintro e w7 ⟨vq, ve, vd, rfl, hC, hE⟩
      have HE67 := Lib.hid (((Ext.rf w6).al (ckT (.slice a6 p1 c6) (.slice ea6 p2 ec6) (.bool pd) (.slice ca6 p3 cc6))).trans' hE)
      have HB6 := Lib.hid (hE.hp (heap_alloc_new w6 (ckT (.slice a6 p1 c6) (.slice ea6 p2 ec6) (.bool pd) (.slice ca6 p3 cc6))))
      have HXS := Lib.hid (HE67.out.hp HXS.out)
      have HE7 := Lib.hid (HE6.out.trans' HE67.out)
      clear hE x0 x1 x2 x3
      have hC := hC.read
      obtain ⟨a7, c7, rfl, _⟩ := hC.1.shape
      obtain ⟨ea7, ec7, rfl, _⟩ := hC.2.1.shape
      obtain ⟨ca7, cc7, hce7, _, _⟩ := hC.2.2
      subst hce7
      rw [HP1.out, HP2.out, HP3.out] at hC
      rw [HPD.out, HP1.out, HP2.out, HP3.out]
      have HC7 := Lib.hid hC
      clear hC
      have nk8 : w.heap.size < w7.heap.size := (Array.getElem?_eq_some_iff.1 HXS.out).1
      have nj8 : w.heap.size ≠ w7.heap.size := Nat.ne_of_lt nk8
      have x0 := cellOf HXS.out 0
      have x1 := cellOf HXS.out 1
      have x2 := cellOf HXS.out 2
      have x3 := cellOf HXS.out 3
      simp only [List.getElem?_toArray, List.getElem?_cons_zero, List.getElem?_cons_succ] at x0 x1 x2 x3
      go_wp2_with fail
      refine (HEP.out _ (HE7.out.al (ckT (.slice a7 p1 c7) (.slice ea7 p2 ec7) (.bool pd) (.slice ca7 p3 cc7)))).mono ?_
      rintro e w8 ⟨vq, ve, vd, rfl, hC, hE⟩
      have HE78 := Lib.hid (((Ext.rf w7).al (ckT (.slice a7 p1 c7) (.slice ea7 p2 ec7) (.bool pd) (.slice ca7 p3 cc7))).trans' hE)
      have HB7 := Lib.hid (hE.hp (heap_alloc_new w7 (ckT (.slice a7 p1 c7) (.slice ea7 p2 ec7) (.bool pd) (.slice ca7 p3 cc7))))
      have HXS := Lib.hid (HE78.out.hp HXS.out)
      have HE8 := Lib.hid (HE7.out.trans' HE78.out)
      clear hE x0 x1 x2 x3
      have hC := hC.read
      obtain ⟨a8, c8, rfl, _⟩ := hC.1.shape
      obtain ⟨ea8, ec8, rfl, _⟩ := hC.2.1.shape
      obtain ⟨ca8, cc8, hce8, _, _⟩ := hC.2.2
      subst hce8
      rw [HQ1.out, HQ2.out, HQ3.out] at hC
      rw [HQD.out, HQ1.out, HQ2.out, HQ3.out]
      have HC8 := Lib.hid hC
      clear hC
      have nk9 : w.heap.size < w8.heap.size := (Array.getElem?_eq_some_iff.1 HXS.out).1
      have nj9 : w.heap.size ≠ w8.heap.size := Nat.ne_of_lt nk9
      have x0 := cellOf HXS.out 0
      have x1 := cellOf HXS.out 1
      have x2 := cellOf HXS.out 2
      have x3 := cellOf HXS.out 3
      simp only [List.getElem?_toArray, List.getElem?_cons_zero, List.getElem?_cons_succ] at x0 x1 x2 x3
      go_wp2_with fail
      refine (HER.out _ (HE8.out.al (ckT (.slice a8 q1 c8) (.slice ea8 q2 ec8) (.bool qd) (.slice ca8 q3 cc8)))).mono ?_
      rintro e w9 ⟨vq, ve, vd, rfl, hC, hE⟩
      have HE89 := Lib.hid (((Ext.rf w8).al (ckT (.slice a8 q1 c8) (.slice ea8 q2 ec8) (.bool qd) (.slice ca8 q3 cc8))).trans' hE)
      have HB8 := Lib.hid (hE.hp (heap_alloc_new w8 (ckT (.slice a8 q1 c8) (.slice ea8 q2 ec8) (.bool qd) (.slice ca8 q3 cc8))))
      have HXS := Lib.hid (HE89.out.hp HXS.out)
      have HE9 := Lib.hid (HE8.out.trans' HE89.out)
      clear hE x0 x1 x2 x3
      have hC := hC.read
      obtain ⟨a9, c9, rfl, _⟩ := hC.1.shape
      obtain ⟨ea9, ec9, rfl, _⟩ := hC.2.1.shape
      obtain ⟨ca9, cc9, hce9, _, _⟩ := hC.2.2
      subst hce9
      rw [HQ1.out, HQ2.out, HQ3.out] at hC
      rw [HQD.out, HQ1.out, HQ2.out, HQ3.out]
      have HC9 := Lib.hid hC
      clear hC
      have nk10 : w.heap.size < w9.heap.size := (Array.getElem?_eq_some_iff.1 HXS.out).1
      have nj10 : w.heap.size ≠ w9.heap.size := Nat.ne_of_lt nk10
      have x0 := cellOf HXS.out 0
      have x1 := cellOf HXS.out 1
      have x2 := cellOf HXS.out 2
      have x3 := cellOf HXS.out 3
      simp only [List.getElem?_toArray, List.getElem?_cons_zero, List.getElem?_cons_succ] at x0 x1 x2 x3
      go_wp2_with fail
      refine (HRS.out _ (HE9.out.al (ckT (.slice a9 q1 c9) (.slice ea9 q2 ec9) (.bool qd) (.slice ca9 q3 cc9)))).mono ?_
      rintro e w10 ⟨rfl, hE⟩
      have HE910 := Lib.hid (((Ext.rf w9).al (ckT (.slice a9 q1 c9) (.slice ea9 q2 ec9) (.bool qd) (.slice ca9 q3 cc9))).trans' hE)
      have HB9 := Lib.hid (hE.hp (heap_alloc_new w9 (ckT (.slice a9 q1 c9) (.slice ea9 q2 ec9) (.bool qd) (.slice ca9 q3 cc9))))
      have HB8 := Lib.hid (HE910.out.hp HB8.out)
      have HB7 := Lib.hid ((HE89.out.trans' HE910.out).hp HB7.out)
      have HB6 := Lib.hid ((HE78.out.trans' (HE89.out.trans' HE910.out)).hp HB6.out)
      have HXS := Lib.hid (HE910.out.hp HXS.out)
      have HE10 := Lib.hid (HE9.out.trans' HE910.out)
      have HC6 := Lib.hid (HC6.out.ext (HE67.out.trans' (HE78.out.trans' (HE89.out.trans' HE910.out))))
      have HC7 := Lib.hid (HC7.out.ext (HE78.out.trans' (HE89.out.trans' HE910.out)))
      have HC8 := Lib.hid (HC8.out.ext (HE89.out.trans' HE910.out))
      have HC9 := Lib.hid (HC9.out.ext HE910.out)
      clear hE x0 x1 x2 x3
      have x0 := cellOf HXS.out 0
      have x1 := cellOf HXS.out 1
      have x2 := cellOf HXS.out 2
      have x3 := cellOf HXS.out 3
      simp only [List.getElem?_toArray, List.getElem?_cons_zero, List.getElem?_cons_succ] at x0 x1 x2 x3
      go_wp2
      clear x0 x1 x2 x3
      go_loopg [23, 25, 100] n (fun g s23 _ s100 wr => ∃ (k t : Nat), k ≤ n ∧ n - k ≤ g ∧ s23 = .int .i64 t ∧ s100 = .int .i64 k ∧ Aside (t = storedL (s.qs.take k)) ∧ t ≤ k * 70 ∧ wr = w10)
      case atStart => exact ⟨0, 0, Nat.zero_le _, by omega, rfl, rfl, (show _ = _ from by simp [storedL]), by omega, rfl⟩
      case round =>
        obtain ⟨k, t, hk, hg, rfl, rfl, HT, htb, rfl⟩ := hrel
        by_cases hlt : k < n
        · have hltz : (k : Int) < (n : Int) := by omega
          have hkz : (0 : Int) ≤ (k : Int) := by omega
          have hkq : k < s.qs.length := by rw [HN.out]; exact hlt
          obtain ⟨B, O, C, a1, m1, c1, hue0, hcp0, M1, hmc1, HS1⟩ := queue_at HS.out.1 k hkq
          simp only [Value.slice.injEq] at hue0
          obtain ⟨rfl, hnn, rfl⟩ := hue0
          have hcp := HE10.out.cl hcp0
          have HM1 := Lib.hid M1
          have hm70 := HQ70.out k hlt
          rw [← M1] at hm70
          have HSN := Lib.hid (stored_snoc s.qs k hkq)
          clear M1 HS1 hnn hcp0
          go_wp2
          go_roundg (n - (k + 1))
          case measure => omega
          case rel => exact ⟨k + 1, t + m1, by omega, by omega, by go_num, by go_num, (show _ = _ from by rw [HSN.out, HT.out, HM1.out]), by omega, rfl⟩
        · have hltz : ¬ (k : Int) < (n : Int) := by omega
          obtain rfl : n = k := by omega
          have htt := HT.out
          rw [List.take_of_length_le (by rw [HN.out]; omega), HTS.out] at htt
          obtain rfl : tS = t := htt.symm
          clear htt
          have hs1 := fun W (hW : Ext wr W) => same47_eq _ _ _ _ _ _ PC W (HC6.out.ext hW) (HC7.out.ext hW) HPS.out
          rw [HPD.out] at hs1
          have hs2 := fun W (hW : Ext wr W) => same47_eq _ _ _ _ _ _ EC W (HC8.out.ext hW) (HC9.out.ext hW) HES.out
          rw [HQD.out] at hs2
          have HS1 := Lib.hid hs1
          have HS2 := Lib.hid hs2
          clear hs1 hs2
          have x0 := cellOf HXS.out 0
          have x1 := cellOf HXS.out 1
          have x2 := cellOf HXS.out 2
          have x3 := cellOf HXS.out 3
          simp only [List.getElem?_toArray, List.getElem?_cons_zero, List.getElem?_cons_succ] at x0 x1 x2 x3
          go_wp2_with fail
          refine (HVP.out _ HE10.out).mono ?_
          rintro e w11 ⟨rfl, hE⟩
          have HE11 := Lib.hid hE
          have HA := Lib.hid (hE.hp HB6.out)
          have HB := Lib.hid (hE.hp HB7.out)
          clear hE x0 x1 x2 x3
          have x0 := cellOf HA.out 0
          have x1 := cellOf HA.out 1
          have x2 := cellOf HA.out 2
          have x3 := cellOf HA.out 3
          simp only [List.getElem?_toArray, List.getElem?_cons_zero, List.getElem?_cons_succ] at x0 x1 x2 x3
          have y0 := cellOf HB.out 0
          have y1 := cellOf HB.out 1
          have y2 := cellOf HB.out 2
          have y3 := cellOf HB.out 3
          simp only [List.getElem?_toArray, List.getElem?_cons_zero, List.getElem?_cons_succ] at y0 y1 y2 y3
          go_wp2_with fail
          refine (HS1.out _ HE11.out).mono ?_
          rintro e w12 ⟨rfl, hE⟩
          have HE12 := Lib.hid (HE11.out.trans' hE)
          clear hE x0 x1 x2 x3 y0 y1 y2 y3
          have HA := Lib.hid (HE12.out.hp HB8.out)
          have HB := Lib.hid (HE12.out.hp HB9.out)
          have x0 := cellOf HA.out 0
          have x1 := cellOf HA.out 1
          have x2 := cellOf HA.out 2
          have x3 := cellOf HA.out 3
          simp only [List.getElem?_toArray, List.getElem?_cons_zero, List.getElem?_cons_succ] at x0 x1 x2 x3
          have y0 := cellOf HB.out 0
          have y1 := cellOf HB.out 1
          have y2 := cellOf HB.out 2
          have y3 := cellOf HB.out 3
          simp only [List.getElem?_toArray, List.getElem?_cons_zero, List.getElem?_cons_succ] at y0 y1 y2 y3
          go_wp2_with fail
          refine (HS2.out _ HE12.out).mono ?_
          rintro e w13 ⟨rfl, hE⟩
          have HE13 := Lib.hid (HE12.out.trans' hE)
          have HX13 := Lib.hid (HE13.out.hp HXS.out)
          have HEF := Lib.hid (HE10.out.trans' HE13.out)
          clear hE x0 x1 x2 x3 y0 y1 y2 y3
          have x0 := cellOf HX13.out 0
          have x1 := cellOf HX13.out 1
          have x2 := cellOf HX13.out 2
          have x3 := cellOf HX13.out 3
          simp only [List.getElem?_toArray, List.getElem?_cons_zero, List.getElem?_cons_succ] at x0 x1 x2 x3
          go_wp2_with fail
          refine (HST.out _ HEF.out).mono ?_
          rintro e w14 ⟨rfl, hE⟩
          have HE14 := Lib.hid (HEF.out.trans' hE)
          clear hE
          go_wp2
          go_ret
          exact ⟨rfl, HE14.out⟩
  | true =>
    have hrs := fun W (hW : Ext w W) => resultP_ok (.slice a s.qs.length c) (.slice ea s.ended.length ec) (.slice ca s.cut.length cc) s W (HS.out.ext hW) hsm hval
    obtain ⟨tS, hts⟩ : ∃ tS, storedL s.qs = tS := ⟨_, rfl⟩
    rw [hval] at hvr hvp hst
    simp only [if_true, if_false, Bool.false_eq_true, hts] at hst
    have HTS := Lib.hid hts
    clear hval hts
    obtain ⟨p1, hp1⟩ : ∃ k, PC.qs.length = k := ⟨_, rfl⟩
    obtain ⟨p2, hp2⟩ : ∃ k, PC.ended.length = k := ⟨_, rfl⟩
    obtain ⟨p3, hp3⟩ : ∃ k, PC.cut.length = k := ⟨_, rfl⟩
    obtain ⟨pd, hpd⟩ : ∃ k, PC.done = k := ⟨_, rfl⟩
    obtain ⟨q1, hq1⟩ : ∃ k, EC.qs.length = k := ⟨_, rfl⟩
    obtain ⟨q2, hq2⟩ : ∃ k, EC.ended.length = k := ⟨_, rfl⟩
    obtain ⟨q3, hq3⟩ : ∃ k, EC.cut.length = k := ⟨_, rfl⟩
    obtain ⟨qd, hqd⟩ : ∃ k, EC.done = k := ⟨_, rfl⟩
    generalize hd : s.done = d at *
    have HD := Lib.hid hd
    clear hd
    generalize hn : s.qs.length = n at *
    generalize hl : s.ended.length = l at *
    generalize hcl : s.cut.length = cl at *
    generalize hvl : lv.length = vl at *
    have HN := Lib.hid hn
    have HL := Lib.hid hl
    have HCL := Lib.hid hcl
    have HVL := Lib.hid hvl
    clear hn hl hcl hvl
    have HGR := Lib.hid hgr
    clear hgr
    have HRS := Lib.hid hrs
    clear hrs
    have HVR := Lib.hid hvr
    have HVP := Lib.hid hvp
    have HPP := Lib.hid hpp
    have HPR := Lib.hid hpr
    have HEP := Lib.hid hep
    have HER := Lib.hid her
    have HST := Lib.hid hst
    clear hvr hvp hpp hpr hep her hst hg hsm hq70
    go_enter Try.func4, Try.ntmps4
    go_wp2_with fail
    refine (awake_calls _).mono ?_
    rintro e w1 ⟨rfl, hE1⟩
    have HX1 := Lib.hid (hE1.hp (heap_alloc_new w (ckT (.slice a n c) (.slice ea l ec) (.bool d) (.slice ca cl cc))))
    have HE1 := Lib.hid (show Ext w w1 from Ext.trans' (by repeat (first | refine Ext.st ?_ (by first | exact Nat.le_refl _ | exact Nat.le_succ _ | assumption | omega) _ | refine Ext.al ?_ _ | refine Ext.dr ?_ | refine Ext.drN ?_ _ | exact Ext.rf _)) hE1)
    clear hE1
    have x0 := cellOf HX1.out 0
    have x1 := cellOf HX1.out 1
    have x2 := cellOf HX1.out 2
    have x3 := cellOf HX1.out 3
    simp only [List.getElem?_toArray, List.getElem?_cons_zero, List.getElem?_cons_succ] at x0 x1 x2 x3
    go_wp2_with fail
    refine (HGR.out _ HE1.out).mono ?_
    rintro e w2 ⟨rfl, hE2⟩
    have HX2 := Lib.hid (hE2.hp HX1.out)
    have HE2 := Lib.hid (HE1.out.trans' hE2)
    clear hE2 x0 x1 x2 x3
    rcases hb1 with c1 | ⟨c1, c2⟩
    ·
      go_wp2_with fail
      refine (HNEW.out _).mono ?_
      rintro e w3 ⟨rfl, hE⟩
      have HE3 := Lib.hid (HE2.out.trans' hE)
      have HX3 := Lib.hid (hE.hp HX2.out)
      clear hE
      go_wp2_with fail
      refine (same47_eq (.slice none 0 0) (.slice none 0 0) (.slice none 0 0) (.slice none 0 0) (.slice none 0 0) (.slice none 0 0) zeroC _ (zero_at _) (zero_at _) zero_small).mono ?_
      rintro e w4 ⟨rfl, hE⟩
      have hX34 : Ext w3 w4 := Ext.trans' (by repeat (first | refine Ext.st ?_ (by first | exact Nat.le_refl _ | exact Nat.le_succ _ | assumption | omega) _ | refine Ext.al ?_ _ | refine Ext.dr ?_ | refine Ext.drN ?_ _ | exact Ext.rf _)) hE
      have HEN := Lib.hid (HE3.out.trans' hX34)
      have HXS := Lib.hid (hX34.hp HX3.out)
      clear hE hX34
      have HP1 := Lib.hid hp1
      have HP2 := Lib.hid hp2
      have HP3 := Lib.hid hp3
      have HPD := Lib.hid hpd
      have HQ1 := Lib.hid hq1
      have HQ2 := Lib.hid hq2
      have HQ3 := Lib.hid hq3
      have HQD := Lib.hid hqd
      clear hp1 hp2 hp3 hpd hq1 hq2 hq3 hqd
      have x0 := cellOf HXS.out 0
      have x1 := cellOf HXS.out 1
      have x2 := cellOf HXS.out 2
      have x3 := cellOf HXS.out 3
      simp only [List.getElem?_toArray, List.getElem?_cons_zero, List.getElem?_cons_succ] at x0 x1 x2 x3
      go_wp2_with fail
      refine (HVR.out _ HEN.out).mono ?_
      rintro e w5 ⟨rfl, hE⟩
      have HXS := Lib.hid (hE.hp HXS.out)
      have HE5 := Lib.hid (HEN.out.trans' hE)
      clear hE x0 x1 x2 x3
      have x0 := cellOf HXS.out 0
      have x1 := cellOf HXS.out 1
      have x2 := cellOf HXS.out 2
      have x3 := cellOf HXS.out 3
      simp only [List.getElem?_toArray, List.getElem?_cons_zero, List.getElem?_cons_succ] at x0 x1 x2 x3
      go_wp2_with fail
      refine (HPP.out _ HE5.out).mono ?_
      rintro e w6 ⟨vq, ve, vd, rfl, hC, hE⟩
      have HXS := Lib.hid (hE.hp HXS.out)
      have HE6 := Lib.hid (HE5.out.trans' hE)
      clear hE x0 x1 x2 x3
      have hC := hC.read
      obtain ⟨a6, c6, rfl, _⟩ := hC.1.shape
      obtain ⟨ea6, ec6, rfl, _⟩ := hC.2.1.shape
      obtain ⟨ca6, cc6, hce6, _, _⟩ := hC.2.2
      subst hce6
      rw [HP1.out, HP2.out, HP3.out] at hC
      rw [HPD.out, HP1.out, HP2.out, HP3.out]
      have HC6 := Lib.hid hC
      clear hC
      have nk7 : w.heap.size < w6.heap.size := (Array.getElem?_eq_some_iff.1 HXS.out).1
      have nj7 : w.heap.size ≠ w6.heap.size := Nat.ne_of_lt nk7
      have x0 := cellOf HXS.out 0
      have x1 := cellOf HXS.out 1
      have x2 := cellOf HXS.out 2
      have x3 := cellOf HXS.out 3
      simp only [List.getElem?_toArray, List.getElem?_cons_zero, List.getElem?_cons_succ] at x0 x1 x2 x3
      go_wp2_with fail
      refine (HPR.out _ (HE6.out.al (ckT (.slice a6 p1 c6) (.slice ea6 p2 ec6) (.bool pd) (.slice ca6 p3 cc6)))).mono ?_
      rintro e w7 ⟨vq, ve, vd, rfl, hC, hE⟩
      have HE67 := Lib.hid (((Ext.rf w6).al (ckT (.slice a6 p1 c6) (.slice ea6 p2 ec6) (.bool pd) (.slice ca6 p3 cc6))).trans' hE)
      have HB6 := Lib.hid (hE.hp (heap_alloc_new w6 (ckT (.slice a6 p1 c6) (.slice ea6 p2 ec6) (.bool pd) (.slice ca6 p3 cc6))))
      have HXS := Lib.hid (HE67.out.hp HXS.out)
      have HE7 := Lib.hid (HE6.out.trans' HE67.out)
      clear hE x0 x1 x2 x3
      have hC := hC.read
      obtain ⟨a7, c7, rfl, _⟩ := hC.1.shape
      obtain ⟨ea7, ec7, rfl, _⟩ := hC.2.1.shape
      obtain ⟨ca7, cc7, hce7, _, _⟩ := hC.2.2
      subst hce7
      rw [HP1.out, HP2.out, HP3.out] at hC
      rw [HPD.out, HP1.out, HP2.out, HP3.out]
      have HC7 := Lib.hid hC
      clear hC
      have nk8 : w.heap.size < w7.heap.size := (Array.getElem?_eq_some_iff.1 HXS.out).1
      have nj8 : w.heap.size ≠ w7.heap.size := Nat.ne_of_lt nk8
      have x0 := cellOf HXS.out 0
      have x1 := cellOf HXS.out 1
      have x2 := cellOf HXS.out 2
      have x3 := cellOf HXS.out 3
      simp only [List.getElem?_toArray, List.getElem?_cons_zero, List.getElem?_cons_succ] at x0 x1 x2 x3
      go_wp2_with fail
      refine (HEP.out _ (HE7.out.al (ckT (.slice a7 p1 c7) (.slice ea7 p2 ec7) (.bool pd) (.slice ca7 p3 cc7)))).mono ?_
      rintro e w8 ⟨vq, ve, vd, rfl, hC, hE⟩
      have HE78 := Lib.hid (((Ext.rf w7).al (ckT (.slice a7 p1 c7) (.slice ea7 p2 ec7) (.bool pd) (.slice ca7 p3 cc7))).trans' hE)
      have HB7 := Lib.hid (hE.hp (heap_alloc_new w7 (ckT (.slice a7 p1 c7) (.slice ea7 p2 ec7) (.bool pd) (.slice ca7 p3 cc7))))
      have HXS := Lib.hid (HE78.out.hp HXS.out)
      have HE8 := Lib.hid (HE7.out.trans' HE78.out)
      clear hE x0 x1 x2 x3
      have hC := hC.read
      obtain ⟨a8, c8, rfl, _⟩ := hC.1.shape
      obtain ⟨ea8, ec8, rfl, _⟩ := hC.2.1.shape
      obtain ⟨ca8, cc8, hce8, _, _⟩ := hC.2.2
      subst hce8
      rw [HQ1.out, HQ2.out, HQ3.out] at hC
      rw [HQD.out, HQ1.out, HQ2.out, HQ3.out]
      have HC8 := Lib.hid hC
      clear hC
      have nk9 : w.heap.size < w8.heap.size := (Array.getElem?_eq_some_iff.1 HXS.out).1
      have nj9 : w.heap.size ≠ w8.heap.size := Nat.ne_of_lt nk9
      have x0 := cellOf HXS.out 0
      have x1 := cellOf HXS.out 1
      have x2 := cellOf HXS.out 2
      have x3 := cellOf HXS.out 3
      simp only [List.getElem?_toArray, List.getElem?_cons_zero, List.getElem?_cons_succ] at x0 x1 x2 x3
      go_wp2_with fail
      refine (HER.out _ (HE8.out.al (ckT (.slice a8 q1 c8) (.slice ea8 q2 ec8) (.bool qd) (.slice ca8 q3 cc8)))).mono ?_
      rintro e w9 ⟨vq, ve, vd, rfl, hC, hE⟩
      have HE89 := Lib.hid (((Ext.rf w8).al (ckT (.slice a8 q1 c8) (.slice ea8 q2 ec8) (.bool qd) (.slice ca8 q3 cc8))).trans' hE)
      have HB8 := Lib.hid (hE.hp (heap_alloc_new w8 (ckT (.slice a8 q1 c8) (.slice ea8 q2 ec8) (.bool qd) (.slice ca8 q3 cc8))))
      have HXS := Lib.hid (HE89.out.hp HXS.out)
      have HE9 := Lib.hid (HE8.out.trans' HE89.out)
      clear hE x0 x1 x2 x3
      have hC := hC.read
      obtain ⟨a9, c9, rfl, _⟩ := hC.1.shape
      obtain ⟨ea9, ec9, rfl, _⟩ := hC.2.1.shape
      obtain ⟨ca9, cc9, hce9, _, _⟩ := hC.2.2
      subst hce9
      rw [HQ1.out, HQ2.out, HQ3.out] at hC
      rw [HQD.out, HQ1.out, HQ2.out, HQ3.out]
      have HC9 := Lib.hid hC
      clear hC
      have nk10 : w.heap.size < w9.heap.size := (Array.getElem?_eq_some_iff.1 HXS.out).1
      have nj10 : w.heap.size ≠ w9.heap.size := Nat.ne_of_lt nk10
      have x0 := cellOf HXS.out 0
      have x1 := cellOf HXS.out 1
      have x2 := cellOf HXS.out 2
      have x3 := cellOf HXS.out 3
      simp only [List.getElem?_toArray, List.getElem?_cons_zero, List.getElem?_cons_succ] at x0 x1 x2 x3
      go_wp2_with fail
      refine (HRS.out _ (HE9.out.al (ckT (.slice a9 q1 c9) (.slice ea9 q2 ec9) (.bool qd) (.slice ca9 q3 cc9)))).mono ?_
      rintro e w10 ⟨v10, rfl, hI, hE⟩
      have HI10 := Lib.hid hI
      obtain ⟨ra, rc, hra, _, _⟩ := hI
      subst hra
      rw [HCL.out]
      have HE910 := Lib.hid (((Ext.rf w9).al (ckT (.slice a9 q1 c9) (.slice ea9 q2 ec9) (.bool qd) (.slice ca9 q3 cc9))).trans' hE)
      have HB9 := Lib.hid (hE.hp (heap_alloc_new w9 (ckT (.slice a9 q1 c9) (.slice ea9 q2 ec9) (.bool qd) (.slice ca9 q3 cc9))))
      have HB8 := Lib.hid (HE910.out.hp HB8.out)
      have HB7 := Lib.hid ((HE89.out.trans' HE910.out).hp HB7.out)
      have HB6 := Lib.hid ((HE78.out.trans' (HE89.out.trans' HE910.out)).hp HB6.out)
      have HXS := Lib.hid (HE910.out.hp HXS.out)
      have HE10 := Lib.hid (HE9.out.trans' HE910.out)
      have HC6 := Lib.hid (HC6.out.ext (HE67.out.trans' (HE78.out.trans' (HE89.out.trans' HE910.out))))
      have HC7 := Lib.hid (HC7.out.ext (HE78.out.trans' (HE89.out.trans' HE910.out)))
      have HC8 := Lib.hid (HC8.out.ext (HE89.out.trans' HE910.out))
      have HC9 := Lib.hid (HC9.out.ext HE910.out)
      clear hE x0 x1 x2 x3
      have x0 := cellOf HXS.out 0
      have x1 := cellOf HXS.out 1
      have x2 := cellOf HXS.out 2
      have x3 := cellOf HXS.out 3
      simp only [List.getElem?_toArray, List.getElem?_cons_zero, List.getElem?_cons_succ] at x0 x1 x2 x3
      go_wp2
      clear x0 x1 x2 x3
      go_loopg [23, 25, 100] n (fun g s23 _ s100 wr => ∃ (k t : Nat), k ≤ n ∧ n - k ≤ g ∧ s23 = .int .i64 t ∧ s100 = .int .i64 k ∧ Aside (t = storedL (s.qs.take k)) ∧ t ≤ k * 70 ∧ wr = w10)
      case atStart => exact ⟨0, 0, Nat.zero_le _, by omega, rfl, rfl, (show _ = _ from by simp [storedL]), by omega, rfl⟩
      case round =>
        obtain ⟨k, t, hk, hg, rfl, rfl, HT, htb, rfl⟩ := hrel
        by_cases hlt : k < n
        · have hltz : (k : Int) < (n : Int) := by omega
          have hkz : (0 : Int) ≤ (k : Int) := by omega
          have hkq : k < s.qs.length := by rw [HN.out]; exact hlt
          obtain ⟨B, O, C, a1, m1, c1, hue0, hcp0, M1, hmc1, HS1⟩ := queue_at HS.out.1 k hkq
          simp only [Value.slice.injEq] at hue0
          obtain ⟨rfl, hnn, rfl⟩ := hue0
          have hcp := HE10.out.cl hcp0
          have HM1 := Lib.hid M1
          have hm70 := HQ70.out k hlt
          rw [← M1] at hm70
          have HSN := Lib.hid (stored_snoc s.qs k hkq)
          clear M1 HS1 hnn hcp0
          go_wp2
          go_roundg (n - (k + 1))
          case measure => omega
          case rel => exact ⟨k + 1, t + m1, by omega, by omega, by go_num, by go_num, (show _ = _ from by rw [HSN.out, HT.out, HM1.out]), by omega, rfl⟩
        · have hltz : ¬ (k : Int) < (n : Int) := by omega
          obtain rfl : n = k := by omega
          have htt := HT.out
          rw [List.take_of_length_le (by rw [HN.out]; omega), HTS.out] at htt
          obtain rfl : tS = t := htt.symm
          clear htt
          have hs1 := fun W (hW : Ext wr W) => same47_eq _ _ _ _ _ _ PC W (HC6.out.ext hW) (HC7.out.ext hW) HPS.out
          rw [HPD.out] at hs1
          have hs2 := fun W (hW : Ext wr W) => same47_eq _ _ _ _ _ _ EC W (HC8.out.ext hW) (HC9.out.ext hW) HES.out
          rw [HQD.out] at hs2
          have HS1 := Lib.hid hs1
          have HS2 := Lib.hid hs2
          clear hs1 hs2
          have x0 := cellOf HXS.out 0
          have x1 := cellOf HXS.out 1
          have x2 := cellOf HXS.out 2
          have x3 := cellOf HXS.out 3
          simp only [List.getElem?_toArray, List.getElem?_cons_zero, List.getElem?_cons_succ] at x0 x1 x2 x3
          go_wp2_with fail
          refine (HVP.out _ HE10.out).mono ?_
          rintro e w11 ⟨rfl, hE⟩
          have HE11 := Lib.hid hE
          have HA := Lib.hid (hE.hp HB6.out)
          have HB := Lib.hid (hE.hp HB7.out)
          clear hE x0 x1 x2 x3
          have x0 := cellOf HA.out 0
          have x1 := cellOf HA.out 1
          have x2 := cellOf HA.out 2
          have x3 := cellOf HA.out 3
          simp only [List.getElem?_toArray, List.getElem?_cons_zero, List.getElem?_cons_succ] at x0 x1 x2 x3
          have y0 := cellOf HB.out 0
          have y1 := cellOf HB.out 1
          have y2 := cellOf HB.out 2
          have y3 := cellOf HB.out 3
          simp only [List.getElem?_toArray, List.getElem?_cons_zero, List.getElem?_cons_succ] at y0 y1 y2 y3
          go_wp2_with fail
          refine (HS1.out _ HE11.out).mono ?_
          rintro e w12 ⟨rfl, hE⟩
          have HE12 := Lib.hid (HE11.out.trans' hE)
          clear hE x0 x1 x2 x3 y0 y1 y2 y3
          have HA := Lib.hid (HE12.out.hp HB8.out)
          have HB := Lib.hid (HE12.out.hp HB9.out)
          have x0 := cellOf HA.out 0
          have x1 := cellOf HA.out 1
          have x2 := cellOf HA.out 2
          have x3 := cellOf HA.out 3
          simp only [List.getElem?_toArray, List.getElem?_cons_zero, List.getElem?_cons_succ] at x0 x1 x2 x3
          have y0 := cellOf HB.out 0
          have y1 := cellOf HB.out 1
          have y2 := cellOf HB.out 2
          have y3 := cellOf HB.out 3
          simp only [List.getElem?_toArray, List.getElem?_cons_zero, List.getElem?_cons_succ] at y0 y1 y2 y3
          go_wp2_with fail
          refine (HS2.out _ HE12.out).mono ?_
          rintro e w13 ⟨rfl, hE⟩
          have HE13 := Lib.hid (HE12.out.trans' hE)
          have HX13 := Lib.hid (HE13.out.hp HXS.out)
          have HEF := Lib.hid (HE10.out.trans' HE13.out)
          clear hE x0 x1 x2 x3 y0 y1 y2 y3
          have x0 := cellOf HX13.out 0
          have x1 := cellOf HX13.out 1
          have x2 := cellOf HX13.out 2
          have x3 := cellOf HX13.out 3
          simp only [List.getElem?_toArray, List.getElem?_cons_zero, List.getElem?_cons_succ] at x0 x1 x2 x3
          have bdd : (d == d) = true := by simp
          have btt : ((tS : Int) == (tS : Int)) = true := by simp
          have heq := equal_int (.slice ra cl rc) (.slice ca cl cc) s.cut s.cut w13 (by have := HI10.out.ext HE13.out; rw [HCL.out] at this; exact this) (HS.out.2.2.ext HEF.out) HSMC.out.2.2.1 HSMC.out.2.2.1
          rw [beq_self_eq_true] at heq
          have HEQ := Lib.hid heq
          clear heq
          go_wp2_with fail
          refine HEQ.out.mono ?_
          rintro e w14 ⟨rfl, hE⟩
          have HE14 := Lib.hid (HEF.out.trans' hE)
          have HX14 := Lib.hid (hE.hp HX13.out)
          clear hE x0 x1 x2 x3
          have x0 := cellOf HX14.out 0
          have x1 := cellOf HX14.out 1
          have x2 := cellOf HX14.out 2
          have x3 := cellOf HX14.out 3
          simp only [List.getElem?_toArray, List.getElem?_cons_zero, List.getElem?_cons_succ] at x0 x1 x2 x3
          go_wp2_with fail
          refine (HST.out _ HE14.out).mono ?_
          rintro e w15 ⟨rfl, hE⟩
          have HE15 := Lib.hid (HE14.out.trans' hE)
          clear hE
          go_wp2
          go_ret
          exact ⟨rfl, HE15.out⟩
    ·
      go_wp2_with fail
      refine (HNEW.out _).mono ?_
      rintro e w3 ⟨rfl, hE⟩
      have HE3 := Lib.hid (HE2.out.trans' hE)
      have HX3 := Lib.hid (hE.hp HX2.out)
      clear hE
      go_wp2_with fail
      refine (same47_eq (.slice none 0 0) (.slice none 0 0) (.slice none 0 0) (.slice none 0 0) (.slice none 0 0) (.slice none 0 0) zeroC _ (zero_at _) (zero_at _) zero_small).mono ?_
      rintro e w4 ⟨rfl, hE⟩
      have hX34 : Ext w3 w4 := Ext.trans' (by repeat (first | refine Ext.st ?_ (by first | exact Nat.le_refl _ | exact Nat.le_succ _ | assumption | omega) _ | refine Ext.al ?_ _ | refine Ext.dr ?_ | refine Ext.drN ?_ _ | exact Ext.rf _)) hE
      have HEN := Lib.hid (HE3.out.trans' hX34)
      have HXS := Lib.hid (hX34.hp HX3.out)
      clear hE hX34
      have HP1 := Lib.hid hp1
      have HP2 := Lib.hid hp2
      have HP3 := Lib.hid hp3
      have HPD := Lib.hid hpd
      have HQ1 := Lib.hid hq1
      have HQ2 := Lib.hid hq2
      have HQ3 := Lib.hid hq3
      have HQD := Lib.hid hqd
      clear hp1 hp2 hp3 hpd hq1 hq2 hq3 hqd
      have x0 := cellOf HXS.out 0
      have x1 := cellOf HXS.out 1
      have x2 := cellOf HXS.out 2
      have x3 := cellOf HXS.out 3
      simp only [List.getElem?_toArray, List.getElem?_cons_zero, List.getElem?_cons_succ] at x0 x1 x2 x3
      go_wp2_with fail
      refine (HVR.out _ HEN.out).mono ?_
      rintro e w5 ⟨rfl, hE⟩
      have HXS := Lib.hid (hE.hp HXS.out)
      have HE5 := Lib.hid (HEN.out.trans' hE)
      clear hE x0 x1 x2 x3
      have x0 := cellOf HXS.out 0
      have x1 := cellOf HXS.out 1
      have x2 := cellOf HXS.out 2
      have x3 := cellOf HXS.out 3
      simp only [List.getElem?_toArray, List.getElem?_cons_zero, List.getElem?_cons_succ] at x0 x1 x2 x3
      go_wp2_with fail
      refine (HPP.out _ HE5.out).mono ?_
      rintro e w6 ⟨vq, ve, vd, rfl, hC, hE⟩
      have HXS := Lib.hid (hE.hp HXS.out)
      have HE6 := Lib.hid (HE5.out.trans' hE)
      clear hE x0 x1 x2 x3
      have hC := hC.read
      obtain ⟨a6, c6, rfl, _⟩ := hC.1.shape
      obtain ⟨ea6, ec6, rfl, _⟩ := hC.2.1.shape
      obtain ⟨ca6, cc6, hce6, _, _⟩ := hC.2.2
      subst hce6
      rw [HP1.out, HP2.out, HP3.out] at hC
      rw [HPD.out, HP1.out, HP2.out, HP3.out]
      have HC6 := Lib.hid hC
      clear hC
      have nk7 : w.heap.size < w6.heap.size := (Array.getElem?_eq_some_iff.1 HXS.out).1
      have nj7 : w.heap.size ≠ w6.heap.size := Nat.ne_of_lt nk7
      have x0 := cellOf HXS.out 0
      have x1 := cellOf HXS.out 1
      have x2 := cellOf HXS.out 2
      have x3 := cellOf HXS.out 3
      simp only [List.getElem?_toArray, List.getElem?_cons_zero, List.getElem?_cons_succ] at x0 x1 x2 x3
      go_wp2_with fail
      refine (HPR.out _ (HE6.out.al (ckT (.slice a6 p1 c6) (.slice ea6 p2 ec6) (.bool pd) (.slice ca6 p3 cc6)))).mono ?_
      rintro e w7 ⟨vq, ve, vd, rfl, hC, hE⟩
      have HE67 := Lib.hid (((Ext.rf w6).al (ckT (.slice a6 p1 c6) (.slice ea6 p2 ec6) (.bool pd) (.slice ca6 p3 cc6))).trans' hE)
      have HB6 := Lib.hid (hE.hp (heap_alloc_new w6 (ckT (.slice a6 p1 c6) (.slice ea6 p2 ec6) (.bool pd) (.slice ca6 p3 cc6))))
      have HXS := Lib.hid (HE67.out.hp HXS.out)
      have HE7 := Lib.hid (HE6.out.trans' HE67.out)
      clear hE x0 x1 x2 x3
      have hC := hC.read
      obtain ⟨a7, c7, rfl, _⟩ := hC.1.shape
      obtain ⟨ea7, ec7, rfl, _⟩ := hC.2.1.shape
      obtain ⟨ca7, cc7, hce7, _, _⟩ := hC.2.2
      subst hce7
      rw [HP1.out, HP2.out, HP3.out] at hC
      rw [HPD.out, HP1.out, HP2.out, HP3.out]
      have HC7 := Lib.hid hC
      clear hC
      have nk8 : w.heap.size < w7.heap.size := (Array.getElem?_eq_some_iff.1 HXS.out).1
      have nj8 : w.heap.size ≠ w7.heap.size := Nat.ne_of_lt nk8
      have x0 := cellOf HXS.out 0
      have x1 := cellOf HXS.out 1
      have x2 := cellOf HXS.out 2
      have x3 := cellOf HXS.out 3
      simp only [List.getElem?_toArray, List.getElem?_cons_zero, List.getElem?_cons_succ] at x0 x1 x2 x3
      go_wp2_with fail
      refine (HEP.out _ (HE7.out.al (ckT (.slice a7 p1 c7) (.slice ea7 p2 ec7) (.bool pd) (.slice ca7 p3 cc7)))).mono ?_
      rintro e w8 ⟨vq, ve, vd, rfl, hC, hE⟩
      have HE78 := Lib.hid (((Ext.rf w7).al (ckT (.slice a7 p1 c7) (.slice ea7 p2 ec7) (.bool pd) (.slice ca7 p3 cc7))).trans' hE)
      have HB7 := Lib.hid (hE.hp (heap_alloc_new w7 (ckT (.slice a7 p1 c7) (.slice ea7 p2 ec7) (.bool pd) (.slice ca7 p3 cc7))))
      have HXS := Lib.hid (HE78.out.hp HXS.out)
      have HE8 := Lib.hid (HE7.out.trans' HE78.out)
      clear hE x0 x1 x2 x3
      have hC := hC.read
      obtain ⟨a8, c8, rfl, _⟩ := hC.1.shape
      obtain ⟨ea8, ec8, rfl, _⟩ := hC.2.1.shape
      obtain ⟨ca8, cc8, hce8, _, _⟩ := hC.2.2
      subst hce8
      rw [HQ1.out, HQ2.out, HQ3.out] at hC
      rw [HQD.out, HQ1.out, HQ2.out, HQ3.out]
      have HC8 := Lib.hid hC
      clear hC
      have nk9 : w.heap.size < w8.heap.size := (Array.getElem?_eq_some_iff.1 HXS.out).1
      have nj9 : w.heap.size ≠ w8.heap.size := Nat.ne_of_lt nk9
      have x0 := cellOf HXS.out 0
      have x1 := cellOf HXS.out 1
      have x2 := cellOf HXS.out 2
      have x3 := cellOf HXS.out 3
      simp only [List.getElem?_toArray, List.getElem?_cons_zero, List.getElem?_cons_succ] at x0 x1 x2 x3
      go_wp2_with fail
      refine (HER.out _ (HE8.out.al (ckT (.slice a8 q1 c8) (.slice ea8 q2 ec8) (.bool qd) (.slice ca8 q3 cc8)))).mono ?_
      rintro e w9 ⟨vq, ve, vd, rfl, hC, hE⟩
      have HE89 := Lib.hid (((Ext.rf w8).al (ckT (.slice a8 q1 c8) (.slice ea8 q2 ec8) (.bool qd) (.slice ca8 q3 cc8))).trans' hE)
      have HB8 := Lib.hid (hE.hp (heap_alloc_new w8 (ckT (.slice a8 q1 c8) (.slice ea8 q2 ec8) (.bool qd) (.slice ca8 q3 cc8))))
      have HXS := Lib.hid (HE89.out.hp HXS.out)
      have HE9 := Lib.hid (HE8.out.trans' HE89.out)
      clear hE x0 x1 x2 x3
      have hC := hC.read
      obtain ⟨a9, c9, rfl, _⟩ := hC.1.shape
      obtain ⟨ea9, ec9, rfl, _⟩ := hC.2.1.shape
      obtain ⟨ca9, cc9, hce9, _, _⟩ := hC.2.2
      subst hce9
      rw [HQ1.out, HQ2.out, HQ3.out] at hC
      rw [HQD.out, HQ1.out, HQ2.out, HQ3.out]
      have HC9 := Lib.hid hC
      clear hC
      have nk10 : w.heap.size < w9.heap.size := (Array.getElem?_eq_some_iff.1 HXS.out).1
      have nj10 : w.heap.size ≠ w9.heap.size := Nat.ne_of_lt nk10
      have x0 := cellOf HXS.out 0
      have x1 := cellOf HXS.out 1
      have x2 := cellOf HXS.out 2
      have x3 := cellOf HXS.out 3
      simp only [List.getElem?_toArray, List.getElem?_cons_zero, List.getElem?_cons_succ] at x0 x1 x2 x3
      go_wp2_with fail
      refine (HRS.out _ (HE9.out.al (ckT (.slice a9 q1 c9) (.slice ea9 q2 ec9) (.bool qd) (.slice ca9 q3 cc9)))).mono ?_
      rintro e w10 ⟨v10, rfl, hI, hE⟩
      have HI10 := Lib.hid hI
      obtain ⟨ra, rc, hra, _, _⟩ := hI
      subst hra
      rw [HCL.out]
      have HE910 := Lib.hid (((Ext.rf w9).al (ckT (.slice a9 q1 c9) (.slice ea9 q2 ec9) (.bool qd) (.slice ca9 q3 cc9))).trans' hE)
      have HB9 := Lib.hid (hE.hp (heap_alloc_new w9 (ckT (.slice a9 q1 c9) (.slice ea9 q2 ec9) (.bool qd) (.slice ca9 q3 cc9))))
      have HB8 := Lib.hid (HE910.out.hp HB8.out)
      have HB7 := Lib.hid ((HE89.out.trans' HE910.out).hp HB7.out)
      have HB6 := Lib.hid ((HE78.out.trans' (HE89.out.trans' HE910.out)).hp HB6.out)
      have HXS := Lib.hid (HE910.out.hp HXS.out)
      have HE10 := Lib.hid (HE9.out.trans' HE910.out)
      have HC6 := Lib.hid (HC6.out.ext (HE67.out.trans' (HE78.out.trans' (HE89.out.trans' HE910.out))))
      have HC7 := Lib.hid (HC7.out.ext (HE78.out.trans' (HE89.out.trans' HE910.out)))
      have HC8 := Lib.hid (HC8.out.ext (HE89.out.trans' HE910.out))
      have HC9 := Lib.hid (HC9.out.ext HE910.out)
      clear hE x0 x1 x2 x3
      have x0 := cellOf HXS.out 0
      have x1 := cellOf HXS.out 1
      have x2 := cellOf HXS.out 2
      have x3 := cellOf HXS.out 3
      simp only [List.getElem?_toArray, List.getElem?_cons_zero, List.getElem?_cons_succ] at x0 x1 x2 x3
      go_wp2
      clear x0 x1 x2 x3
      go_loopg [23, 25, 100] n (fun g s23 _ s100 wr => ∃ (k t : Nat), k ≤ n ∧ n - k ≤ g ∧ s23 = .int .i64 t ∧ s100 = .int .i64 k ∧ Aside (t = storedL (s.qs.take k)) ∧ t ≤ k * 70 ∧ wr = w10)
      case atStart => exact ⟨0, 0, Nat.zero_le _, by omega, rfl, rfl, (show _ = _ from by simp [storedL]), by omega, rfl⟩
      case round =>
        obtain ⟨k, t, hk, hg, rfl, rfl, HT, htb, rfl⟩ := hrel
        by_cases hlt : k < n
        · have hltz : (k : Int) < (n : Int) := by omega
          have hkz : (0 : Int) ≤ (k : Int) := by omega
          have hkq : k < s.qs.length := by rw [HN.out]; exact hlt
          obtain ⟨B, O, C, a1, m1, c1, hue0, hcp0, M1, hmc1, HS1⟩ := queue_at HS.out.1 k hkq
          simp only [Value.slice.injEq] at hue0
          obtain ⟨rfl, hnn, rfl⟩ := hue0
          have hcp := HE10.out.cl hcp0
          have HM1 := Lib.hid M1
          have hm70 := HQ70.out k hlt
          rw [← M1] at hm70
          have HSN := Lib.hid (stored_snoc s.qs k hkq)
          clear M1 HS1 hnn hcp0
          go_wp2
          go_roundg (n - (k + 1))
          case measure => omega
          case rel => exact ⟨k + 1, t + m1, by omega, by omega, by go_num, by go_num, (show _ = _ from by rw [HSN.out, HT.out, HM1.out]), by omega, rfl⟩
        · have hltz : ¬ (k : Int) < (n : Int) := by omega
          obtain rfl : n = k := by omega
          have htt := HT.out
          rw [List.take_of_length_le (by rw [HN.out]; omega), HTS.out] at htt
          obtain rfl : tS = t := htt.symm
          clear htt
          have hs1 := fun W (hW : Ext wr W) => same47_eq _ _ _ _ _ _ PC W (HC6.out.ext hW) (HC7.out.ext hW) HPS.out
          rw [HPD.out] at hs1
          have hs2 := fun W (hW : Ext wr W) => same47_eq _ _ _ _ _ _ EC W (HC8.out.ext hW) (HC9.out.ext hW) HES.out
          rw [HQD.out] at hs2
          have HS1 := Lib.hid hs1
          have HS2 := Lib.hid hs2
          clear hs1 hs2
          have x0 := cellOf HXS.out 0
          have x1 := cellOf HXS.out 1
          have x2 := cellOf HXS.out 2
          have x3 := cellOf HXS.out 3
          simp only [List.getElem?_toArray, List.getElem?_cons_zero, List.getElem?_cons_succ] at x0 x1 x2 x3
          go_wp2_with fail
          refine (HVP.out _ HE10.out).mono ?_
          rintro e w11 ⟨rfl, hE⟩
          have HE11 := Lib.hid hE
          have HA := Lib.hid (hE.hp HB6.out)
          have HB := Lib.hid (hE.hp HB7.out)
          clear hE x0 x1 x2 x3
          have x0 := cellOf HA.out 0
          have x1 := cellOf HA.out 1
          have x2 := cellOf HA.out 2
          have x3 := cellOf HA.out 3
          simp only [List.getElem?_toArray, List.getElem?_cons_zero, List.getElem?_cons_succ] at x0 x1 x2 x3
          have y0 := cellOf HB.out 0
          have y1 := cellOf HB.out 1
          have y2 := cellOf HB.out 2
          have y3 := cellOf HB.out 3
          simp only [List.getElem?_toArray, List.getElem?_cons_zero, List.getElem?_cons_succ] at y0 y1 y2 y3
          go_wp2_with fail
          refine (HS1.out _ HE11.out).mono ?_
          rintro e w12 ⟨rfl, hE⟩
          have HE12 := Lib.hid (HE11.out.trans' hE)
          clear hE x0 x1 x2 x3 y0 y1 y2 y3
          have HA := Lib.hid (HE12.out.hp HB8.out)
          have HB := Lib.hid (HE12.out.hp HB9.out)
          have x0 := cellOf HA.out 0
          have x1 := cellOf HA.out 1
          have x2 := cellOf HA.out 2
          have x3 := cellOf HA.out 3
          simp only [List.getElem?_toArray, List.getElem?_cons_zero, List.getElem?_cons_succ] at x0 x1 x2 x3
          have y0 := cellOf HB.out 0
          have y1 := cellOf HB.out 1
          have y2 := cellOf HB.out 2
          have y3 := cellOf HB.out 3
          simp only [List.getElem?_toArray, List.getElem?_cons_zero, List.getElem?_cons_succ] at y0 y1 y2 y3
          go_wp2_with fail
          refine (HS2.out _ HE12.out).mono ?_
          rintro e w13 ⟨rfl, hE⟩
          have HE13 := Lib.hid (HE12.out.trans' hE)
          have HX13 := Lib.hid (HE13.out.hp HXS.out)
          have HEF := Lib.hid (HE10.out.trans' HE13.out)
          clear hE x0 x1 x2 x3 y0 y1 y2 y3
          have x0 := cellOf HX13.out 0
          have x1 := cellOf HX13.out 1
          have x2 := cellOf HX13.out 2
          have x3 := cellOf HX13.out 3
          simp only [List.getElem?_toArray, List.getElem?_cons_zero, List.getElem?_cons_succ] at x0 x1 x2 x3
          have bdd : (d == d) = true := by simp
          have btt : ((tS : Int) == (tS : Int)) = true := by simp
          have heq := equal_int (.slice ra cl rc) (.slice ca cl cc) s.cut s.cut w13 (by have := HI10.out.ext HE13.out; rw [HCL.out] at this; exact this) (HS.out.2.2.ext HEF.out) HSMC.out.2.2.1 HSMC.out.2.2.1
          rw [beq_self_eq_true] at heq
          have HEQ := Lib.hid heq
          clear heq
          go_wp2_with fail
          refine HEQ.out.mono ?_
          rintro e w14 ⟨rfl, hE⟩
          have HE14 := Lib.hid (HEF.out.trans' hE)
          have HX14 := Lib.hid (hE.hp HX13.out)
          clear hE x0 x1 x2 x3
          have x0 := cellOf HX14.out 0
          have x1 := cellOf HX14.out 1
          have x2 := cellOf HX14.out 2
          have x3 := cellOf HX14.out 3
          simp only [List.getElem?_toArray, List.getElem?_cons_zero, List.getElem?_cons_succ] at x0 x1 x2 x3
          go_wp2_with fail
          refine (HST.out _ HE14.out).mono ?_
          rintro e w15 ⟨rfl, hE⟩
          have HE15 := Lib.hid (HE14.out.trans' hE)
          clear hE
          go_wp2
          go_ret
          exact ⟨rfl, HE15.out⟩

set_option maxHeartbeats 16000000 in
set_option maxRecDepth 100000 in
theorem lawSteps_ok (M : Nat) (uq ue uc v : Value) (s : Ck) (p : Int) (lv : List Int) (w : World) (h : CkAt w uq ue uc s) (hv : Ints w v lv) (hg : greatB s = false) (h20 : ¬ 20 < lv.length) (hM1 : 1 ≤ M) (hM2 : M ≤ 8) :
    Calls Try.prog 4 #[.int .i64 M, .agg #[uq, ue, .bool s.done, uc], .int .i64 p, v] w fun e w' => e = .returned (.bool true) ∧ Ext w w' := by
  have hnew := fun W => newP_ok M W hM1 hM2
  have HNEW := Lib.hid hnew
  have hnr := fun W => newR_ok M W hM1 hM2
  have HNR := Lib.hid hnr
  clear hnew hnr
  have c1 : decide ((M : Int) < 1) = false := by simp; omega
  have c1n : decide (M < 1) = false := by simp; omega
  have c2 : decide (8 < (M : Int)) = false := by simp; omega
  have c2n : decide (8 < M) = false := by simp; omega
  obtain ⟨z1, hz1⟩ : ∃ k, (newC M).qs.length = k := ⟨_, rfl⟩
  obtain ⟨z2, hz2⟩ : ∃ k, (newC M).ended.length = k := ⟨_, rfl⟩
  obtain ⟨z3, hz3⟩ : ∃ k, (newC M).cut.length = k := ⟨_, rfl⟩
  have HZ1 := Lib.hid hz1
  have HZ2 := Lib.hid hz2
  have HZ3 := Lib.hid hz3
  have HZD := Lib.hid (show (newC M).done = false from rfl)
  clear hz1 hz2 hz3
  have HS := Lib.hid h
  have HVI := Lib.hid hv
  obtain ⟨a, c, rfl, hlc⟩ := h.1.shape
  obtain ⟨ea, ec, rfl, hec⟩ := h.2.1.shape
  obtain ⟨ca, cc, hce, hcc, _⟩ := h.2.2
  subst hce
  obtain ⟨va, vc, rfl, hvc, _⟩ := hv
  clear h
  have hgr := fun W (hW : Ext w W) => great_calls (.slice a s.qs.length c) (.slice ea s.ended.length ec) (.slice ca s.cut.length cc) s W (HS.out.ext hW)
  rw [hg] at hgr
  have b1 : decide (20 < (lv.length : Int)) = false := by simp; omega
  have b1n : decide (20 < lv.length) = false := by simp; omega
  obtain ⟨hsm, hn10, _, _, hq70⟩ := great_small hg
  have hvr := fun W (hW : Ext w W) => validR_calls (.slice a s.qs.length c) (.slice ea s.ended.length ec) (.slice ca s.cut.length cc) s W (HS.out.ext hW) hsm
  have hvp := fun W (hW : Ext w W) => validP_calls (.slice a s.qs.length c) (.slice ea s.ended.length ec) (.slice ca s.cut.length cc) s W (HS.out.ext hW) hsm
  have hpp := fun W (hW : Ext w W) => putP_all (.slice a s.qs.length c) (.slice ea s.ended.length ec) (.slice ca s.cut.length cc) (.slice va lv.length vc) s p lv W (HS.out.ext hW) hsm (HVI.out.ext hW) (by omega)
  have hpr := fun W (hW : Ext w W) => putR_all (.slice a s.qs.length c) (.slice ea s.ended.length ec) (.slice ca s.cut.length cc) (.slice va lv.length vc) s p lv W (HS.out.ext hW) hsm (HVI.out.ext hW) (by omega)
  have hep := fun W (hW : Ext w W) => endP_all (.slice a s.qs.length c) (.slice ea s.ended.length ec) (.slice ca s.cut.length cc) s p W (HS.out.ext hW) hsm
  have her := fun W (hW : Ext w W) => endR_all (.slice a s.qs.length c) (.slice ea s.ended.length ec) (.slice ca s.cut.length cc) s p W (HS.out.ext hW) hsm
  have hst := fun W (hW : Ext w W) => storedP_calls (.slice a s.qs.length c) (.slice ea s.ended.length ec) (.slice ca s.cut.length cc) s W (HS.out.ext hW) hsm
  have HPS := Lib.hid (putRes_small s p lv)
  have HES := Lib.hid (endRes_small hsm p)
  generalize putRes s p lv = PC at *
  generalize putErr s p lv = PE at *
  generalize endRes s p = EC at *
  generalize endErr s p = EE at *
  have HSMC := Lib.hid hsm
  have HQ70 := Lib.hid hq70
  have bPE : (PE != PE) = false := by simp
  have bEE : (EE != EE) = false := by simp
  cases hval : validC s with
  | false =>
    have hrs := fun W (hW : Ext w W) => resultP_bad (.slice a s.qs.length c) (.slice ea s.ended.length ec) (.slice ca s.cut.length cc) s W (HS.out.ext hW) hsm hval
    obtain ⟨tS, hts⟩ : ∃ tS, storedL s.qs = tS := ⟨_, rfl⟩
    rw [hval] at hvr hvp hst
    simp only [if_true, if_false, Bool.false_eq_true, hts] at hst
    have HTS := Lib.hid hts
    clear hval hts
    obtain ⟨p1, hp1⟩ : ∃ k, PC.qs.length = k := ⟨_, rfl⟩
    obtain ⟨p2, hp2⟩ : ∃ k, PC.ended.length = k := ⟨_, rfl⟩
    obtain ⟨p3, hp3⟩ : ∃ k, PC.cut.length = k := ⟨_, rfl⟩
    obtain ⟨pd, hpd⟩ : ∃ k, PC.done = k := ⟨_, rfl⟩
    obtain ⟨q1, hq1⟩ : ∃ k, EC.qs.length = k := ⟨_, rfl⟩
    obtain ⟨q2, hq2⟩ : ∃ k, EC.ended.length = k := ⟨_, rfl⟩
    obtain ⟨q3, hq3⟩ : ∃ k, EC.cut.length = k := ⟨_, rfl⟩
    obtain ⟨qd, hqd⟩ : ∃ k, EC.done = k := ⟨_, rfl⟩
    generalize hd : s.done = d at *
    have HD := Lib.hid hd
    clear hd
    generalize hn : s.qs.length = n at *
    generalize hl : s.ended.length = l at *
    generalize hcl : s.cut.length = cl at *
    generalize hvl : lv.length = vl at *
    have HN := Lib.hid hn
    have HL := Lib.hid hl
    have HCL := Lib.hid hcl
    have HVL := Lib.hid hvl
    clear hn hl hcl hvl
    have HGR := Lib.hid hgr
    clear hgr
    have HRS := Lib.hid hrs
    clear hrs
    have HVR := Lib.hid hvr
    have HVP := Lib.hid hvp
    have HPP := Lib.hid hpp
    have HPR := Lib.hid hpr
    have HEP := Lib.hid hep
    have HER := Lib.hid her
    have HST := Lib.hid hst
    clear hvr hvp hpp hpr hep her hst hg hsm hq70
    go_enter Try.func4, Try.ntmps4
    go_wp2_with fail
    refine (awake_calls _).mono ?_
    rintro e w1 ⟨rfl, hE1⟩
    have HX1 := Lib.hid (hE1.hp (heap_alloc_new w (ckT (.slice a n c) (.slice ea l ec) (.bool d) (.slice ca cl cc))))
    have HE1 := Lib.hid (show Ext w w1 from Ext.trans' (by repeat (first | refine Ext.st ?_ (by first | exact Nat.le_refl _ | exact Nat.le_succ _ | assumption | omega) _ | refine Ext.al ?_ _ | refine Ext.dr ?_ | refine Ext.drN ?_ _ | exact Ext.rf _)) hE1)
    clear hE1
    have x0 := cellOf HX1.out 0
    have x1 := cellOf HX1.out 1
    have x2 := cellOf HX1.out 2
    have x3 := cellOf HX1.out 3
    simp only [List.getElem?_toArray, List.getElem?_cons_zero, List.getElem?_cons_succ] at x0 x1 x2 x3
    go_wp2_with fail
    refine (HGR.out _ HE1.out).mono ?_
    rintro e w2 ⟨rfl, hE2⟩
    have HX2 := Lib.hid (hE2.hp HX1.out)
    have HE2 := Lib.hid (HE1.out.trans' hE2)
    clear hE2 x0 x1 x2 x3
    go_wp2_with fail
    refine (HNEW.out _).mono ?_
    rintro e w3 ⟨vq, ve, vd, rfl, hC, hE⟩
    have HE3 := Lib.hid (HE2.out.trans' hE)
    have HX3 := Lib.hid (hE.hp HX2.out)
    clear hE
    have hC := hC.read
    obtain ⟨xa, xc, rfl, _⟩ := hC.1.shape
    obtain ⟨xea, xec, rfl, _⟩ := hC.2.1.shape
    obtain ⟨xca, xcc, hcex, _, _⟩ := hC.2.2
    subst hcex
    rw [HZ1.out, HZ2.out, HZ3.out] at hC
    rw [HZD.out, HZ1.out, HZ2.out, HZ3.out]
    have HCX := Lib.hid hC
    have HBX := Lib.hid (heap_alloc_new w3 (ckT (.slice xa z1 xc) (.slice xea z2 xec) (.bool false) (.slice xca z3 xcc)))
    have HE34 := Lib.hid ((Ext.rf w3).al (ckT (.slice xa z1 xc) (.slice xea z2 xec) (.bool false) (.slice xca z3 xcc)))
    clear hC
    go_upto_region 9 with (fail)
    generalize hw4 : w3.alloc (ckT (.slice xa z1 xc) (.slice xea z2 xec) (.bool false) (.slice xca z3 xcc)) = w4 at *
    clear hw4
    go_cut [62] (fun s62 wx => s62 = .bool false ∧ Aside (Ext w4 wx))
    case first =>
      have x0 := cellOf HBX.out 0
      have x1 := cellOf HBX.out 1
      have x2 := cellOf HBX.out 2
      have x3 := cellOf HBX.out 3
      simp only [List.getElem?_toArray, List.getElem?_cons_zero, List.getElem?_cons_succ] at x0 x1 x2 x3
      have HXA := Lib.hid (Ext.rf w4)
      go_region_held3 (fun w' => w'.cell? ⟨w3.heap.size, 0, none⟩ = some (.slice xa z1 xc) ∧ w'.cell? ⟨w3.heap.size, 1, none⟩ = some (.slice xea z2 xec) ∧ w'.cell? ⟨w3.heap.size, 2, none⟩ = some (.bool false) ∧ w'.cell? ⟨w3.heap.size, 3, none⟩ = some (.slice xca z3 xcc)) (go_keep)
        (first
          | (go_at_call 16
             refine (HNR.out _).mono ?_
             rintro e wA ⟨vq, ve, vd, rfl, hC, hE⟩
             have hC := hC.read
             obtain ⟨ya, yc, rfl, _⟩ := hC.1.shape
             obtain ⟨yea, yec, rfl, _⟩ := hC.2.1.shape
             obtain ⟨yca, ycc, hcey, _, _⟩ := hC.2.2
             subst hcey
             rw [HZ1.out, HZ2.out, HZ3.out] at hC
             rw [HZD.out, HZ1.out, HZ2.out, HZ3.out]
             have HCY := Lib.hid hC
             have hxA : Ext w4 wA := Ext.trans' (by repeat (first | refine Ext.st ?_ (by first | exact Nat.le_refl _ | exact Nat.le_succ _ | assumption | omega) _ | refine Ext.al ?_ _ | refine Ext.dr ?_ | refine Ext.drN ?_ _ | exact HXA.out)) hE
             have HXA := Lib.hid hxA
             have kx0 := hxA.cl x0
             have kx1 := hxA.cl x1
             have kx2 := hxA.cl x2
             have kx3 := hxA.cl x3
             have hsm := fun W (hW : Ext wA W) => same47_eq _ _ _ _ _ _ (newC M) W (HCX.out.ext (HE34.out.trans' (hxA.trans' hW))) (HCY.out.ext hW) (newC_small M hM2)
             rw [HZD.out] at hsm
             have HSM := Lib.hid hsm
             clear hC hxA hE hsm)
          | (go_at_call 9
             refine (HSM.out _ (by repeat (first | refine Ext.st ?_ (by first | exact Nat.le_refl _ | exact Nat.le_succ _ | assumption | omega) _ | refine Ext.al ?_ _ | refine Ext.dr ?_ | refine Ext.drN ?_ _ | exact Ext.rf _))).mono ?_
             rintro e wB ⟨rfl, hE⟩
             have hxB : Ext w4 wB := Ext.trans' (by repeat (first | refine Ext.st ?_ (by first | exact Nat.le_refl _ | exact Nat.le_succ _ | assumption | omega) _ | refine Ext.al ?_ _ | refine Ext.dr ?_ | refine Ext.drN ?_ _ | exact HXA.out)) hE
             have HXA := Lib.hid hxB
             have kx0 := hxB.cl x0
             have kx1 := hxB.cl x1
             have kx2 := hxB.cl x2
             have kx3 := hxB.cl x3
             clear hxB hE))
      go_wp2_with fail
      go_meet
      exact ⟨rfl, (show Ext _ _ from (by repeat (first | refine Ext.st ?_ (by first | exact Nat.le_refl _ | exact Nat.le_succ _ | assumption | omega) _ | refine Ext.al ?_ _ | refine Ext.dr ?_ | refine Ext.drN ?_ _ | exact HXA.out)))⟩
    case rest =>
      obtain ⟨rfl, HE4X⟩ := hcut
      obtain ⟨wN, rfl⟩ : ∃ x, x = wc := ⟨_, rfl⟩
      have HEN := Lib.hid (HE3.out.trans' (HE34.out.trans' HE4X.out))
      have HXS := Lib.hid ((HE34.out.trans' HE4X.out).hp HX3.out)
      have HP1 := Lib.hid hp1
      have HP2 := Lib.hid hp2
      have HP3 := Lib.hid hp3
      have HPD := Lib.hid hpd
      have HQ1 := Lib.hid hq1
      have HQ2 := Lib.hid hq2
      have HQ3 := Lib.hid hq3
      have HQD := Lib.hid hqd
      clear hp1 hp2 hp3 hpd hq1 hq2 hq3 hqd
      have x0 := cellOf HXS.out 0
      have x1 := cellOf HXS.out 1
      have x2 := cellOf HXS.out 2
      have x3 := cellOf HXS.out 3
      simp only [List.getElem?_toArray, List.getElem?_cons_zero, List.getElem?_cons_succ] at x0 x1 x2 x3
      go_wp2_with fail
      refine (HVR.out _ HEN.out).mono ?_
      rintro e w5 ⟨rfl, hE⟩
      have HXS := Lib.hid (hE.hp HXS.out)
      have HE5 := Lib.hid (HEN.out.trans' hE)
      clear hE x0 x1 x2 x3
      have x0 := cellOf HXS.out 0
      have x1 := cellOf HXS.out 1
      have x2 := cellOf HXS.out 2
      have x3 := cellOf HXS.out 3
      simp only [List.getElem?_toArray, List.getElem?_cons_zero, List.getElem?_cons_succ] at x0 x1 x2 x3
      go_wp2_with fail
      refine (HPP.out _ HE5.out).mono ?_
      rintro e w6 ⟨vq, ve, vd, rfl, hC, hE⟩
      have HXS := Lib.hid (hE.hp HXS.out)
      have HE6 := Lib.hid (HE5.out.trans' hE)
      clear hE x0 x1 x2 x3
      have hC := hC.read
      obtain ⟨a6, c6, rfl, _⟩ := hC.1.shape
      obtain ⟨ea6, ec6, rfl, _⟩ := hC.2.1.shape
      obtain ⟨ca6, cc6, hce6, _, _⟩ := hC.2.2
      subst hce6
      rw [HP1.out, HP2.out, HP3.out] at hC
      rw [HPD.out, HP1.out, HP2.out, HP3.out]
      have HC6 := Lib.hid hC
      clear hC
      have nk7 : w.heap.size < w6.heap.size := (Array.getElem?_eq_some_iff.1 HXS.out).1
      have nj7 : w.heap.size ≠ w6.heap.size := Nat.ne_of_lt nk7
      have x0 := cellOf HXS.out 0
      have x1 := cellOf HXS.out 1
      have x2 := cellOf HXS.out 2
      have x3 := cellOf HXS.out 3
      simp only [List.getElem?_toArray, List.getElem?_cons_zero, List.getElem?_cons_succ] at x0 x1 x2 x3
      go_wp2_with fail
      refine (HPR.out _ (HE6.out.al (ckT (.slice a6 p1 c6) (.slice ea6 p2 ec6) (.bool pd) (.slice ca6 p3 cc6)))).mono ?_
      rintro e w7 ⟨vq, ve, vd, rfl, hC, hE⟩
      have HE67 := Lib.hid (((Ext.rf w6).al (ckT (.slice a6 p1 c6) (.slice ea6 p2 ec6) (.bool pd) (.slice ca6 p3 cc6))).trans' hE)
      have HB6 := Lib.hid (hE.hp (heap_alloc_new w6 (ckT (.slice a6 p1 c6) (.slice ea6 p2 ec6) (.bool pd) (.slice ca6 p3 cc6))))
      have HXS := Lib.hid (HE67.out.hp HXS.out)
      have HE7 := Lib.hid (HE6.out.trans' HE67.out)
      clear hE x0 x1 x2 x3
      have hC := hC.read
      obtain ⟨a7, c7, rfl, _⟩ := hC.1.shape
      obtain ⟨ea7, ec7, rfl, _⟩ := hC.2.1.shape
      obtain ⟨ca7, cc7, hce7, _, _⟩ := hC.2.2
      subst hce7
      rw [HP1.out, HP2.out, HP3.out] at hC
      rw [HPD.out, HP1.out, HP2.out, HP3.out]
      have HC7 := Lib.hid hC
      clear hC
      have nk8 : w.heap.size < w7.heap.size := (Array.getElem?_eq_some_iff.1 HXS.out).1
      have nj8 : w.heap.size ≠ w7.heap.size := Nat.ne_of_lt nk8
      have x0 := cellOf HXS.out 0
      have x1 := cellOf HXS.out 1
      have x2 := cellOf HXS.out 2
      have x3 := cellOf HXS.out 3
      simp only [List.getElem?_toArray, List.getElem?_cons_zero, List.getElem?_cons_succ] at x0 x1 x2 x3
      go_wp2_with fail
      refine (HEP.out _ (HE7.out.al (ckT (.slice a7 p1 c7) (.slice ea7 p2 ec7) (.bool pd) (.slice ca7 p3 cc7)))).mono ?_
      rintro e w8 ⟨vq, ve, vd, rfl, hC, hE⟩
      have HE78 := Lib.hid (((Ext.rf w7).al (ckT (.slice a7 p1 c7) (.slice ea7 p2 ec7) (.bool pd) (.slice ca7 p3 cc7))).trans' hE)
      have HB7 := Lib.hid (hE.hp (heap_alloc_new w7 (ckT (.slice a7 p1 c7) (.slice ea7 p2 ec7) (.bool pd) (.slice ca7 p3 cc7))))
      have HXS := Lib.hid (HE78.out.hp HXS.out)
      have HE8 := Lib.hid (HE7.out.trans' HE78.out)
      clear hE x0 x1 x2 x3
      have hC := hC.read
      obtain ⟨a8, c8, rfl, _⟩ := hC.1.shape
      obtain ⟨ea8, ec8, rfl, _⟩ := hC.2.1.shape
      obtain ⟨ca8, cc8, hce8, _, _⟩ := hC.2.2
      subst hce8
      rw [HQ1.out, HQ2.out, HQ3.out] at hC
      rw [HQD.out, HQ1.out, HQ2.out, HQ3.out]
      have HC8 := Lib.hid hC
      clear hC
      have nk9 : w.heap.size < w8.heap.size := (Array.getElem?_eq_some_iff.1 HXS.out).1
      have nj9 : w.heap.size ≠ w8.heap.size := Nat.ne_of_lt nk9
      have x0 := cellOf HXS.out 0
      have x1 := cellOf HXS.out 1
      have x2 := cellOf HXS.out 2
      have x3 := cellOf HXS.out 3
      simp only [List.getElem?_toArray, List.getElem?_cons_zero, List.getElem?_cons_succ] at x0 x1 x2 x3
      go_wp2_with fail
      refine (HER.out _ (HE8.out.al (ckT (.slice a8 q1 c8) (.slice ea8 q2 ec8) (.bool qd) (.slice ca8 q3 cc8)))).mono ?_
      rintro e w9 ⟨vq, ve, vd, rfl, hC, hE⟩
      have HE89 := Lib.hid (((Ext.rf w8).al (ckT (.slice a8 q1 c8) (.slice ea8 q2 ec8) (.bool qd) (.slice ca8 q3 cc8))).trans' hE)
      have HB8 := Lib.hid (hE.hp (heap_alloc_new w8 (ckT (.slice a8 q1 c8) (.slice ea8 q2 ec8) (.bool qd) (.slice ca8 q3 cc8))))
      have HXS := Lib.hid (HE89.out.hp HXS.out)
      have HE9 := Lib.hid (HE8.out.trans' HE89.out)
      clear hE x0 x1 x2 x3
      have hC := hC.read
      obtain ⟨a9, c9, rfl, _⟩ := hC.1.shape
      obtain ⟨ea9, ec9, rfl, _⟩ := hC.2.1.shape
      obtain ⟨ca9, cc9, hce9, _, _⟩ := hC.2.2
      subst hce9
      rw [HQ1.out, HQ2.out, HQ3.out] at hC
      rw [HQD.out, HQ1.out, HQ2.out, HQ3.out]
      have HC9 := Lib.hid hC
      clear hC
      have nk10 : w.heap.size < w9.heap.size := (Array.getElem?_eq_some_iff.1 HXS.out).1
      have nj10 : w.heap.size ≠ w9.heap.size := Nat.ne_of_lt nk10
      have x0 := cellOf HXS.out 0
      have x1 := cellOf HXS.out 1
      have x2 := cellOf HXS.out 2
      have x3 := cellOf HXS.out 3
      simp only [List.getElem?_toArray, List.getElem?_cons_zero, List.getElem?_cons_succ] at x0 x1 x2 x3
      go_wp2_with fail
      refine (HRS.out _ (HE9.out.al (ckT (.slice a9 q1 c9) (.slice ea9 q2 ec9) (.bool qd) (.slice ca9 q3 cc9)))).mono ?_
      rintro e w10 ⟨rfl, hE⟩
      have HE910 := Lib.hid (((Ext.rf w9).al (ckT (.slice a9 q1 c9) (.slice ea9 q2 ec9) (.bool qd) (.slice ca9 q3 cc9))).trans' hE)
      have HB9 := Lib.hid (hE.hp (heap_alloc_new w9 (ckT (.slice a9 q1 c9) (.slice ea9 q2 ec9) (.bool qd) (.slice ca9 q3 cc9))))
      have HB8 := Lib.hid (HE910.out.hp HB8.out)
      have HB7 := Lib.hid ((HE89.out.trans' HE910.out).hp HB7.out)
      have HB6 := Lib.hid ((HE78.out.trans' (HE89.out.trans' HE910.out)).hp HB6.out)
      have HXS := Lib.hid (HE910.out.hp HXS.out)
      have HE10 := Lib.hid (HE9.out.trans' HE910.out)
      have HC6 := Lib.hid (HC6.out.ext (HE67.out.trans' (HE78.out.trans' (HE89.out.trans' HE910.out))))
      have HC7 := Lib.hid (HC7.out.ext (HE78.out.trans' (HE89.out.trans' HE910.out)))
      have HC8 := Lib.hid (HC8.out.ext (HE89.out.trans' HE910.out))
      have HC9 := Lib.hid (HC9.out.ext HE910.out)
      clear hE x0 x1 x2 x3
      have x0 := cellOf HXS.out 0
      have x1 := cellOf HXS.out 1
      have x2 := cellOf HXS.out 2
      have x3 := cellOf HXS.out 3
      simp only [List.getElem?_toArray, List.getElem?_cons_zero, List.getElem?_cons_succ] at x0 x1 x2 x3
      go_wp2
      clear x0 x1 x2 x3
      go_loopg [23, 25, 100] n (fun g s23 _ s100 wr => ∃ (k t : Nat), k ≤ n ∧ n - k ≤ g ∧ s23 = .int .i64 t ∧ s100 = .int .i64 k ∧ Aside (t = storedL (s.qs.take k)) ∧ t ≤ k * 70 ∧ wr = w10)
      case atStart => exact ⟨0, 0, Nat.zero_le _, by omega, rfl, rfl, (show _ = _ from by simp [storedL]), by omega, rfl⟩
      case round =>
        obtain ⟨k, t, hk, hg, rfl, rfl, HT, htb, rfl⟩ := hrel
        by_cases hlt : k < n
        · have hltz : (k : Int) < (n : Int) := by omega
          have hkz : (0 : Int) ≤ (k : Int) := by omega
          have hkq : k < s.qs.length := by rw [HN.out]; exact hlt
          obtain ⟨B, O, C, a1, m1, c1, hue0, hcp0, M1, hmc1, HS1⟩ := queue_at HS.out.1 k hkq
          simp only [Value.slice.injEq] at hue0
          obtain ⟨rfl, hnn, rfl⟩ := hue0
          have hcp := HE10.out.cl hcp0
          have HM1 := Lib.hid M1
          have hm70 := HQ70.out k hlt
          rw [← M1] at hm70
          have HSN := Lib.hid (stored_snoc s.qs k hkq)
          clear M1 HS1 hnn hcp0
          go_wp2
          go_roundg (n - (k + 1))
          case measure => omega
          case rel => exact ⟨k + 1, t + m1, by omega, by omega, by go_num, by go_num, (show _ = _ from by rw [HSN.out, HT.out, HM1.out]), by omega, rfl⟩
        · have hltz : ¬ (k : Int) < (n : Int) := by omega
          obtain rfl : n = k := by omega
          have htt := HT.out
          rw [List.take_of_length_le (by rw [HN.out]; omega), HTS.out] at htt
          obtain rfl : tS = t := htt.symm
          clear htt
          have hs1 := fun W (hW : Ext wr W) => same47_eq _ _ _ _ _ _ PC W (HC6.out.ext hW) (HC7.out.ext hW) HPS.out
          rw [HPD.out] at hs1
          have hs2 := fun W (hW : Ext wr W) => same47_eq _ _ _ _ _ _ EC W (HC8.out.ext hW) (HC9.out.ext hW) HES.out
          rw [HQD.out] at hs2
          have HS1 := Lib.hid hs1
          have HS2 := Lib.hid hs2
          clear hs1 hs2
          have x0 := cellOf HXS.out 0
          have x1 := cellOf HXS.out 1
          have x2 := cellOf HXS.out 2
          have x3 := cellOf HXS.out 3
          simp only [List.getElem?_toArray, List.getElem?_cons_zero, List.getElem?_cons_succ] at x0 x1 x2 x3
          go_wp2_with fail
          refine (HVP.out _ HE10.out).mono ?_
          rintro e w11 ⟨rfl, hE⟩
          have HE11 := Lib.hid hE
          have HA := Lib.hid (hE.hp HB6.out)
          have HB := Lib.hid (hE.hp HB7.out)
          clear hE x0 x1 x2 x3
          have x0 := cellOf HA.out 0
          have x1 := cellOf HA.out 1
          have x2 := cellOf HA.out 2
          have x3 := cellOf HA.out 3
          simp only [List.getElem?_toArray, List.getElem?_cons_zero, List.getElem?_cons_succ] at x0 x1 x2 x3
          have y0 := cellOf HB.out 0
          have y1 := cellOf HB.out 1
          have y2 := cellOf HB.out 2
          have y3 := cellOf HB.out 3
          simp only [List.getElem?_toArray, List.getElem?_cons_zero, List.getElem?_cons_succ] at y0 y1 y2 y3
          go_wp2_with fail
          refine (HS1.out _ HE11.out).mono ?_
          rintro e w12 ⟨rfl, hE⟩
          have HE12 := Lib.hid (HE11.out.trans' hE)
          clear hE x0 x1 x2 x3 y0 y1 y2 y3
          have HA := Lib.hid (HE12.out.hp HB8.out)
          have HB := Lib.hid (HE12.out.hp HB9.out)
          have x0 := cellOf HA.out 0
          have x1 := cellOf HA.out 1
          have x2 := cellOf HA.out 2
          have x3 := cellOf HA.out 3
          simp only [List.getElem?_toArray, List.getElem?_cons_zero, List.getElem?_cons_succ] at x0 x1 x2 x3
          have y0 := cellOf HB.out 0
          have y1 := cellOf HB.out 1
          have y2 := cellOf HB.out 2
          have y3 := cellOf HB.out 3
          simp only [List.getElem?_toArray, List.getElem?_cons_zero, List.getElem?_cons_succ] at y0 y1 y2 y3
          go_wp2_with fail
          refine (HS2.out _ HE12.out).mono ?_
          rintro e w13 ⟨rfl, hE⟩
          have HE13 := Lib.hid (HE12.out.trans' hE)
          have HX13 := Lib.hid (HE13.out.hp HXS.out)
          have HEF := Lib.hid (HE10.out.trans' HE13.out)
          clear hE x0 x1 x2 x3 y0 y1 y2 y3
          have x0 := cellOf HX13.out 0
          have x1 := cellOf HX13.out 1
          have x2 := cellOf HX13.out 2
          have x3 := cellOf HX13.out 3
          simp only [List.getElem?_toArray, List.getElem?_cons_zero, List.getElem?_cons_succ] at x0 x1 x2 x3
          go_wp2_with fail
          refine (HST.out _ HEF.out).mono ?_
          rintro e w14 ⟨rfl, hE⟩
          have HE14 := Lib.hid (HEF.out.trans' hE)
          clear hE
          go_wp2
          go_ret
          exact ⟨rfl, HE14.out⟩
  | true =>
    have hrs := fun W (hW : Ext w W) => resultP_ok (.slice a s.qs.length c) (.slice ea s.ended.length ec) (.slice ca s.cut.length cc) s W (HS.out.ext hW) hsm hval
    obtain ⟨tS, hts⟩ : ∃ tS, storedL s.qs = tS := ⟨_, rfl⟩
    rw [hval] at hvr hvp hst
    simp only [if_true, if_false, Bool.false_eq_true, hts] at hst
    have HTS := Lib.hid hts
    clear hval hts
    obtain ⟨p1, hp1⟩ : ∃ k, PC.qs.length = k := ⟨_, rfl⟩
    obtain ⟨p2, hp2⟩ : ∃ k, PC.ended.length = k := ⟨_, rfl⟩
    obtain ⟨p3, hp3⟩ : ∃ k, PC.cut.length = k := ⟨_, rfl⟩
    obtain ⟨pd, hpd⟩ : ∃ k, PC.done = k := ⟨_, rfl⟩
    obtain ⟨q1, hq1⟩ : ∃ k, EC.qs.length = k := ⟨_, rfl⟩
    obtain ⟨q2, hq2⟩ : ∃ k, EC.ended.length = k := ⟨_, rfl⟩
    obtain ⟨q3, hq3⟩ : ∃ k, EC.cut.length = k := ⟨_, rfl⟩
    obtain ⟨qd, hqd⟩ : ∃ k, EC.done = k := ⟨_, rfl⟩
    generalize hd : s.done = d at *
    have HD := Lib.hid hd
    clear hd
    generalize hn : s.qs.length = n at *
    generalize hl : s.ended.length = l at *
    generalize hcl : s.cut.length = cl at *
    generalize hvl : lv.length = vl at *
    have HN := Lib.hid hn
    have HL := Lib.hid hl
    have HCL := Lib.hid hcl
    have HVL := Lib.hid hvl
    clear hn hl hcl hvl
    have HGR := Lib.hid hgr
    clear hgr
    have HRS := Lib.hid hrs
    clear hrs
    have HVR := Lib.hid hvr
    have HVP := Lib.hid hvp
    have HPP := Lib.hid hpp
    have HPR := Lib.hid hpr
    have HEP := Lib.hid hep
    have HER := Lib.hid her
    have HST := Lib.hid hst
    clear hvr hvp hpp hpr hep her hst hg hsm hq70
    go_enter Try.func4, Try.ntmps4
    go_wp2_with fail
    refine (awake_calls _).mono ?_
    rintro e w1 ⟨rfl, hE1⟩
    have HX1 := Lib.hid (hE1.hp (heap_alloc_new w (ckT (.slice a n c) (.slice ea l ec) (.bool d) (.slice ca cl cc))))
    have HE1 := Lib.hid (show Ext w w1 from Ext.trans' (by repeat (first | refine Ext.st ?_ (by first | exact Nat.le_refl _ | exact Nat.le_succ _ | assumption | omega) _ | refine Ext.al ?_ _ | refine Ext.dr ?_ | refine Ext.drN ?_ _ | exact Ext.rf _)) hE1)
    clear hE1
    have x0 := cellOf HX1.out 0
    have x1 := cellOf HX1.out 1
    have x2 := cellOf HX1.out 2
    have x3 := cellOf HX1.out 3
    simp only [List.getElem?_toArray, List.getElem?_cons_zero, List.getElem?_cons_succ] at x0 x1 x2 x3
    go_wp2_with fail
    refine (HGR.out _ HE1.out).mono ?_
    rintro e w2 ⟨rfl, hE2⟩
    have HX2 := Lib.hid (hE2.hp HX1.out)
    have HE2 := Lib.hid (HE1.out.trans' hE2)
    clear hE2 x0 x1 x2 x3
    go_wp2_with fail
    refine (HNEW.out _).mono ?_
    rintro e w3 ⟨vq, ve, vd, rfl, hC, hE⟩
    have HE3 := Lib.hid (HE2.out.trans' hE)
    have HX3 := Lib.hid (hE.hp HX2.out)
    clear hE
    have hC := hC.read
    obtain ⟨xa, xc, rfl, _⟩ := hC.1.shape
    obtain ⟨xea, xec, rfl, _⟩ := hC.2.1.shape
    obtain ⟨xca, xcc, hcex, _, _⟩ := hC.2.2
    subst hcex
    rw [HZ1.out, HZ2.out, HZ3.out] at hC
    rw [HZD.out, HZ1.out, HZ2.out, HZ3.out]
    have HCX := Lib.hid hC
    have HBX := Lib.hid (heap_alloc_new w3 (ckT (.slice xa z1 xc) (.slice xea z2 xec) (.bool false) (.slice xca z3 xcc)))
    have HE34 := Lib.hid ((Ext.rf w3).al (ckT (.slice xa z1 xc) (.slice xea z2 xec) (.bool false) (.slice xca z3 xcc)))
    clear hC
    go_upto_region 9 with (fail)
    generalize hw4 : w3.alloc (ckT (.slice xa z1 xc) (.slice xea z2 xec) (.bool false) (.slice xca z3 xcc)) = w4 at *
    clear hw4
    go_cut [62] (fun s62 wx => s62 = .bool false ∧ Aside (Ext w4 wx))
    case first =>
      have x0 := cellOf HBX.out 0
      have x1 := cellOf HBX.out 1
      have x2 := cellOf HBX.out 2
      have x3 := cellOf HBX.out 3
      simp only [List.getElem?_toArray, List.getElem?_cons_zero, List.getElem?_cons_succ] at x0 x1 x2 x3
      have HXA := Lib.hid (Ext.rf w4)
      go_region_held3 (fun w' => w'.cell? ⟨w3.heap.size, 0, none⟩ = some (.slice xa z1 xc) ∧ w'.cell? ⟨w3.heap.size, 1, none⟩ = some (.slice xea z2 xec) ∧ w'.cell? ⟨w3.heap.size, 2, none⟩ = some (.bool false) ∧ w'.cell? ⟨w3.heap.size, 3, none⟩ = some (.slice xca z3 xcc)) (go_keep)
        (first
          | (go_at_call 16
             refine (HNR.out _).mono ?_
             rintro e wA ⟨vq, ve, vd, rfl, hC, hE⟩
             have hC := hC.read
             obtain ⟨ya, yc, rfl, _⟩ := hC.1.shape
             obtain ⟨yea, yec, rfl, _⟩ := hC.2.1.shape
             obtain ⟨yca, ycc, hcey, _, _⟩ := hC.2.2
             subst hcey
             rw [HZ1.out, HZ2.out, HZ3.out] at hC
             rw [HZD.out, HZ1.out, HZ2.out, HZ3.out]
             have HCY := Lib.hid hC
             have hxA : Ext w4 wA := Ext.trans' (by repeat (first | refine Ext.st ?_ (by first | exact Nat.le_refl _ | exact Nat.le_succ _ | assumption | omega) _ | refine Ext.al ?_ _ | refine Ext.dr ?_ | refine Ext.drN ?_ _ | exact HXA.out)) hE
             have HXA := Lib.hid hxA
             have kx0 := hxA.cl x0
             have kx1 := hxA.cl x1
             have kx2 := hxA.cl x2
             have kx3 := hxA.cl x3
             have hsm := fun W (hW : Ext wA W) => same47_eq _ _ _ _ _ _ (newC M) W (HCX.out.ext (HE34.out.trans' (hxA.trans' hW))) (HCY.out.ext hW) (newC_small M hM2)
             rw [HZD.out] at hsm
             have HSM := Lib.hid hsm
             clear hC hxA hE hsm)
          | (go_at_call 9
             refine (HSM.out _ (by repeat (first | refine Ext.st ?_ (by first | exact Nat.le_refl _ | exact Nat.le_succ _ | assumption | omega) _ | refine Ext.al ?_ _ | refine Ext.dr ?_ | refine Ext.drN ?_ _ | exact Ext.rf _))).mono ?_
             rintro e wB ⟨rfl, hE⟩
             have hxB : Ext w4 wB := Ext.trans' (by repeat (first | refine Ext.st ?_ (by first | exact Nat.le_refl _ | exact Nat.le_succ _ | assumption | omega) _ | refine Ext.al ?_ _ | refine Ext.dr ?_ | refine Ext.drN ?_ _ | exact HXA.out)) hE
             have HXA := Lib.hid hxB
             have kx0 := hxB.cl x0
             have kx1 := hxB.cl x1
             have kx2 := hxB.cl x2
             have kx3 := hxB.cl x3
             clear hxB hE))
      go_wp2_with fail
      go_meet
      exact ⟨rfl, (show Ext _ _ from (by repeat (first | refine Ext.st ?_ (by first | exact Nat.le_refl _ | exact Nat.le_succ _ | assumption | omega) _ | refine Ext.al ?_ _ | refine Ext.dr ?_ | refine Ext.drN ?_ _ | exact HXA.out)))⟩
    case rest =>
      obtain ⟨rfl, HE4X⟩ := hcut
      obtain ⟨wN, rfl⟩ : ∃ x, x = wc := ⟨_, rfl⟩
      have HEN := Lib.hid (HE3.out.trans' (HE34.out.trans' HE4X.out))
      have HXS := Lib.hid ((HE34.out.trans' HE4X.out).hp HX3.out)
      have HP1 := Lib.hid hp1
      have HP2 := Lib.hid hp2
      have HP3 := Lib.hid hp3
      have HPD := Lib.hid hpd
      have HQ1 := Lib.hid hq1
      have HQ2 := Lib.hid hq2
      have HQ3 := Lib.hid hq3
      have HQD := Lib.hid hqd
      clear hp1 hp2 hp3 hpd hq1 hq2 hq3 hqd
      have x0 := cellOf HXS.out 0
      have x1 := cellOf HXS.out 1
      have x2 := cellOf HXS.out 2
      have x3 := cellOf HXS.out 3
      simp only [List.getElem?_toArray, List.getElem?_cons_zero, List.getElem?_cons_succ] at x0 x1 x2 x3
      go_wp2_with fail
      refine (HVR.out _ HEN.out).mono ?_
      rintro e w5 ⟨rfl, hE⟩
      have HXS := Lib.hid (hE.hp HXS.out)
      have HE5 := Lib.hid (HEN.out.trans' hE)
      clear hE x0 x1 x2 x3
      have x0 := cellOf HXS.out 0
      have x1 := cellOf HXS.out 1
      have x2 := cellOf HXS.out 2
      have x3 := cellOf HXS.out 3
      simp only [List.getElem?_toArray, List.getElem?_cons_zero, List.getElem?_cons_succ] at x0 x1 x2 x3
      go_wp2_with fail
      refine (HPP.out _ HE5.out).mono ?_
      rintro e w6 ⟨vq, ve, vd, rfl, hC, hE⟩
      have HXS := Lib.hid (hE.hp HXS.out)
      have HE6 := Lib.hid (HE5.out.trans' hE)
      clear hE x0 x1 x2 x3
      have hC := hC.read
      obtain ⟨a6, c6, rfl, _⟩ := hC.1.shape
      obtain ⟨ea6, ec6, rfl, _⟩ := hC.2.1.shape
      obtain ⟨ca6, cc6, hce6, _, _⟩ := hC.2.2
      subst hce6
      rw [HP1.out, HP2.out, HP3.out] at hC
      rw [HPD.out, HP1.out, HP2.out, HP3.out]
      have HC6 := Lib.hid hC
      clear hC
      have nk7 : w.heap.size < w6.heap.size := (Array.getElem?_eq_some_iff.1 HXS.out).1
      have nj7 : w.heap.size ≠ w6.heap.size := Nat.ne_of_lt nk7
      have x0 := cellOf HXS.out 0
      have x1 := cellOf HXS.out 1
      have x2 := cellOf HXS.out 2
      have x3 := cellOf HXS.out 3
      simp only [List.getElem?_toArray, List.getElem?_cons_zero, List.getElem?_cons_succ] at x0 x1 x2 x3
      go_wp2_with fail
      refine (HPR.out _ (HE6.out.al (ckT (.slice a6 p1 c6) (.slice ea6 p2 ec6) (.bool pd) (.slice ca6 p3 cc6)))).mono ?_
      rintro e w7 ⟨vq, ve, vd, rfl, hC, hE⟩
      have HE67 := Lib.hid (((Ext.rf w6).al (ckT (.slice a6 p1 c6) (.slice ea6 p2 ec6) (.bool pd) (.slice ca6 p3 cc6))).trans' hE)
      have HB6 := Lib.hid (hE.hp (heap_alloc_new w6 (ckT (.slice a6 p1 c6) (.slice ea6 p2 ec6) (.bool pd) (.slice ca6 p3 cc6))))
      have HXS := Lib.hid (HE67.out.hp HXS.out)
      have HE7 := Lib.hid (HE6.out.trans' HE67.out)
      clear hE x0 x1 x2 x3
      have hC := hC.read
      obtain ⟨a7, c7, rfl, _⟩ := hC.1.shape
      obtain ⟨ea7, ec7, rfl, _⟩ := hC.2.1.shape
      obtain ⟨ca7, cc7, hce7, _, _⟩ := hC.2.2
      subst hce7
      rw [HP1.out, HP2.out, HP3.out] at hC
      rw [HPD.out, HP1.out, HP2.out, HP3.out]
      have HC7 := Lib.hid hC
      clear hC
      have nk8 : w.heap.size < w7.heap.size := (Array.getElem?_eq_some_iff.1 HXS.out).1
      have nj8 : w.heap.size ≠ w7.heap.size := Nat.ne_of_lt nk8
      have x0 := cellOf HXS.out 0
      have x1 := cellOf HXS.out 1
      have x2 := cellOf HXS.out 2
      have x3 := cellOf HXS.out 3
      simp only [List.getElem?_toArray, List.getElem?_cons_zero, List.getElem?_cons_succ] at x0 x1 x2 x3
      go_wp2_with fail
      refine (HEP.out _ (HE7.out.al (ckT (.slice a7 p1 c7) (.slice ea7 p2 ec7) (.bool pd) (.slice ca7 p3 cc7)))).mono ?_
      rintro e w8 ⟨vq, ve, vd, rfl, hC, hE⟩
      have HE78 := Lib.hid (((Ext.rf w7).al (ckT (.slice a7 p1 c7) (.slice ea7 p2 ec7) (.bool pd) (.slice ca7 p3 cc7))).trans' hE)
      have HB7 := Lib.hid (hE.hp (heap_alloc_new w7 (ckT (.slice a7 p1 c7) (.slice ea7 p2 ec7) (.bool pd) (.slice ca7 p3 cc7))))
      have HXS := Lib.hid (HE78.out.hp HXS.out)
      have HE8 := Lib.hid (HE7.out.trans' HE78.out)
      clear hE x0 x1 x2 x3
      have hC := hC.read
      obtain ⟨a8, c8, rfl, _⟩ := hC.1.shape
      obtain ⟨ea8, ec8, rfl, _⟩ := hC.2.1.shape
      obtain ⟨ca8, cc8, hce8, _, _⟩ := hC.2.2
      subst hce8
      rw [HQ1.out, HQ2.out, HQ3.out] at hC
      rw [HQD.out, HQ1.out, HQ2.out, HQ3.out]
      have HC8 := Lib.hid hC
      clear hC
      have nk9 : w.heap.size < w8.heap.size := (Array.getElem?_eq_some_iff.1 HXS.out).1
      have nj9 : w.heap.size ≠ w8.heap.size := Nat.ne_of_lt nk9
      have x0 := cellOf HXS.out 0
      have x1 := cellOf HXS.out 1
      have x2 := cellOf HXS.out 2
      have x3 := cellOf HXS.out 3
      simp only [List.getElem?_toArray, List.getElem?_cons_zero, List.getElem?_cons_succ] at x0 x1 x2 x3
      go_wp2_with fail
      refine (HER.out _ (HE8.out.al (ckT (.slice a8 q1 c8) (.slice ea8 q2 ec8) (.bool qd) (.slice ca8 q3 cc8)))).mono ?_
      rintro e w9 ⟨vq, ve, vd, rfl, hC, hE⟩
      have HE89 := Lib.hid (((Ext.rf w8).al (ckT (.slice a8 q1 c8) (.slice ea8 q2 ec8) (.bool qd) (.slice ca8 q3 cc8))).trans' hE)
      have HB8 := Lib.hid (hE.hp (heap_alloc_new w8 (ckT (.slice a8 q1 c8) (.slice ea8 q2 ec8) (.bool qd) (.slice ca8 q3 cc8))))
      have HXS := Lib.hid (HE89.out.hp HXS.out)
      have HE9 := Lib.hid (HE8.out.trans' HE89.out)
      clear hE x0 x1 x2 x3
      have hC := hC.read
      obtain ⟨a9, c9, rfl, _⟩ := hC.1.shape
      obtain ⟨ea9, ec9, rfl, _⟩ := hC.2.1.shape
      obtain ⟨ca9, cc9, hce9, _, _⟩ := hC.2.2
      subst hce9
      rw [HQ1.out, HQ2.out, HQ3.out] at hC
      rw [HQD.out, HQ1.out, HQ2.out, HQ3.out]
      have HC9 := Lib.hid hC
      clear hC
      have nk10 : w.heap.size < w9.heap.size := (Array.getElem?_eq_some_iff.1 HXS.out).1
      have nj10 : w.heap.size ≠ w9.heap.size := Nat.ne_of_lt nk10
      have x0 := cellOf HXS.out 0
      have x1 := cellOf HXS.out 1
      have x2 := cellOf HXS.out 2
      have x3 := cellOf HXS.out 3
      simp only [List.getElem?_toArray, List.getElem?_cons_zero, List.getElem?_cons_succ] at x0 x1 x2 x3
      go_wp2_with fail
      refine (HRS.out _ (HE9.out.al (ckT (.slice a9 q1 c9) (.slice ea9 q2 ec9) (.bool qd) (.slice ca9 q3 cc9)))).mono ?_
      rintro e w10 ⟨v10, rfl, hI, hE⟩
      have HI10 := Lib.hid hI
      obtain ⟨ra, rc, hra, _, _⟩ := hI
      subst hra
      rw [HCL.out]
      have HE910 := Lib.hid (((Ext.rf w9).al (ckT (.slice a9 q1 c9) (.slice ea9 q2 ec9) (.bool qd) (.slice ca9 q3 cc9))).trans' hE)
      have HB9 := Lib.hid (hE.hp (heap_alloc_new w9 (ckT (.slice a9 q1 c9) (.slice ea9 q2 ec9) (.bool qd) (.slice ca9 q3 cc9))))
      have HB8 := Lib.hid (HE910.out.hp HB8.out)
      have HB7 := Lib.hid ((HE89.out.trans' HE910.out).hp HB7.out)
      have HB6 := Lib.hid ((HE78.out.trans' (HE89.out.trans' HE910.out)).hp HB6.out)
      have HXS := Lib.hid (HE910.out.hp HXS.out)
      have HE10 := Lib.hid (HE9.out.trans' HE910.out)
      have HC6 := Lib.hid (HC6.out.ext (HE67.out.trans' (HE78.out.trans' (HE89.out.trans' HE910.out))))
      have HC7 := Lib.hid (HC7.out.ext (HE78.out.trans' (HE89.out.trans' HE910.out)))
      have HC8 := Lib.hid (HC8.out.ext (HE89.out.trans' HE910.out))
      have HC9 := Lib.hid (HC9.out.ext HE910.out)
      clear hE x0 x1 x2 x3
      have x0 := cellOf HXS.out 0
      have x1 := cellOf HXS.out 1
      have x2 := cellOf HXS.out 2
      have x3 := cellOf HXS.out 3
      simp only [List.getElem?_toArray, List.getElem?_cons_zero, List.getElem?_cons_succ] at x0 x1 x2 x3
      go_wp2
      clear x0 x1 x2 x3
      go_loopg [23, 25, 100] n (fun g s23 _ s100 wr => ∃ (k t : Nat), k ≤ n ∧ n - k ≤ g ∧ s23 = .int .i64 t ∧ s100 = .int .i64 k ∧ Aside (t = storedL (s.qs.take k)) ∧ t ≤ k * 70 ∧ wr = w10)
      case atStart => exact ⟨0, 0, Nat.zero_le _, by omega, rfl, rfl, (show _ = _ from by simp [storedL]), by omega, rfl⟩
      case round =>
        obtain ⟨k, t, hk, hg, rfl, rfl, HT, htb, rfl⟩ := hrel
        by_cases hlt : k < n
        · have hltz : (k : Int) < (n : Int) := by omega
          have hkz : (0 : Int) ≤ (k : Int) := by omega
          have hkq : k < s.qs.length := by rw [HN.out]; exact hlt
          obtain ⟨B, O, C, a1, m1, c1, hue0, hcp0, M1, hmc1, HS1⟩ := queue_at HS.out.1 k hkq
          simp only [Value.slice.injEq] at hue0
          obtain ⟨rfl, hnn, rfl⟩ := hue0
          have hcp := HE10.out.cl hcp0
          have HM1 := Lib.hid M1
          have hm70 := HQ70.out k hlt
          rw [← M1] at hm70
          have HSN := Lib.hid (stored_snoc s.qs k hkq)
          clear M1 HS1 hnn hcp0
          go_wp2
          go_roundg (n - (k + 1))
          case measure => omega
          case rel => exact ⟨k + 1, t + m1, by omega, by omega, by go_num, by go_num, (show _ = _ from by rw [HSN.out, HT.out, HM1.out]), by omega, rfl⟩
        · have hltz : ¬ (k : Int) < (n : Int) := by omega
          obtain rfl : n = k := by omega
          have htt := HT.out
          rw [List.take_of_length_le (by rw [HN.out]; omega), HTS.out] at htt
          obtain rfl : tS = t := htt.symm
          clear htt
          have hs1 := fun W (hW : Ext wr W) => same47_eq _ _ _ _ _ _ PC W (HC6.out.ext hW) (HC7.out.ext hW) HPS.out
          rw [HPD.out] at hs1
          have hs2 := fun W (hW : Ext wr W) => same47_eq _ _ _ _ _ _ EC W (HC8.out.ext hW) (HC9.out.ext hW) HES.out
          rw [HQD.out] at hs2
          have HS1 := Lib.hid hs1
          have HS2 := Lib.hid hs2
          clear hs1 hs2
          have x0 := cellOf HXS.out 0
          have x1 := cellOf HXS.out 1
          have x2 := cellOf HXS.out 2
          have x3 := cellOf HXS.out 3
          simp only [List.getElem?_toArray, List.getElem?_cons_zero, List.getElem?_cons_succ] at x0 x1 x2 x3
          go_wp2_with fail
          refine (HVP.out _ HE10.out).mono ?_
          rintro e w11 ⟨rfl, hE⟩
          have HE11 := Lib.hid hE
          have HA := Lib.hid (hE.hp HB6.out)
          have HB := Lib.hid (hE.hp HB7.out)
          clear hE x0 x1 x2 x3
          have x0 := cellOf HA.out 0
          have x1 := cellOf HA.out 1
          have x2 := cellOf HA.out 2
          have x3 := cellOf HA.out 3
          simp only [List.getElem?_toArray, List.getElem?_cons_zero, List.getElem?_cons_succ] at x0 x1 x2 x3
          have y0 := cellOf HB.out 0
          have y1 := cellOf HB.out 1
          have y2 := cellOf HB.out 2
          have y3 := cellOf HB.out 3
          simp only [List.getElem?_toArray, List.getElem?_cons_zero, List.getElem?_cons_succ] at y0 y1 y2 y3
          go_wp2_with fail
          refine (HS1.out _ HE11.out).mono ?_
          rintro e w12 ⟨rfl, hE⟩
          have HE12 := Lib.hid (HE11.out.trans' hE)
          clear hE x0 x1 x2 x3 y0 y1 y2 y3
          have HA := Lib.hid (HE12.out.hp HB8.out)
          have HB := Lib.hid (HE12.out.hp HB9.out)
          have x0 := cellOf HA.out 0
          have x1 := cellOf HA.out 1
          have x2 := cellOf HA.out 2
          have x3 := cellOf HA.out 3
          simp only [List.getElem?_toArray, List.getElem?_cons_zero, List.getElem?_cons_succ] at x0 x1 x2 x3
          have y0 := cellOf HB.out 0
          have y1 := cellOf HB.out 1
          have y2 := cellOf HB.out 2
          have y3 := cellOf HB.out 3
          simp only [List.getElem?_toArray, List.getElem?_cons_zero, List.getElem?_cons_succ] at y0 y1 y2 y3
          go_wp2_with fail
          refine (HS2.out _ HE12.out).mono ?_
          rintro e w13 ⟨rfl, hE⟩
          have HE13 := Lib.hid (HE12.out.trans' hE)
          have HX13 := Lib.hid (HE13.out.hp HXS.out)
          have HEF := Lib.hid (HE10.out.trans' HE13.out)
          clear hE x0 x1 x2 x3 y0 y1 y2 y3
          have x0 := cellOf HX13.out 0
          have x1 := cellOf HX13.out 1
          have x2 := cellOf HX13.out 2
          have x3 := cellOf HX13.out 3
          simp only [List.getElem?_toArray, List.getElem?_cons_zero, List.getElem?_cons_succ] at x0 x1 x2 x3
          have bdd : (d == d) = true := by simp
          have btt : ((tS : Int) == (tS : Int)) = true := by simp
          have heq := equal_int (.slice ra cl rc) (.slice ca cl cc) s.cut s.cut w13 (by have := HI10.out.ext HE13.out; rw [HCL.out] at this; exact this) (HS.out.2.2.ext HEF.out) HSMC.out.2.2.1 HSMC.out.2.2.1
          rw [beq_self_eq_true] at heq
          have HEQ := Lib.hid heq
          clear heq
          go_wp2_with fail
          refine HEQ.out.mono ?_
          rintro e w14 ⟨rfl, hE⟩
          have HE14 := Lib.hid (HEF.out.trans' hE)
          have HX14 := Lib.hid (hE.hp HX13.out)
          clear hE x0 x1 x2 x3
          have x0 := cellOf HX14.out 0
          have x1 := cellOf HX14.out 1
          have x2 := cellOf HX14.out 2
          have x3 := cellOf HX14.out 3
          simp only [List.getElem?_toArray, List.getElem?_cons_zero, List.getElem?_cons_succ] at x0 x1 x2 x3
          go_wp2_with fail
          refine (HST.out _ HE14.out).mono ?_
          rintro e w15 ⟨rfl, hE⟩
          have HE15 := Lib.hid (HE14.out.trans' hE)
          clear hE
          go_wp2
          go_ret
          exact ⟨rfl, HE15.out⟩

end Go.Proofs.Ytdcahdcnoeomhaa
