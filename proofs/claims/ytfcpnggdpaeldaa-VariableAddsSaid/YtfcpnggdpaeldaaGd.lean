import Derived.Test.YtfcpnggdpaeldaaGa
import Derived.Test.YtfcpnggdpaeldaaProg
import Derived.Test.YtfcpnggdpaeldaaGc
import Derived.BigQuiet
import Derived.Deep.QuietTactic
import Derived.Deep.LoopGhost
import Derived.Shelf.Abstract
import Derived.Deep.DeepCutAuto
import Derived.Deep.DrawnRows
/-
  What a process must be, without its events: the program's processFault.
-/
namespace Go.Proofs.Ytfcpnggdpaeldaa
open Go.RowKit
set_option linter.unusedVariables false
attribute [local go_sem ↓] Go.wp_at_zero Go.wp_at_succ

set_option maxHeartbeats 4000000 in
set_option maxRecDepth 100000 in
theorem procFaultP_calls (v : Value) (t : Tr) (p : Nat) (w : World) (h : TrAt w v t) (hs : LooseTr t) (hp : p < t.length) :
    Calls Try.prog 88 #[.agg #[v], .int .i64 p] w fun e w' => ErrIff w w' e (headB t p) := by
  have HT := Lib.hid h
  obtain ⟨B, O, C, vv, ve, rfl, hlC, hB, hn0, hv0, he0, hV, hE0⟩ := proc_at h p hp
  obtain ⟨va, vc, rfl, hvc⟩ := hV.sh
  obtain ⟨ea, ec, rfl, hec⟩ := hE0.sh
  have hn := hs.1
  have hvn := (hs.2 p hp).1
  have HB := Lib.hid (@headB_parts t p)
  generalize hhb : headB t p = hb at *
  have HANY := Lib.hid (any_take t p (by omega) fun y => y.name.toList == t[p]!.name.toList)
  generalize hx : t[p]! = x at *
  generalize hln : t.length = n at *
  generalize hnv : x.vars.length = nv at *
  generalize hne : x.events.length = ne at *
  have HN := Lib.hid hln
  have HNV := Lib.hid hnv
  have HV := Lib.hid hV
  have HNM := Lib.hid (isNameP_calls x.name)
  have hpz : (0 : Int) ≤ (p : Int) := by omega
  have hpi : (p : Int) < (n : Int) := by omega
  have hpC : (p : Int) ≤ (C : Int) := by omega
  have hE1 : Ext w (w.alloc (.cells #[.slice (some ⟨B, O, none⟩) n C] 24)) := (Ext.rf w).al _
  have HX1 := Lib.hid (heap_new_eq (w := w.alloc (.cells #[.slice (some ⟨B, O, none⟩) n C] 24)) (o := .cells #[.string x.name, .slice va nv vc, .slice ea ne ec] 47) (b := w.heap.size + 1) (by simp))
  have HX0 := Lib.hid (((Ext.rf _).al (.cells #[.string x.name, .slice va nv vc, .slice ea ne ec] 47)).hp (heap_alloc_new w (.cells #[.slice (some ⟨B, O, none⟩) n C] 24)))
  have HE2 : Hid (Ext w ((w.alloc (.cells #[.slice (some ⟨B, O, none⟩) n C] 24)).alloc (.cells #[.string x.name, .slice va nv vc, .slice ea ne ec] 47))) := Lib.hid (((Ext.rf w).al _).al _)
  have hn1 := hE1.cl hn0
  have hv1 := hE1.cl hv0
  have he1 := hE1.cl he0
  have hT0 := cell_new w #[.slice (some ⟨B, O, none⟩) n C] 24 0 _ rfl
  clear hn0 hv0 he0 hV hE0 h hs hhb hE1 hx hln hnv hne
  cases hnm : nameB x.name with
  | false =>
    rw [hnm] at HNM
    obtain rfl : hb = false := by
      rw [Bool.eq_false_iff]; intro hbt; have := (HB.out.1 hbt).1; rw [hnm] at this; exact absurd this (by decide)
    clear hnm
    go_enter Try.func88, Try.ntmps88
    go_wp2_with fail
    refine (HNM.out _).mono ?_
    rintro e w2 ⟨rfl, rfl⟩
    go_wp2
    go_ret
    exact ⟨13, rfl, ⟨fun h => absurd h (by decide), fun h => absurd h (by decide)⟩, (by repeat (first | refine Ext.st ?_ (by first | exact Nat.le_refl _ | exact Nat.le_succ _ | assumption | omega) _ | refine Ext.al ?_ _ | refine Ext.dr ?_ | refine Ext.drN ?_ _ | exact Ext.rf _))⟩
  | true =>
    rw [hnm] at HNM
    have HNB := Lib.hid hnm
    have HCF := Lib.hid (fun W (hW : Ext w W) (hc : W.cell? ⟨w.heap.size + 1, 0, none⟩ = some (.string x.name)) => containsFunc_procs RPr rpr_lasts 98 #[.pointer (some ⟨w.heap.size + 1, 0, none⟩)] enters_98 (fun y => y.name.toList == x.name.toList) (.slice (some ⟨B, O, none⟩) p C) (t.take p) W ((HT.out.ext hW).take p (by rw [HN.out]; omega)) (by rw [List.length_take]; omega) (fun y hy W2 vs hW2 hR => procName_calls vs y _ x.name W2 hR (hW2.cl hc)))
    clear hnm
    cases hany : (t.take p).any (fun y => y.name.toList == x.name.toList) with
    | true =>
      rw [hany] at HCF
      obtain rfl : hb = false := by
        rw [Bool.eq_false_iff]; intro hbt
        rw [HANY.out, range_any] at hany
        obtain ⟨i, hi, hf⟩ := hany
        have := (HB.out.1 hbt).2.1 i hi
        rw [hf] at this; exact absurd this (by decide)
      clear hany
      go_enter Try.func88, Try.ntmps88
      go_wp2_with fail
      refine (HNM.out _).mono ?_
      rintro e w2 ⟨rfl, rfl⟩
      have x0 := cellOf HX1.out 0
      simp only [List.getElem?_toArray, List.getElem?_cons_zero] at x0
      have x1 := cellOf HX0.out 0
      simp only [List.getElem?_toArray, List.getElem?_cons_zero] at x1
      go_wp2_with fail
      refine (HCF.out _ HE2.out x0).mono ?_
      rintro e w3 ⟨rfl, hE3⟩
      have HE3 := Lib.hid (HE2.out.trans' hE3)
      clear hE3
      go_wp2
      go_ret
      exact ⟨13, rfl, ⟨fun h => absurd h (by decide), fun h => absurd h (by decide)⟩, HE3.out⟩
    | false =>
      rw [hany] at HCF
      have HNO := Lib.hid (show ∀ q, q < p → (t[q]!.name.toList == x.name.toList) = false from by
        rw [HANY.out, range_any_false] at hany; exact hany)
      clear hany
      by_cases h8 : 8 < nv
      · have c8 : decide (8 < (nv : Int)) = true := by simp; omega
        have c8n : decide (8 < nv) = true := by simp; omega
        obtain rfl : hb = false := by
          rw [Bool.eq_false_iff]; intro hbt; have := (HB.out.1 hbt).2.2.1; omega
        go_enter Try.func88, Try.ntmps88
        go_wp2_with fail
        refine (HNM.out _).mono ?_
        rintro e w2 ⟨rfl, rfl⟩
        have x0 := cellOf HX1.out 0
        simp only [List.getElem?_toArray, List.getElem?_cons_zero] at x0
        have x1 := cellOf HX0.out 0
        simp only [List.getElem?_toArray, List.getElem?_cons_zero] at x1
        go_wp2_with fail
        refine (HCF.out _ HE2.out x0).mono ?_
        rintro e w3 ⟨rfl, hE3⟩
        have HX3 := Lib.hid (hE3.hp HX1.out)
        have HE3 := Lib.hid (HE2.out.trans' hE3)
        clear hE3 x0 x1
        have x0 := cellOf HX3.out 0
        have x1 := cellOf HX3.out 1
        have x2 := cellOf HX3.out 2
        simp only [List.getElem?_toArray, List.getElem?_cons_zero, List.getElem?_cons_succ] at x0 x1 x2
        go_wp2
        go_ret
        exact ⟨5, rfl, ⟨fun h => absurd h (by decide), fun h => absurd h (by decide)⟩, HE3.out⟩
      have c8 : decide (8 < (nv : Int)) = false := by simp; omega
      have c8n : decide (8 < nv) = false := by simp; omega
      go_enter Try.func88, Try.ntmps88
      go_wp2_with fail
      refine (HNM.out _).mono ?_
      rintro e w2 ⟨rfl, rfl⟩
      have x0 := cellOf HX1.out 0
      simp only [List.getElem?_toArray, List.getElem?_cons_zero] at x0
      have x1 := cellOf HX0.out 0
      simp only [List.getElem?_toArray, List.getElem?_cons_zero] at x1
      go_wp2_with fail
      refine (HCF.out _ HE2.out x0).mono ?_
      rintro e w3 ⟨rfl, hE3⟩
      have HX3 := Lib.hid (hE3.hp HX1.out)
      have HE3 := Lib.hid (HE2.out.trans' hE3)
      clear hE3 x0 x1
      have x0 := cellOf HX3.out 0
      have x1 := cellOf HX3.out 1
      have x2 := cellOf HX3.out 2
      simp only [List.getElem?_toArray, List.getElem?_cons_zero, List.getElem?_cons_succ] at x0 x1 x2
      go_wp2
      clear x0 x1 x2
      go_loopg [34] nv (fun g s34 wr => ∃ k : Nat, k ≤ nv ∧ nv - k ≤ g ∧ s34 = .int .i64 k ∧ Aside (∀ j, j < k → varB x.vars j = true) ∧ Aside (Ext w3 wr))
      case atStart => exact ⟨0, Nat.zero_le _, by omega, rfl, (fun j hj => absurd hj (Nat.not_lt_zero _)), Ext.rf _⟩
      case round =>
        obtain ⟨k, hk, hg, rfl, A, HEK⟩ := hrel
        have HEW := Lib.hid (HE3.out.trans' HEK.out)
        have HXK := Lib.hid (HEK.out.hp HX3.out)
        by_cases hlt : k < nv
        · have hltz : (k : Int) < (nv : Int) := by omega
          have hkz : (0 : Int) ≤ (k : Int) := by omega
          have hkc : (k : Int) ≤ (vc : Int) := by omega
          obtain ⟨VB, VO, VC, hve, _, hVB, hvn0, hvi0⟩ := var_at HV.out k (by rw [HNV.out]; exact hlt)
          simp only [Value.slice.injEq] at hve
          obtain ⟨rfl, hzz, rfl⟩ := hve
          have hvn1 := HEW.out.cl hvn0
          have hvi1 := HEW.out.cl hvi0
          have HVP := Lib.hid (@varB_parts x.vars k)
          have HANV := Lib.hid (any_take x.vars k (by rw [HNV.out]; omega) fun y => y.name.toList == x.vars[k]!.name.toList)
          generalize hy : x.vars[k]! = y at *
          have HNY := Lib.hid (isNameP_calls y.name)
          have HBV := Lib.hid (heap_alloc_new wr (.cells #[.string y.name, .int .i64 y.init] 52))
          have HXV := Lib.hid (((Ext.rf wr).al (.cells #[.string y.name, .int .i64 y.init] 52)).hp HXK.out)
          have HEV := Lib.hid (HEK.out.al (.cells #[.string y.name, .int .i64 y.init] 52))
          clear hvn0 hvi0 hzz hy
          cases hny : nameB y.name with
          | false =>
            rw [hny] at HNY
            obtain rfl : hb = false := by
              rw [Bool.eq_false_iff]; intro hbt; have := (HVP.out.1 ((HB.out.1 hbt).2.2.2.1 k hlt)).1.1; rw [hny] at this; exact absurd this (by decide)
            clear hny
            go_wp2_with fail
            refine (HNY.out _).mono ?_
            rintro e w4 ⟨rfl, rfl⟩
            go_wp2
            go_ret
            exact ⟨13, rfl, ⟨fun h => absurd h (by decide), fun h => absurd h (by decide)⟩, HE3.out.trans' HEV.out⟩
          | true =>
            rw [hny] at HNY
            have HNYB := Lib.hid hny
            have HCV := Lib.hid (fun W (hW : Ext w W) (hc : W.cell? ⟨wr.heap.size, 0, none⟩ = some (.string y.name)) => containsFunc_vars RVr rvr_lasts 100 #[.pointer (some ⟨wr.heap.size, 0, none⟩)] enters_100 (fun z => z.name.toList == y.name.toList) (.slice (some ⟨VB, VO, none⟩) k vc) (x.vars.take k) W ((HV.out.ext rvr_lasts hW).take k (by rw [HNV.out]; omega)) (by rw [List.length_take]; omega) (fun z hz W2 vs hW2 hR => varName_calls vs z _ y.name W2 hR (hW2.cl hc)))
            have HIN := Lib.hid (inP_calls y.init (-1073741824) 1073741824)
            have y0 := cellOf HBV.out 0
            have x1 := cellOf HXV.out 1
            simp only [List.getElem?_toArray, List.getElem?_cons_zero, List.getElem?_cons_succ] at y0 x1
            clear hny
            cases hany : (x.vars.take k).any (fun z => z.name.toList == y.name.toList) with
            | true =>
              rw [hany] at HCV
              obtain rfl : hb = false := by
                rw [Bool.eq_false_iff]; intro hbt
                rw [HANV.out, range_any] at hany
                obtain ⟨i, hi, hf⟩ := hany
                have := (HVP.out.1 ((HB.out.1 hbt).2.2.2.1 k hlt)).1.2 i hi
                rw [hf] at this; exact absurd this (by decide)
              clear hany
              go_wp2_with fail
              refine (HNY.out _).mono ?_
              rintro e w4 ⟨rfl, rfl⟩
              go_wp2_with fail
              refine (HCV.out _ (HE3.out.trans' HEV.out) y0).mono ?_
              rintro e w5 ⟨rfl, hE5⟩
              have HE5 := Lib.hid (HE3.out.trans' (HEV.out.trans' hE5))
              clear hE5
              go_wp2
              go_ret
              exact ⟨13, rfl, ⟨fun h => absurd h (by decide), fun h => absurd h (by decide)⟩, HE5.out⟩
            | false =>
              rw [hany] at HCV
              have HNOV := Lib.hid (show ∀ j, j < k → (x.vars[j]!.name.toList == y.name.toList) = false from by
                rw [HANV.out, range_any_false] at hany; exact hany)
              clear hany
              have hvb : valueB y.init = (decide (-1073741824 ≤ y.init) && decide (y.init ≤ 1073741824)) := rfl
              rw [← hvb] at HIN
              cases hval : valueB y.init with
              | false =>
                rw [hval] at HIN
                obtain rfl : hb = false := by
                  rw [Bool.eq_false_iff]; intro hbt; have := (HVP.out.1 ((HB.out.1 hbt).2.2.2.1 k hlt)).2; rw [hval] at this; exact absurd this (by decide)
                clear hval hvb
                go_wp2_with fail
                refine (HNY.out _).mono ?_
                rintro e w4 ⟨rfl, rfl⟩
                go_wp2_with fail
                refine (HCV.out _ (HE3.out.trans' HEV.out) y0).mono ?_
                rintro e w5 ⟨rfl, hE5⟩
                have HE5 := Lib.hid (HEV.out.trans' hE5)
                have HBV5 := Lib.hid (hE5.hp HBV.out)
                have z1 := cellOf HBV5.out 1
                simp only [List.getElem?_toArray, List.getElem?_cons_zero, List.getElem?_cons_succ] at z1
                clear hE5 y0 x1
                go_wp2_with fail
                refine (HIN.out _).mono ?_
                rintro e w6 ⟨rfl, rfl⟩
                go_wp2
                go_ret
                exact ⟨2, rfl, ⟨fun h => absurd h (by decide), fun h => absurd h (by decide)⟩, HE3.out.trans' HE5.out⟩
              | true =>
                rw [hval] at HIN
                have HVB := Lib.hid (HVP.out.2 ⟨⟨HNYB.out, HNOV.out⟩, hval⟩)
                clear hval hvb
                go_wp2_with fail
                refine (HNY.out _).mono ?_
                rintro e w4 ⟨rfl, rfl⟩
                go_wp2_with fail
                refine (HCV.out _ (HE3.out.trans' HEV.out) y0).mono ?_
                rintro e w5 ⟨rfl, hE5⟩
                have HE5 := Lib.hid (HEV.out.trans' hE5)
                have HBV5 := Lib.hid (hE5.hp HBV.out)
                have z1 := cellOf HBV5.out 1
                simp only [List.getElem?_toArray, List.getElem?_cons_zero, List.getElem?_cons_succ] at z1
                clear hE5 y0 x1
                go_wp2_with fail
                refine (HIN.out _).mono ?_
                rintro e w6 ⟨rfl, rfl⟩
                go_wp2
                go_roundg (nv - (k + 1))
                case measure => omega
                case rel =>
                  refine ⟨k + 1, by omega, by omega, by go_num, (show Aside _ from fun j hj => ?_), (show Ext _ _ from HE5.out)⟩
                  by_cases e : j = k
                  · subst e; exact HVB.out
                  · exact A.out j (by omega)
        · have hltz : ¬ (k : Int) < (nv : Int) := by omega
          obtain rfl : nv = k := by omega
          have x0 := cellOf HXK.out 0
          have x1 := cellOf HXK.out 1
          have x2 := cellOf HXK.out 2
          simp only [List.getElem?_toArray, List.getElem?_cons_zero, List.getElem?_cons_succ] at x0 x1 x2
          by_cases h64 : 64 < ne
          · have c64 : decide (64 < (ne : Int)) = true := by simp; omega
            have c64n : decide (64 < ne) = true := by simp; omega
            obtain rfl : hb = false := by
              rw [Bool.eq_false_iff]; intro hbt; have := (HB.out.1 hbt).2.2.2.2; omega
            go_wp2
            go_ret
            exact ⟨5, rfl, ⟨fun h => absurd h (by decide), fun h => absurd h (by decide)⟩, HEW.out⟩
          · have c64 : decide (64 < (ne : Int)) = false := by simp; omega
            have c64n : decide (64 < ne) = false := by simp; omega
            obtain rfl : hb = true := HB.out.2 ⟨HNB.out, HNO.out, by omega, A.out, by omega⟩
            go_wp2
            go_ret
            exact ⟨0, rfl, ⟨fun _ => rfl, fun _ => rfl⟩, HEW.out⟩

end Go.Proofs.Ytfcpnggdpaeldaa

/-
  What an event must be: the program's formed.
-/
namespace Go.Proofs.Ytfcpnggdpaeldaa
open Go.RowKit
set_option linter.unusedVariables false
attribute [local go_sem ↓] Go.wp_at_zero Go.wp_at_succ

set_option maxHeartbeats 4000000 in
theorem formedP_calls (a : Option Addr) (n c p : Nat) (ea : Value) (kd pe ms ti : Int) (l : List Asg) (w : World) (hn : n ≤ 1000000) (hp : p < n) :
    Calls Try.prog 102 #[.agg #[.slice a n c], .int .i64 p, .agg #[.int .i64 kd, .int .i64 pe, .int .i64 ms, .int .i64 ti, ea]] w fun e w' => e = .returned (.bool (formedB n p ⟨kd, pe, ms, ti, l⟩)) ∧ Ext w w' := by
  generalize hfb : formedB n p ⟨kd, pe, ms, ti, l⟩ = fb
  have HFB := Lib.hid hfb.symm
  clear hfb
  have HE2 : Hid (Ext w ((w.alloc (.cells #[.slice a n c] 24)).alloc (.cells #[.int .i64 kd, .int .i64 pe, .int .i64 ms, .int .i64 ti, ea] 55))) := Lib.hid (((Ext.rf w).al _).al _)
  by_cases h1 : kd = 1
  · subst h1
    have hbf : fb = (decide (pe = 0) && decide (ms = 0)) := by rw [HFB.out]; simp [formedB]
    by_cases h2 : pe = 0
    · subst h2
      by_cases h3 : ms = 0
      · subst h3
        obtain rfl : fb = true := by rw [hbf]; rfl
        clear hbf
        go_enter Try.func102, Try.ntmps102
        go_wp2
        go_ret
        exact ⟨rfl, (by repeat (first | refine Ext.st ?_ (by first | exact Nat.le_refl _ | exact Nat.le_succ _ | assumption | omega) _ | refine Ext.al ?_ _ | refine Ext.dr ?_ | refine Ext.drN ?_ _ | exact Ext.rf _))⟩
      · have c3 : (ms == 0) = false := by simpa using h3
        obtain rfl : fb = false := by rw [hbf]; simp [h3]
        clear hbf h3
        go_enter Try.func102, Try.ntmps102
        go_wp2
        go_ret
        exact ⟨rfl, (by repeat (first | refine Ext.st ?_ (by first | exact Nat.le_refl _ | exact Nat.le_succ _ | assumption | omega) _ | refine Ext.al ?_ _ | refine Ext.dr ?_ | refine Ext.drN ?_ _ | exact Ext.rf _))⟩
    · have c2 : (pe == 0) = false := by simpa using h2
      obtain rfl : fb = false := by rw [hbf]; simp [h2]
      clear hbf h2
      go_enter Try.func102, Try.ntmps102
      go_wp2
      go_ret
      exact ⟨rfl, (by repeat (first | refine Ext.st ?_ (by first | exact Nat.le_refl _ | exact Nat.le_succ _ | assumption | omega) _ | refine Ext.al ?_ _ | refine Ext.dr ?_ | refine Ext.drN ?_ _ | exact Ext.rf _))⟩
  by_cases h2 : kd = 2
  · subst h2
    clear h1
    have HI1 := Lib.hid (inP_calls pe 0 ((n : Int) - 1))
    have HI2 := Lib.hid (inP_calls ms 0 199)
    by_cases h4 : 0 ≤ pe ∧ pe ≤ (n : Int) - 1
    · have d4 : (decide (0 ≤ pe) && decide (pe ≤ (n : Int) - 1)) = true := by simp [h4.1]; omega
      rw [d4] at HI1
      by_cases h5 : pe = p
      · have c5 : (pe != (p : Int)) = false := by simpa using h5
        have hbf : fb = false := by rw [HFB.out]; simp [formedB, h5]
        subst hbf
        clear d4 h4 h5
        go_enter Try.func102, Try.ntmps102
        go_wp2_with fail
        refine (HI1.out _).mono ?_
        rintro e w2 ⟨rfl, rfl⟩
        go_wp2
        go_ret
        exact ⟨rfl, (by repeat (first | refine Ext.st ?_ (by first | exact Nat.le_refl _ | exact Nat.le_succ _ | assumption | omega) _ | refine Ext.al ?_ _ | refine Ext.dr ?_ | refine Ext.drN ?_ _ | exact Ext.rf _))⟩
      · have c5 : (pe != (p : Int)) = true := by simpa using h5
        have hbf : fb = (decide (0 ≤ ms) && decide (ms ≤ 199)) := by
          rw [HFB.out]; simp [formedB, h5, h4.1, show pe < (n : Int) from by omega]
        rw [← hbf] at HI2
        clear d4 h4 h5 hbf
        go_enter Try.func102, Try.ntmps102
        go_wp2_with fail
        refine (HI1.out _).mono ?_
        rintro e w2 ⟨rfl, rfl⟩
        go_wp2_with fail
        refine (HI2.out _).mono ?_
        rintro e w3 ⟨rfl, rfl⟩
        go_wp2
        go_ret
        exact ⟨rfl, (by repeat (first | refine Ext.st ?_ (by first | exact Nat.le_refl _ | exact Nat.le_succ _ | assumption | omega) _ | refine Ext.al ?_ _ | refine Ext.dr ?_ | refine Ext.drN ?_ _ | exact Ext.rf _))⟩
    · have d4 : (decide (0 ≤ pe) && decide (pe ≤ (n : Int) - 1)) = false := by
        rw [Bool.and_eq_false_iff]; simp only [decide_eq_false_iff_not]; omega
      rw [d4] at HI1
      have hbf : fb = false := by rw [HFB.out]; simp [formedB]; intros; omega
      subst hbf
      clear d4 h4
      go_enter Try.func102, Try.ntmps102
      go_wp2_with fail
      refine (HI1.out _).mono ?_
      rintro e w2 ⟨rfl, rfl⟩
      go_wp2
      go_ret
      exact ⟨rfl, (by repeat (first | refine Ext.st ?_ (by first | exact Nat.le_refl _ | exact Nat.le_succ _ | assumption | omega) _ | refine Ext.al ?_ _ | refine Ext.dr ?_ | refine Ext.drN ?_ _ | exact Ext.rf _))⟩
  by_cases h3 : kd = 3
  · subst h3
    clear h1 h2
    have HI1 := Lib.hid (inP_calls pe 0 ((n : Int) - 1))
    have HI2 := Lib.hid (inP_calls ms 0 199)
    by_cases h4 : 0 ≤ pe ∧ pe ≤ (n : Int) - 1
    · have d4 : (decide (0 ≤ pe) && decide (pe ≤ (n : Int) - 1)) = true := by simp [h4.1]; omega
      rw [d4] at HI1
      by_cases h5 : pe = p
      · have c5 : (pe != (p : Int)) = false := by simpa using h5
        have hbf : fb = false := by rw [HFB.out]; simp [formedB, h5]
        subst hbf
        clear d4 h4 h5
        go_enter Try.func102, Try.ntmps102
        go_wp2_with fail
        refine (HI1.out _).mono ?_
        rintro e w2 ⟨rfl, rfl⟩
        go_wp2
        go_ret
        exact ⟨rfl, (by repeat (first | refine Ext.st ?_ (by first | exact Nat.le_refl _ | exact Nat.le_succ _ | assumption | omega) _ | refine Ext.al ?_ _ | refine Ext.dr ?_ | refine Ext.drN ?_ _ | exact Ext.rf _))⟩
      · have c5 : (pe != (p : Int)) = true := by simpa using h5
        have hbf : fb = (decide (0 ≤ ms) && decide (ms ≤ 199)) := by
          rw [HFB.out]; simp [formedB, h5, h4.1, show pe < (n : Int) from by omega]
        rw [← hbf] at HI2
        clear d4 h4 h5 hbf
        go_enter Try.func102, Try.ntmps102
        go_wp2_with fail
        refine (HI1.out _).mono ?_
        rintro e w2 ⟨rfl, rfl⟩
        go_wp2_with fail
        refine (HI2.out _).mono ?_
        rintro e w3 ⟨rfl, rfl⟩
        go_wp2
        go_ret
        exact ⟨rfl, (by repeat (first | refine Ext.st ?_ (by first | exact Nat.le_refl _ | exact Nat.le_succ _ | assumption | omega) _ | refine Ext.al ?_ _ | refine Ext.dr ?_ | refine Ext.drN ?_ _ | exact Ext.rf _))⟩
    · have d4 : (decide (0 ≤ pe) && decide (pe ≤ (n : Int) - 1)) = false := by
        rw [Bool.and_eq_false_iff]; simp only [decide_eq_false_iff_not]; omega
      rw [d4] at HI1
      have hbf : fb = false := by rw [HFB.out]; simp [formedB]; intros; omega
      subst hbf
      clear d4 h4
      go_enter Try.func102, Try.ntmps102
      go_wp2_with fail
      refine (HI1.out _).mono ?_
      rintro e w2 ⟨rfl, rfl⟩
      go_wp2
      go_ret
      exact ⟨rfl, (by repeat (first | refine Ext.st ?_ (by first | exact Nat.le_refl _ | exact Nat.le_succ _ | assumption | omega) _ | refine Ext.al ?_ _ | refine Ext.dr ?_ | refine Ext.drN ?_ _ | exact Ext.rf _))⟩
  · have c1 : (kd == 1) = false := by simpa using h1
    have c2 : (kd == 2) = false := by simpa using h2
    have c3 : (kd == 3) = false := by simpa using h3
    obtain rfl : fb = false := by rw [HFB.out]; simp [formedB, h1, h2, h3]
    clear h1 h2 h3
    go_enter Try.func102, Try.ntmps102
    go_wp2
    go_ret
    exact ⟨rfl, (by repeat (first | refine Ext.st ?_ (by first | exact Nat.le_refl _ | exact Nat.le_succ _ | assumption | omega) _ | refine Ext.al ?_ _ | refine Ext.dr ?_ | refine Ext.drN ?_ _ | exact Ext.rf _))⟩

end Go.Proofs.Ytfcpnggdpaeldaa

/-
  What an event must be: the program's eventFault.
-/
namespace Go.Proofs.Ytfcpnggdpaeldaa
open Go.RowKit
set_option linter.unusedVariables false
attribute [local go_sem ↓] Go.wp_at_zero Go.wp_at_succ

set_option maxHeartbeats 400000 in
theorem indexFunc_asgs {α : Type} [Inhabited α] (R : World → List Value → α → Prop) (hLasts : Lasts R) (g : Nat) (cb : Array Value) (eg : ∀ args w, (callFunc g args).run Try.prog w = .ok (.enter g args) w) (p : α → Bool) (v : Value) (l : List α) (w : World)
    (hv : Sl R 2 w v l) (hn : l.length ≤ 1000000) (hp : SaysOf Try.prog R encAgg g cb p l w) :
    Calls Try.prog 111 #[v, .func (.func g) #[] cb] w fun e w' => e = .returned (.int .i64 (firstAt p l)) ∧ Ext w w' := by
  obtain ⟨a, c, rfl, hlc, hv⟩ := hv
  have HLC := Lib.hid hlc; clear hlc
  have HV := Lib.hid hv; clear hv
  have HP := Lib.hid hp; clear hp
  have HT := Lib.hid hLasts; clear hLasts
  generalize hln : l.length = n at hn
  have HL := Lib.hid hln; clear hln
  go_enter Try.func111, Try.ntmps111
  go_wp2
  go_loopg [5, 8] n (fun m _ s8 wr => ∃ k : Nat, k ≤ n ∧ n - k ≤ m ∧ s8 = .int .i64 k ∧ Ext w wr ∧ Aside (∀ j, j < k → p l[j]! = false))
  case atStart => exact ⟨0, Nat.zero_le _, by omega, rfl, Below.refl _ _, (fun j hj => absurd hj (Nat.not_lt_zero _))⟩
  case round =>
    obtain ⟨k, hk, hm, rfl, he, A⟩ := hrel
    have HE := Lib.hid he; clear he
    by_cases hlt : k < n
    · obtain ⟨b, off, rfl, hb, hc⟩ := HV.out (by intro e; have := HL.out; simp [e] at this; omega)
      obtain ⟨vs, hvs, hR, hcell⟩ := hc k (by rw [HL.out]; exact hlt)
      obtain ⟨c0, c1, rfl⟩ : ∃ c0 c1, vs = [c0, c1] := by match vs, hvs with | [c0, c1], _ => exact ⟨c0, c1, rfl⟩
      have d0 : wr.cell? ⟨b, off + k * 2, none⟩ = some c0 := (HE.out.cell hb).trans (hcell 0 (by omega))
      have d1 : wr.cell? ⟨b, off + k * 2 + 1, none⟩ = some c1 := (HE.out.cell hb).trans (hcell 1 (by omega))
      have hltz : (k : Int) < (n : Int) := by omega
      clear hc hcell
      have hcall := HP.out _ (mem_at l k (by rw [HL.out]; exact hlt)) wr _ HE.out (HT.out _ _ _ _ hR HE.out)
      unfold encAgg at hcall
      generalize hy : l[k]! = y at hcall hR
      have B := Lib.hid hy
      clear hy hR hvs HV HT HP
      cases hq : p y with
      | true =>
        rw [hq] at hcall
        have HQ := Lib.hid hq; clear hq
        go_wp2_with (go_at_fn g; refine hcall.mono ?_; rintro e w' ⟨rfl, he'⟩)
        go_ret
        exact ⟨by rw [firstAt_hit p l k (by rw [HL.out]; omega) (by rw [B.out]; exact HQ.out) A.out]; rfl, HE.out.trans' he'⟩
      | false =>
        rw [hq] at hcall
        have HQ := Lib.hid hq; clear hq
        go_wp2_with (go_at_fn g; refine hcall.mono ?_; rintro e w' ⟨rfl, he'⟩)
        go_roundg (n - (k + 1))
        case measure => omega
        case rel =>
          refine ⟨k + 1, by omega, by omega, by go_num, HE.out.trans' he', (show Aside _ from fun j hj => ?_)⟩
          by_cases e : j = k
          · subst e
            rw [B.out]; exact HQ.out
          · exact A.out j (by omega)
    · have hltz : ¬ (k : Int) < (n : Int) := by omega
      go_wp2
      go_ret
      exact ⟨by rw [firstAt_miss p l (fun j hj => A.out j (by rw [HL.out] at hj; omega))]; rfl, HE.out⟩

theorem enters_111 : ∀ args w, (callFunc 111 args).run Try.prog w = .ok (.enter 111 args) w := enters_of Try.func111 (by kernel_rfl) rfl

set_option maxHeartbeats 400000 in
theorem containsFunc_asgs {α : Type} [Inhabited α] (R : World → List Value → α → Prop) (hLasts : Lasts R) (g : Nat) (cb : Array Value) (eg : ∀ args w, (callFunc g args).run Try.prog w = .ok (.enter g args) w) (p : α → Bool) (v : Value) (l : List α) (w : World)
    (hv : Sl R 2 w v l) (hn : l.length ≤ 1000000) (hp : SaysOf Try.prog R encAgg g cb p l w) :
    Calls Try.prog 103 #[v, .func (.func g) #[] cb] w fun e w' => e = .returned (.bool (l.any p)) ∧ Ext w w' := by
  have HI := Lib.hid (indexFunc_asgs R hLasts g cb eg p v l w hv hn hp)
  clear hv hp eg hLasts
  rw [← firstAt_any]
  go_enter Try.func103, Try.ntmps103
  go_wp2_with (go_at_call 111; refine HI.out.mono ?_; rintro e w' ⟨rfl, he'⟩)
  go_ret
  exact ⟨rfl, he'⟩

theorem enters_104 : ∀ args w, (callFunc 104 args).run Try.prog w = .ok (.enter 104 args) w := enters_of Try.func104 (by kernel_rfl) rfl

set_option maxHeartbeats 1000000 in
theorem asgVar_calls (vs : List Value) (x : Asg) (b : Nat) (s : Int) (w : World) (hx : RAsg w vs x) (hc : w.cell? ⟨b, 0, none⟩ = some (.int .i64 s)) :
    Calls Try.prog 104 #[.agg vs.toArray, .pointer (some ⟨b, 0, none⟩)] w fun e w' => e = .returned (.bool (decide (x.var = s))) ∧ Ext w w' := by
  have e : vs = [.int .i64 x.var, .int .i64 x.value] := hx
  subst e
  have hbl := World.block_lt_of_cell? w _ hc
  have hbn : b ≠ w.heap.size := Nat.ne_of_lt hbl
  have hx0 := cell_new w #[.int .i64 x.var, .int .i64 x.value] 57 0 _ rfl
  have hr : (x.var == s) = decide (x.var = s) := rfl
  go_enter Try.func104, Try.ntmps104
  go_wp2
  go_ret
  exact ⟨rfl, (by repeat (first | refine Ext.st ?_ (by first | exact Nat.le_refl _ | exact Nat.le_succ _ | assumption | omega) _ | refine Ext.al ?_ _ | refine Ext.dr ?_ | refine Ext.drN ?_ _ | exact Ext.rf _))⟩

theorem asgB_parts {nv : Nat} {l : List Asg} {k : Nat} : asgB nv l k = true ↔ 0 ≤ l[k]!.var ∧ l[k]!.var < nv ∧ valueB l[k]!.value = true ∧ ∀ j, j < k → decide (l[j]!.var = l[k]!.var) = false := by
  simp only [asgB, Bool.and_eq_true, decide_eq_true_eq, range_all, Bool.not_eq_true']
theorem eventB_parts {t : Tr} {p i : Nat} : eventB t p i = true ↔ formedB t.length p t[p]!.events[i]! = true ∧ 0 ≤ t[p]!.events[i]!.time ∧ t[p]!.events[i]!.time ≤ 1099511627776 ∧ (i = 0 ∨ t[p]!.events[i - 1]!.time ≤ t[p]!.events[i]!.time) ∧
    t[p]!.events[i]!.asg.length ≤ 8 ∧ ∀ k, k < t[p]!.events[i]!.asg.length → asgB t[p]!.vars.length t[p]!.events[i]!.asg k = true := by
  simp only [eventB, Bool.and_eq_true, decide_eq_true_eq, range_all]

end Go.Proofs.Ytfcpnggdpaeldaa

/-
  What an event must be: the program's eventFault, walked.
-/
namespace Go.Proofs.Ytfcpnggdpaeldaa
open Go.RowKit
set_option linter.unusedVariables false
attribute [local go_sem ↓] Go.wp_at_zero Go.wp_at_succ

abbrev trT (v : Value) : Obj := .cells #[v] 24
abbrev idT (p i : Int) : Obj := .cells #[.int .i64 p, .int .i64 i] 87
abbrev evT (a b c d : Int) (v : Value) : Obj := .cells #[.int .i64 a, .int .i64 b, .int .i64 c, .int .i64 d, v] 55

set_option maxHeartbeats 4000000 in
set_option maxRecDepth 100000 in
theorem eventFaultP_calls (v va : Value) (t : Tr) (p i : Nat) (ix : Int) (hix : ix = (i : Int) + 1) (ev : Ev) (w : World) (h : TrAt w v t) (hs : SmallTr t) (hp : p < t.length) (hi : i < t[p]!.events.length) (hev : t[p]!.events[i]! = ev) (ha : Sl RAsg 2 w va ev.asg) :
    Calls Try.prog 90 #[.agg #[v], .agg #[.int .i64 p, .int .i64 ix], .agg #[.int .i64 ev.kind, .int .i64 ev.peer, .int .i64 ev.msg, .int .i64 ev.time, va]] w fun e w' => ErrIff w w' e (eventB t p i) := by
  have HIX := Lib.hid hix
  have hix0 : 1 ≤ ix := by omega
  clear hix
  have HT := Lib.hid h
  obtain ⟨B, O, C, vv, ve, rfl, hlC, hB, hn0, hv0, he0, hV, hE0⟩ := proc_at h p hp
  obtain ⟨xa, xc, rfl, hvc⟩ := hV.sh
  have HEV := Lib.hid hE0
  obtain ⟨EB, EO, EC, _, rfl, hlE, hEB, _, _, _, _, _, _⟩ := event_at hE0 i hi
  obtain ⟨ua, uc, rfl, huc⟩ := ha.sh
  have hn := hs.1
  have hvn := (hs.2 p hp).1
  have hen := (hs.2 p hp).2.1
  have han := (hs.2 p hp).2.2 i hi
  rw [hev] at han
  have HB := Lib.hid (@eventB_parts t p i)
  rw [hev] at HB
  generalize hhb : eventB t p i = hb at *
  have HA := Lib.hid ha
  have HPREV := Lib.hid (fun hi0 : 0 < i => event_at hE0 (i - 1) (by omega))
  generalize hx : t[p]! = x at *
  generalize hln : t.length = n at *
  generalize hnv : x.vars.length = nv at *
  generalize hne : x.events.length = ne at *
  generalize hua : ev.asg.length = na at *
  have HNA := Lib.hid hua
  have HFO : Hid (∀ W, Calls Try.prog 102 #[.agg #[.slice (some ⟨B, O, none⟩) n C], .int .i64 p, .agg #[.int .i64 ev.kind, .int .i64 ev.peer, .int .i64 ev.msg, .int .i64 ev.time, .slice ua na uc]] W fun e w' => e = .returned (.bool (formedB n p ev)) ∧ Ext W w') :=
    Lib.hid (fun W => formedP_calls (some ⟨B, O, none⟩) n C p (.slice ua na uc) ev.kind ev.peer ev.msg ev.time ev.asg W hn hp)
  have hpz : (0 : Int) ≤ (p : Int) := by omega
  have hpi : (p : Int) < (n : Int) := by omega
  have hE3 : Ext w (((w.alloc (trT (.slice (some ⟨B, O, none⟩) n C))).alloc (idT p ix)).alloc (evT ev.kind ev.peer ev.msg ev.time (.slice ua na uc))) := (((Ext.rf w).al _).al _).al _
  have hv1 := hE3.cl hv0
  have he1 := hE3.cl he0
  have hn1 := hE3.cl hn0
  clear hn0 hv0 he0 hV hE0 h hs ha hhb hx hln hnv hne hua hev
  go_enter Try.func90, Try.ntmps90
  go_upto_region 3 with (fail)
  have HI0 := Lib.hid ((((Ext.rf _).al (idT p ix)).al (evT ev.kind ev.peer ev.msg ev.time (.slice ua na uc))).hp (heap_alloc_new w (trT (.slice (some ⟨B, O, none⟩) n C))))
  have HI1 := Lib.hid (((Ext.rf _).al (evT ev.kind ev.peer ev.msg ev.time (.slice ua na uc))).hp (heap_new_eq (w := w.alloc (trT (.slice (some ⟨B, O, none⟩) n C))) (o := idT p ix) (b := w.heap.size + 1) (by simp)))
  have HI2 := Lib.hid (heap_new_eq (w := (w.alloc (trT (.slice (some ⟨B, O, none⟩) n C))).alloc (idT p ix)) (o := evT ev.kind ev.peer ev.msg ev.time (.slice ua na uc)) (b := w.heap.size + 1 + 1) (by simp))
  have hsz3 : (((w.alloc (trT (.slice (some ⟨B, O, none⟩) n C))).alloc (idT p ix)).alloc (evT ev.kind ev.peer ev.msg ev.time (.slice ua na uc))).heap.size = w.heap.size + 3 := by simp
  generalize hw3 : ((w.alloc (trT (.slice (some ⟨B, O, none⟩) n C))).alloc (idT p ix)).alloc (evT ev.kind ev.peer ev.msg ev.time (.slice ua na uc)) = w3 at *
  have HSZ3 := Lib.hid hsz3
  have q1 : w.heap.size + 1 < w3.heap.size := by omega
  have q2 : w.heap.size + 1 ≠ w3.heap.size := by omega
  have q3 : w.heap.size < w3.heap.size := by omega
  have q4 : w.heap.size ≠ w3.heap.size := by omega
  have q5 : w.heap.size + 1 + 1 < w3.heap.size := by omega
  have q6 : w.heap.size + 1 + 1 ≠ w3.heap.size := by omega
  have HE3 := Lib.hid hE3
  clear hw3 hsz3 hE3
  have y0 := cellOf HI1.out 0
  have y1 := cellOf HI1.out 1
  simp only [List.getElem?_toArray, List.getElem?_cons_zero, List.getElem?_cons_succ] at y0 y1
  obtain ⟨bt, hbt⟩ : ∃ b, decide (1 < ix) = b := ⟨_, rfl⟩
  go_upto_if 19 with (fail)
  have HBT := Lib.hid hbt
  clear hbt
  have HP3 := Lib.hid (heap_new_eq (w := w3) (o := .cells #[.string x.name, .slice xa nv xc, .slice (some ⟨EB, EO, none⟩) ne EC] 47) (b := w.heap.size + 1 + 1 + 1) (by have := HSZ3.out; omega))
  go_cut [8] (fun s8 wx => ∃ lt : Int, s8 = .int .i64 lt ∧ wx = w3.alloc (.cells #[.string x.name, .slice xa nv xc, .slice (some ⟨EB, EO, none⟩) ne EC] 47) ∧ Aside (lt = if i = 0 then 0 else x.events[i - 1]!.time))
  case first =>
    cases bt with
    | false =>
      have hi0 : i = 0 := by have := HIX.out; have h9 : ¬ 1 < ix := of_decide_eq_false HBT.out; omega
      have HI := Lib.hid hi0
      clear hi0
      go_wp2
      go_meet
      exact ⟨0, rfl, rfl, (show _ = _ from by rw [if_pos HI.out])⟩
    | true =>
      have hi0 : 0 < i := by have h9 : 1 < ix := of_decide_eq_true HBT.out; have := HIX.out; omega
      obtain ⟨EB', EO', EC', wv, hee, hz1, hz2, hz3, hz4, hz5, htm, hz6, hz7⟩ := HPREV.out hi0
      simp only [Value.slice.injEq, Option.some.injEq, Addr.mk.injEq, and_true] at hee
      obtain ⟨⟨rfl, rfl⟩, hz8, rfl⟩ := hee
      have htm1 := HE3.out.cl htm
      have ix2 : (2 : Int) ≤ ix := by have := HIX.out; omega
      have ix3 : (ix - 2).toNat = i - 1 := by have := HIX.out; omega
      have ix4 : ix - 2 < (ne : Int) := by have := HIX.out; omega
      have p2 := cellOf HP3.out 2
      simp only [List.getElem?_toArray, List.getElem?_cons_zero, List.getElem?_cons_succ] at p2
      have HI := Lib.hid (show ¬ i = 0 from by omega)
      have q7 : EB < w3.heap.size := by have := HSZ3.out; omega
      have q8 : EB ≠ w3.heap.size := by omega
      clear hz1 hz2 hz3 hz4 hz5 hz6 hz7 hz8 htm hi0
      go_wp2
      go_meet
      exact ⟨_, rfl, rfl, (show _ = _ from by rw [if_neg HI.out]; simp)⟩
  case rest =>
    obtain ⟨lt, rfl, rfl, HLT⟩ := hcut
    have HI0 := Lib.hid (((Ext.rf w3).al (.cells #[.string x.name, .slice xa nv xc, .slice (some ⟨EB, EO, none⟩) ne EC] 47)).hp HI0.out)
    have HI1 := Lib.hid (((Ext.rf w3).al (.cells #[.string x.name, .slice xa nv xc, .slice (some ⟨EB, EO, none⟩) ne EC] 47)).hp HI1.out)
    have HI2 := Lib.hid (((Ext.rf w3).al (.cells #[.string x.name, .slice xa nv xc, .slice (some ⟨EB, EO, none⟩) ne EC] 47)).hp HI2.out)
    have HE4 := Lib.hid (HE3.out.al (.cells #[.string x.name, .slice xa nv xc, .slice (some ⟨EB, EO, none⟩) ne EC] 47))
    generalize hw4 : w3.alloc (.cells #[.string x.name, .slice xa nv xc, .slice (some ⟨EB, EO, none⟩) ne EC] 47) = w4 at *
    clear hw4 y0 y1
    obtain ⟨fo, hfo⟩ : ∃ b, formedB n p ev = b := ⟨_, rfl⟩
    rw [hfo] at HFO
    have HFOB := Lib.hid hfo
    clear hfo
    have u0 := cellOf HI0.out 0
    have u1 := cellOf HI1.out 0
    have v0 := cellOf HI2.out 0
    have v1 := cellOf HI2.out 1
    have v2 := cellOf HI2.out 2
    have v3 := cellOf HI2.out 3
    have v4 := cellOf HI2.out 4
    simp only [List.getElem?_toArray, List.getElem?_cons_zero, List.getElem?_cons_succ] at v0 v1 v2 v3 v4
    simp only [List.getElem?_toArray, List.getElem?_cons_zero] at u0 u1
    cases fo with
    | false =>
      obtain rfl : hb = false := by
        rw [Bool.eq_false_iff]; intro hbt; have := (HB.out.1 hbt).1; rw [HFOB.out] at this; exact absurd this (by decide)
      go_wp2_with fail
      refine (HFO.out _).mono ?_
      rintro e w5 ⟨rfl, hE5⟩
      have HE5 := Lib.hid (HE4.out.trans' hE5)
      clear hE5
      go_wp2
      go_ret
      exact ⟨3, rfl, ⟨fun h => absurd h (by decide), fun h => absurd h (by decide)⟩, HE5.out⟩
    | true =>
    go_wp2_with fail
    refine (HFO.out _).mono ?_
    rintro e w5 ⟨rfl, hE5⟩
    have HI2 := Lib.hid (hE5.hp HI2.out)
    have HP5 := Lib.hid (hE5.hp HP3.out)
    have HE5 := Lib.hid (HE4.out.trans' hE5)
    clear hE5 u0 u1 v0 v1 v2 v3 v4
    have v3 := cellOf HI2.out 3
    have v4 := cellOf HI2.out 4
    simp only [List.getElem?_toArray, List.getElem?_cons_zero, List.getElem?_cons_succ] at v3 v4
    obtain ⟨tm, htm⟩ : ∃ b, ev.time = b := ⟨_, rfl⟩
    have HTM := Lib.hid htm
    rw [htm] at HB v3 HI2
    clear htm
    obtain ⟨ti, hti⟩ : ∃ b, (decide (0 ≤ tm) && decide (tm ≤ 1099511627776)) = b := ⟨_, rfl⟩
    have HIN := Lib.hid (inP_calls tm 0 1099511627776)
    rw [hti] at HIN
    have HTI := Lib.hid hti
    clear hti
    cases ti with
    | false =>
      obtain rfl : hb = false := by
        rw [Bool.eq_false_iff]; intro hbt; have h9 := HB.out.1 hbt; have h8 := HTI.out; simp [h9.2.1, h9.2.2.1] at h8
      go_wp2_with fail
      refine (HIN.out _).mono ?_
      rintro e w6 ⟨rfl, rfl⟩
      go_wp2
      go_ret
      exact ⟨11, rfl, ⟨fun h => absurd h (by decide), fun h => absurd h (by decide)⟩, HE5.out⟩
    | true =>
    have HT0 := Lib.hid (show 0 ≤ tm ∧ tm ≤ 1099511627776 from by have h8 := HTI.out; simp only [Bool.and_eq_true, decide_eq_true_eq] at h8; exact h8)
    by_cases hlt : tm < lt
    · obtain rfl : hb = false := by
        rw [Bool.eq_false_iff]; intro hbt
        have h9 := (HB.out.1 hbt).2.2.2.1
        have h8 := HLT.out
        have h7 := HT0.out
        by_cases hi0 : i = 0
        · rw [if_pos hi0] at h8; omega
        · rw [if_neg hi0] at h8; omega
      go_wp2_with fail
      refine (HIN.out _).mono ?_
      rintro e w6 ⟨rfl, rfl⟩
      go_wp2
      go_ret
      exact ⟨11, rfl, ⟨fun h => absurd h (by decide), fun h => absurd h (by decide)⟩, HE5.out⟩
    have HORD := Lib.hid (show i = 0 ∨ x.events[i - 1]!.time ≤ tm from by
      by_cases hi0 : i = 0
      · exact .inl hi0
      · have h8 := HLT.out; rw [if_neg hi0] at h8; right; omega)
    by_cases h8 : 8 < na
    · have c8 : decide (8 < (na : Int)) = true := by simp; omega
      have c8n : decide (8 < na) = true := by simp; omega
      obtain rfl : hb = false := by
        rw [Bool.eq_false_iff]; intro hbt; have := (HB.out.1 hbt).2.2.2.2.1; omega
      go_wp2_with fail
      refine (HIN.out _).mono ?_
      rintro e w6 ⟨rfl, rfl⟩
      go_wp2
      go_ret
      exact ⟨5, rfl, ⟨fun h => absurd h (by decide), fun h => absurd h (by decide)⟩, HE5.out⟩
    have c8 : decide (8 < (na : Int)) = false := by simp; omega
    have c8n : decide (8 < na) = false := by simp; omega
    go_wp2_with fail
    refine (HIN.out _).mono ?_
    rintro e w6 ⟨rfl, rfl⟩
    go_wp2
    clear v3 v4
    go_loopg [54] na (fun g s54 wr => ∃ k : Nat, k ≤ na ∧ na - k ≤ g ∧ s54 = .int .i64 k ∧ Aside (∀ j, j < k → asgB nv ev.asg j = true) ∧ Aside (Ext w6 wr))
    case atStart => exact ⟨0, Nat.zero_le _, by omega, rfl, (fun j hj => absurd hj (Nat.not_lt_zero _)), Ext.rf _⟩
    case round =>
      obtain ⟨k, hk, hg, rfl, A, HEK⟩ := hrel
      have HEW := Lib.hid (HE5.out.trans' HEK.out)
      have HPK := Lib.hid (HEK.out.hp HP5.out)
      have HIK := Lib.hid (HEK.out.hp HI2.out)
      by_cases hltk : k < na
      · have hltz : (k : Int) < (na : Int) := by omega
        have hkz : (0 : Int) ≤ (k : Int) := by omega
        have hkc : (k : Int) ≤ (uc : Int) := by omega
        obtain ⟨AB, AO, AC, hae, _, hAB, hav0, haw0⟩ := asg_at HA.out k (by rw [HNA.out]; exact hltk)
        simp only [Value.slice.injEq] at hae
        obtain ⟨rfl, hzz, rfl⟩ := hae
        have hav1 := HEW.out.cl hav0
        have haw1 := HEW.out.cl haw0
        have HAP := Lib.hid (@asgB_parts nv ev.asg k)
        have HANV := Lib.hid (any_take ev.asg k (by rw [HNA.out]; omega) fun y => decide (y.var = ev.asg[k]!.var))
        have HALL := Lib.hid (fun hbt : hb = true => (HB.out.1 hbt).2.2.2.2.2 k hltk)
        generalize hy : ev.asg[k]! = y at *
        have HBV := Lib.hid (heap_alloc_new wr (.cells #[.int .i64 y.var, .int .i64 y.value] 57))
        have HPV := Lib.hid (((Ext.rf wr).al (.cells #[.int .i64 y.var, .int .i64 y.value] 57)).hp HPK.out)
        have HIV := Lib.hid (((Ext.rf wr).al (.cells #[.int .i64 y.var, .int .i64 y.value] 57)).hp HIK.out)
        have HEV2 := Lib.hid (HEW.out.al (.cells #[.int .i64 y.var, .int .i64 y.value] 57))
        have HEK2 := Lib.hid (HEK.out.al (.cells #[.int .i64 y.var, .int .i64 y.value] 57))
        clear hav0 haw0 hzz hy
        have y0 := cellOf HBV.out 0
        have y1 := cellOf HBV.out 1
        have p1 := cellOf HPV.out 1
        have i4 := cellOf HIV.out 4
        simp only [List.getElem?_toArray, List.getElem?_cons_zero, List.getElem?_cons_succ] at y0 y1 p1 i4
        have HIA := Lib.hid (inP_calls y.var 0 ((nv : Int) - 1))
        have HIB := Lib.hid (inP_calls y.value (-1073741824) 1073741824)
        obtain ⟨ba, hba⟩ : ∃ b, (decide (0 ≤ y.var) && decide (y.var ≤ (nv : Int) - 1)) = b := ⟨_, rfl⟩
        rw [hba] at HIA
        have HBA := Lib.hid hba
        clear hba
        cases ba with
        | false =>
          obtain rfl : hb = false := by
            rw [Bool.eq_false_iff]; intro hbt; have h9 := HAP.out.1 (HALL.out hbt); have h8 := HBA.out; simp only [Bool.and_eq_false_iff, decide_eq_false_iff_not] at h8; omega
          go_wp2_with fail
          refine (HIA.out _).mono ?_
          rintro e w7 ⟨rfl, rfl⟩
          go_wp2
          go_ret
          exact ⟨2, rfl, ⟨fun h => absurd h (by decide), fun h => absurd h (by decide)⟩, HEV2.out⟩
        | true =>
        have HVR := Lib.hid (show 0 ≤ y.var ∧ y.var < nv from by have h8 := HBA.out; simp only [Bool.and_eq_true, decide_eq_true_eq] at h8; omega)
        have hvb : valueB y.value = (decide (-1073741824 ≤ y.value) && decide (y.value ≤ 1073741824)) := rfl
        rw [← hvb] at HIB
        clear hvb
        obtain ⟨bv, hbv⟩ : ∃ b, valueB y.value = b := ⟨_, rfl⟩
        rw [hbv] at HIB
        have HBVL := Lib.hid hbv
        clear hbv
        cases bv with
        | false =>
          obtain rfl : hb = false := by
            rw [Bool.eq_false_iff]; intro hbt; have h9 := (HAP.out.1 (HALL.out hbt)).2.2.1; rw [HBVL.out] at h9; exact absurd h9 (by decide)
          go_wp2_with fail
          refine (HIA.out _).mono ?_
          rintro e w7 ⟨rfl, rfl⟩
          go_wp2_with fail
          refine (HIB.out _).mono ?_
          rintro e w7 ⟨rfl, rfl⟩
          go_wp2
          go_ret
          exact ⟨2, rfl, ⟨fun h => absurd h (by decide), fun h => absurd h (by decide)⟩, HEV2.out⟩
        | true =>
        have HCV := Lib.hid (fun W (hW : Ext w W) (hc : W.cell? ⟨wr.heap.size, 0, none⟩ = some (.int .i64 y.var)) => containsFunc_asgs RAsg rasg_lasts 104 #[.pointer (some ⟨wr.heap.size, 0, none⟩)] enters_104 (fun z => decide (z.var = y.var)) (.slice (some ⟨AB, AO, none⟩) k uc) (ev.asg.take k) W ((HA.out.ext rasg_lasts hW).take k (by rw [HNA.out]; omega)) (by rw [List.length_take]; omega) (fun z hz W2 vs hW2 hR => asgVar_calls vs z _ y.var W2 hR (hW2.cl hc)))
        obtain ⟨bt, hbt⟩ : ∃ b, (ev.asg.take k).any (fun z => decide (z.var = y.var)) = b := ⟨_, rfl⟩
        rw [hbt] at HCV
        rw [hbt] at HANV
        clear hbt
        cases bt with
        | true =>
          obtain rfl : hb = false := by
            rw [Bool.eq_false_iff]; intro hbt
            have h7 := HANV.out.symm
            rw [range_any] at h7
            obtain ⟨j, hj, hf⟩ := h7
            have := (HAP.out.1 (HALL.out hbt)).2.2.2 j hj
            rw [hf] at this; exact absurd this (by decide)
          go_wp2_with fail
          refine (HIA.out _).mono ?_
          rintro e w7 ⟨rfl, rfl⟩
          go_wp2_with fail
          refine (HIB.out _).mono ?_
          rintro e w7 ⟨rfl, rfl⟩
          go_wp2_with fail
          refine (HCV.out _ HEV2.out y0).mono ?_
          rintro e w8 ⟨rfl, hE8⟩
          have HE8 := Lib.hid (HEV2.out.trans' hE8)
          clear hE8
          go_wp2
          go_ret
          exact ⟨8, rfl, ⟨fun h => absurd h (by decide), fun h => absurd h (by decide)⟩, HE8.out⟩
        | false =>
          have HOK := Lib.hid (HAP.out.2 ⟨HVR.out.1, HVR.out.2, HBVL.out, by have h7 := HANV.out.symm; rw [range_any_false] at h7; exact h7⟩)
          go_wp2_with fail
          refine (HIA.out _).mono ?_
          rintro e w7 ⟨rfl, rfl⟩
          go_wp2_with fail
          refine (HIB.out _).mono ?_
          rintro e w7 ⟨rfl, rfl⟩
          go_wp2_with fail
          refine (HCV.out _ HEV2.out y0).mono ?_
          rintro e w8 ⟨rfl, hE8⟩
          have HE8 := Lib.hid (HEK2.out.trans' hE8)
          clear hE8
          go_wp2
          go_roundg (na - (k + 1))
          case measure => omega
          case rel =>
            refine ⟨k + 1, by omega, by omega, by go_num, (show Aside _ from fun j hj => ?_), (show Ext _ _ from HE8.out)⟩
            by_cases e : j = k
            · subst e; exact HOK.out
            · exact A.out j (by omega)
      · have hltz : ¬ (k : Int) < (na : Int) := by omega
        obtain rfl : na = k := by omega
        obtain rfl : hb = true := HB.out.2 ⟨HFOB.out, HT0.out.1, HT0.out.2, HORD.out, by omega, A.out⟩
        go_wp2
        go_ret
        exact ⟨0, rfl, ⟨fun _ => rfl, fun _ => rfl⟩, HEW.out⟩

end Go.Proofs.Ytfcpnggdpaeldaa
