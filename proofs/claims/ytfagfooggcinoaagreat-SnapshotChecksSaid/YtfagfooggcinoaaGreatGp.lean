import Derived.Test.YtfagfooggcinoaaGreatJa
import Derived.Test.YtfagfooggcinoaaGreatProg
import Derived.Test.YtfagfooggcinoaaGreatGk
import Derived.Test.YtfagfooggcinoaaGreatGd
import Derived.Test.YtfagfooggcinoaaGreatGb
import Derived.Test.YtfagfooggcinoaaGreatGl
import Derived.Test.YtfagfooggcinoaaGreatGj
import Derived.Test.YtfagfooggcinoaaGreatGe
import Derived.BigQuiet
import Derived.Deep.QuietTactic
import Derived.Deep.LoopGhost
import Derived.Shelf.Abstract
namespace Go.Proofs.YtfagfooggcinoaaGreat
open Go.RowKit
set_option linter.unusedVariables false
attribute [local go_sem ↓] Go.wp_at_zero Go.wp_at_succ
set_option maxHeartbeats 4000000 in
set_option maxRecDepth 100000 in
theorem leqP_calls (va vb : Value) (a b : List Int) (w : World) (ha : Ints w va a) (hb : Ints w vb b) (hn : a.length ≤ 1000000) (hm : b.length ≤ 1000000) :
  Calls Tryz.prog 23 #[va, vb] w fun e w' => e = .returned (.bool (leCB a b)) ∧ Ext w w' := by
 have HA := Lib.hid ha
 have HB := Lib.hid hb
 obtain ⟨aa, ac, rfl, hac, _⟩ := ha
 obtain ⟨ba, bc, rfl, hbc, _⟩ := hb
 obtain ⟨r, hr⟩ : ∃ r, leCB a b = r := ⟨_, rfl⟩
 rw [hr]
 have HRR := Lib.hid hr
 generalize hna : a.length = n at *
 generalize hnb : b.length = m at *
 have HA' := Lib.hid hna
 have HB' := Lib.hid hnb
 clear hr hna hnb
 by_cases hnm : n = m
 case neg =>
  have HF : Hid (r = false) := Lib.hid (by rw [← HRR.out, Bool.eq_false_iff]; intro h; have := (leCB_iff.1 h).1; rw [HA'.out, HB'.out] at this; exact hnm this)
  have c1 : ((n : Int) != (m : Int)) = true := by simp; omega
  have c1n : (n != m) = true := by simp; omega
  clear hnm
  go_enter Tryz.func23, Tryz.ntmps23
  go_wp2
  go_ret
  exact ⟨by rw [HF.out]; rfl, Ext.rf _⟩
 case pos =>
  subst hnm
  go_enter Tryz.func23, Tryz.ntmps23
  go_wp2
  go_loopg [13] n (fun g s wr => ∃ i : Nat, i ≤ n ∧ n - i ≤ g ∧ s = .int .i64 i ∧ Aside (∀ j, j < i → a[j]! ≤ b[j]!) ∧ Aside (Ext w wr))
  case atStart => exact ⟨0, Nat.zero_le _, by omega, rfl, (fun j hj => absurd hj (Nat.not_lt_zero _)), Ext.rf _⟩
  case round =>
   obtain ⟨i, hi, hg, rfl, A, HEK⟩ := hrel
   by_cases hlt : i < n
   ·have hltz : (i : Int) < (n : Int) := by omega
    have hiz : (0 : Int) ≤ (i : Int) := by omega
    have HIA := Lib.hid (show i < a.length from by rw [HA'.out]; exact hlt)
    obtain ⟨b1, o1, rfl, hb1, hc1⟩ := ints_at HA.out i HIA.out
    obtain ⟨b2, o2, rfl, hb2, hc2⟩ := ints_at HB.out i (by rw [HB'.out]; exact hlt)
    have d1 := HEK.out.cl hc1
    have d2 := HEK.out.cl hc2
    generalize hx : a[i]! = x at *
    generalize hy : b[i]! = y at *
    have HXY := Lib.hid (And.intro hx hy)
    clear hx hy hc1 hc2 hb1 hb2
    by_cases hgt : y < x
    ·have e1 : decide (y < x) = true := decide_eq_true hgt
     have HF : Hid (r = false) := Lib.hid (by
      rw [← HRR.out, Bool.eq_false_iff]; intro h
      have := (leCB_iff.1 h).2 i HIA.out
      rw [HXY.out.1, HXY.out.2] at this; omega)
     clear hgt
     go_wp2
     go_quiet (fail)
     go_wp2
     go_ret
     exact ⟨by rw [HF.out]; rfl, HEK.out.drN _⟩
    ·have e1 : decide (y < x) = false := decide_eq_false hgt
     have HOK := Lib.hid (show x ≤ y by omega)
     clear hgt
     go_wp2
     go_quiet (fail)
     go_wp2
     go_roundg (n - (i + 1))
     case measure => omega
     case rel =>
      refine ⟨i + 1, by omega, by omega, by go_num, (show Aside _ from fun j hj => ?_), (show Ext _ _ from HEK.out.drN _)⟩
      by_cases e : j = i
      ·subst e; rw [HXY.out.1, HXY.out.2]; exact HOK.out
      ·exact A.out j (by omega)
   ·have hltz : ¬ (i : Int) < (n : Int) := by omega
    obtain rfl : n = i := by omega
    go_wp2
    go_ret
    refine ⟨?_, HEK.out⟩
    rw [← HRR.out, show leCB a b = true from leCB_iff.2 ⟨by rw [HA'.out, HB'.out], fun p hp => A.out p (by rw [← HA'.out]; exact hp)⟩]
    rfl
end Go.Proofs.YtfagfooggcinoaaGreat
namespace Go.Proofs.YtfagfooggcinoaaGreat
open Go.RowKit
set_option linter.unusedVariables false
noncomputable def lineE (t : Tr) (r : List (List Int)) (a : Int) (l : List Mk) : Int :=
 if (validT t && (validK l && decide (l.length = t.length))) = false then 1 else if runB t r = false then 3 else if (decide (0 ≤ a) && decide (a < (r.length : Int))) = false then 2 else if recordedB l = false then 6 else 0
noncomputable def lineB (t : Tr) (r : List (List Int)) (a : Int) (l : List Mk) : Bool :=
 if lineE t r a l = 0 then consB t (cntsL l) && leCB r[a.toNat]! (cntsL l) else false
set_option maxHeartbeats 8000000 in
set_option maxRecDepth 100000 in
theorem snapLine_calls (v rv lv : Value) (t : Tr) (r : List (List Int)) (a : Int) (l : List Mk) (w : World) (h : TrAt w v t) (hs : LooseTr t) (hrv : Sl RInts 1 w rv r) (hn2 : t.length ≤ 1000) (hrl : r.length ≤ 1000000) (hil : ∀ i, i < r.length → r[i]!.length ≤ 1000000) (hlv : Sl RMk 3 w lv l) (hl : LightM l) :
  Calls Tryz.prog 32 #[.agg #[v], rv, .int .i64 a, lv] w fun e w' => e = .returned (.tuple #[.bool (lineB t r a l), .int .i64 (lineE t r a l)]) ∧ Ext w w' := by
 have HV := Lib.hid (fun W (hW : Ext w W) => validP_calls v t W (h.ext hW) hs)
 have HSV := Lib.hid (fun W (hW : Ext w W) => snapValid_calls lv l W (Sl.ext rmk_lasts hlv hW) hl)
 have HR := Lib.hid (fun W (hW : Ext w W) => runIs_calls v rv t r W (h.ext hW) hs (Sl.ext rints_lasts hrv hW) hn2 hrl hil)
 have HSC := Lib.hid (fun W (hW : Ext w W) => counts_calls lv l W (Sl.ext rmk_lasts hlv hW) hl)
 have HCO := Lib.hid (fun W (hW : Ext w W) u (hu : Ints W u (cntsL l)) => consistentP_calls v u t (cntsL l) W (h.ext hW) hs hu)
 have HRV := Lib.hid hrv
 have HIL := Lib.hid hil
 have HLI := Lib.hid hl
 obtain ⟨ta, tc, rfl, htc⟩ := h.sh
 obtain ⟨ra, rc, rfl, hrc⟩ := hrv.sh
 obtain ⟨la, lc, rfl, hlc⟩ := hlv.sh
 have HX1 := Lib.hid ((Ext.rf w).al (.cells #[.slice ta t.length tc] 24))
 have HB1 := Lib.hid (heap_alloc_new w (.cells #[.slice ta t.length tc] 24))
 have t0 := cellOf HB1.out 0
 simp only [List.getElem?_toArray, List.getElem?_cons_zero] at t0
 have HED : Hid (lineE t r a l = if (validT t && (validK l && decide (l.length = t.length))) = false then 1 else if runB t r = false then 3 else if (decide (0 ≤ a) && decide (a < (r.length : Int))) = false then 2 else if recordedB l = false then 6 else 0) := Lib.hid rfl
 have HBD : Hid (lineB t r a l = if lineE t r a l = 0 then consB t (cntsL l) && leCB r[a.toNat]! (cntsL l) else false) := Lib.hid rfl
 generalize lineB t r a l = ans at *
 generalize lineE t r a l = er at *
 have hl1 := hl.1
 cases hv : validT t with
 | false =>
   rw [hv] at HV HED
   have HA : Hid (er = 1) := Lib.hid (by rw [HED.out]; rfl)
   have HB : Hid (ans = false) := Lib.hid (by rw [HBD.out, HA.out]; rfl)
   clear h hs hv htc hlv hl hrv hil hrc
   generalize t.length = N at *
   generalize l.length = n at *
   generalize r.length = rn at *
   go_enter Tryz.func32, Tryz.ntmps32
   go_wp2_with fail
   refine (HV.out _ HX1.out).mono ?_
   rintro e w2 ⟨rfl, hX2⟩
   have HX2 := Lib.hid (HX1.out.trans' hX2)
   go_wp2
   go_ret2
   exact ⟨by rw [HB.out, HA.out]; rfl, HX2.out⟩
 | true =>
   rw [hv] at HV HED HR
   cases hk : validK l with
   | false =>
     rw [hk] at HSV HED
     have HA : Hid (er = 1) := Lib.hid (by rw [HED.out]; rfl)
     have HB : Hid (ans = false) := Lib.hid (by rw [HBD.out, HA.out]; rfl)
     clear h hs hv htc hlv hl hk hrv hil hrc
     generalize t.length = N at *
     generalize l.length = n at *
     generalize r.length = rn at *
     go_enter Tryz.func32, Tryz.ntmps32
     go_wp2_with fail
     refine (HV.out _ HX1.out).mono ?_
     rintro e w2 ⟨rfl, hX2⟩
     have HX2 := Lib.hid (HX1.out.trans' hX2)
     have t2 := hX2.cl t0
     clear t0 hX2
     go_wp2_with fail
     refine (HSV.out _ HX2.out).mono ?_
     rintro e w3 ⟨rfl, hX3⟩
     have HX3 := Lib.hid (HX2.out.trans' hX3)
     go_wp2
     go_ret2
     exact ⟨by rw [HB.out, HA.out]; rfl, HX3.out⟩
   | true =>
     have hN8 := valid_8 hv
     have HRB := Lib.hid (recoB_iff (fun i hi => (valid_cnt hk i hi).1))
     unfold CntOut at HSC
     rw [HRB.out] at HSC
     rw [hk] at HSV HED
     by_cases hne : l.length = t.length
     case neg =>
      have HA : Hid (er = 1) := Lib.hid (by rw [HED.out, decide_eq_false hne]; rfl)
      have HB : Hid (ans = false) := Lib.hid (by rw [HBD.out, HA.out]; rfl)
      clear h hs hv htc hlv hl hk hrv hil hrc
      generalize t.length = N at *
      generalize l.length = n at *
      generalize r.length = rn at *
      have hq : ((n : Int) != (N : Int)) = true := by rw [bne_iff_ne]; omega
      clear hne
      go_enter Tryz.func32, Tryz.ntmps32
      go_wp2_with fail
      refine (HV.out _ HX1.out).mono ?_
      rintro e w2 ⟨rfl, hX2⟩
      have HX2 := Lib.hid (HX1.out.trans' hX2)
      have t2 := hX2.cl t0
      clear t0 hX2
      go_wp2_with fail
      refine (HSV.out _ HX2.out).mono ?_
      rintro e w3 ⟨rfl, hX3⟩
      have HX3 := Lib.hid (HX2.out.trans' hX3)
      have t3 := hX3.cl t2
      clear t2 hX3
      go_wp2
      go_ret2
      exact ⟨by rw [HB.out, HA.out]; rfl, HX3.out⟩
     case pos =>
      rw [decide_eq_true hne] at HED
      have hq : ((l.length : Int) != (t.length : Int)) = false := by rw [bne_eq_false_iff_eq]; omega
      cases hrun : runB t r with
      | false =>
        rw [hrun] at HR HED
        have HA : Hid (er = 3) := Lib.hid (by rw [HED.out, if_neg (by simp), if_pos rfl])
        have HB : Hid (ans = false) := Lib.hid (by rw [HBD.out, HA.out]; rfl)
        clear h hs hv htc hlv hl hk hrv hil hrc hne hrun
        generalize t.length = N at *
        generalize l.length = n at *
        generalize r.length = rn at *
        go_enter Tryz.func32, Tryz.ntmps32
        go_wp2_with fail
        refine (HV.out _ HX1.out).mono ?_
        rintro e w2 ⟨rfl, hX2⟩
        have HX2 := Lib.hid (HX1.out.trans' hX2)
        have t2 := hX2.cl t0
        clear t0 hX2
        go_wp2_with fail
        refine (HSV.out _ HX2.out).mono ?_
        rintro e w3 ⟨rfl, hX3⟩
        have HX3 := Lib.hid (HX2.out.trans' hX3)
        have t3 := hX3.cl t2
        clear t2 hX3
        go_wp2_with fail
        refine (HR.out _ HX3.out).mono ?_
        rintro e w4 ⟨rfl, hX4⟩
        have HX4 := Lib.hid (HX3.out.trans' hX4)
        go_wp2
        go_ret2
        exact ⟨by rw [HB.out, HA.out]; rfl, HX4.out⟩
      | true =>
        rw [hrun] at HR HED
        have HRR := Lib.hid (fun i (hi : i < r.length) => (run_rangeC hrun hi).1)
        by_cases ha0 : 0 ≤ a
        case neg =>
         have HA : Hid (er = 2) := Lib.hid (by rw [HED.out, if_neg (by simp), if_neg (by simp), decide_eq_false ha0]; rfl)
         have HB : Hid (ans = false) := Lib.hid (by rw [HBD.out, HA.out]; rfl)
         have d0 : decide (a < 0) = true := decide_eq_true (by omega)
         clear h hs hv htc hlv hl hk hrv hil hrc hne hrun ha0
         generalize t.length = N at *
         generalize l.length = n at *
         generalize r.length = rn at *
         go_enter Tryz.func32, Tryz.ntmps32
         go_wp2_with fail
         refine (HV.out _ HX1.out).mono ?_
         rintro e w2 ⟨rfl, hX2⟩
         have HX2 := Lib.hid (HX1.out.trans' hX2)
         have t2 := hX2.cl t0
         clear t0 hX2
         go_wp2_with fail
         refine (HSV.out _ HX2.out).mono ?_
         rintro e w3 ⟨rfl, hX3⟩
         have HX3 := Lib.hid (HX2.out.trans' hX3)
         have t3 := hX3.cl t2
         clear t2 hX3
         go_wp2_with fail
         refine (HR.out _ HX3.out).mono ?_
         rintro e w4 ⟨rfl, hX4⟩
         have HX4 := Lib.hid (HX3.out.trans' hX4)
         have t4 := hX4.cl t3
         clear t3 hX4
         go_wp2
         go_ret2
         exact ⟨by rw [HB.out, HA.out]; rfl, HX4.out⟩
        case pos =>
         rw [decide_eq_true ha0] at HED
         have d0 : decide (a < 0) = false := decide_eq_false (by omega)
         by_cases har : a < (r.length : Int)
         case neg =>
          have HA : Hid (er = 2) := Lib.hid (by rw [HED.out, if_neg (by simp), if_neg (by simp), decide_eq_false har]; rfl)
          have HB : Hid (ans = false) := Lib.hid (by rw [HBD.out, HA.out]; rfl)
          have d1 : decide ((r.length : Int) ≤ a) = true := decide_eq_true (by omega)
          clear h hs hv htc hlv hl hk hrv hil hrc hne hrun ha0 har
          generalize t.length = N at *
          generalize l.length = n at *
          generalize r.length = rn at *
          go_enter Tryz.func32, Tryz.ntmps32
          go_wp2_with fail
          refine (HV.out _ HX1.out).mono ?_
          rintro e w2 ⟨rfl, hX2⟩
          have HX2 := Lib.hid (HX1.out.trans' hX2)
          have t2 := hX2.cl t0
          clear t0 hX2
          go_wp2_with fail
          refine (HSV.out _ HX2.out).mono ?_
          rintro e w3 ⟨rfl, hX3⟩
          have HX3 := Lib.hid (HX2.out.trans' hX3)
          have t3 := hX3.cl t2
          clear t2 hX3
          go_wp2_with fail
          refine (HR.out _ HX3.out).mono ?_
          rintro e w4 ⟨rfl, hX4⟩
          have HX4 := Lib.hid (HX3.out.trans' hX4)
          have t4 := hX4.cl t3
          clear t3 hX4
          go_wp2
          go_ret2
          exact ⟨by rw [HB.out, HA.out]; rfl, HX4.out⟩
         case pos =>
          have d1 : decide ((r.length : Int) ≤ a) = false := decide_eq_false (by omega)
          obtain ⟨A, rfl⟩ : ∃ A : Nat, a = (A : Int) := ⟨a.toNat, by omega⟩
          have hAr : A < r.length := by omega
          have d1n : decide (r.length ≤ A) = false := decide_eq_false (by omega)
          rw [decide_eq_true har, Bool.and_self, if_neg (by decide), if_neg (by decide), if_neg (by decide)] at HED
          rw [Int.toNat_natCast] at HBD
          have HRA := Lib.hid (HRR.out A hAr)
          cases hr : recordedB l with
          | false =>
            rw [hr] at HSC HED
            have HA : Hid (er = 6) := Lib.hid (by rw [HED.out, if_pos rfl])
            have HB : Hid (ans = false) := Lib.hid (by rw [HBD.out, HA.out]; rfl)
            clear h hs hv htc hlv hl hk hrv hil hrc hne hrun ha0 har hr hAr
            generalize t.length = N at *
            generalize l.length = n at *
            generalize r.length = rn at *
            go_enter Tryz.func32, Tryz.ntmps32
            go_wp2_with fail
            refine (HV.out _ HX1.out).mono ?_
            rintro e w2 ⟨rfl, hX2⟩
            have HX2 := Lib.hid (HX1.out.trans' hX2)
            have t2 := hX2.cl t0
            clear t0 hX2
            go_wp2_with fail
            refine (HSV.out _ HX2.out).mono ?_
            rintro e w3 ⟨rfl, hX3⟩
            have HX3 := Lib.hid (HX2.out.trans' hX3)
            have t3 := hX3.cl t2
            clear t2 hX3
            go_wp2_with fail
            refine (HR.out _ HX3.out).mono ?_
            rintro e w4 ⟨rfl, hX4⟩
            have HX4 := Lib.hid (HX3.out.trans' hX4)
            have t4 := hX4.cl t3
            clear t3 hX4
            go_wp2_with fail
            refine (HSC.out _ HX4.out).mono ?_
            rintro e w5 ⟨v5, rfl, hR5, hX5⟩
            obtain ⟨ca, cc, rfl, hz5⟩ := hR5.any
            have HX5 := Lib.hid (HX4.out.trans' hX5)
            have HR5 := Lib.hid hR5
            have t5 := hX5.cl t4
            clear t4 hX5 hR5 hz5
            go_wp2
            go_ret2
            exact ⟨by rw [HB.out, HA.out]; rfl, HX5.out⟩
          | true =>
            rw [hr] at HSC HED
            have HA : Hid (er = 0) := Lib.hid (by rw [HED.out, if_neg (by simp)])
            rw [HA.out, if_pos rfl] at HBD
            have HCL := Lib.hid (cnts_len l)
            have HRL : Hid (r[A]!.length = l.length) := Lib.hid (HRA.out.trans hne.symm)
            obtain ⟨rB, rO, rcap, xa, xc, hve, _, _, hcell, hIu⟩ := rowAt HRV.out A hAr
            simp only [Value.slice.injEq] at hve
            obtain ⟨rfl, hz, rfl⟩ := hve
            have HCELL := Lib.hid hcell
            have HIU := Lib.hid hIu
            have HLE := Lib.hid (fun W (hW : Ext w W) u (hu : Ints W u (cntsL l)) => leqP_calls _ u r[A]! (cntsL l) W (HIU.out.ext hW) hu (HIL.out A hAr) (by rw [HCL.out]; omega))
            have hAz : (0 : Int) ≤ (A : Int) := by omega
            rw [HRL.out] at HCELL HIU HLE
            obtain ⟨cb, hcb⟩ : ∃ b, consB t (cntsL l) = b := ⟨_, rfl⟩
            obtain ⟨lb, hlb⟩ : ∃ b, leCB r[A]! (cntsL l) = b := ⟨_, rfl⟩
            rw [hcb] at HCO HBD
            rw [hlb] at HLE HBD
            clear h hs hv htc hlv hl hk hrv hil hrc hne hrun ha0 hr hz hcell hIu hcb hlb HRA HRL
            generalize t.length = N at *
            generalize l.length = n at *
            generalize r.length = rn at *
            go_enter Tryz.func32, Tryz.ntmps32
            go_wp2_with fail
            refine (HV.out _ HX1.out).mono ?_
            rintro e w2 ⟨rfl, hX2⟩
            have HX2 := Lib.hid (HX1.out.trans' hX2)
            have t2 := hX2.cl t0
            clear t0 hX2
            go_wp2_with fail
            refine (HSV.out _ HX2.out).mono ?_
            rintro e w3 ⟨rfl, hX3⟩
            have HX3 := Lib.hid (HX2.out.trans' hX3)
            have t3 := hX3.cl t2
            clear t2 hX3
            go_wp2_with fail
            refine (HR.out _ HX3.out).mono ?_
            rintro e w4 ⟨rfl, hX4⟩
            have HX4 := Lib.hid (HX3.out.trans' hX4)
            have t4 := hX4.cl t3
            clear t3 hX4
            go_wp2_with fail
            refine (HSC.out _ HX4.out).mono ?_
            rintro e w5 ⟨v5, rfl, hR5, hX5⟩
            obtain ⟨ca, cc, rfl, hz5⟩ := hR5.any
            have HX5 := Lib.hid (HX4.out.trans' hX5)
            have HR5 := Lib.hid hR5
            have t5 := hX5.cl t4
            clear t4 hX5 hR5 hz5
            have HI5 : Hid (Ints w5 (.slice ca n cc) (cntsL l)) := Lib.hid (by
             have h := HR5.out
             rw [← HCL.out] at h ⊢
             exact h.ints)
            go_wp2_with fail
            refine (HCO.out _ HX5.out _ HI5.out).mono ?_
            rintro e w6 ⟨rfl, hX6⟩
            have HX6 := Lib.hid (HX5.out.trans' hX6)
            have HI6 := Lib.hid (HI5.out.ext hX6)
            clear t5 hX6
            cases cb with
            | false =>
              have HB : Hid (ans = false) := Lib.hid (by rw [HBD.out]; rfl)
              go_wp2
              go_ret2
              exact ⟨by rw [HB.out, HA.out]; rfl, HX6.out⟩
            | true =>
              have q0 := HX6.out.cl HCELL.out
              have HB : Hid (ans = lb) := Lib.hid (by rw [HBD.out]; rfl)
              go_wp2_with fail
              refine (HLE.out _ HX6.out _ HI6.out).mono ?_
              rintro e w7 ⟨rfl, hX7⟩
              go_wp2
              go_ret2
              exact ⟨by rw [HB.out, HA.out]; rfl, HX6.out.trans' hX7⟩
end Go.Proofs.YtfagfooggcinoaaGreat
namespace Go.Proofs.YtfagfooggcinoaaGreat
open Go.RowKit
set_option linter.unusedVariables false
theorem under_len64 {t : Tr} {c : List Int} (hv : validT t = true) (hc : RangeC t c) {f : Nat} (hf : f < t.length) (q : Int) : (underC t c f q).length ≤ 64 := by
 have h1 := uwTo_len t c q f c[f]!.toNat
 have h2 := hc.at hf
 have h3 := valid_64 hv hf
 unfold underC
 omega
theorem cutM_lightE {t : Tr} {c : List Int} (hv : validT t = true) (hc : RangeC t c) : LightM (cutM t c) := by
 have h8 := (valid_8 hv).2
 refine ⟨by rw [cutM_len]; omega, fun i hi => ?_⟩
 rw [cutM_len] at hi
 rw [cutM_at hi]
 refine ⟨by simp only [List.length_replicate]; omega, by simp only [List.length_map, List.length_range]; omega, fun j hj => ?_⟩
 simp only [List.length_map, List.length_range] at hj
 simp only
 rw [mapR_at _ hj]
 have := under_len64 hv hc hj (i : Int)
 omega
end Go.Proofs.YtfagfooggcinoaaGreat
namespace Go.Proofs.YtfagfooggcinoaaGreat
open Go.RowKit
set_option linter.unusedVariables false
def wide12 (x : List Int) : Bool := decide (12 < x.length)
def shortB (r : List (List Int)) : Bool := decide (r.length ≤ 80) && !(r.any wide12)
theorem shortB_ok {r : List (List Int)} (h : shortB r = true) : r.length ≤ 80 ∧ ∀ i, i < r.length → r[i]!.length ≤ 12 := by
 unfold shortB at h
 rw [Bool.and_eq_true, decide_eq_true_eq, Bool.not_eq_true'] at h
 refine ⟨h.1, fun i hi => ?_⟩
 have h3 := List.any_eq_false.1 h.2 r[i]! (by rw [getElem!_pos r i hi]; exact List.getElem_mem hi)
 unfold wide12 at h3
 rw [decide_eq_true_eq] at h3
 omega
theorem enters_42 : ∀ args w, (callFunc 42 args).run Tryz.prog w = .ok (.enter 42 args) w := enters_of Tryz.func42 (by kernel_rfl) rfl
set_option maxHeartbeats 1000000 in
theorem short1_calls (vs : List Value) (x : List Int) (w : World) (hv : RInts w vs x) : Calls Tryz.prog 42 #[encOne vs] w fun e w' => e = .returned (.bool (wide12 x)) ∧ Ext w w' := by
 obtain ⟨u, rfl, a, c, rfl, hz⟩ := hv
 clear hz
 obtain ⟨r, hr⟩ : ∃ r, decide (12 < (x.length : Int)) = r := ⟨_, rfl⟩
 have HR : Hid (wide12 x = r) := Lib.hid (by unfold wide12; rw [← hr]; simp; omega)
 rw [HR.out]
 show Calls Tryz.prog 42 #[.slice a x.length c] w _
 generalize x.length = n at *
 go_enter Tryz.func42, Tryz.ntmps42
 go_wp2
 go_ret
 exact ⟨rfl, Ext.rf _⟩
set_option maxHeartbeats 2000000 in
theorem short_calls (v : Value) (r : List (List Int)) (w : World) (h : Sl RInts 1 w v r) :
  Calls Tryz.prog 11 #[v] w fun e w' => e = .returned (.bool (shortB r)) ∧ Ext w w' := by
 have HC := Lib.hid (fun (hn : r.length ≤ 80) => containsFunc_rows RInts rints_lasts 42 #[] enters_42 wide12 v r w h (by omega) (fun x _ W vs _ hR => short1_calls vs x W hR))
 obtain ⟨va, vcap, rfl, hvc⟩ := h.shape
 have HBM : Hid (shortB r = (decide (r.length ≤ 80) && !(r.any wide12))) := Lib.hid rfl
 generalize shortB r = ans at *
 generalize r.any wide12 = ab at *
 generalize r.length = n at *
 clear h
 by_cases h1 : n ≤ 80
 ·have d1 : decide ((n : Int) ≤ 80) = true := decide_eq_true (by omega)
  have d1n : decide (n ≤ 80) = true := decide_eq_true h1
  have HA : Hid (ans = !ab) := Lib.hid (by rw [HBM.out, d1n]; rfl)
  have HC2 := Lib.hid (HC.out h1)
  clear h1 HC
  go_enter Tryz.func11, Tryz.ntmps11
  go_wp2_with fail
  refine HC2.out.mono ?_
  rintro e w2 ⟨rfl, hX⟩
  go_wp2
  go_ret
  exact ⟨by rw [HA.out]; rfl, hX⟩
 ·have d1 : decide ((n : Int) ≤ 80) = false := decide_eq_false (by omega)
  have d1n : decide (n ≤ 80) = false := decide_eq_false h1
  have HA : Hid (ans = false) := Lib.hid (by rw [HBM.out, d1n]; rfl)
  clear h1 HC
  go_enter Tryz.func11, Tryz.ntmps11
  go_wp2
  go_ret
  exact ⟨by rw [HA.out]; rfl, Ext.rf _⟩
end Go.Proofs.YtfagfooggcinoaaGreat
