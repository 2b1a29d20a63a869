import Derived.Test.YtbpdbikphlhaiaaGreatDoorGa
import Derived.Test.YtbpdbikphlhaiaaGreatDoorProg
import Derived.Test.YtbpdbikphlhaiaaGreatDoorGb
import Derived.Test.YtbpdbikphlhaiaaGreatDoorGc
import Derived.BigQuiet
import Derived.Deep.QuietTactic
import Derived.Deep.LoopGhost
import Derived.Shelf.Abstract
import Derived.Deep.DeepCutAuto
import Derived.Deep.DrawnRows
import Derived.IntWalk
import Derived.Deep.RegionHeld3
import Derived.BigRegion
namespace Go.Proofs.YtbpdbikphlhaiaaGreatDoor
open Go.RowKit
set_option linter.unusedVariables false
attribute [local go_sem ↓] Go.wp_at_zero Go.wp_at_succ
theorem valueR_calls (x : Int) (w : World) : Calls Tryz.prog 63 #[.int .i64 x] w fun e w' => e = .returned (.bool (valueB x)) ∧ w' = w := by
 have hb : valueB x = (decide (-1073741824 ≤ x) && decide (x ≤ 1073741824)) := rfl
 have HB := Lib.hid hb
 generalize valueB x = b at *
 clear hb
 by_cases h1 : -1073741824 ≤ x <;> by_cases h2 : x ≤ 1073741824
 all_goals
  go_enter Tryz.func63, Tryz.ntmps63
  go_wp2
  go_ret
  refine ⟨?_, rfl⟩
  rw [HB.out]
  simp [h1, h2]
set_option maxHeartbeats 4000000 in
set_option maxRecDepth 100000 in
theorem headR_calls (v : Value) (t : Tr) (p : Nat) (w : World) (h : TrAt w v t) (hs : LooseTr t) (hp : p < t.length) :
  Calls Tryz.prog 43 #[.agg #[v], .int .i64 p] w fun e w' => ErrIff w w' e (headB t p) := by
 have HT := Lib.hid h
 obtain ⟨B, O, C, vv, ve, rfl, hlC, hB, hn0, hv0, he0, hV, hE0⟩ := proc_at h p hp
 obtain ⟨va, vc, rfl, hvc⟩ := hV.sh
 obtain ⟨ea, ec, rfl, hec⟩ := hE0.sh
 have hn := hs.1
 have hvn := (hs.2 p hp).1
 have HB := Lib.hid (@headB_parts t p)
 generalize hhb : headB t p = hb at *
 generalize hx : t[p]! = x at *
 generalize hln : t.length = n at *
 generalize hnv : x.vars.length = nv at *
 generalize hne : x.events.length = ne at *
 have HN := Lib.hid hln
 have HNV := Lib.hid hnv
 have HV := Lib.hid hV
 have HNM := Lib.hid (nameR_calls x.name)
 have HP := Lib.hid hp
 have hpz : (0 : Int) ≤ (p : Int) := by omega
 have hpi : (p : Int) < (n : Int) := by omega
 have hE1 : Ext w (w.alloc (.cells #[.slice (some ⟨B, O, none⟩) n C] 24)) := (Ext.rf w).al _
 have HX1 := Lib.hid (heap_new_eq (w := w.alloc (.cells #[.slice (some ⟨B, O, none⟩) n C] 24)) (o := .cells #[.string x.name, .slice va nv vc, .slice ea ne ec] 54) (b := w.heap.size + 1) (by simp))
 have HX0 := Lib.hid (((Ext.rf _).al (.cells #[.string x.name, .slice va nv vc, .slice ea ne ec] 54)).hp (heap_alloc_new w (.cells #[.slice (some ⟨B, O, none⟩) n C] 24)))
 have HE2 : Hid (Ext w ((w.alloc (.cells #[.slice (some ⟨B, O, none⟩) n C] 24)).alloc (.cells #[.string x.name, .slice va nv vc, .slice ea ne ec] 54))) := Lib.hid (((Ext.rf w).al _).al _)
 have hn1 := hE1.cl hn0
 have hv1 := hE1.cl hv0
 have he1 := hE1.cl he0
 have hT0 := cell_new w #[.slice (some ⟨B, O, none⟩) n C] 24 0 _ rfl
 clear hn0 hv0 he0 hV hE0 h hs hhb hE1 hx hln hnv hne
 cases hnm : nameB x.name with
 | false =>
   rw [hnm] at HNM
   obtain rfl : hb = false := by
    rw [Bool.eq_false_iff]; intro hbt; have := (HB.out.1 hbt).1; rw [hnm] at this; exact absurd this (by decide)
   clear hnm
   go_enter Tryz.func43, Tryz.ntmps43
   go_wp2_with fail
   refine (HNM.out _).mono ?_
   rintro e w2 ⟨rfl, rfl⟩
   go_wp2
   go_ret
   exact ⟨13, rfl, ⟨fun h => absurd h (by decide), fun h => absurd h (by decide)⟩, (by repeat (first | refine Ext.st ?_ (by first | exact Nat.le_refl _ | exact Nat.le_succ _ | assumption | omega) _ | refine Ext.al ?_ _ | refine Ext.dr ?_ | refine Ext.drN ?_ _ | exact Ext.rf _))⟩
 | true =>
   rw [hnm] at HNM
   have HNB := Lib.hid hnm
   clear hnm
   go_enter Tryz.func43, Tryz.ntmps43
   go_wp2_with fail
   generalize hw2 : (w.alloc (.cells #[.slice (some ⟨B, O, none⟩) n C] 24)).alloc (.cells #[.string x.name, .slice va nv vc, .slice ea ne ec] 54) = w2 at *
   clear hw2 hn1 hv1 he1 hT0
   refine (HNM.out _).mono ?_
   rintro e w2' ⟨rfl, rfl⟩
   go_wp2
   go_loopg [6] p (fun g s6 wr => ∃ q : Nat, q ≤ p ∧ p - q ≤ g ∧ s6 = .int .i64 q ∧ Aside (∀ j, j < q → (t[j]!.name.toList == x.name.toList) = false) ∧ Aside (Ext w2' wr))
   case atStart => exact ⟨0, Nat.zero_le _, by omega, rfl, (fun j hj => absurd hj (Nat.not_lt_zero _)), Ext.rf _⟩
   case round =>
    obtain ⟨q, hq, hg, rfl, A, HEK⟩ := hrel
    have HEW := Lib.hid (HE2.out.trans' HEK.out)
    have HXA := Lib.hid (HEK.out.hp HX0.out)
    have HXB := Lib.hid (HEK.out.hp HX1.out)
    by_cases hlt : q < p
    ·have hltz : (q : Int) < (p : Int) := by omega
     have hqz : (0 : Int) ≤ (q : Int) := by omega
     have hqi : (q : Int) < (n : Int) := by omega
     obtain ⟨_, _, _, _, _, hve, _, _, hqn0, _, _, _, _⟩ := proc_at HT.out q (by rw [HN.out]; omega)
     simp only [Value.slice.injEq, Option.some.injEq, Addr.mk.injEq, and_true] at hve
     obtain ⟨⟨rfl, rfl⟩, hzz, rfl⟩ := hve
     have hqn1 := HEW.out.cl hqn0
     have a0 := cellOf HXA.out 0
     have b0 := cellOf HXB.out 0
     simp only [List.getElem?_toArray, List.getElem?_cons_zero] at a0 b0
     have HALL := Lib.hid (fun hbt : hb = true => (HB.out.1 hbt).2.1 q hlt)
     generalize hy : t[q]! = y at *
     have HY := Lib.hid hy
     clear hqn0 hzz hy
     obtain ⟨bq, hbq⟩ : ∃ b, (y.name.toList == x.name.toList) = b := ⟨_, rfl⟩
     cases bq with
     | true =>
       obtain rfl : hb = false := by
        rw [Bool.eq_false_iff]; intro hbt; have := HALL.out hbt; rw [hbq] at this; exact absurd this (by decide)
       go_wp2
       go_quiet (fail)
       go_wp2
       go_ret
       exact ⟨13, rfl, ⟨fun h => absurd h (by decide), fun h => absurd h (by decide)⟩, HEW.out.drN _⟩
     | false =>
       have HBQ := Lib.hid hbq
       go_wp2
       go_quiet (fail)
       go_wp2
       go_roundg (p - (q + 1))
       case measure => omega
       case rel =>
        refine ⟨q + 1, by omega, by omega, by go_num, (show Aside _ from fun j hj => ?_), (show Ext _ _ from HEK.out.drN _)⟩
        by_cases e : j = q
        ·subst e; rw [HY.out]; exact HBQ.out
        ·exact A.out j (by omega)
    ·have hltz : ¬ (q : Int) < (p : Int) := by omega
     obtain rfl : q = p := by omega
     have HNO := Lib.hid A.out
     have b0 := cellOf HXB.out 0
     have b1 := cellOf HXB.out 1
     have b2 := cellOf HXB.out 2
     simp only [List.getElem?_toArray, List.getElem?_cons_zero, List.getElem?_cons_succ] at b0 b1 b2
     clear A
     by_cases h8 : 8 < nv
     ·have c8 : decide (8 < (nv : Int)) = true := by simp; omega
      have c8n : decide (8 < nv) = true := by simp; omega
      obtain rfl : hb = false := by
       rw [Bool.eq_false_iff]; intro hbt; have := (HB.out.1 hbt).2.2.1; omega
      go_wp2
      go_ret
      exact ⟨5, rfl, ⟨fun h => absurd h (by decide), fun h => absurd h (by decide)⟩, HEW.out⟩
     have c8 : decide (8 < (nv : Int)) = false := by simp; omega
     have c8n : decide (8 < nv) = false := by simp; omega
     go_wp2
     clear b0 b1 b2
     obtain ⟨wo, rfl⟩ : ∃ x, x = wr := ⟨_, rfl⟩
     go_loopg [7] nv (fun g s7 wr => ∃ k : Nat, k ≤ nv ∧ nv - k ≤ g ∧ s7 = .int .i64 k ∧ Aside (∀ j, j < k → varB x.vars j = true) ∧ Aside (Ext wo wr))
     case atStart => exact ⟨0, Nat.zero_le _, by omega, rfl, (fun j hj => absurd hj (Nat.not_lt_zero _)), Ext.rf _⟩
     case round =>
      obtain ⟨k, hk, hg2, rfl, A, HEL⟩ := hrel
      have HEX := Lib.hid (HEW.out.trans' HEL.out)
      have HXC := Lib.hid (HEL.out.hp HXB.out)
      have b0 := cellOf HXC.out 0
      have b1 := cellOf HXC.out 1
      have b2 := cellOf HXC.out 2
      simp only [List.getElem?_toArray, List.getElem?_cons_zero, List.getElem?_cons_succ] at b0 b1 b2
      by_cases hltk : k < nv
      ·have hltz : (k : Int) < (nv : Int) := by omega
       have hkz : (0 : Int) ≤ (k : Int) := by omega
       obtain ⟨VB, VO, VC, hve, _, hVB, hvn0, hvi0⟩ := var_at HV.out k (by rw [HNV.out]; exact hltk)
       simp only [Value.slice.injEq] at hve
       obtain ⟨rfl, hzz, rfl⟩ := hve
       have hvn1 := HEX.out.cl hvn0
       have HVP := Lib.hid (@varB_parts x.vars k)
       have HALL := Lib.hid (fun hbt : hb = true => (HB.out.1 hbt).2.2.2.1 k hltk)
       have HVI0 := Lib.hid hvi0
       generalize hy : x.vars[k]! = y at *
       have HY := Lib.hid hy
       have HNY := Lib.hid (nameR_calls y.name)
       have HVN0 := Lib.hid hvn0
       clear hvn0 hvi0 hzz hy
       obtain ⟨bn, hbn⟩ : ∃ b, nameB y.name = b := ⟨_, rfl⟩
       rw [hbn] at HNY
       have HBN := Lib.hid hbn
       clear hbn
       cases bn with
       | false =>
         obtain rfl : hb = false := by
          rw [Bool.eq_false_iff]; intro hbt; have := (HVP.out.1 (HALL.out hbt)).1.1; rw [HBN.out] at this; exact absurd this (by decide)
         go_wp2_with fail
         refine (HNY.out _).mono ?_
         rintro e w4 ⟨rfl, rfl⟩
         go_wp2
         go_ret
         exact ⟨13, rfl, ⟨fun h => absurd h (by decide), fun h => absurd h (by decide)⟩, HEX.out⟩
       | true =>
       go_wp2_with fail
       refine (HNY.out _).mono ?_
       rintro e w4 ⟨rfl, rfl⟩
       go_wp2
       clear b0 b1 b2 hvn1
       obtain ⟨wp, rfl⟩ : ∃ x, x = w4 := ⟨_, rfl⟩
       go_loopg [8] k (fun g s8 wr => ∃ j : Nat, j ≤ k ∧ k - j ≤ g ∧ s8 = .int .i64 j ∧ Aside (∀ i, i < j → (x.vars[i]!.name.toList == y.name.toList) = false) ∧ Aside (Ext wp wr))
       case atStart => exact ⟨0, Nat.zero_le _, by omega, rfl, (fun j hj => absurd hj (Nat.not_lt_zero _)), Ext.rf _⟩
       case round =>
        obtain ⟨j, hj, hg3, rfl, A2, HEM⟩ := hrel
        have HEY := Lib.hid (HEX.out.trans' HEM.out)
        have HXD := Lib.hid (HEM.out.hp HXC.out)
        have HVN1 := HEY.out.cl HVN0.out
        have HVI1 := HEY.out.cl HVI0.out
        have b0 := cellOf HXD.out 0
        have b1 := cellOf HXD.out 1
        have b2 := cellOf HXD.out 2
        simp only [List.getElem?_toArray, List.getElem?_cons_zero, List.getElem?_cons_succ] at b0 b1 b2
        by_cases hltj : j < k
        ·have hltz2 : (j : Int) < (k : Int) := by omega
         have hjz : (0 : Int) ≤ (j : Int) := by omega
         have hji : (j : Int) < (nv : Int) := by omega
         obtain ⟨_, _, _, hve, _, _, hjn0, _⟩ := var_at HV.out j (by rw [HNV.out]; omega)
         simp only [Value.slice.injEq, Option.some.injEq, Addr.mk.injEq, and_true] at hve
         obtain ⟨⟨rfl, rfl⟩, hzz, rfl⟩ := hve
         have hjn1 := HEY.out.cl hjn0
         have HALJ := Lib.hid (fun hbt : hb = true => (HVP.out.1 (HALL.out hbt)).1.2 j hltj)
         generalize hz : x.vars[j]! = z at *
         have HZ := Lib.hid hz
         clear hjn0 hzz hz HVI1
         obtain ⟨bq, hbq⟩ : ∃ b, (z.name.toList == y.name.toList) = b := ⟨_, rfl⟩
         cases bq with
         | true =>
           obtain rfl : hb = false := by
            rw [Bool.eq_false_iff]; intro hbt; have := HALJ.out hbt; rw [hbq] at this; exact absurd this (by decide)
           go_wp2
           go_quiet (fail)
           go_wp2
           go_ret
           exact ⟨13, rfl, ⟨fun h => absurd h (by decide), fun h => absurd h (by decide)⟩, HEY.out.drN _⟩
         | false =>
           have HBQ := Lib.hid hbq
           go_wp2
           go_quiet (fail)
           go_wp2
           go_roundg (k - (j + 1))
           case measure => omega
           case rel =>
            refine ⟨j + 1, by omega, by omega, by go_num, (show Aside _ from fun i hi => ?_), (show Ext _ _ from HEM.out.drN _)⟩
            by_cases e : i = j
            ·subst e; rw [HZ.out]; exact HBQ.out
            ·exact A2.out i (by omega)
        ·have hltz2 : ¬ (j : Int) < (k : Int) := by omega
         obtain rfl : j = k := by omega
         have HIB := Lib.hid (valueR_calls y.init)
         obtain ⟨bv, hbv⟩ : ∃ b, valueB y.init = b := ⟨_, rfl⟩
         rw [hbv] at HIB
         have HBV := Lib.hid hbv
         clear hbv
         cases bv with
         | false =>
           obtain rfl : hb = false := by
            rw [Bool.eq_false_iff]; intro hbt; have := (HVP.out.1 (HALL.out hbt)).2; rw [HBV.out] at this; exact absurd this (by decide)
           go_wp2_with fail
           refine (HIB.out _).mono ?_
           rintro e w5 ⟨rfl, rfl⟩
           go_wp2
           go_ret
           exact ⟨2, rfl, ⟨fun h => absurd h (by decide), fun h => absurd h (by decide)⟩, HEY.out⟩
         | true =>
           have HVB := Lib.hid (HVP.out.2 ⟨⟨HBN.out, A2.out⟩, HBV.out⟩)
           go_wp2_with fail
           refine (HIB.out _).mono ?_
           rintro e w5 ⟨rfl, rfl⟩
           go_wp2
           go_roundg (nv - (j + 1))
           case measure => omega
           case rel =>
            refine ⟨j + 1, by omega, by omega, by go_num, (show Aside _ from fun i hi => ?_), (show Ext _ _ from HEL.out.trans' HEM.out)⟩
            by_cases e : i = j
            ·subst e; exact HVB.out
            ·exact A.out i (by omega)
      ·have hltz : ¬ (k : Int) < (nv : Int) := by omega
       obtain rfl : k = nv := by omega
       by_cases h64 : 64 < ne
       ·have c64 : decide (64 < (ne : Int)) = true := by simp; omega
        have c64n : decide (64 < ne) = true := by simp; omega
        obtain rfl : hb = false := by
         rw [Bool.eq_false_iff]; intro hbt; have := (HB.out.1 hbt).2.2.2.2; omega
        go_wp2
        go_ret
        exact ⟨5, rfl, ⟨fun h => absurd h (by decide), fun h => absurd h (by decide)⟩, HEX.out⟩
       ·have c64 : decide (64 < (ne : Int)) = false := by simp; omega
        have c64n : decide (64 < ne) = false := by simp; omega
        obtain rfl : hb = true := HB.out.2 ⟨HNB.out, HNO.out, by omega, A.out, by omega⟩
        go_wp2
        go_ret
        exact ⟨0, rfl, ⟨fun _ => rfl, fun _ => rfl⟩, HEX.out⟩
end Go.Proofs.YtbpdbikphlhaiaaGreatDoor
namespace Go.Proofs.YtbpdbikphlhaiaaGreatDoor
open Go.RowKit
set_option linter.unusedVariables false
attribute [local go_sem ↓] Go.wp_at_zero Go.wp_at_succ
abbrev evB (a b c d : Int) (v : Value) : Obj := .cells #[.int .i64 a, .int .i64 b, .int .i64 c, .int .i64 d, v] 58
abbrev agB (a b : Int) : Obj := .cells #[.int .i64 a, .int .i64 b] 106
theorem formedB_iff {n p : Nat} {kd pe ms ti : Int} {al : List Asg} : formedB n p ⟨kd, pe, ms, ti, al⟩ = true ↔ (kd = 1 ∧ pe = 0 ∧ ms = 0) ∨ ((kd = 2 ∨ kd = 3) ∧ 0 ≤ pe ∧ pe < n ∧ pe ≠ p ∧ 0 ≤ ms ∧ ms ≤ 199) := by
 unfold formedB
 by_cases h : kd = 1
 ·simp [h]
 ·simp [h]
set_option maxHeartbeats 8000000 in
set_option maxRecDepth 100000 in
theorem formR_calls (v : Value) (t : Tr) (p i : Nat) (w : World) (h : TrAt w v t) (hs : SmallTr t) (hp : p < t.length) (hi : i < t[p]!.events.length) :
  Calls Tryz.prog 44 #[.agg #[v], .int .i64 p, .int .i64 i] w fun e w' => ErrIff w w' e (eventB t p i) := by
 have HT := Lib.hid h
 obtain ⟨B, O, C, vv, ve, rfl, hlC, hB, hn0, hv0, he0, hV, hE0⟩ := proc_at h p hp
 obtain ⟨xa, xc, rfl, hvc⟩ := hV.sh
 have HEV := Lib.hid hE0
 obtain ⟨EB, EO, EC, va, rfl, hlE, hEB, k0, k1, k2, k3, k4, ha⟩ := event_at hE0 i hi
 obtain ⟨ua, uc, rfl, huc⟩ := ha.sh
 have hn := hs.1
 have hvn := (hs.2 p hp).1
 have hen := (hs.2 p hp).2.1
 have han := (hs.2 p hp).2.2 i hi
 have HB := Lib.hid (@eventB_parts t p i)
 generalize hhb : eventB t p i = hb at *
 have HA := Lib.hid ha
 have HPREV := Lib.hid (fun hi0 : 0 < i => event_at hE0 (i - 1) (by omega))
 generalize hx : t[p]! = x at *
 have HEVE := Lib.hid hE0
 generalize hev : x.events[i]! = ev at *
 obtain ⟨kd, pe, ms, ti, al⟩ := ev
 simp only at *
 generalize hln : t.length = n at *
 generalize hnv : x.vars.length = nv at *
 generalize hne : x.events.length = ne at *
 generalize hua : al.length = na at *
 have HNA := Lib.hid hua
 have hpz : (0 : Int) ≤ (p : Int) := by omega
 have hpi : (p : Int) < (n : Int) := by omega
 have hiz : (0 : Int) ≤ (i : Int) := by omega
 have hii : (i : Int) < (ne : Int) := by omega
 have hE1 : Ext w (w.alloc (.cells #[.slice (some ⟨B, O, none⟩) n C] 24)) := (Ext.rf w).al _
 have HX1 := Lib.hid (heap_new_eq (w := w.alloc (.cells #[.slice (some ⟨B, O, none⟩) n C] 24)) (o := evB kd pe ms ti (.slice ua na uc)) (b := w.heap.size + 1) (by simp))
 have HX0 := Lib.hid (((Ext.rf _).al (evB kd pe ms ti (.slice ua na uc))).hp (heap_alloc_new w (.cells #[.slice (some ⟨B, O, none⟩) n C] 24)))
 have HE2 : Hid (Ext w ((w.alloc (.cells #[.slice (some ⟨B, O, none⟩) n C] 24)).alloc (evB kd pe ms ti (.slice ua na uc)))) := Lib.hid (((Ext.rf w).al _).al _)
 have HV0 := Lib.hid hv0
 have HE00 := Lib.hid he0
 have he1 := hE1.cl he0
 have m0 := hE1.cl k0
 have m1 := hE1.cl k1
 have m2 := hE1.cl k2
 have m3 := hE1.cl k3
 have m4 := hE1.cl k4
 have hT0 := cell_new w #[.slice (some ⟨B, O, none⟩) n C] 24 0 _ rfl
 clear hn0 hv0 he0 hV hE0 h hs ha hhb hE1 hx hln hnv hne hua hev k0 k1 k2 k3 k4 HEVE
 go_enter Tryz.func44, Tryz.ntmps44
 go_upto_if 22 with (fail)
 clear hT0 he1 m0 m1 m2 m3 m4
 generalize hw2 : (w.alloc (.cells #[.slice (some ⟨B, O, none⟩) n C] 24)).alloc (evB kd pe ms ti (.slice ua na uc)) = w2 at *
 clear hw2
 have z0 := cellOf HX1.out 0
 have z1 := cellOf HX1.out 1
 have z2 := cellOf HX1.out 2
 have z3 := cellOf HX1.out 3
 have z4 := cellOf HX1.out 4
 simp only [List.getElem?_toArray, List.getElem?_cons_zero, List.getElem?_cons_succ] at z0 z1 z2 z3 z4
 have t0 := cellOf HX0.out 0
 simp only [List.getElem?_toArray, List.getElem?_cons_zero] at t0
 go_cut [] (fun wx => wx = w2 ∧ Aside (formedB n p ⟨kd, pe, ms, ti, al⟩ = true))
 case first =>
  by_cases h1 : kd = 1
  ·have c1 : (kd == 1) = true := by simp [h1]
   by_cases h2 : pe = 0
   ·have c2 : (pe != 0) = false := by simp [h2]
    by_cases h3 : ms = 0
    ·have c3 : (ms != 0) = false := by simp [h3]
     have HFM := Lib.hid (show formedB n p ⟨kd, pe, ms, ti, al⟩ = true from formedB_iff.2 (.inl ⟨h1, h2, h3⟩))
     clear h1 h2 h3
     go_wp2
     go_meet
     exact ⟨rfl, HFM.out⟩
    ·have c3 : (ms != 0) = true := by simp [h3]
     obtain rfl : hb = false := by
      rw [Bool.eq_false_iff]; intro hbt; have h9 := (HB.out.1 hbt).1; rw [formedB_iff] at h9; omega
     go_wp2
     go_ret
     exact ⟨3, rfl, ⟨fun h => absurd h (by decide), fun h => absurd h (by decide)⟩, HE2.out⟩
   ·have c2 : (pe != 0) = true := by simp [h2]
    obtain rfl : hb = false := by
     rw [Bool.eq_false_iff]; intro hbt; have h9 := (HB.out.1 hbt).1; rw [formedB_iff] at h9; omega
    go_wp2
    go_ret
    exact ⟨3, rfl, ⟨fun h => absurd h (by decide), fun h => absurd h (by decide)⟩, HE2.out⟩
  ·by_cases h2 : kd = 2
   ·subst h2
    clear h1
    by_cases h3 : pe < 0
    ·
     obtain rfl : hb = false := by
      rw [Bool.eq_false_iff]; intro hbt; have h9 := (HB.out.1 hbt).1; rw [formedB_iff] at h9; omega
     go_wp2
     go_ret
     exact ⟨3, rfl, ⟨fun h => absurd h (by decide), fun h => absurd h (by decide)⟩, HE2.out⟩
    have h3 : 0 ≤ pe := by omega
    by_cases h4 : (n : Int) ≤ pe
    ·
     obtain rfl : hb = false := by
      rw [Bool.eq_false_iff]; intro hbt; have h9 := (HB.out.1 hbt).1; rw [formedB_iff] at h9; omega
     go_wp2
     go_ret
     exact ⟨3, rfl, ⟨fun h => absurd h (by decide), fun h => absurd h (by decide)⟩, HE2.out⟩
    have h4 : pe < (n : Int) := by omega
    by_cases h5 : pe = p
    ·have c5 : (pe == (p : Int)) = true := by simp [h5]
     obtain rfl : hb = false := by
      rw [Bool.eq_false_iff]; intro hbt; have h9 := (HB.out.1 hbt).1; rw [formedB_iff] at h9; omega
     go_wp2
     go_ret
     exact ⟨3, rfl, ⟨fun h => absurd h (by decide), fun h => absurd h (by decide)⟩, HE2.out⟩
    have c5 : (pe == (p : Int)) = false := by simp [h5]
    by_cases h6 : ms < 0
    ·
     obtain rfl : hb = false := by
      rw [Bool.eq_false_iff]; intro hbt; have h9 := (HB.out.1 hbt).1; rw [formedB_iff] at h9; omega
     go_wp2
     go_ret
     exact ⟨3, rfl, ⟨fun h => absurd h (by decide), fun h => absurd h (by decide)⟩, HE2.out⟩
    have h6 : 0 ≤ ms := by omega
    by_cases h7 : 199 < ms
    ·
     obtain rfl : hb = false := by
      rw [Bool.eq_false_iff]; intro hbt; have h9 := (HB.out.1 hbt).1; rw [formedB_iff] at h9; omega
     go_wp2
     go_ret
     exact ⟨3, rfl, ⟨fun h => absurd h (by decide), fun h => absurd h (by decide)⟩, HE2.out⟩
    have h7 : ms ≤ 199 := by omega
    have HFM := Lib.hid (show 0 ≤ pe ∧ pe < n ∧ pe ≠ p ∧ 0 ≤ ms ∧ ms ≤ 199 from ⟨h3, h4, h5, h6, h7⟩)
    clear h5
    go_wp2
    go_meet
    exact ⟨rfl, (show formedB n p ⟨_, pe, ms, ti, al⟩ = true from formedB_iff.2 (.inr ⟨by decide, HFM.out⟩))⟩
   ·by_cases h2b : kd = 3
    ·subst h2b
     clear h1 h2
     by_cases h3 : pe < 0
     ·
      obtain rfl : hb = false := by
       rw [Bool.eq_false_iff]; intro hbt; have h9 := (HB.out.1 hbt).1; rw [formedB_iff] at h9; omega
      go_wp2
      go_ret
      exact ⟨3, rfl, ⟨fun h => absurd h (by decide), fun h => absurd h (by decide)⟩, HE2.out⟩
     have h3 : 0 ≤ pe := by omega
     by_cases h4 : (n : Int) ≤ pe
     ·
      obtain rfl : hb = false := by
       rw [Bool.eq_false_iff]; intro hbt; have h9 := (HB.out.1 hbt).1; rw [formedB_iff] at h9; omega
      go_wp2
      go_ret
      exact ⟨3, rfl, ⟨fun h => absurd h (by decide), fun h => absurd h (by decide)⟩, HE2.out⟩
     have h4 : pe < (n : Int) := by omega
     by_cases h5 : pe = p
     ·have c5 : (pe == (p : Int)) = true := by simp [h5]
      obtain rfl : hb = false := by
       rw [Bool.eq_false_iff]; intro hbt; have h9 := (HB.out.1 hbt).1; rw [formedB_iff] at h9; omega
      go_wp2
      go_ret
      exact ⟨3, rfl, ⟨fun h => absurd h (by decide), fun h => absurd h (by decide)⟩, HE2.out⟩
     have c5 : (pe == (p : Int)) = false := by simp [h5]
     by_cases h6 : ms < 0
     ·
      obtain rfl : hb = false := by
       rw [Bool.eq_false_iff]; intro hbt; have h9 := (HB.out.1 hbt).1; rw [formedB_iff] at h9; omega
      go_wp2
      go_ret
      exact ⟨3, rfl, ⟨fun h => absurd h (by decide), fun h => absurd h (by decide)⟩, HE2.out⟩
     have h6 : 0 ≤ ms := by omega
     by_cases h7 : 199 < ms
     ·
      obtain rfl : hb = false := by
       rw [Bool.eq_false_iff]; intro hbt; have h9 := (HB.out.1 hbt).1; rw [formedB_iff] at h9; omega
      go_wp2
      go_ret
      exact ⟨3, rfl, ⟨fun h => absurd h (by decide), fun h => absurd h (by decide)⟩, HE2.out⟩
     have h7 : ms ≤ 199 := by omega
     have HFM := Lib.hid (show 0 ≤ pe ∧ pe < n ∧ pe ≠ p ∧ 0 ≤ ms ∧ ms ≤ 199 from ⟨h3, h4, h5, h6, h7⟩)
     clear h5
     go_wp2
     go_meet
     exact ⟨rfl, (show formedB n p ⟨_, pe, ms, ti, al⟩ = true from formedB_iff.2 (.inr ⟨by decide, HFM.out⟩))⟩
    ·have c1 : (kd == 1) = false := by simp [h1]
     have c2 : (kd != 2) = true := by simp [h2]
     have c3 : (kd != 3) = true := by simp [h2b]
     obtain rfl : hb = false := by
      rw [Bool.eq_false_iff]; intro hbt; have h9 := (HB.out.1 hbt).1; rw [formedB_iff] at h9; omega
     go_wp2
     go_ret
     exact ⟨3, rfl, ⟨fun h => absurd h (by decide), fun h => absurd h (by decide)⟩, HE2.out⟩
 case rest =>
  obtain ⟨hw, HFM⟩ := hcut
  have hw := hw.symm
  subst hw
  have he2 := HE2.out.cl HE00.out
  go_upto_region 7 with (fail)
  go_cut [95] (fun s95 wx => ∃ c : Bool, s95 = .bool c ∧ Aside (∃ q, wx = w2.drewN q) ∧ Aside ((c = true → hb = false) ∧ (c = false → 0 ≤ ti ∧ ti ≤ 1099511627776 ∧ (i = 0 ∨ x.events[i - 1]!.time ≤ ti))))
  case first =>
   by_cases h3 : ti < 0
   ·have HBF := Lib.hid (show hb = false from by
     rw [Bool.eq_false_iff]; intro hbt; have h9 := HB.out.1 hbt; omega)
    have d1 : decide (ti < 0) = true := decide_eq_true h3
    clear h3
    go_wp2
    go_quiet (fail)
    go_wp2
    go_meet
    exact ⟨true, rfl, (show Aside _ from ⟨_, rfl⟩), (show Aside _ from ⟨fun _ => HBF.out, fun h => absurd h (by decide)⟩)⟩
   have d1 : decide (ti < 0) = false := decide_eq_false h3
   by_cases h4 : 1099511627776 < ti
   ·have HBF := Lib.hid (show hb = false from by
     rw [Bool.eq_false_iff]; intro hbt; have h9 := HB.out.1 hbt; omega)
    have d2 : decide (1099511627776 < ti) = true := decide_eq_true h4
    clear h3 h4
    go_wp2
    go_quiet (fail)
    go_wp2
    go_meet
    exact ⟨true, rfl, (show Aside _ from ⟨_, rfl⟩), (show Aside _ from ⟨fun _ => HBF.out, fun h => absurd h (by decide)⟩)⟩
   have d2 : decide (1099511627776 < ti) = false := decide_eq_false h4
   by_cases hi0 : i = 0
   ·have HTM := Lib.hid (show 0 ≤ ti ∧ ti ≤ 1099511627776 ∧ (i = 0 ∨ x.events[i - 1]!.time ≤ ti) from ⟨by omega, by omega, .inl hi0⟩)
    have d3 : decide ((0 : Int) < (i : Int)) = false := decide_eq_false (by omega)
    have d3n : decide (0 < i) = false := decide_eq_false (by omega)
    clear h3 h4 hi0
    go_wp2
    go_quiet (fail)
    go_wp2
    go_meet
    exact ⟨false, rfl, (show Aside _ from ⟨_, rfl⟩), (show Aside _ from ⟨fun h => absurd h (by decide), fun _ => HTM.out⟩)⟩
   obtain ⟨EB', EO', EC', wv, hee, hz1, hz2, hz3, hz4, hz5, htm, hz6, hz7⟩ := HPREV.out (by omega)
   simp only [Value.slice.injEq, Option.some.injEq, Addr.mk.injEq, and_true] at hee
   obtain ⟨⟨rfl, rfl⟩, hz8, rfl⟩ := hee
   have htm1 := HE2.out.cl htm
   have i1 : (1 : Int) ≤ (i : Int) := by omega
   have i2 : 0 < i := by omega
   have i2b : 1 ≤ i := by omega
   have i3 : (0 : Int) ≤ (i : Int) - 1 := by omega
   have i5 : (i : Int) - 1 < (ne : Int) := by omega
   have i4 : ((i : Int) - 1).toNat = i - 1 := by omega
   have i6 : IntKind.i64.wrap ((i : Int) - 1) = (i : Int) - 1 := IntWalk.i64_in _ (by omega)
   have d3 : decide ((0 : Int) < (i : Int)) = true := decide_eq_true (by omega)
   have d3n : decide (0 < i) = true := decide_eq_true (by omega)
   clear hz1 hz2 hz3 hz4 hz5 hz6 hz7 hz8 htm
   generalize hpt : x.events[i - 1]!.time = pt at *
   by_cases h5 : ti < pt
   ·have HBF := Lib.hid (show hb = false from by
     rw [Bool.eq_false_iff]; intro hbt; have h9 := HB.out.1 hbt; omega)
    have d4 : decide (ti < pt) = true := decide_eq_true h5
    clear h3 h4 h5 hi0 hpt
    go_wp2
    go_quiet (fail)
    go_wp2
    go_meet
    exact ⟨true, rfl, (show Aside _ from ⟨_, rfl⟩), (show Aside _ from ⟨fun _ => HBF.out, fun h => absurd h (by decide)⟩)⟩
   have d4 : decide (ti < pt) = false := decide_eq_false h5
   have HTM := Lib.hid (show 0 ≤ ti ∧ ti ≤ 1099511627776 ∧ (i = 0 ∨ pt ≤ ti) from ⟨by omega, by omega, by omega⟩)
   clear h3 h4 h5 hi0 hpt
   go_wp2
   go_quiet (fail)
   go_wp2
   go_meet
   exact ⟨false, rfl, (show Aside _ from ⟨_, rfl⟩), (show Aside _ from ⟨fun h => absurd h (by decide), fun _ => HTM.out⟩)⟩
  case rest =>
   obtain ⟨cc, rfl, HQ, HTM0⟩ := hcut
   obtain ⟨q, rfl⟩ := HQ.out
   cases cc with
   | true =>
     obtain rfl : hb = false := HTM0.out.1 rfl
     go_wp2
     go_ret
     exact ⟨11, rfl, ⟨fun h => absurd h (by decide), fun h => absurd h (by decide)⟩, HE2.out.drN _⟩
   | false =>
   have HTM := Lib.hid (HTM0.out.2 rfl)
   clear HTM0
   have HX0 := Lib.hid (((Ext.rf w2).drN q).hp HX0.out)
   have HX1 := Lib.hid (((Ext.rf w2).drN q).hp HX1.out)
   have HE3 := Lib.hid (HE2.out.drN q)
   generalize w2.drewN q = w3 at *
   clear he2 HQ z0 z1 z2 z3 z4 t0
   have z0 := cellOf HX1.out 0
   have z1 := cellOf HX1.out 1
   have z2 := cellOf HX1.out 2
   have z3 := cellOf HX1.out 3
   have z4 := cellOf HX1.out 4
   simp only [List.getElem?_toArray, List.getElem?_cons_zero, List.getElem?_cons_succ] at z0 z1 z2 z3 z4
   by_cases h8 : 8 < na
   ·have c8 : decide (8 < (na : Int)) = true := by simp; omega
    have c8n : decide (8 < na) = true := by simp; omega
    obtain rfl : hb = false := by
     rw [Bool.eq_false_iff]; intro hbt; have := (HB.out.1 hbt).2.2.2.2.1; omega
    go_wp2
    go_ret
    exact ⟨5, rfl, ⟨fun h => absurd h (by decide), fun h => absurd h (by decide)⟩, HE3.out⟩
   have c8 : decide (8 < (na : Int)) = false := by simp; omega
   have c8n : decide (8 < na) = false := by simp; omega
   go_wp2
   clear z0 z1 z2 z3 z4
   go_loopg [8] na (fun g s8 wr => ∃ k : Nat, k ≤ na ∧ na - k ≤ g ∧ s8 = .int .i64 k ∧ Aside (∀ j, j < k → asgB nv al j = true) ∧ Aside (Ext w3 wr))
   case atStart => exact ⟨0, Nat.zero_le _, by omega, rfl, (fun j hj => absurd hj (Nat.not_lt_zero _)), Ext.rf _⟩
   case round =>
    obtain ⟨k, hk, hg, rfl, A, HEK⟩ := hrel
    have HEW := Lib.hid (HE3.out.trans' HEK.out)
    have HXA := Lib.hid (HEK.out.hp HX0.out)
    have HXB := Lib.hid (HEK.out.hp HX1.out)
    have z4 := cellOf HXB.out 4
    have t0 := cellOf HXA.out 0
    simp only [List.getElem?_toArray, List.getElem?_cons_zero, List.getElem?_cons_succ] at z4 t0
    by_cases hlt : k < na
    ·have hltz : (k : Int) < (na : Int) := by omega
     have hkz : (0 : Int) ≤ (k : Int) := by omega
     obtain ⟨AB, AO, AC, hae, _, hAB, hav0, haw0⟩ := asg_at HA.out k (by rw [HNA.out]; exact hlt)
     simp only [Value.slice.injEq] at hae
     obtain ⟨rfl, hzz, rfl⟩ := hae
     have hav1 := HEW.out.cl hav0
     have haw1 := HEW.out.cl haw0
     have hv2 := HEW.out.cl HV0.out
     have HAP := Lib.hid (@asgB_parts nv al k)
     have HALL := Lib.hid (fun hbt : hb = true => (HB.out.1 hbt).2.2.2.2.2 k hlt)
     generalize hy : al[k]! = y at *
     obtain ⟨yv, yw⟩ := y
     simp only at *
     have HY := Lib.hid hy
     have HBV := Lib.hid (heap_alloc_new wr (agB yv yw))
     have HXA2 := Lib.hid (((Ext.rf wr).al (agB yv yw)).hp HXA.out)
     have HXB2 := Lib.hid (((Ext.rf wr).al (agB yv yw)).hp HXB.out)
     have HEV2 := Lib.hid (HEW.out.al (agB yv yw))
     have HEK2 := Lib.hid (HEK.out.al (agB yv yw))
     have HIB := Lib.hid (valueR_calls yw)
     clear hav0 haw0 hzz hy
     have hwl : w.heap.size < wr.heap.size := (Array.getElem?_eq_some_iff.1 HXA.out).1
     have hwn : w.heap.size ≠ wr.heap.size := by omega
     have hBn : B < wr.heap.size := by omega
     have hBnn : B ≠ wr.heap.size := by omega
     have hABn : AB < wr.heap.size := by omega
     have hABnn : AB ≠ wr.heap.size := by omega
     go_wp2
     generalize hw4 : wr.alloc (agB yv yw) = w4 at *
     have hv3 := HEV2.out.cl HV0.out
     have y0 := cellOf HBV.out 0
     have y1 := cellOf HBV.out 1
     have t2 := cellOf HXA2.out 0
     simp only [List.getElem?_toArray, List.getElem?_cons_zero, List.getElem?_cons_succ] at y0 y1 t2
     clear hw4 z4 t0 hav1 haw1 hv2
     go_upto_region 15 with (fail)
     go_cut [132] (fun s132 wx => ∃ c : Bool, s132 = .bool c ∧ Aside (∃ q, wx = w4.drewN q) ∧ Aside ((c = true → hb = false) ∧ (c = false → 0 ≤ yv ∧ yv < nv ∧ valueB yw = true)))
     case first =>
      by_cases h3 : yv < 0
      ·have HBF := Lib.hid (show hb = false from by
        rw [Bool.eq_false_iff]; intro hbt; have h9 := HAP.out.1 (HALL.out hbt); omega)
       have d1 : decide (yv < 0) = true := decide_eq_true h3
       clear h3
       go_wp2
       go_quiet (fail)
       go_wp2
       go_meet
       exact ⟨true, rfl, (show Aside _ from ⟨_, rfl⟩), (show Aside _ from ⟨fun _ => HBF.out, fun h => absurd h (by decide)⟩)⟩
      have d1 : decide (yv < 0) = false := decide_eq_false h3
      by_cases h4 : (nv : Int) ≤ yv
      ·have HBF := Lib.hid (show hb = false from by
        rw [Bool.eq_false_iff]; intro hbt; have h9 := HAP.out.1 (HALL.out hbt); omega)
       have d2 : decide ((nv : Int) ≤ yv) = true := decide_eq_true h4
       clear h3 h4
       go_wp2
       go_quiet (fail)
       go_wp2
       go_meet
       exact ⟨true, rfl, (show Aside _ from ⟨_, rfl⟩), (show Aside _ from ⟨fun _ => HBF.out, fun h => absurd h (by decide)⟩)⟩
      have d2 : decide ((nv : Int) ≤ yv) = false := decide_eq_false h4
      have HVR := Lib.hid (show 0 ≤ yv ∧ yv < nv from ⟨by omega, by omega⟩)
      obtain ⟨bv, hbv⟩ : ∃ b, valueB yw = b := ⟨_, rfl⟩
      rw [hbv] at HIB
      have HBVL := Lib.hid hbv
      clear hbv h3 h4
      cases bv with
      | false =>
        have HBF := Lib.hid (show hb = false from by
         rw [Bool.eq_false_iff]; intro hbt; have h9 := (HAP.out.1 (HALL.out hbt)).2.2.1; rw [HBVL.out] at h9; exact absurd h9 (by decide))
        go_wp2
        go_quiet ((go_at_call 63; exact Calls.quiet_of_same (HIB.out _)))
        go_wp2
        go_meet
        exact ⟨true, rfl, (show Aside _ from ⟨_, rfl⟩), (show Aside _ from ⟨fun _ => HBF.out, fun h => absurd h (by decide)⟩)⟩
      | true =>
        go_wp2
        go_quiet ((go_at_call 63; exact Calls.quiet_of_same (HIB.out _)))
        go_wp2
        go_meet
        exact ⟨false, rfl, (show Aside _ from ⟨_, rfl⟩), (show Aside _ from ⟨fun h => absurd h (by decide), fun _ => ⟨HVR.out.1, HVR.out.2, HBVL.out⟩⟩)⟩
     case rest =>
      obtain ⟨cc, rfl, HQ, HTM2⟩ := hcut
      obtain ⟨q, rfl⟩ := HQ.out
      have HE4 := Lib.hid (HEV2.out.drN q)
      have HEK4 := Lib.hid (HEK2.out.drN q)
      have HBV4 := Lib.hid (((Ext.rf w4).drN q).hp HBV.out)
      have HXB4 := Lib.hid (((Ext.rf w4).drN q).hp HXB2.out)
      generalize w4.drewN q = w5 at *
      clear HQ y0 y1 t2 hv3
      cases cc with
      | true =>
        obtain rfl : hb = false := HTM2.out.1 rfl
        go_wp2
        go_ret
        exact ⟨2, rfl, ⟨fun h => absurd h (by decide), fun h => absurd h (by decide)⟩, HE4.out⟩
      | false =>
      have HTM3 := Lib.hid (HTM2.out.2 rfl)
      clear HTM2
      go_wp2
      obtain ⟨wo, rfl⟩ : ∃ x, x = wr := ⟨_, rfl⟩
      go_loopg [10] k (fun g2 s10 wr => ∃ j : Nat, j ≤ k ∧ k - j ≤ g2 ∧ s10 = .int .i64 j ∧ Aside (∀ r, r < j → decide (al[r]!.var = yv) = false) ∧ Aside (Ext w5 wr))
      case atStart => exact ⟨0, Nat.zero_le _, by omega, rfl, (fun r hr => absurd hr (Nat.not_lt_zero _)), Ext.rf _⟩
      case round =>
       obtain ⟨j, hj, hg2, rfl, A2, HEM⟩ := hrel
       have HEY := Lib.hid (HE4.out.trans' HEM.out)
       have HBV5 := Lib.hid (HEM.out.hp HBV4.out)
       have HXB5 := Lib.hid (HEM.out.hp HXB4.out)
       by_cases hltj : j < k
       ·have hltz2 : (j : Int) < (k : Int) := by omega
        have hjz : (0 : Int) ≤ (j : Int) := by omega
        have hja : (j : Int) < (na : Int) := by omega
        obtain ⟨_, _, _, hae, _, _, hjv0, _⟩ := asg_at HA.out j (by rw [HNA.out]; omega)
        simp only [Value.slice.injEq, Option.some.injEq, Addr.mk.injEq, and_true] at hae
        obtain ⟨⟨rfl, rfl⟩, hzz, rfl⟩ := hae
        have hjv1 := HEY.out.cl hjv0
        have z4 := cellOf HXB5.out 4
        have y0 := cellOf HBV5.out 0
        simp only [List.getElem?_toArray, List.getElem?_cons_zero, List.getElem?_cons_succ] at z4 y0
        have HALJ := Lib.hid (fun hbt : hb = true => (HAP.out.1 (HALL.out hbt)).2.2.2 j hltj)
        generalize hz : al[j]!.var = zv at *
        have HZ := Lib.hid hz
        clear hjv0 hzz hz
        obtain ⟨bq, hbq⟩ : ∃ b, (zv == yv) = b := ⟨_, rfl⟩
        have HBQ : Hid (decide (zv = yv) = bq) := Lib.hid (by rw [← hbq]; rfl)
        cases bq with
        | true =>
          obtain rfl : hb = false := by
           rw [Bool.eq_false_iff]; intro hbt; have := HALJ.out hbt; rw [HBQ.out] at this; exact absurd this (by decide)
          go_wp2
          go_quiet (fail)
          go_wp2
          go_ret
          exact ⟨8, rfl, ⟨fun h => absurd h (by decide), fun h => absurd h (by decide)⟩, HEY.out.drN _⟩
        | false =>
          go_wp2
          go_quiet (fail)
          go_wp2
          go_roundg (k - (j + 1))
          case measure => omega
          case rel =>
           refine ⟨j + 1, by omega, by omega, by go_num, (show Aside _ from fun r hr => ?_), (show Ext _ _ from HEM.out.drN _)⟩
           by_cases e : r = j
           ·subst e; rw [HZ.out]; exact HBQ.out
           ·exact A2.out r (by omega)
       ·have hltz2 : ¬ (j : Int) < (k : Int) := by omega
        obtain rfl : j = k := by omega
        have HOK := Lib.hid (HAP.out.2 ⟨HTM3.out.1, HTM3.out.2.1, HTM3.out.2.2, A2.out⟩)
        go_wp2
        go_roundg (na - (j + 1))
        case measure => omega
        case rel =>
         refine ⟨j + 1, by omega, by omega, by go_num, (show Aside _ from fun r hr => ?_), (show Ext _ _ from HEK4.out.trans' HEM.out)⟩
         by_cases e : r = j
         ·subst e; exact HOK.out
         ·exact A.out r (by omega)
    ·have hltz : ¬ (k : Int) < (na : Int) := by omega
     obtain rfl : k = na := by omega
     obtain rfl : hb = true := HB.out.2 ⟨HFM.out, HTM.out.1, HTM.out.2.1, HTM.out.2.2, by omega, A.out⟩
     go_wp2
     go_ret
     exact ⟨0, rfl, ⟨fun _ => rfl, fun _ => rfl⟩, HEW.out⟩
end Go.Proofs.YtbpdbikphlhaiaaGreatDoor
namespace Go.Proofs.YtbpdbikphlhaiaaGreatDoor
open Go.RowKit
set_option linter.unusedVariables false
attribute [local go_sem ↓] Go.wp_at_zero Go.wp_at_succ
theorem pairOf_parts {t : Tr} {x : Eid} : pairOf t x = true ↔ (ev t x).kind = 1 ∨ (findE t (ev t x).kind (ev t x).msg = some x ∧ ((ev t x).kind ≠ 3 ∨ sendsB t (ev t x).peer.toNat (ev t x).msg x.1 = true)) := by
 simp only [pairOf, Bool.or_eq_true, Bool.and_eq_true, decide_eq_true_eq]
theorem eid_same {o : Option Eid} {p i : Nat} : (eidA o = (p : Int) ∧ eidB o = (i : Int) + 1) ↔ o = some (p, i) := by
 cases o with
 | none => simp [eidA, eidB]; omega
 | some x =>
   obtain ⟨a, b⟩ := x
   simp only [eidA, eidB, Option.some.injEq, Prod.mk.injEq]
   omega
set_option maxHeartbeats 8000000 in
set_option maxRecDepth 100000 in
theorem pairedR_calls (v : Value) (t : Tr) (p i : Nat) (w : World) (h : TrAt w v t) (hs : SmallTr t) (hx : Inn t (p, i)) (hf : formedB t.length p (ev t (p, i)) = true) :
  Calls Tryz.prog 45 #[.agg #[v], .agg #[.int .i64 p, .int .i64 ((i : Int) + 1)]] w fun e w' => ErrIff w w' e (pairOf t (p, i)) := by
 obtain ⟨ix, hix⟩ : ∃ x : Int, (i : Int) + 1 = x := ⟨_, rfl⟩
 rw [hix]
 have HAT : Hid (∀ W, Ext w W → Calls Tryz.prog 64 #[.agg #[v], .agg #[.int .i64 p, .int .i64 ix]] W fun e w' => EvOut W w' e (ev t (p, i))) := Lib.hid (fun W hW => hix ▸ atR_calls v t p i W (h.ext hW) hs hx)
 have HFI := Lib.hid (fun W (hW : Ext w W) k m => findR_calls v t k m W (h.ext hW) hs)
 have HT := Lib.hid h
 have HS := Lib.hid hs
 obtain ⟨ta, tc, rfl, htc⟩ := h.sh
 have HB := Lib.hid (@pairOf_parts t (p, i))
 generalize hhb : pairOf t (p, i) = hb at *
 have hsame := @eid_same (findE t (ev t (p, i)).kind (ev t (p, i)).msg) p i
 generalize hy : ev t (p, i) = y at *
 obtain ⟨kd, pe, ms, ti, al⟩ := y
 simp only at *
 have HFM := Lib.hid hf
 have hn1 := hs.1
 have HSAME := Lib.hid hsame
 generalize hfe : findE t kd ms = fe at *
 have HFE := Lib.hid hfe
 generalize hln : t.length = n at *
 have HL := Lib.hid hln
 have HY := Lib.hid hy
 have HIX := Lib.hid hix
 have HX0 := Lib.hid (((Ext.rf _).al (.cells #[.int .i64 p, .int .i64 ix] 39)).hp (heap_alloc_new w (.cells #[.slice ta n tc] 24)))
 have HX1 := Lib.hid (heap_new_eq (w := w.alloc (.cells #[.slice ta n tc] 24)) (o := .cells #[.int .i64 p, .int .i64 ix] 39) (b := w.heap.size + 1) (by simp))
 have HE2 : Hid (Ext w ((w.alloc (.cells #[.slice ta n tc] 24)).alloc (.cells #[.int .i64 p, .int .i64 ix] 39))) := Lib.hid (((Ext.rf w).al _).al _)
 clear h hs hx hf hsame hfe hhb hy hln hix
 go_enter Tryz.func45, Tryz.ntmps45
 go_wp2_with fail
 generalize hw2 : (w.alloc (.cells #[.slice ta n tc] 24)).alloc (.cells #[.int .i64 p, .int .i64 ix] 39) = w2 at *
 clear hw2
 refine (HAT.out _ HE2.out).mono ?_
 rintro e w3 ⟨ua, uc, rfl, hE3⟩
 simp only
 generalize al.length = na
 have HE3 := Lib.hid (HE2.out.trans' hE3)
 have HXA3 := Lib.hid (hE3.hp HX0.out)
 have HXB3 := Lib.hid (hE3.hp HX1.out)
 have HB4 := Lib.hid (heap_alloc_new w3 (e5 (.int .i64 kd) (.int .i64 pe) (.int .i64 ms) (.int .i64 ti) (.slice ua na uc)))
 have HXA4 := Lib.hid (((Ext.rf w3).al (e5 (.int .i64 kd) (.int .i64 pe) (.int .i64 ms) (.int .i64 ti) (.slice ua na uc))).hp HXA3.out)
 have HXB4 := Lib.hid (((Ext.rf w3).al (e5 (.int .i64 kd) (.int .i64 pe) (.int .i64 ms) (.int .i64 ti) (.slice ua na uc))).hp HXB3.out)
 have HE4 := Lib.hid (HE3.out.al (e5 (.int .i64 kd) (.int .i64 pe) (.int .i64 ms) (.int .i64 ti) (.slice ua na uc)))
 clear hE3
 by_cases h1 : kd = 1
 ·have c1 : (kd == 1) = true := by simp [h1]
  obtain rfl : hb = true := HB.out.2 (.inl h1)
  clear h1
  go_wp2
  go_ret
  exact ⟨0, rfl, ⟨fun _ => rfl, fun _ => rfl⟩, HE4.out⟩
 have c1 : (kd == 1) = false := by simp [h1]
 have HK1 := Lib.hid h1
 clear h1
 go_wp2
 generalize hw4 : w3.alloc (.cells #[.int .i64 kd, .int .i64 pe, .int .i64 ms, .int .i64 ti, .slice ua na uc] 58) = w4 at *
 have hb3 : w3.heap.size < w4.heap.size := by rw [← hw4]; simp
 clear hw4
 have t0 := cellOf HXA4.out 0
 have j0 := cellOf HXB4.out 0
 have j1 := cellOf HXB4.out 1
 have y0 := cellOf HB4.out 0
 have y2 := cellOf HB4.out 2
 simp only [List.getElem?_toArray, List.getElem?_cons_zero, List.getElem?_cons_succ] at t0 j0 j1 y0 y2
 have HXA := Lib.hid (Ext.rf w4)
 have HFW : Hid (∀ W, Ext w W → Calls Tryz.prog 65 #[.agg #[.slice ta n tc], .int .i64 kd, .int .i64 ms] W fun e w' => e = .returned (.agg #[.int .i64 (eidA fe), .int .i64 (eidB fe)]) ∧ Ext W w') := Lib.hid (fun W hW => by have := HFI.out W hW kd ms; rw [HFE.out] at this; exact this)
 obtain ⟨za, hza⟩ : ∃ z, eidA fe = z := ⟨_, rfl⟩
 obtain ⟨zb, hzb⟩ : ∃ z, eidB fe = z := ⟨_, rfl⟩
 rw [hza, hzb] at HFW HSAME
 clear hza hzb HFI
 by_cases ha : za = (p : Int)
 ·subst ha
  by_cases hb2 : zb = ix
  ·have hb2 := hb2.symm
   subst hb2
   have HSM : Hid (fe = some (p, i)) := Lib.hid (HSAME.out.1 ⟨rfl, HIX.out.symm⟩)
   clear HSAME
   go_region_held3 (fun w' => w'.cell? ⟨w.heap.size, 0, none⟩ = some (.slice ta n tc) ∧ w'.cell? ⟨w.heap.size + 1, 0, none⟩ = some (.int .i64 p) ∧ w'.cell? ⟨w.heap.size + 1, 1, none⟩ = some (.int .i64 ix) ∧ w'.cell? ⟨w3.heap.size, 0, none⟩ = some (.int .i64 kd) ∧ w'.cell? ⟨w3.heap.size, 2, none⟩ = some (.int .i64 ms)) (go_keep)
    (first
     | (go_at_call 65
        refine (HFW.out _ (HE4.out.trans' (by repeat (first | refine Ext.st ?_ (by first | exact Nat.le_refl _ | exact Nat.le_succ _ | assumption | omega) _ | refine Ext.al ?_ _ | refine Ext.dr ?_ | refine Ext.drN ?_ _ | exact HXA.out)))).mono ?_
        rintro e wA ⟨rfl, hE⟩
        have hxA : Ext w4 wA := Ext.trans' (by repeat (first | refine Ext.st ?_ (by first | exact Nat.le_refl _ | exact Nat.le_succ _ | assumption | omega) _ | refine Ext.al ?_ _ | refine Ext.dr ?_ | refine Ext.drN ?_ _ | exact HXA.out)) hE
        have HXA := Lib.hid hxA
        have kt0 := hxA.cl t0
        have kj0 := hxA.cl j0
        have kj1 := hxA.cl j1
        have ky0 := hxA.cl y0
        have ky2 := hxA.cl y2
        clear hxA hE))
   have HZA := Lib.hid (HXA.out.hp HXA4.out)
   have HZB := Lib.hid (HXA.out.hp HXB4.out)
   have HZE := Lib.hid (HXA.out.hp HB4.out)
   have HEA := Lib.hid (HE4.out.trans' HXA.out)
   clear hb2 t0 j0 j1 y0 y2 kj0 kj1 ky2
   by_cases h3 : kd = 3
   ·have HQ := Lib.hid (show 0 ≤ pe ∧ pe < n ∧ 0 ≤ ms ∧ ms ≤ 199 from by have := HFM.out; subst h3; simp [formedB] at this; omega)
    subst h3
    obtain ⟨q, rfl⟩ : ∃ q : Nat, pe = q := ⟨pe.toNat, by have := HQ.out; omega⟩
    have hqn : q < n := by have := HQ.out; omega
    obtain ⟨_, _, TC, vv, ve, hve, hlC, hBB, hn0, hv0, he0, hV, hE0⟩ := proc_at HT.out q (by rw [HL.out]; exact hqn)
    simp only [Value.slice.injEq] at hve
    obtain ⟨rfl, hzz, rfl⟩ := hve
    obtain ⟨ea, ec, rfl, hec⟩ := hE0.sh
    have hen := (HS.out.2 q (by rw [HL.out]; exact hqn)).2.1
    have HEV := Lib.hid hE0
    have HE00 := Lib.hid he0
    have HSB : Hid (hb = true ↔ t[q]!.events.any (fun s => decide (s.kind = 2) && (decide (s.msg = ms) && decide (s.peer = (p : Int)))) = true) := Lib.hid (by
     rw [HB.out]
     constructor
     ·rintro (h9 | ⟨_, h9 | h9⟩)
      ·exact absurd h9 (by decide)
      ·exact absurd rfl h9
      ·exact h9
     ·intro h9; exact .inr ⟨HSM.out, .inr h9⟩)
    have hqz : (0 : Int) ≤ (q : Int) := by omega
    have hqi : (q : Int) < (n : Int) := by omega
    generalize hxx : t[q]! = x at *
    generalize hne : x.events.length = ne at *
    have HNE := Lib.hid hne
    have he1 := HEA.out.cl he0
    clear hn0 hv0 hV hE0 hzz hxx hne he0
    go_wp2
    clear kt0 ky0 he1
    go_loopg [6, 7] ne (fun g s6 s7 wr => ∃ j : Nat, j ≤ ne ∧ ne - j ≤ g ∧ s7 = .int .i64 j ∧ ∃ b : Bool, s6 = .bool b ∧ Aside (b = (x.events.take j).any (fun s => decide (s.kind = 2) && (decide (s.msg = ms) && decide (s.peer = (p : Int))))) ∧ Aside (Ext wA wr))
    case atStart => exact ⟨0, Nat.zero_le _, by omega, rfl, false, rfl, (show _ = _ from by simp), Ext.rf _⟩
    case round =>
     obtain ⟨j, hj, hg, rfl, b, rfl, A, HEK⟩ := hrel
     have HEW := Lib.hid (HEA.out.trans' HEK.out)
     have HYA := Lib.hid (HEK.out.hp HZA.out)
     have HYB := Lib.hid (HEK.out.hp HZB.out)
     have HYE := Lib.hid (HEK.out.hp HZE.out)
     have t0 := cellOf HYA.out 0
     have y1 := cellOf HYE.out 1
     simp only [List.getElem?_toArray, List.getElem?_cons_zero, List.getElem?_cons_succ] at t0 y1
     have he1 := HEW.out.cl HE00.out
     by_cases hlt : j < ne
     ·have hltz : (j : Int) < (ne : Int) := by omega
      have hjz : (0 : Int) ≤ (j : Int) := by omega
      obtain ⟨EB, EO, EC, va, hee, hlE, hEB, k0, k1, k2, k3, k4, ha⟩ := event_at HEV.out j (by rw [HNE.out]; exact hlt)
      simp only [Value.slice.injEq] at hee
      obtain ⟨rfl, hzz, rfl⟩ := hee
      obtain ⟨va1, va2, rfl, _⟩ := ha.sh
      have m0 := HEW.out.cl k0
      have m1 := HEW.out.cl k1
      have m2 := HEW.out.cl k2
      have m3 := HEW.out.cl k3
      have m4 := HEW.out.cl k4
      have HTK := Lib.hid (take_snoc' x.events j (by rw [HNE.out]; exact hlt))
      generalize hyv : x.events[j]! = y at *
      generalize y.asg.length = nb at *
      have HBE := Lib.hid (heap_alloc_new wr (e5 (.int .i64 y.kind) (.int .i64 y.peer) (.int .i64 y.msg) (.int .i64 y.time) (.slice va1 nb va2)))
      have HYB2 := Lib.hid (((Ext.rf wr).al (e5 (.int .i64 y.kind) (.int .i64 y.peer) (.int .i64 y.msg) (.int .i64 y.time) (.slice va1 nb va2))).hp HYB.out)
      have HYE2 := Lib.hid (((Ext.rf wr).al (e5 (.int .i64 y.kind) (.int .i64 y.peer) (.int .i64 y.msg) (.int .i64 y.time) (.slice va1 nb va2))).hp HYE.out)
      have HEK2 := Lib.hid (HEK.out.al (e5 (.int .i64 y.kind) (.int .i64 y.peer) (.int .i64 y.msg) (.int .i64 y.time) (.slice va1 nb va2)))
      clear k0 k1 k2 k3 k4 hzz ha hyv
      go_upto_region 12 with (fail)
      generalize hw6 : wr.alloc (e5 (.int .i64 y.kind) (.int .i64 y.peer) (.int .i64 y.msg) (.int .i64 y.time) (.slice va1 nb va2)) = w6 at *
      clear hw6 t0 y1 he1 m0 m1 m2 m3 m4
      have z0 := cellOf HBE.out 0
      have z1 := cellOf HBE.out 1
      have z2 := cellOf HBE.out 2
      have j0 := cellOf HYB2.out 0
      have y2 := cellOf HYE2.out 2
      simp only [List.getElem?_toArray, List.getElem?_cons_zero, List.getElem?_cons_succ] at z0 z1 z2 j0 y2
      obtain ⟨c1, hd1⟩ : ∃ b, (y.kind == 2) = b := ⟨_, rfl⟩
      obtain ⟨c2, hd2⟩ : ∃ b, (y.msg == ms) = b := ⟨_, rfl⟩
      obtain ⟨c3, hd3⟩ : ∃ b, (y.peer == (p : Int)) = b := ⟨_, rfl⟩
      have HNX : Hid ((x.events.take (j + 1)).any (fun s => decide (s.kind = 2) && (decide (s.msg = ms) && decide (s.peer = (p : Int)))) = (b || (c1 && (c2 && c3)))) := Lib.hid (by
       rw [HTK.out, List.any_append, ← A.out, ← hd1, ← hd2, ← hd3]; simp; rfl)
      cases b with
      | true =>
        go_wp2
        go_roundg (ne - (j + 1))
        case measure => omega
        case rel => exact ⟨j + 1, by omega, by omega, by go_num, _, rfl, (show _ = _ from by rw [HNX.out]; rfl), (show Ext _ _ from HEK2.out)⟩
      | false =>
        cases c1 <;> cases c2 <;> cases c3
        all_goals
         go_wp2
         go_roundg (ne - (j + 1))
         case measure => omega
         case rel => exact ⟨j + 1, by omega, by omega, by go_num, _, rfl, (show _ = _ from by rw [HNX.out]; rfl), (show Ext _ _ from HEK2.out)⟩
     ·have hltz : ¬ (j : Int) < (ne : Int) := by omega
      obtain rfl : j = ne := by omega
      have HBB : Hid (hb = b) := Lib.hid (by
       have h9 := A.out
       rw [← HNE.out, List.take_length] at h9
       have h8 := HSB.out
       rw [← h9] at h8
       cases hb <;> cases b <;> simp at h8 ⊢)
      cases b with
      | false =>
        obtain rfl : hb = false := HBB.out
        go_wp2
        go_ret
        exact ⟨7, rfl, ⟨fun h => absurd h (by decide), fun h => absurd h (by decide)⟩, HEW.out⟩
      | true =>
        obtain rfl : hb = true := HBB.out
        go_wp2
        go_ret
        exact ⟨0, rfl, ⟨fun _ => rfl, fun _ => rfl⟩, HEW.out⟩
   ·have c3 : (kd == 3) = false := by simp [h3]
    obtain rfl : hb = true := HB.out.2 (.inr ⟨HSM.out, .inl h3⟩)
    clear h3
    go_wp2
    go_ret
    exact ⟨0, rfl, ⟨fun _ => rfl, fun _ => rfl⟩, HEA.out⟩
  ·have c2 : (zb == ix) = false := by simp [hb2]
   have c3 : (zb != ix) = true := by simp [hb2]
   have HNS := Lib.hid (show ¬ fe = some (p, i) from fun e => hb2 ((HSAME.out.2 e).2.trans HIX.out))
   go_region_held3 (fun w' => w'.cell? ⟨w.heap.size, 0, none⟩ = some (.slice ta n tc) ∧ w'.cell? ⟨w.heap.size + 1, 0, none⟩ = some (.int .i64 p) ∧ w'.cell? ⟨w.heap.size + 1, 1, none⟩ = some (.int .i64 ix) ∧ w'.cell? ⟨w3.heap.size, 0, none⟩ = some (.int .i64 kd) ∧ w'.cell? ⟨w3.heap.size, 2, none⟩ = some (.int .i64 ms)) (go_keep)
    (first
     | (go_at_call 65
        refine (HFW.out _ (HE4.out.trans' (by repeat (first | refine Ext.st ?_ (by first | exact Nat.le_refl _ | exact Nat.le_succ _ | assumption | omega) _ | refine Ext.al ?_ _ | refine Ext.dr ?_ | refine Ext.drN ?_ _ | exact HXA.out)))).mono ?_
        rintro e wA ⟨rfl, hE⟩
        have hxA : Ext w4 wA := Ext.trans' (by repeat (first | refine Ext.st ?_ (by first | exact Nat.le_refl _ | exact Nat.le_succ _ | assumption | omega) _ | refine Ext.al ?_ _ | refine Ext.dr ?_ | refine Ext.drN ?_ _ | exact HXA.out)) hE
        have HXA := Lib.hid hxA
        have kt0 := hxA.cl t0
        have kj0 := hxA.cl j0
        have kj1 := hxA.cl j1
        have ky0 := hxA.cl y0
        have ky2 := hxA.cl y2
        clear hxA hE))
   all_goals
    obtain rfl : hb = false := by
     rw [Bool.eq_false_iff]; intro hbt; rcases HB.out.1 hbt with h9 | h9; exact HK1.out h9; exact HNS.out h9.1
    go_wp2
    go_ret
    exact ⟨8, rfl, ⟨fun h => absurd h (by decide), fun h => absurd h (by decide)⟩, HE4.out.trans' (by repeat (first | refine Ext.st ?_ (by first | exact Nat.le_refl _ | exact Nat.le_succ _ | assumption | omega) _ | refine Ext.al ?_ _ | refine Ext.dr ?_ | refine Ext.drN ?_ _ | exact HXA.out))⟩
 ·have c2 : (za == (p : Int)) = false := by simp [ha]
  have c3 : (za != (p : Int)) = true := by simp [ha]
  have HNS := Lib.hid (show ¬ fe = some (p, i) from fun e => ha (HSAME.out.2 e).1)
  go_region_held3 (fun w' => w'.cell? ⟨w.heap.size, 0, none⟩ = some (.slice ta n tc) ∧ w'.cell? ⟨w.heap.size + 1, 0, none⟩ = some (.int .i64 p) ∧ w'.cell? ⟨w.heap.size + 1, 1, none⟩ = some (.int .i64 ix) ∧ w'.cell? ⟨w3.heap.size, 0, none⟩ = some (.int .i64 kd) ∧ w'.cell? ⟨w3.heap.size, 2, none⟩ = some (.int .i64 ms)) (go_keep)
   (first
    | (go_at_call 65
       refine (HFW.out _ (HE4.out.trans' (by repeat (first | refine Ext.st ?_ (by first | exact Nat.le_refl _ | exact Nat.le_succ _ | assumption | omega) _ | refine Ext.al ?_ _ | refine Ext.dr ?_ | refine Ext.drN ?_ _ | exact HXA.out)))).mono ?_
       rintro e wA ⟨rfl, hE⟩
       have hxA : Ext w4 wA := Ext.trans' (by repeat (first | refine Ext.st ?_ (by first | exact Nat.le_refl _ | exact Nat.le_succ _ | assumption | omega) _ | refine Ext.al ?_ _ | refine Ext.dr ?_ | refine Ext.drN ?_ _ | exact HXA.out)) hE
       have HXA := Lib.hid hxA
       have kt0 := hxA.cl t0
       have kj0 := hxA.cl j0
       have kj1 := hxA.cl j1
       have ky0 := hxA.cl y0
       have ky2 := hxA.cl y2
       clear hxA hE))
  all_goals
   obtain rfl : hb = false := by
    rw [Bool.eq_false_iff]; intro hbt; rcases HB.out.1 hbt with h9 | h9; exact HK1.out h9; exact HNS.out h9.1
   go_wp2
   go_ret
   exact ⟨8, rfl, ⟨fun h => absurd h (by decide), fun h => absurd h (by decide)⟩, HE4.out.trans' (by repeat (first | refine Ext.st ?_ (by first | exact Nat.le_refl _ | exact Nat.le_succ _ | assumption | omega) _ | refine Ext.al ?_ _ | refine Ext.dr ?_ | refine Ext.drN ?_ _ | exact HXA.out))⟩
end Go.Proofs.YtbpdbikphlhaiaaGreatDoor
namespace Go.Proofs.YtbpdbikphlhaiaaGreatDoor
open Go.RowKit
set_option linter.unusedVariables false
attribute [local go_sem ↓] Go.wp_at_zero Go.wp_at_succ
def Peel (t : Tr) (D : List Nat) : Prop := D.length = t.length ∧ ∀ q, q < t.length → D[q]! ≤ t[q]!.events.length ∧ ∀ i, i < D[q]! → Acc (Dir t) (q, i)
def remT (t : Tr) (D : List Nat) : Nat := ((List.range t.length).map fun q => t[q]!.events.length - D[q]!).sum
theorem sum_lt {l : List Nat} {f g : Nat → Nat} (h : ∀ x, x ∈ l → f x ≤ g x) {a : Nat} (ha : a ∈ l) (hlt : f a < g a) : (l.map f).sum < (l.map g).sum := by
 induction l with
 | nil => simp at ha
 | cons b l ih =>
   simp only [List.map_cons, List.sum_cons]
   have hb := h b (by simp)
   have hle : ∀ (l : List Nat), (∀ x, x ∈ l → f x ≤ g x) → (l.map f).sum ≤ (l.map g).sum := by
    intro l
    induction l with
    | nil => intro _; simp
    | cons c l ih => intro h; simp only [List.map_cons, List.sum_cons]; have := h c (by simp); have := ih fun x hx => h x (by simp [hx]); omega
   have hl := hle l fun x hx => h x (by simp [hx])
   rcases List.mem_cons.1 ha with rfl | ha
   ·omega
   ·have := ih (fun x hx => h x (by simp [hx])) ha; omega
theorem get_set {D : List Nat} {p q v : Nat} (hp : p < D.length) : (D.set p v)[q]! = if q = p then v else D[q]! := by
 by_cases e : q = p
 ·subst e; rw [if_pos rfl, getElem!_pos (D.set q v) q (by simpa using hp)]; simp
 ·rw [if_neg e]
  by_cases hq : q < D.length
  ·rw [getElem!_pos (D.set p v) q (by simpa using hq), getElem!_pos D q hq, List.getElem_set_ne (fun h => e h.symm)]
  ·rw [getElem!_neg (D.set p v) q (by simpa using hq), getElem!_neg D q hq]
theorem Peel.start (t : Tr) : Peel t (List.replicate t.length 0) := ⟨by simp, fun q hq => by
 have e : (List.replicate t.length 0)[q]! = 0 := by rw [getElem!_pos (List.replicate t.length 0) q (by simpa using hq)]; simp
 rw [e]; exact ⟨by omega, fun i hi => by omega⟩⟩
theorem Peel.step {t : Tr} {D : List Nat} (h : Peel t D) {p : Nat} (hp : p < t.length) (hi : D[p]! < t[p]!.events.length) (hs : ∀ s, (ev t (p, D[p]!)).kind = 3 → findE t 2 (ev t (p, D[p]!)).msg = some s → s.2 < D[s.1]!) :
  Peel t (D.set p (D[p]! + 1)) ∧ remT t (D.set p (D[p]! + 1)) < remT t D := by
 have hpD : p < D.length := by rw [h.1]; exact hp
 refine ⟨⟨by rw [List.length_set]; exact h.1, fun q hq => ?_⟩, ?_⟩
 ·rw [get_set hpD]
  by_cases e : q = p
  ·subst e
   rw [if_pos rfl]
   refine ⟨by omega, fun i hi2 => ?_⟩
   by_cases e2 : i = D[q]!
   ·subst e2
    refine acc_step (fun j hj => (h.2 q hq).2 j hj) (fun s h1 h2 => ?_)
    exact (h.2 s.1 (findE_some h2).1.1).2 s.2 (hs s h1 h2)
   ·exact (h.2 q hq).2 i (by omega)
  ·rw [if_neg e]; exact h.2 q hq
 ·refine sum_lt (fun q hq => ?_) (List.mem_range.2 hp) ?_
  ·rw [get_set hpD]; split
   ·rename_i e; subst e; omega
   ·omega
  ·rw [get_set hpD, if_pos rfl]; omega
theorem Peel.all {t : Tr} {D : List Nat} (h : Peel t D) (hd : ∀ q, q < t.length → ¬ D[q]! < t[q]!.events.length) : ¬ Cyc t := by
 refine acc_no_cyc fun x hx => ?_
 have := (h.2 x.1 hx.1)
 exact this.2 x.2 (by have := hd x.1 hx.1; have := hx.2; omega)
def AcyOut (t : Tr) (w w' : World) (e : Ending) : Prop := ∃ c : Bool, e = .returned (.bool c) ∧ (c = true → ¬ Cyc t) ∧ Ext w w'
abbrev natsV (D : List Nat) : List Value := D.map fun (k : Nat) => Value.int .i64 (k : Int)
theorem natsV_at {D : List Nat} {q : Nat} (hq : q < D.length) : (natsV D)[q]? = some (.int .i64 (D[q]! : Int)) := by
 rw [List.getElem?_map, List.getElem?_eq_getElem hq, getElem!_pos D q hq]; rfl
theorem natsV_set {D : List Nat} {q v : Nat} : (natsV D).set q (.int .i64 (v : Int)) = natsV (D.set q v) := by
 simp [natsV, List.map_set]
theorem info_int3 : (Tryz.prog.info? 3).map (fun i => (i.zero, i.size, i.bytes)) = some (some (.int .i64 0), 1, 8) := by kernel_rfl
set_option maxHeartbeats 8000000 in
set_option maxRecDepth 100000 in
theorem acyclicR_calls (v : Value) (t : Tr) (w : World) (h : TrAt w v t) (hs : SmallTr t) : Calls Tryz.prog 46 #[.agg #[v]] w fun e w' => AcyOut t w w' e := by
 have HT := Lib.hid h
 have HS := Lib.hid hs
 have HFI := Lib.hid (fun W (hW : Ext w W) m => findR_calls v t 2 m W (h.ext hW) hs)
 obtain ⟨ta, tc, rfl, htc⟩ := h.sh
 have hn1 := hs.1
 have HPS := Lib.hid (Peel.start t)
 generalize hln : t.length = n at *
 have HL := Lib.hid hln
 obtain ⟨ii, hii, iz0, iz1, iz2⟩ := info_parts info_int3
 have HX0 := Lib.hid (heap_alloc_new w (.cells #[.slice ta n tc] 24))
 have HE1 := Lib.hid ((Ext.rf w).al (.cells #[.slice ta n tc] 24))
 clear h hs hln
 go_enter Tryz.func46, Tryz.ntmps46
 go_wp2_with ((at_make; refine wpList_make_full _ rfl _ _ 25 rfl w.heap.size 3 ii (.int .i64 0) 1 Tryz.underlying25 hii iz0 iz1 .i64 .i64 _ _ n rfl rfl rfl rfl (by rw [iz2]; omega) (by unfold maxLen; omega) (by simp) ?_; intro w3 hown3 hgrow3))
 have HROW := Lib.hid (show Row w3 w.heap.size 3 1 (.slice (some ⟨w.heap.size + 1, 0, none⟩) n n) n (natsV (List.replicate n 0)) from by
  have := Row.ofOwns hown3
  rw [show (Value.int .i64 0).cells = #[.int .i64 0] from rfl, Nat.mul_one, toList_madeCells_one] at this
  simpa [natsV] using this)
 have HX3 := Lib.hid (show w3.heap[w.heap.size]? = some (.cells #[.slice ta n tc] 24) from by
  rw [hgrow3.block _ (by simp) (by simp)]; exact HX0.out)
 have HE3 := Lib.hid (HE1.out.gr hgrow3 (by simp))
 clear hown3 hgrow3 HX0 HE1
 go_loopg [] (remT t (List.replicate n 0)) (fun g wr => ∃ D : List Nat, remT t D ≤ g ∧ Aside (Peel t D) ∧ Aside (Row wr w.heap.size 3 1 (.slice (some ⟨w.heap.size + 1, 0, none⟩) n n) n (natsV D)) ∧ Aside (wr.heap[w.heap.size]? = some (.cells #[.slice ta n tc] 24)) ∧ Aside (Ext w wr))
 case atStart => exact ⟨_, Nat.le_refl _, HPS, HROW, HX3, HE3⟩
 case round =>
  obtain ⟨D, hg, HP, HR, HX, HE⟩ := hrel
  clear HPS HROW HX3 HE3
  go_wp2
  obtain ⟨wo, rfl⟩ : ∃ x, x = wr := ⟨_, rfl⟩
  go_loopg [4, 5] n (fun g2 s4 s5 wr => ∃ (p : Nat) (E : List Nat) (b : Bool), p ≤ n ∧ n - p ≤ g2 ∧ s5 = .int .i64 p ∧ s4 = .bool b ∧ Aside (Peel t E) ∧ Aside (remT t E ≤ remT t D ∧ (b = true → remT t E < remT t D)) ∧ Aside (Row wr w.heap.size 3 1 (.slice (some ⟨w.heap.size + 1, 0, none⟩) n n) n (natsV E)) ∧ Aside (wr.heap[w.heap.size]? = some (.cells #[.slice ta n tc] 24)) ∧ Aside (Ext w wr))
  case atStart => exact ⟨0, D, false, Nat.zero_le _, by omega, rfl, rfl, HP, (show Aside _ from ⟨Nat.le_refl _, fun h => absurd h (by decide)⟩), HR, HX, HE⟩
  case round =>
   obtain ⟨p, E, b, hp, hg2, rfl, rfl, HPE, HRM, HRE, HXE, HEE⟩ := hrel
   have t0 := cellOf HXE.out 0
   simp only [List.getElem?_toArray, List.getElem?_cons_zero] at t0
   by_cases hlt : p < n
   ·have hltz : (p : Int) < (n : Int) := by omega
    have hpz : (0 : Int) ≤ (p : Int) := by omega
    obtain ⟨B, O, C, vv, ve, hve, hlC, hB, hn0, hv0, he0, hV, hE0⟩ := proc_at HT.out p (by rw [HL.out]; exact hlt)
    simp only [Value.slice.injEq] at hve
    obtain ⟨rfl, hzz, rfl⟩ := hve
    obtain ⟨ea, ec, rfl, hec⟩ := hE0.sh
    have hen := (HS.out.2 p (by rw [HL.out]; exact hlt)).2.1
    have HEV := Lib.hid hE0
    have HE00 := Lib.hid he0
    have HPL := Lib.hid (show p < t.length from by rw [HL.out]; exact hlt)
    generalize hxx : t[p]! = x at *
    generalize hne : x.events.length = ne at *
    have HXX := Lib.hid hxx
    have HNE := Lib.hid hne
    clear hn0 hv0 hV hE0 hzz hxx hne he0
    go_wp2
    clear t0
    obtain ⟨wq, rfl⟩ : ∃ x, x = wr := ⟨_, rfl⟩
    go_loopg [4] (remT t E) (fun g3 s4 wr => ∃ (G : List Nat) (b : Bool), remT t G ≤ g3 ∧ s4 = .bool b ∧ Aside (Peel t G) ∧ Aside (remT t G ≤ remT t D ∧ (b = true → remT t G < remT t D)) ∧ Aside (Row wr w.heap.size 3 1 (.slice (some ⟨w.heap.size + 1, 0, none⟩) n n) n (natsV G)) ∧ Aside (wr.heap[w.heap.size]? = some (.cells #[.slice (some ⟨B, O, none⟩) n tc] 24)) ∧ Aside (Ext w wr))
    case atStart => exact ⟨E, b, Nat.le_refl _, rfl, HPE, HRM, HRE, HXE, HEE⟩
    case round =>
     obtain ⟨G, c, hg3, rfl, HPG, HRG, HRR, HXG, HEG⟩ := hrel
     clear HPE HRM HRE HXE HEE HP HR HX HE
     have HGL := Lib.hid (show G.length = n from by rw [HPG.out.1, HL.out])
     have dp := (HRR.out.cell p (by omega)).trans (natsV_at (by rw [HGL.out]; exact hlt))
     have t0 := cellOf HXG.out 0
     simp only [List.getElem?_toArray, List.getElem?_cons_zero, Nat.zero_add] at t0 dp
     have he1 := HEG.out.cl HE00.out
     generalize hd : G[p]! = d at *
     have HD := Lib.hid hd
     have HDL := Lib.hid (show d ≤ ne from by have := (HPG.out.2 p HPL.out).1; rw [HXX.out, HNE.out, HD.out] at this; exact this)
     clear hd
     by_cases hdl : d < ne
     ·have d1 : decide ((d : Int) < (ne : Int)) = true := decide_eq_true (by omega)
      have d1n : decide (d < ne) = true := decide_eq_true (by omega)
      have HDN := Lib.hid hdl
      obtain ⟨EB, EO, EC, va, hee, hlE, hEB, k0, k1, k2, k3, k4, ha⟩ := event_at HEV.out d (by rw [HNE.out]; exact hdl)
      simp only [Value.slice.injEq] at hee
      obtain ⟨rfl, hzz, rfl⟩ := hee
      obtain ⟨va1, va2, rfl, _⟩ := ha.sh
      have HK := Lib.hid (And.intro k0 (And.intro k1 (And.intro k2 (And.intro k3 k4))))
      have HEVE : Hid (ev t (p, d) = x.events[d]!) := Lib.hid (by show t[p]!.events[d]! = _; rw [HXX.out])
      generalize x.events[d]! = y at *
      generalize y.asg.length = nb at *
      clear k0 k1 k2 k3 k4 hzz ha hdl
      go_wp2
      go_quiet (fail)
      clear d1 d1n
      have HRR := Lib.hid (HRR.out.ext ((Ext.rf wr).drN nq))
      have HXG := Lib.hid (((Ext.rf wr).drN nq).hp HXG.out)
      have HEG := Lib.hid (HEG.out.drN nq)
      have dp5 : (wr.drewN nq).cell? ⟨w.heap.size + 1, p, none⟩ = some (.int .i64 (d : Int)) := dp
      have t05 : (wr.drewN nq).cell? ⟨w.heap.size, 0, none⟩ = some (.slice (some ⟨B, O, none⟩) n tc) := t0
      have he5 : (wr.drewN nq).cell? ⟨B, O + p * 3 + 2, none⟩ = some (.slice (some ⟨EB, EO, none⟩) ne ec) := he1
      generalize wr.drewN nq = w5 at *
      clear dp t0 he1
      have m0 := HEG.out.cl HK.out.1
      have m1 := HEG.out.cl HK.out.2.1
      have m2 := HEG.out.cl HK.out.2.2.1
      have m3 := HEG.out.cl HK.out.2.2.2.1
      have m4 := HEG.out.cl HK.out.2.2.2.2
      have hdz : (0 : Int) ≤ (d : Int) := by omega
      have hdi : (d : Int) < (ne : Int) := by have := HDN.out; omega
      have l1 : w.heap.size + 1 < w5.heap.size := World.block_lt_of_cell? w5 _ dp5
      have l2 : w.heap.size + 1 ≠ w5.heap.size := by omega
      have l3 : w.heap.size < w5.heap.size := by omega
      have l4 : w.heap.size ≠ w5.heap.size := by omega
      have l5 : B < w5.heap.size := by omega
      have l6 : B ≠ w5.heap.size := by omega
      have l7 : EB < w5.heap.size := by omega
      have l8 : EB ≠ w5.heap.size := by omega
      go_wp2
      go_region
      have HXT := Lib.hid (((Ext.rf w5).al (.cells #[.int .i64 y.kind, .int .i64 y.peer, .int .i64 y.msg, .int .i64 y.time, .slice va1 nb va2] 58)).dr)
      have HB6 := Lib.hid (show ((w5.alloc (.cells #[.int .i64 y.kind, .int .i64 y.peer, .int .i64 y.msg, .int .i64 y.time, .slice va1 nb va2] 58)).drew).heap[w5.heap.size]? = some (.cells #[.int .i64 y.kind, .int .i64 y.peer, .int .i64 y.msg, .int .i64 y.time, .slice va1 nb va2] 58) from heap_alloc_new w5 _)
      generalize (w5.alloc (.cells #[.int .i64 y.kind, .int .i64 y.peer, .int .i64 y.msg, .int .i64 y.time, .slice va1 nb va2] 58)).drew = w6 at *
      have HR6 := Lib.hid (HRR.out.ext HXT.out)
      have HX6 := Lib.hid (HXT.out.hp HXG.out)
      have HE6 := Lib.hid (HEG.out.trans' HXT.out)
      have HDP := Lib.hid (And.intro hdz hdi)
      clear dp5 t05 he5 m0 m1 m2 m3 m4 l1 l2 l3 l4 l5 l6 l7 l8
      have hdb : (d : Int) ≤ 1000000 := by have := HDL.out; omega
      have y0 := cellOf HB6.out 0
      have y2 := cellOf HB6.out 2
      simp only [List.getElem?_toArray, List.getElem?_cons_zero, List.getElem?_cons_succ] at y0 y2
      obtain ⟨ck, hck⟩ : ∃ b, (y.kind == 3) = b := ⟨_, rfl⟩
      have HCK := Lib.hid hck
      cases ck with
      | false =>
        have HPS := Lib.hid (HPG.out.step HPL.out (by rw [HXX.out, HNE.out, HD.out]; exact HDN.out) (fun s h9 _ => by
         rw [HD.out, HEVE.out] at h9; have := HCK.out; rw [h9] at this; exact absurd this (by decide)))
        have dp6 := (HR6.out.cell p (by omega)).trans (natsV_at (by rw [HGL.out]; exact hlt))
        have fp6 := HR6.out.free p
        rw [Nat.zero_add] at dp6
        rw [HD.out] at dp6
        have HSET := Lib.hid (show Row (w6.setCell ⟨w.heap.size + 1, p, none⟩ (.int .i64 ((d : Int) + 1))) w.heap.size 3 1 (.slice (some ⟨w.heap.size + 1, 0, none⟩) n n) n (natsV (G.set p (d + 1))) from by
         have := HR6.out.set p (.int .i64 ((d : Int) + 1)) (by omega)
         rw [Nat.zero_add, show ((d : Int) + 1) = ((d + 1 : Nat) : Int) from by omega, natsV_set] at this
         exact this)
        go_wp2
        go_roundg (remT t (G.set p (d + 1)))
        case measure => have := HPS.out.2; rw [HD.out] at this; omega
        case rel =>
         refine ⟨G.set p (d + 1), true, Nat.le_refl _, rfl, (show Peel t _ from by have := HPS.out.1; rw [HD.out] at this; exact this), (show Aside _ from ?_), HSET, (show _ = _ from ?_), HE6.out.st (p := ⟨w.heap.size + 1, p, none⟩) (by simp) _⟩
         ·have h9 := HPS.out.2; rw [HD.out] at h9; have := HRG.out.1; exact ⟨by omega, fun _ => by omega⟩
         ·rw [Below.heap_setCell _ ⟨w.heap.size + 1, p, none⟩ _ _ (by simp)]; exact HX6.out
      | true =>
        have HK3 := Lib.hid (show y.kind = 3 from by have := HCK.out; simpa using this)
        obtain ⟨fe, hfe⟩ : ∃ f, findE t 2 y.msg = f := ⟨_, rfl⟩
        have HFW := Lib.hid (HFI.out w6 HE6.out y.msg)
        rw [hfe] at HFW
        have HFE := Lib.hid hfe
        clear hfe
        have t6 := cellOf HX6.out 0
        simp only [List.getElem?_toArray, List.getElem?_cons_zero] at t6
        obtain ⟨sp, zb, hsp, hspn, hA, hB2, hsm⟩ : ∃ (sp : Nat) (zb : Int), sp < n ∧ eidA fe = (sp : Int) ∧ eidB fe = zb ∧ (fe = none ∨ ∃ s, fe = some s ∧ s.1 = sp ∧ zb = (s.2 : Int) + 1) ∧ True := by
         cases hfo : fe with
         | none => exact ⟨0, 0, by omega, rfl, rfl, .inl rfl, trivial⟩
         | some s => exact ⟨s.1, _, by have := (findE_some (HFE.out.trans hfo)).1.1; rw [HL.out] at this; exact this, rfl, rfl, .inr ⟨s, rfl, rfl, rfl⟩, trivial⟩
        rw [hspn, hA] at HFW
        have HSF := Lib.hid hB2
        clear hspn hA hB2 hsm
        go_wp2_with fail
        clear y0 y2 t6
        refine HFW.out.mono ?_
        rintro e w7 ⟨rfl, hE7⟩
        have HXI := Lib.hid ((Ext.rf w7).al (idO sp zb))
        have HB8 := Lib.hid (heap_alloc_new w7 (idO sp zb))
        have HR8 := Lib.hid ((HR6.out.ext hE7).al (idO sp zb))
        have HX8 := Lib.hid (HXI.out.hp (hE7.hp HX6.out))
        have HE8 := Lib.hid ((HE6.out.trans' hE7).al (idO sp zb))
        have y8 := (HE6.out.trans' hE7).sz
        clear hE7
        have s0 := cellOf HB8.out 0
        have s1 := cellOf HB8.out 1
        simp only [List.getElem?_toArray, List.getElem?_cons_zero, List.getElem?_cons_succ] at s0 s1
        have dsp := (HR8.out.cell sp (by omega)).trans (natsV_at (by rw [HGL.out]; exact hsp))
        rw [Nat.zero_add] at dsp
        generalize hdg : G[sp]! = dg at *
        have HDG := Lib.hid hdg
        have hspz : (0 : Int) ≤ (sp : Int) := by omega
        have hspi : (sp : Int) < (n : Int) := by omega
        clear hdg
        go_wp2
        generalize hw8 : w7.alloc (idO sp zb) = w8 at *
        clear hw8
        by_cases hcmp : (dg : Int) < zb
        ·have d1 : decide ((dg : Int) < zb) = true := decide_eq_true hcmp
         clear hcmp
         go_quiet (fail)
         clear d1
         go_wp2
         go_roundg (n - (p + 1))
         case measure => omega
         case rel => exact ⟨p + 1, G, c, by omega, by omega, by go_num, rfl, HPG, HRG, HR8.out.ext ((Ext.rf w8).drN _), ((Ext.rf w8).drN _).hp HX8.out, HE8.out.drN _⟩
        ·have d1 : decide ((dg : Int) < zb) = false := decide_eq_false hcmp
         have HCM := Lib.hid hcmp
         clear hcmp
         have HPS := Lib.hid (HPG.out.step HPL.out (by rw [HXX.out, HNE.out, HD.out]; exact HDN.out) (fun s h9 h10 => by
          rw [HD.out, HEVE.out, HFE.out] at h10
          rcases HSF.out with h11 | ⟨s', h11, h12, h13⟩
          ·rw [h11] at h10; cases h10
          ·rw [h11] at h10; cases h10
           rw [h12, HDG.out]; have := HCM.out; omega))
         go_quiet (fail)
         clear d1 dsp s0 s1
         have HR6 := Lib.hid (HR8.out.ext ((Ext.rf w8).drN nq))
         have HX6 := Lib.hid (((Ext.rf w8).drN nq).hp HX8.out)
         have HE6 := Lib.hid (HE8.out.drN nq)
         generalize w8.drewN nq = w6 at *
         have dp6 := (HR6.out.cell p (by omega)).trans (natsV_at (by rw [HGL.out]; exact hlt))
         have fp6 := HR6.out.free p
         rw [Nat.zero_add] at dp6
         rw [HD.out] at dp6
         have HSET := Lib.hid (show Row (w6.setCell ⟨w.heap.size + 1, p, none⟩ (.int .i64 ((d : Int) + 1))) w.heap.size 3 1 (.slice (some ⟨w.heap.size + 1, 0, none⟩) n n) n (natsV (G.set p (d + 1))) from by
          have := HR6.out.set p (.int .i64 ((d : Int) + 1)) (by omega)
          rw [Nat.zero_add, show ((d : Int) + 1) = ((d + 1 : Nat) : Int) from by omega, natsV_set] at this
          exact this)
         go_wp2
         go_roundg (remT t (G.set p (d + 1)))
         case measure => have := HPS.out.2; rw [HD.out] at this; omega
         case rel =>
          refine ⟨G.set p (d + 1), true, Nat.le_refl _, rfl, (show Peel t _ from by have := HPS.out.1; rw [HD.out] at this; exact this), (show Aside _ from ?_), HSET, (show _ = _ from ?_), HE6.out.st (p := ⟨w.heap.size + 1, p, none⟩) (by simp) _⟩
          ·have h9 := HPS.out.2; rw [HD.out] at h9; have := HRG.out.1; exact ⟨by omega, fun _ => by omega⟩
          ·rw [Below.heap_setCell _ ⟨w.heap.size + 1, p, none⟩ _ _ (by simp)]; exact HX6.out
     ·have d1 : decide ((d : Int) < (ne : Int)) = false := decide_eq_false (by omega)
      have d1n : decide (d < ne) = false := decide_eq_false (by omega)
      clear hdl
      go_wp2
      go_quiet (fail)
      clear d1 d1n
      go_wp2
      go_roundg (n - (p + 1))
      case measure => omega
      case rel => exact ⟨p + 1, G, c, by omega, by omega, by go_num, rfl, HPG, HRG, HRR.out.ext ((Ext.rf wr).drN _), ((Ext.rf wr).drN _).hp HXG.out, HEG.out.drN _⟩
   ·have hltz : ¬ (p : Int) < (n : Int) := by omega
    obtain rfl : n = p := by omega
    cases b with
    | true =>
      go_wp2
      go_roundg (remT t E)
      case measure => have := HRM.out.2 (by first | rfl | trivial); omega
      case rel => exact ⟨E, Nat.le_refl _, HPE, HRE, HXE, HEE⟩
    | false =>
      clear HP HR HX HE
      have HEL := Lib.hid (show E.length = n from by rw [HPE.out.1, HL.out])
      go_wp2
      obtain ⟨wq, rfl⟩ : ∃ x, x = wr := ⟨_, rfl⟩
      go_loopg [8] n (fun g2 s8 wr => ∃ q : Nat, q ≤ n ∧ n - q ≤ g2 ∧ s8 = .int .i64 q ∧ Aside (∀ j, j < q → ¬ E[j]! < t[j]!.events.length) ∧ Aside (Ext wq wr))
      case atStart => exact ⟨0, Nat.zero_le _, by omega, rfl, (fun j hj => absurd hj (Nat.not_lt_zero _)), Ext.rf _⟩
      case round =>
       obtain ⟨q, hq, hg3, rfl, A, HEQ⟩ := hrel
       have HEW := Lib.hid (HEE.out.trans' HEQ.out)
       have HXW := Lib.hid (HEQ.out.hp HXE.out)
       have HRW := Lib.hid (HRE.out.ext HEQ.out)
       have t0 := cellOf HXW.out 0
       simp only [List.getElem?_toArray, List.getElem?_cons_zero] at t0
       by_cases hltq : q < n
       ·have hltz : (q : Int) < (n : Int) := by omega
        have hqz : (0 : Int) ≤ (q : Int) := by omega
        obtain ⟨B, O, C, vv, ve, hve, hlC, hB, hn0, hv0, he0, hV, hE0⟩ := proc_at HT.out q (by rw [HL.out]; exact hltq)
        simp only [Value.slice.injEq] at hve
        obtain ⟨rfl, hzz, rfl⟩ := hve
        obtain ⟨ea, ec, rfl, hec⟩ := hE0.sh
        have he1 := HEW.out.cl he0
        have dp := (HRW.out.cell q (by omega)).trans (natsV_at (by rw [HEL.out]; exact hltq))
        rw [Nat.zero_add] at dp
        generalize hne : t[q]!.events.length = ne at *
        generalize hd : E[q]! = d at *
        have HNE := Lib.hid hne
        have HD := Lib.hid hd
        clear hn0 hv0 hV hE0 hzz hne hd he0
        by_cases hdl : d < ne
        ·have d1 : decide ((d : Int) < (ne : Int)) = true := decide_eq_true (by omega)
         have d1n : decide (d < ne) = true := decide_eq_true (by omega)
         clear hdl
         go_wp2
         go_quiet (fail)
         go_wp2
         go_ret
         exact ⟨false, rfl, fun h => absurd h (by decide), HEW.out.drN _⟩
        ·have d1 : decide ((d : Int) < (ne : Int)) = false := decide_eq_false (by omega)
         have d1n : decide (d < ne) = false := decide_eq_false (by omega)
         have HDL := Lib.hid hdl
         clear hdl
         go_wp2
         go_quiet (fail)
         go_wp2
         go_roundg (n - (q + 1))
         case measure => omega
         case rel =>
          refine ⟨q + 1, by omega, by omega, by go_num, (show Aside _ from fun j hj => ?_), (show Ext _ _ from HEQ.out.drN _)⟩
          by_cases e : j = q
          ·subst e; rw [HD.out, HNE.out]; exact HDL.out
          ·exact A.out j (by omega)
       ·have hltz : ¬ (q : Int) < (n : Int) := by omega
        obtain rfl : n = q := by omega
        have HFIN := Lib.hid (HPE.out.all (fun j hj => A.out j (by rw [HL.out] at hj; exact hj)))
        go_wp2
        go_ret
        exact ⟨true, rfl, fun _ => HFIN.out, HEW.out⟩
end Go.Proofs.YtbpdbikphlhaiaaGreatDoor
namespace Go.Proofs.YtbpdbikphlhaiaaGreatDoor
open Go.RowKit
set_option linter.unusedVariables false
open Classical in
noncomputable def PastOut (t : Tr) (x : Eid) (w w' : World) (e : Ending) : Prop :=
 ∃ (b off c : Nat) (Bs : List Nat), e = .returned (.slice (some ⟨b, off, none⟩) t.length c) ∧ t.length ≤ c ∧ b < w'.heap.size ∧ Ext w w' ∧
  ∀ q, q < t.length → w'.cell? ⟨b, off + q, none⟩ = some (.slice (some ⟨Bs[q]!, 0, none⟩) (t[q]!.events.length + 1) (t[q]!.events.length + 1)) ∧ Bs[q]! < w'.heap.size ∧
   ∀ i, i < t[q]!.events.length → w'.cell? ⟨Bs[q]!, i + 1, none⟩ = some (.bool (decide (Relation.TransGen (Dir t) (q, i) x)))
end Go.Proofs.YtbpdbikphlhaiaaGreatDoor
