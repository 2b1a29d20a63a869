import Derived.Test.YtbpdbikphlhaiaaGreatDoorGa
import Derived.Test.YtbpdbikphlhaiaaGreatDoorProg
import Derived.Test.YtbpdbikphlhaiaaGreatDoorGb
import Derived.BigQuiet
import Derived.Deep.QuietTactic
import Derived.Deep.LoopGhost
import Derived.Shelf.Abstract
import Derived.Deep.DeepCutAuto
import Derived.Deep.DrawnRows
import Derived.RangeFuncNested
import Derived.RangeFuncBound
import Derived.RangeFuncCalls
import Derived.RangeFuncLeaves
import Derived.Shelf.RegionOpen
import Derived.OwnWalkIn
import Derived.TacticsInMore
import Derived.LoopNIn
import Derived.LoopIn
import Derived.Sort.LoopGhostIn
import Derived.Sort.CutIn
import Derived.BigRegion
import Derived.IntWalk
import Derived.Laws.EntriesVeiled
import Derived.Deep.RegionLaw
namespace Go.Proofs.YtbpdbikphlhaiaaGreatDoor
open Go.RowKit
set_option linter.unusedVariables false
attribute [local go_sem ↓] Go.wp_at_zero Go.wp_at_succ
set_option maxHeartbeats 4000000 in
theorem formedP_calls (a : Option Addr) (n c p : Nat) (ea : Value) (kd pe ms ti : Int) (l : List Asg) (w : World) (hn : n ≤ 1000000) (hp : p < n) :
  Calls Tryz.prog 102 #[.agg #[.slice a n c], .int .i64 p, .agg #[.int .i64 kd, .int .i64 pe, .int .i64 ms, .int .i64 ti, ea]] w fun e w' => e = .returned (.bool (formedB n p ⟨kd, pe, ms, ti, l⟩)) ∧ Ext w w' := by
 generalize hfb : formedB n p ⟨kd, pe, ms, ti, l⟩ = fb
 have HFB := Lib.hid hfb.symm
 clear hfb
 have HE2 : Hid (Ext w ((w.alloc (.cells #[.slice a n c] 24)).alloc (.cells #[.int .i64 kd, .int .i64 pe, .int .i64 ms, .int .i64 ti, ea] 58))) := Lib.hid (((Ext.rf w).al _).al _)
 by_cases h1 : kd = 1
 ·subst h1
  have hbf : fb = (decide (pe = 0) && decide (ms = 0)) := by rw [HFB.out]; simp [formedB]
  by_cases h2 : pe = 0
  ·subst h2
   by_cases h3 : ms = 0
   ·subst h3
    obtain rfl : fb = true := by rw [hbf]; rfl
    clear hbf
    go_enter Tryz.func102, Tryz.ntmps102
    go_wp2
    go_ret
    exact ⟨rfl, (by repeat (first | refine Ext.st ?_ (by first | exact Nat.le_refl _ | exact Nat.le_succ _ | assumption | omega) _ | refine Ext.al ?_ _ | refine Ext.dr ?_ | refine Ext.drN ?_ _ | exact Ext.rf _))⟩
   ·have c3 : (ms == 0) = false := by simpa using h3
    obtain rfl : fb = false := by rw [hbf]; simp [h3]
    clear hbf h3
    go_enter Tryz.func102, Tryz.ntmps102
    go_wp2
    go_ret
    exact ⟨rfl, (by repeat (first | refine Ext.st ?_ (by first | exact Nat.le_refl _ | exact Nat.le_succ _ | assumption | omega) _ | refine Ext.al ?_ _ | refine Ext.dr ?_ | refine Ext.drN ?_ _ | exact Ext.rf _))⟩
  ·have c2 : (pe == 0) = false := by simpa using h2
   obtain rfl : fb = false := by rw [hbf]; simp [h2]
   clear hbf h2
   go_enter Tryz.func102, Tryz.ntmps102
   go_wp2
   go_ret
   exact ⟨rfl, (by repeat (first | refine Ext.st ?_ (by first | exact Nat.le_refl _ | exact Nat.le_succ _ | assumption | omega) _ | refine Ext.al ?_ _ | refine Ext.dr ?_ | refine Ext.drN ?_ _ | exact Ext.rf _))⟩
 by_cases h2 : kd = 2
 ·subst h2
  clear h1
  have HI1 := Lib.hid (inP_calls pe 0 ((n : Int) - 1))
  have HI2 := Lib.hid (inP_calls ms 0 199)
  by_cases h4 : 0 ≤ pe ∧ pe ≤ (n : Int) - 1
  ·have d4 : (decide (0 ≤ pe) && decide (pe ≤ (n : Int) - 1)) = true := by simp [h4.1]; omega
   rw [d4] at HI1
   by_cases h5 : pe = p
   ·have c5 : (pe != (p : Int)) = false := by simpa using h5
    have hbf : fb = false := by rw [HFB.out]; simp [formedB, h5]
    subst hbf
    clear d4 h4 h5
    go_enter Tryz.func102, Tryz.ntmps102
    go_wp2_with fail
    refine (HI1.out _).mono ?_
    rintro e w2 ⟨rfl, rfl⟩
    go_wp2
    go_ret
    exact ⟨rfl, (by repeat (first | refine Ext.st ?_ (by first | exact Nat.le_refl _ | exact Nat.le_succ _ | assumption | omega) _ | refine Ext.al ?_ _ | refine Ext.dr ?_ | refine Ext.drN ?_ _ | exact Ext.rf _))⟩
   ·have c5 : (pe != (p : Int)) = true := by simpa using h5
    have hbf : fb = (decide (0 ≤ ms) && decide (ms ≤ 199)) := by
     rw [HFB.out]; simp [formedB, h5, h4.1, show pe < (n : Int) from by omega]
    rw [← hbf] at HI2
    clear d4 h4 h5 hbf
    go_enter Tryz.func102, Tryz.ntmps102
    go_wp2_with fail
    refine (HI1.out _).mono ?_
    rintro e w2 ⟨rfl, rfl⟩
    go_wp2_with fail
    refine (HI2.out _).mono ?_
    rintro e w3 ⟨rfl, rfl⟩
    go_wp2
    go_ret
    exact ⟨rfl, (by repeat (first | refine Ext.st ?_ (by first | exact Nat.le_refl _ | exact Nat.le_succ _ | assumption | omega) _ | refine Ext.al ?_ _ | refine Ext.dr ?_ | refine Ext.drN ?_ _ | exact Ext.rf _))⟩
  ·have d4 : (decide (0 ≤ pe) && decide (pe ≤ (n : Int) - 1)) = false := by
    rw [Bool.and_eq_false_iff]; simp only [decide_eq_false_iff_not]; omega
   rw [d4] at HI1
   have hbf : fb = false := by rw [HFB.out]; simp [formedB]; intros; omega
   subst hbf
   clear d4 h4
   go_enter Tryz.func102, Tryz.ntmps102
   go_wp2_with fail
   refine (HI1.out _).mono ?_
   rintro e w2 ⟨rfl, rfl⟩
   go_wp2
   go_ret
   exact ⟨rfl, (by repeat (first | refine Ext.st ?_ (by first | exact Nat.le_refl _ | exact Nat.le_succ _ | assumption | omega) _ | refine Ext.al ?_ _ | refine Ext.dr ?_ | refine Ext.drN ?_ _ | exact Ext.rf _))⟩
 by_cases h3 : kd = 3
 ·subst h3
  clear h1 h2
  have HI1 := Lib.hid (inP_calls pe 0 ((n : Int) - 1))
  have HI2 := Lib.hid (inP_calls ms 0 199)
  by_cases h4 : 0 ≤ pe ∧ pe ≤ (n : Int) - 1
  ·have d4 : (decide (0 ≤ pe) && decide (pe ≤ (n : Int) - 1)) = true := by simp [h4.1]; omega
   rw [d4] at HI1
   by_cases h5 : pe = p
   ·have c5 : (pe != (p : Int)) = false := by simpa using h5
    have hbf : fb = false := by rw [HFB.out]; simp [formedB, h5]
    subst hbf
    clear d4 h4 h5
    go_enter Tryz.func102, Tryz.ntmps102
    go_wp2_with fail
    refine (HI1.out _).mono ?_
    rintro e w2 ⟨rfl, rfl⟩
    go_wp2
    go_ret
    exact ⟨rfl, (by repeat (first | refine Ext.st ?_ (by first | exact Nat.le_refl _ | exact Nat.le_succ _ | assumption | omega) _ | refine Ext.al ?_ _ | refine Ext.dr ?_ | refine Ext.drN ?_ _ | exact Ext.rf _))⟩
   ·have c5 : (pe != (p : Int)) = true := by simpa using h5
    have hbf : fb = (decide (0 ≤ ms) && decide (ms ≤ 199)) := by
     rw [HFB.out]; simp [formedB, h5, h4.1, show pe < (n : Int) from by omega]
    rw [← hbf] at HI2
    clear d4 h4 h5 hbf
    go_enter Tryz.func102, Tryz.ntmps102
    go_wp2_with fail
    refine (HI1.out _).mono ?_
    rintro e w2 ⟨rfl, rfl⟩
    go_wp2_with fail
    refine (HI2.out _).mono ?_
    rintro e w3 ⟨rfl, rfl⟩
    go_wp2
    go_ret
    exact ⟨rfl, (by repeat (first | refine Ext.st ?_ (by first | exact Nat.le_refl _ | exact Nat.le_succ _ | assumption | omega) _ | refine Ext.al ?_ _ | refine Ext.dr ?_ | refine Ext.drN ?_ _ | exact Ext.rf _))⟩
  ·have d4 : (decide (0 ≤ pe) && decide (pe ≤ (n : Int) - 1)) = false := by
    rw [Bool.and_eq_false_iff]; simp only [decide_eq_false_iff_not]; omega
   rw [d4] at HI1
   have hbf : fb = false := by rw [HFB.out]; simp [formedB]; intros; omega
   subst hbf
   clear d4 h4
   go_enter Tryz.func102, Tryz.ntmps102
   go_wp2_with fail
   refine (HI1.out _).mono ?_
   rintro e w2 ⟨rfl, rfl⟩
   go_wp2
   go_ret
   exact ⟨rfl, (by repeat (first | refine Ext.st ?_ (by first | exact Nat.le_refl _ | exact Nat.le_succ _ | assumption | omega) _ | refine Ext.al ?_ _ | refine Ext.dr ?_ | refine Ext.drN ?_ _ | exact Ext.rf _))⟩
 ·have c1 : (kd == 1) = false := by simpa using h1
  have c2 : (kd == 2) = false := by simpa using h2
  have c3 : (kd == 3) = false := by simpa using h3
  obtain rfl : fb = false := by rw [HFB.out]; simp [formedB, h1, h2, h3]
  clear h1 h2 h3
  go_enter Tryz.func102, Tryz.ntmps102
  go_wp2
  go_ret
  exact ⟨rfl, (by repeat (first | refine Ext.st ?_ (by first | exact Nat.le_refl _ | exact Nat.le_succ _ | assumption | omega) _ | refine Ext.al ?_ _ | refine Ext.dr ?_ | refine Ext.drN ?_ _ | exact Ext.rf _))⟩
end Go.Proofs.YtbpdbikphlhaiaaGreatDoor
namespace Go.Proofs.YtbpdbikphlhaiaaGreatDoor
open Go.RowKit
set_option linter.unusedVariables false
attribute [local go_sem ↓] Go.wp_at_zero Go.wp_at_succ
abbrev trT (v : Value) : Obj := .cells #[v] 24
abbrev idT (p i : Int) : Obj := .cells #[.int .i64 p, .int .i64 i] 39
abbrev evT (a b c d : Int) (v : Value) : Obj := .cells #[.int .i64 a, .int .i64 b, .int .i64 c, .int .i64 d, v] 58
set_option maxHeartbeats 4000000 in
set_option maxRecDepth 100000 in
theorem eventFaultP_calls (v va : Value) (t : Tr) (p i : Nat) (ix : Int) (hix : ix = (i : Int) + 1) (ev : Ev) (w : World) (h : TrAt w v t) (hs : SmallTr t) (hp : p < t.length) (hi : i < t[p]!.events.length) (hev : t[p]!.events[i]! = ev) (ha : Sl RAsg 2 w va ev.asg) :
  Calls Tryz.prog 84 #[.agg #[v], .agg #[.int .i64 p, .int .i64 ix], .agg #[.int .i64 ev.kind, .int .i64 ev.peer, .int .i64 ev.msg, .int .i64 ev.time, va]] w fun e w' => ErrIff w w' e (eventB t p i) := by
 have HIX := Lib.hid hix
 have hix0 : 1 ≤ ix := by omega
 clear hix
 have HT := Lib.hid h
 obtain ⟨B, O, C, vv, ve, rfl, hlC, hB, hn0, hv0, he0, hV, hE0⟩ := proc_at h p hp
 obtain ⟨xa, xc, rfl, hvc⟩ := hV.sh
 have HEV := Lib.hid hE0
 obtain ⟨EB, EO, EC, _, rfl, hlE, hEB, _, _, _, _, _, _⟩ := event_at hE0 i hi
 obtain ⟨ua, uc, rfl, huc⟩ := ha.sh
 have hn := hs.1
 have hvn := (hs.2 p hp).1
 have hen := (hs.2 p hp).2.1
 have han := (hs.2 p hp).2.2 i hi
 rw [hev] at han
 have HB := Lib.hid (@eventB_parts t p i)
 rw [hev] at HB
 generalize hhb : eventB t p i = hb at *
 have HA := Lib.hid ha
 have HPREV := Lib.hid (fun hi0 : 0 < i => event_at hE0 (i - 1) (by omega))
 generalize hx : t[p]! = x at *
 generalize hln : t.length = n at *
 generalize hnv : x.vars.length = nv at *
 generalize hne : x.events.length = ne at *
 generalize hua : ev.asg.length = na at *
 have HNA := Lib.hid hua
 have HFO : Hid (∀ W, Calls Tryz.prog 102 #[.agg #[.slice (some ⟨B, O, none⟩) n C], .int .i64 p, .agg #[.int .i64 ev.kind, .int .i64 ev.peer, .int .i64 ev.msg, .int .i64 ev.time, .slice ua na uc]] W fun e w' => e = .returned (.bool (formedB n p ev)) ∧ Ext W w') :=
  Lib.hid (fun W => formedP_calls (some ⟨B, O, none⟩) n C p (.slice ua na uc) ev.kind ev.peer ev.msg ev.time ev.asg W hn hp)
 have hpz : (0 : Int) ≤ (p : Int) := by omega
 have hpi : (p : Int) < (n : Int) := by omega
 have hE3 : Ext w (((w.alloc (trT (.slice (some ⟨B, O, none⟩) n C))).alloc (idT p ix)).alloc (evT ev.kind ev.peer ev.msg ev.time (.slice ua na uc))) := (((Ext.rf w).al _).al _).al _
 have hv1 := hE3.cl hv0
 have he1 := hE3.cl he0
 have hn1 := hE3.cl hn0
 clear hn0 hv0 he0 hV hE0 h hs ha hhb hx hln hnv hne hua hev
 go_enter Tryz.func84, Tryz.ntmps84
 go_upto_region 3 with (fail)
 have HI0 := Lib.hid ((((Ext.rf _).al (idT p ix)).al (evT ev.kind ev.peer ev.msg ev.time (.slice ua na uc))).hp (heap_alloc_new w (trT (.slice (some ⟨B, O, none⟩) n C))))
 have HI1 := Lib.hid (((Ext.rf _).al (evT ev.kind ev.peer ev.msg ev.time (.slice ua na uc))).hp (heap_new_eq (w := w.alloc (trT (.slice (some ⟨B, O, none⟩) n C))) (o := idT p ix) (b := w.heap.size + 1) (by simp)))
 have HI2 := Lib.hid (heap_new_eq (w := (w.alloc (trT (.slice (some ⟨B, O, none⟩) n C))).alloc (idT p ix)) (o := evT ev.kind ev.peer ev.msg ev.time (.slice ua na uc)) (b := w.heap.size + 1 + 1) (by simp))
 have hsz3 : (((w.alloc (trT (.slice (some ⟨B, O, none⟩) n C))).alloc (idT p ix)).alloc (evT ev.kind ev.peer ev.msg ev.time (.slice ua na uc))).heap.size = w.heap.size + 3 := by simp
 generalize hw3 : ((w.alloc (trT (.slice (some ⟨B, O, none⟩) n C))).alloc (idT p ix)).alloc (evT ev.kind ev.peer ev.msg ev.time (.slice ua na uc)) = w3 at *
 have HSZ3 := Lib.hid hsz3
 have q1 : w.heap.size + 1 < w3.heap.size := by omega
 have q2 : w.heap.size + 1 ≠ w3.heap.size := by omega
 have q3 : w.heap.size < w3.heap.size := by omega
 have q4 : w.heap.size ≠ w3.heap.size := by omega
 have q5 : w.heap.size + 1 + 1 < w3.heap.size := by omega
 have q6 : w.heap.size + 1 + 1 ≠ w3.heap.size := by omega
 have HE3 := Lib.hid hE3
 clear hw3 hsz3 hE3
 have y0 := cellOf HI1.out 0
 have y1 := cellOf HI1.out 1
 simp only [List.getElem?_toArray, List.getElem?_cons_zero, List.getElem?_cons_succ] at y0 y1
 obtain ⟨bt, hbt⟩ : ∃ b, decide (1 < ix) = b := ⟨_, rfl⟩
 go_upto_if 19 with (fail)
 have HBT := Lib.hid hbt
 clear hbt
 have HP3 := Lib.hid (heap_new_eq (w := w3) (o := .cells #[.string x.name, .slice xa nv xc, .slice (some ⟨EB, EO, none⟩) ne EC] 54) (b := w.heap.size + 1 + 1 + 1) (by have := HSZ3.out; omega))
 go_cut [8] (fun s8 wx => ∃ lt : Int, s8 = .int .i64 lt ∧ wx = w3.alloc (.cells #[.string x.name, .slice xa nv xc, .slice (some ⟨EB, EO, none⟩) ne EC] 54) ∧ Aside (lt = if i = 0 then 0 else x.events[i - 1]!.time))
 case first =>
  cases bt with
  | false =>
    have hi0 : i = 0 := by have := HIX.out; have h9 : ¬ 1 < ix := of_decide_eq_false HBT.out; omega
    have HI := Lib.hid hi0
    clear hi0
    go_wp2
    go_meet
    exact ⟨0, rfl, rfl, (show _ = _ from by rw [if_pos HI.out])⟩
  | true =>
    have hi0 : 0 < i := by have h9 : 1 < ix := of_decide_eq_true HBT.out; have := HIX.out; omega
    obtain ⟨EB', EO', EC', wv, hee, hz1, hz2, hz3, hz4, hz5, htm, hz6, hz7⟩ := HPREV.out hi0
    simp only [Value.slice.injEq, Option.some.injEq, Addr.mk.injEq, and_true] at hee
    obtain ⟨⟨rfl, rfl⟩, hz8, rfl⟩ := hee
    have htm1 := HE3.out.cl htm
    have ix2 : (2 : Int) ≤ ix := by have := HIX.out; omega
    have ix3 : (ix - 2).toNat = i - 1 := by have := HIX.out; omega
    have ix4 : ix - 2 < (ne : Int) := by have := HIX.out; omega
    have p2 := cellOf HP3.out 2
    simp only [List.getElem?_toArray, List.getElem?_cons_zero, List.getElem?_cons_succ] at p2
    have HI := Lib.hid (show ¬ i = 0 from by omega)
    have q7 : EB < w3.heap.size := by have := HSZ3.out; omega
    have q8 : EB ≠ w3.heap.size := by omega
    clear hz1 hz2 hz3 hz4 hz5 hz6 hz7 hz8 htm hi0
    go_wp2
    go_meet
    exact ⟨_, rfl, rfl, (show _ = _ from by rw [if_neg HI.out]; simp)⟩
 case rest =>
  obtain ⟨lt, rfl, rfl, HLT⟩ := hcut
  have HI0 := Lib.hid (((Ext.rf w3).al (.cells #[.string x.name, .slice xa nv xc, .slice (some ⟨EB, EO, none⟩) ne EC] 54)).hp HI0.out)
  have HI1 := Lib.hid (((Ext.rf w3).al (.cells #[.string x.name, .slice xa nv xc, .slice (some ⟨EB, EO, none⟩) ne EC] 54)).hp HI1.out)
  have HI2 := Lib.hid (((Ext.rf w3).al (.cells #[.string x.name, .slice xa nv xc, .slice (some ⟨EB, EO, none⟩) ne EC] 54)).hp HI2.out)
  have HE4 := Lib.hid (HE3.out.al (.cells #[.string x.name, .slice xa nv xc, .slice (some ⟨EB, EO, none⟩) ne EC] 54))
  generalize hw4 : w3.alloc (.cells #[.string x.name, .slice xa nv xc, .slice (some ⟨EB, EO, none⟩) ne EC] 54) = w4 at *
  clear hw4 y0 y1
  obtain ⟨fo, hfo⟩ : ∃ b, formedB n p ev = b := ⟨_, rfl⟩
  rw [hfo] at HFO
  have HFOB := Lib.hid hfo
  clear hfo
  have u0 := cellOf HI0.out 0
  have u1 := cellOf HI1.out 0
  have v0 := cellOf HI2.out 0
  have v1 := cellOf HI2.out 1
  have v2 := cellOf HI2.out 2
  have v3 := cellOf HI2.out 3
  have v4 := cellOf HI2.out 4
  simp only [List.getElem?_toArray, List.getElem?_cons_zero, List.getElem?_cons_succ] at v0 v1 v2 v3 v4
  simp only [List.getElem?_toArray, List.getElem?_cons_zero] at u0 u1
  cases fo with
  | false =>
    obtain rfl : hb = false := by
     rw [Bool.eq_false_iff]; intro hbt; have := (HB.out.1 hbt).1; rw [HFOB.out] at this; exact absurd this (by decide)
    go_wp2_with fail
    refine (HFO.out _).mono ?_
    rintro e w5 ⟨rfl, hE5⟩
    have HE5 := Lib.hid (HE4.out.trans' hE5)
    clear hE5
    go_wp2
    go_ret
    exact ⟨3, rfl, ⟨fun h => absurd h (by decide), fun h => absurd h (by decide)⟩, HE5.out⟩
  | true =>
  go_wp2_with fail
  refine (HFO.out _).mono ?_
  rintro e w5 ⟨rfl, hE5⟩
  have HI2 := Lib.hid (hE5.hp HI2.out)
  have HP5 := Lib.hid (hE5.hp HP3.out)
  have HE5 := Lib.hid (HE4.out.trans' hE5)
  clear hE5 u0 u1 v0 v1 v2 v3 v4
  have v3 := cellOf HI2.out 3
  have v4 := cellOf HI2.out 4
  simp only [List.getElem?_toArray, List.getElem?_cons_zero, List.getElem?_cons_succ] at v3 v4
  obtain ⟨tm, htm⟩ : ∃ b, ev.time = b := ⟨_, rfl⟩
  have HTM := Lib.hid htm
  rw [htm] at HB v3 HI2
  clear htm
  obtain ⟨ti, hti⟩ : ∃ b, (decide (0 ≤ tm) && decide (tm ≤ 1099511627776)) = b := ⟨_, rfl⟩
  have HIN := Lib.hid (inP_calls tm 0 1099511627776)
  rw [hti] at HIN
  have HTI := Lib.hid hti
  clear hti
  cases ti with
  | false =>
    obtain rfl : hb = false := by
     rw [Bool.eq_false_iff]; intro hbt; have h9 := HB.out.1 hbt; have h8 := HTI.out; simp [h9.2.1, h9.2.2.1] at h8
    go_wp2_with fail
    refine (HIN.out _).mono ?_
    rintro e w6 ⟨rfl, rfl⟩
    go_wp2
    go_ret
    exact ⟨11, rfl, ⟨fun h => absurd h (by decide), fun h => absurd h (by decide)⟩, HE5.out⟩
  | true =>
  have HT0 := Lib.hid (show 0 ≤ tm ∧ tm ≤ 1099511627776 from by have h8 := HTI.out; simp only [Bool.and_eq_true, decide_eq_true_eq] at h8; exact h8)
  by_cases hlt : tm < lt
  ·obtain rfl : hb = false := by
    rw [Bool.eq_false_iff]; intro hbt
    have h9 := (HB.out.1 hbt).2.2.2.1
    have h8 := HLT.out
    have h7 := HT0.out
    by_cases hi0 : i = 0
    ·rw [if_pos hi0] at h8; omega
    ·rw [if_neg hi0] at h8; omega
   go_wp2_with fail
   refine (HIN.out _).mono ?_
   rintro e w6 ⟨rfl, rfl⟩
   go_wp2
   go_ret
   exact ⟨11, rfl, ⟨fun h => absurd h (by decide), fun h => absurd h (by decide)⟩, HE5.out⟩
  have HORD := Lib.hid (show i = 0 ∨ x.events[i - 1]!.time ≤ tm from by
   by_cases hi0 : i = 0
   ·exact .inl hi0
   ·have h8 := HLT.out; rw [if_neg hi0] at h8; right; omega)
  by_cases h8 : 8 < na
  ·have c8 : decide (8 < (na : Int)) = true := by simp; omega
   have c8n : decide (8 < na) = true := by simp; omega
   obtain rfl : hb = false := by
    rw [Bool.eq_false_iff]; intro hbt; have := (HB.out.1 hbt).2.2.2.2.1; omega
   go_wp2_with fail
   refine (HIN.out _).mono ?_
   rintro e w6 ⟨rfl, rfl⟩
   go_wp2
   go_ret
   exact ⟨5, rfl, ⟨fun h => absurd h (by decide), fun h => absurd h (by decide)⟩, HE5.out⟩
  have c8 : decide (8 < (na : Int)) = false := by simp; omega
  have c8n : decide (8 < na) = false := by simp; omega
  go_wp2_with fail
  refine (HIN.out _).mono ?_
  rintro e w6 ⟨rfl, rfl⟩
  go_wp2
  clear v3 v4
  go_loopg [54] na (fun g s54 wr => ∃ k : Nat, k ≤ na ∧ na - k ≤ g ∧ s54 = .int .i64 k ∧ Aside (∀ j, j < k → asgB nv ev.asg j = true) ∧ Aside (Ext w6 wr))
  case atStart => exact ⟨0, Nat.zero_le _, by omega, rfl, (fun j hj => absurd hj (Nat.not_lt_zero _)), Ext.rf _⟩
  case round =>
   obtain ⟨k, hk, hg, rfl, A, HEK⟩ := hrel
   have HEW := Lib.hid (HE5.out.trans' HEK.out)
   have HPK := Lib.hid (HEK.out.hp HP5.out)
   have HIK := Lib.hid (HEK.out.hp HI2.out)
   by_cases hltk : k < na
   ·have hltz : (k : Int) < (na : Int) := by omega
    have hkz : (0 : Int) ≤ (k : Int) := by omega
    have hkc : (k : Int) ≤ (uc : Int) := by omega
    obtain ⟨AB, AO, AC, hae, _, hAB, hav0, haw0⟩ := asg_at HA.out k (by rw [HNA.out]; exact hltk)
    simp only [Value.slice.injEq] at hae
    obtain ⟨rfl, hzz, rfl⟩ := hae
    have hav1 := HEW.out.cl hav0
    have haw1 := HEW.out.cl haw0
    have HAP := Lib.hid (@asgB_parts nv ev.asg k)
    have HANV := Lib.hid (any_take ev.asg k (by rw [HNA.out]; omega) fun y => decide (y.var = ev.asg[k]!.var))
    have HALL := Lib.hid (fun hbt : hb = true => (HB.out.1 hbt).2.2.2.2.2 k hltk)
    generalize hy : ev.asg[k]! = y at *
    have HBV := Lib.hid (heap_alloc_new wr (.cells #[.int .i64 y.var, .int .i64 y.value] 106))
    have HPV := Lib.hid (((Ext.rf wr).al (.cells #[.int .i64 y.var, .int .i64 y.value] 106)).hp HPK.out)
    have HIV := Lib.hid (((Ext.rf wr).al (.cells #[.int .i64 y.var, .int .i64 y.value] 106)).hp HIK.out)
    have HEV2 := Lib.hid (HEW.out.al (.cells #[.int .i64 y.var, .int .i64 y.value] 106))
    have HEK2 := Lib.hid (HEK.out.al (.cells #[.int .i64 y.var, .int .i64 y.value] 106))
    clear hav0 haw0 hzz hy
    have y0 := cellOf HBV.out 0
    have y1 := cellOf HBV.out 1
    have p1 := cellOf HPV.out 1
    have i4 := cellOf HIV.out 4
    simp only [List.getElem?_toArray, List.getElem?_cons_zero, List.getElem?_cons_succ] at y0 y1 p1 i4
    have HIA := Lib.hid (inP_calls y.var 0 ((nv : Int) - 1))
    have HIB := Lib.hid (inP_calls y.value (-1073741824) 1073741824)
    obtain ⟨ba, hba⟩ : ∃ b, (decide (0 ≤ y.var) && decide (y.var ≤ (nv : Int) - 1)) = b := ⟨_, rfl⟩
    rw [hba] at HIA
    have HBA := Lib.hid hba
    clear hba
    cases ba with
    | false =>
      obtain rfl : hb = false := by
       rw [Bool.eq_false_iff]; intro hbt; have h9 := HAP.out.1 (HALL.out hbt); have h8 := HBA.out; simp only [Bool.and_eq_false_iff, decide_eq_false_iff_not] at h8; omega
      go_wp2_with fail
      refine (HIA.out _).mono ?_
      rintro e w7 ⟨rfl, rfl⟩
      go_wp2
      go_ret
      exact ⟨2, rfl, ⟨fun h => absurd h (by decide), fun h => absurd h (by decide)⟩, HEV2.out⟩
    | true =>
    have HVR := Lib.hid (show 0 ≤ y.var ∧ y.var < nv from by have h8 := HBA.out; simp only [Bool.and_eq_true, decide_eq_true_eq] at h8; omega)
    have hvb : valueB y.value = (decide (-1073741824 ≤ y.value) && decide (y.value ≤ 1073741824)) := rfl
    rw [← hvb] at HIB
    clear hvb
    obtain ⟨bv, hbv⟩ : ∃ b, valueB y.value = b := ⟨_, rfl⟩
    rw [hbv] at HIB
    have HBVL := Lib.hid hbv
    clear hbv
    cases bv with
    | false =>
      obtain rfl : hb = false := by
       rw [Bool.eq_false_iff]; intro hbt; have h9 := (HAP.out.1 (HALL.out hbt)).2.2.1; rw [HBVL.out] at h9; exact absurd h9 (by decide)
      go_wp2_with fail
      refine (HIA.out _).mono ?_
      rintro e w7 ⟨rfl, rfl⟩
      go_wp2_with fail
      refine (HIB.out _).mono ?_
      rintro e w7 ⟨rfl, rfl⟩
      go_wp2
      go_ret
      exact ⟨2, rfl, ⟨fun h => absurd h (by decide), fun h => absurd h (by decide)⟩, HEV2.out⟩
    | true =>
    have HCV := Lib.hid (fun W (hW : Ext w W) (hc : W.cell? ⟨wr.heap.size, 0, none⟩ = some (.int .i64 y.var)) => containsFunc_asgs RAsg rasg_lasts 104 #[.pointer (some ⟨wr.heap.size, 0, none⟩)] enters_104 (fun z => decide (z.var = y.var)) (.slice (some ⟨AB, AO, none⟩) k uc) (ev.asg.take k) W ((HA.out.ext rasg_lasts hW).take k (by rw [HNA.out]; omega)) (by rw [List.length_take]; omega) (fun z hz W2 vs hW2 hR => asgVar_calls vs z _ y.var W2 hR (hW2.cl hc)))
    obtain ⟨bt, hbt⟩ : ∃ b, (ev.asg.take k).any (fun z => decide (z.var = y.var)) = b := ⟨_, rfl⟩
    rw [hbt] at HCV
    rw [hbt] at HANV
    clear hbt
    cases bt with
    | true =>
      obtain rfl : hb = false := by
       rw [Bool.eq_false_iff]; intro hbt
       have h7 := HANV.out.symm
       rw [range_any] at h7
       obtain ⟨j, hj, hf⟩ := h7
       have := (HAP.out.1 (HALL.out hbt)).2.2.2 j hj
       rw [hf] at this; exact absurd this (by decide)
      go_wp2_with fail
      refine (HIA.out _).mono ?_
      rintro e w7 ⟨rfl, rfl⟩
      go_wp2_with fail
      refine (HIB.out _).mono ?_
      rintro e w7 ⟨rfl, rfl⟩
      go_wp2_with fail
      refine (HCV.out _ HEV2.out y0).mono ?_
      rintro e w8 ⟨rfl, hE8⟩
      have HE8 := Lib.hid (HEV2.out.trans' hE8)
      clear hE8
      go_wp2
      go_ret
      exact ⟨8, rfl, ⟨fun h => absurd h (by decide), fun h => absurd h (by decide)⟩, HE8.out⟩
    | false =>
      have HOK := Lib.hid (HAP.out.2 ⟨HVR.out.1, HVR.out.2, HBVL.out, by have h7 := HANV.out.symm; rw [range_any_false] at h7; exact h7⟩)
      go_wp2_with fail
      refine (HIA.out _).mono ?_
      rintro e w7 ⟨rfl, rfl⟩
      go_wp2_with fail
      refine (HIB.out _).mono ?_
      rintro e w7 ⟨rfl, rfl⟩
      go_wp2_with fail
      refine (HCV.out _ HEV2.out y0).mono ?_
      rintro e w8 ⟨rfl, hE8⟩
      have HE8 := Lib.hid (HEK2.out.trans' hE8)
      clear hE8
      go_wp2
      go_roundg (na - (k + 1))
      case measure => omega
      case rel =>
       refine ⟨k + 1, by omega, by omega, by go_num, (show Aside _ from fun j hj => ?_), (show Ext _ _ from HE8.out)⟩
       by_cases e : j = k
       ·subst e; exact HOK.out
       ·exact A.out j (by omega)
   ·have hltz : ¬ (k : Int) < (na : Int) := by omega
    obtain rfl : na = k := by omega
    obtain rfl : hb = true := HB.out.2 ⟨HFOB.out, HT0.out.1, HT0.out.2, HORD.out, by omega, A.out⟩
    go_wp2
    go_ret
    exact ⟨0, rfl, ⟨fun _ => rfl, fun _ => rfl⟩, HEW.out⟩
end Go.Proofs.YtbpdbikphlhaiaaGreatDoor
namespace Go.Proofs.YtbpdbikphlhaiaaGreatDoor
open Go.RowKit
set_option linter.unusedVariables false
attribute [local go_sem ↓] Go.wp_at_zero Go.wp_at_succ
set_option maxHeartbeats 400000 in
theorem indexFunc_evs {α : Type} [Inhabited α] (R : World → List Value → α → Prop) (hLasts : Lasts R) (g : Nat) (cb : Array Value) (eg : ∀ args w, (callFunc g args).run Tryz.prog w = .ok (.enter g args) w) (p : α → Bool) (v : Value) (l : List α) (w : World)
  (hv : Sl R 5 w v l) (hn : l.length ≤ 1000000) (hp : SaysOf Tryz.prog R encAgg g cb p l w) :
  Calls Tryz.prog 41 #[v, .func (.func g) #[] cb] w fun e w' => e = .returned (.int .i64 (firstAt p l)) ∧ Ext w w' := by
 obtain ⟨a, c, rfl, hlc, hv⟩ := hv
 have HLC := Lib.hid hlc; clear hlc
 have HV := Lib.hid hv; clear hv
 have HP := Lib.hid hp; clear hp
 have HT := Lib.hid hLasts; clear hLasts
 generalize hln : l.length = n at hn
 have HL := Lib.hid hln; clear hln
 go_enter Tryz.func41, Tryz.ntmps41
 go_wp2
 go_loopg [5, 8] n (fun m _ s8 wr => ∃ k : Nat, k ≤ n ∧ n - k ≤ m ∧ s8 = .int .i64 k ∧ Ext w wr ∧ Aside (∀ j, j < k → p l[j]! = false))
 case atStart => exact ⟨0, Nat.zero_le _, by omega, rfl, Below.refl _ _, (fun j hj => absurd hj (Nat.not_lt_zero _))⟩
 case round =>
  obtain ⟨k, hk, hm, rfl, he, A⟩ := hrel
  have HE := Lib.hid he; clear he
  by_cases hlt : k < n
  ·obtain ⟨b, off, rfl, hb, hc⟩ := HV.out (by intro e; have := HL.out; simp [e] at this; omega)
   obtain ⟨vs, hvs, hR, hcell⟩ := hc k (by rw [HL.out]; exact hlt)
   obtain ⟨c0, c1, c2, c3, c4, rfl⟩ : ∃ c0 c1 c2 c3 c4, vs = [c0, c1, c2, c3, c4] := by match vs, hvs with | [c0, c1, c2, c3, c4], _ => exact ⟨c0, c1, c2, c3, c4, rfl⟩
   have d0 : wr.cell? ⟨b, off + k * 5, none⟩ = some c0 := (HE.out.cell hb).trans (hcell 0 (by omega))
   have d1 : wr.cell? ⟨b, off + k * 5 + 1, none⟩ = some c1 := (HE.out.cell hb).trans (hcell 1 (by omega))
   have d2 : wr.cell? ⟨b, off + k * 5 + 2, none⟩ = some c2 := (HE.out.cell hb).trans (hcell 2 (by omega))
   have d3 : wr.cell? ⟨b, off + k * 5 + 3, none⟩ = some c3 := (HE.out.cell hb).trans (hcell 3 (by omega))
   have d4 : wr.cell? ⟨b, off + k * 5 + 4, none⟩ = some c4 := (HE.out.cell hb).trans (hcell 4 (by omega))
   have hltz : (k : Int) < (n : Int) := by omega
   clear hc hcell
   have hcall := HP.out _ (mem_at l k (by rw [HL.out]; exact hlt)) wr _ HE.out (HT.out _ _ _ _ hR HE.out)
   unfold encAgg at hcall
   generalize hy : l[k]! = y at hcall hR
   have B := Lib.hid hy
   clear hy hR hvs HV HT HP
   cases hq : p y with
   | true =>
     rw [hq] at hcall
     have HQ := Lib.hid hq; clear hq
     go_wp2_with (go_at_fn g; refine hcall.mono ?_; rintro e w' ⟨rfl, he'⟩)
     go_ret
     exact ⟨by rw [firstAt_hit p l k (by rw [HL.out]; omega) (by rw [B.out]; exact HQ.out) A.out]; rfl, HE.out.trans' he'⟩
   | false =>
     rw [hq] at hcall
     have HQ := Lib.hid hq; clear hq
     go_wp2_with (go_at_fn g; refine hcall.mono ?_; rintro e w' ⟨rfl, he'⟩)
     go_roundg (n - (k + 1))
     case measure => omega
     case rel =>
      refine ⟨k + 1, by omega, by omega, by go_num, HE.out.trans' he', (show Aside _ from fun j hj => ?_)⟩
      by_cases e : j = k
      ·subst e
       rw [B.out]; exact HQ.out
      ·exact A.out j (by omega)
  ·have hltz : ¬ (k : Int) < (n : Int) := by omega
   go_wp2
   go_ret
   exact ⟨by rw [firstAt_miss p l (fun j hj => A.out j (by rw [HL.out] at hj; omega))]; rfl, HE.out⟩
set_option maxHeartbeats 400000 in
theorem containsFunc_evs {α : Type} [Inhabited α] (R : World → List Value → α → Prop) (hLasts : Lasts R) (g : Nat) (cb : Array Value) (eg : ∀ args w, (callFunc g args).run Tryz.prog w = .ok (.enter g args) w) (p : α → Bool) (v : Value) (l : List α) (w : World)
  (hv : Sl R 5 w v l) (hn : l.length ≤ 1000000) (hp : SaysOf Tryz.prog R encAgg g cb p l w) :
  Calls Tryz.prog 21 #[v, .func (.func g) #[] cb] w fun e w' => e = .returned (.bool (l.any p)) ∧ Ext w w' := by
 have HI := Lib.hid (indexFunc_evs R hLasts g cb eg p v l w hv hn hp)
 clear hv hp eg hLasts
 rw [← firstAt_any]
 go_enter Tryz.func21, Tryz.ntmps21
 go_wp2_with (go_at_call 41; refine HI.out.mono ?_; rintro e w' ⟨rfl, he'⟩)
 go_ret
 exact ⟨rfl, he'⟩
theorem enters_117 : ∀ args w, (callFunc 117 args).run Tryz.prog w = .ok (.enter 117 args) w := enters_of Tryz.func117 (by kernel_rfl) rfl
set_option maxHeartbeats 1000000 in
theorem sends1_calls (vs : List Value) (x : Ev) (b1 b2 : Nat) (m q : Int) (w : World) (hx : REv w vs x) (hc1 : w.cell? ⟨b1, 0, none⟩ = some (.int .i64 m)) (hc2 : w.cell? ⟨b2, 0, none⟩ = some (.int .i64 q)) :
  Calls Tryz.prog 117 #[.agg vs.toArray, .pointer (some ⟨b1, 0, none⟩), .pointer (some ⟨b2, 0, none⟩)] w fun e w' => e = .returned (.bool (decide (x.kind = 2) && (decide (x.msg = m) && decide (x.peer = q)))) ∧ Ext w w' := by
 obtain ⟨va, rfl, ha⟩ := hx
 obtain ⟨ua, uc, rfl, huc⟩ := ha.sh
 have hbl1 := World.block_lt_of_cell? w _ hc1
 have hbn1 : b1 ≠ w.heap.size := Nat.ne_of_lt hbl1
 have hbl2 := World.block_lt_of_cell? w _ hc2
 have hbn2 : b2 ≠ w.heap.size := Nat.ne_of_lt hbl2
 generalize x.asg.length = na at *
 clear ha
 have hx0 := cell_new w #[.int .i64 x.kind, .int .i64 x.peer, .int .i64 x.msg, .int .i64 x.time, .slice ua na uc] 58 0 _ rfl
 have hx1 := cell_new w #[.int .i64 x.kind, .int .i64 x.peer, .int .i64 x.msg, .int .i64 x.time, .slice ua na uc] 58 1 _ rfl
 have hx2 := cell_new w #[.int .i64 x.kind, .int .i64 x.peer, .int .i64 x.msg, .int .i64 x.time, .slice ua na uc] 58 2 _ rfl
 obtain ⟨c1, hd1⟩ : ∃ b, (x.kind == 2) = b := ⟨_, rfl⟩
 obtain ⟨c2, hd2⟩ : ∃ b, (x.msg == m) = b := ⟨_, rfl⟩
 obtain ⟨c3, hd3⟩ : ∃ b, (x.peer == q) = b := ⟨_, rfl⟩
 have HR : Hid ((decide (x.kind = 2) && (decide (x.msg = m) && decide (x.peer = q))) = (c1 && (c2 && c3))) := Lib.hid (by rw [← hd1, ← hd2, ← hd3]; rfl)
 rw [HR.out]
 cases c1 <;> cases c2 <;> cases c3
 all_goals
  go_enter Tryz.func117, Tryz.ntmps117
  go_wp2
  go_ret
  exact ⟨rfl, (by repeat (first | refine Ext.st ?_ (by first | exact Nat.le_refl _ | exact Nat.le_succ _ | assumption | omega) _ | refine Ext.al ?_ _ | refine Ext.dr ?_ | refine Ext.drN ?_ _ | exact Ext.rf _))⟩
set_option maxHeartbeats 2000000 in
theorem sends_calls (v : Value) (t : Tr) (p : Nat) (m q : Int) (w : World) (h : TrAt w v t) (hs : SmallTr t) (hp : p < t.length) :
  Calls Tryz.prog 105 #[.agg #[v], .int .i64 p, .int .i64 m, .int .i64 q] w fun e w' => e = .returned (.bool (sendsB t p m q)) ∧ Ext w w' := by
 obtain ⟨B, O, C, vv, ve, rfl, hlC, hB, hn0, hv0, he0, hV, hE0⟩ := proc_at h p hp
 have hn := hs.1
 have hen := (hs.2 p hp).2.1
 have HA := Lib.hid hE0
 obtain ⟨ea, ec, rfl, hec⟩ := hE0.sh
 have HSB : Hid (sendsB t p m q = t[p]!.events.any fun s => decide (s.kind = 2) && (decide (s.msg = m) && decide (s.peer = q))) := Lib.hid rfl
 generalize sendsB t p m q = sb at *
 generalize hx : t[p]! = x at *
 generalize t.length = n at *
 have hE3 : Ext w (((w.alloc (.cells #[.slice (some ⟨B, O, none⟩) n C] 24)).alloc (.cells #[.int .i64 m] 3)).alloc (.cells #[.int .i64 q] 3)) := (((Ext.rf w).al _).al _).al _
 have he1 := hE3.cl he0
 have HX0 := Lib.hid ((((Ext.rf _).al (.cells #[.int .i64 m] 3)).al (.cells #[.int .i64 q] 3)).hp (heap_alloc_new w (.cells #[.slice (some ⟨B, O, none⟩) n C] 24)))
 have HX1 := Lib.hid (((Ext.rf _).al (.cells #[.int .i64 q] 3)).hp (heap_new_eq (w := w.alloc (.cells #[.slice (some ⟨B, O, none⟩) n C] 24)) (o := .cells #[.int .i64 m] 3) (b := w.heap.size + 1) (by simp)))
 have HX2 := Lib.hid (heap_new_eq (w := (w.alloc (.cells #[.slice (some ⟨B, O, none⟩) n C] 24)).alloc (.cells #[.int .i64 m] 3)) (o := .cells #[.int .i64 q] 3) (b := w.heap.size + 1 + 1) (by simp))
 have HE3 := Lib.hid hE3
 have hpz : (0 : Int) ≤ (p : Int) := by omega
 have hpi : (p : Int) < (n : Int) := by omega
 have HCF := Lib.hid (fun W (hW : Ext w W) (hc1 : W.cell? ⟨w.heap.size + 1, 0, none⟩ = some (.int .i64 m)) (hc2 : W.cell? ⟨w.heap.size + 1 + 1, 0, none⟩ = some (.int .i64 q)) =>
  containsFunc_evs REv rev_lasts 117 #[.pointer (some ⟨w.heap.size + 1, 0, none⟩), .pointer (some ⟨w.heap.size + 1 + 1, 0, none⟩)] enters_117 (fun s => decide (s.kind = 2) && (decide (s.msg = m) && decide (s.peer = q))) _ x.events W (HA.out.ext rev_lasts hW) hen
   (fun y hy W2 vs hW2 hR => sends1_calls vs y _ _ m q W2 hR (hW2.cl hc1) (hW2.cl hc2)))
 generalize hne : x.events.length = ne at *
 clear h hs hE3 hn0 hv0 he0 hV hE0 hx
 rw [HSB.out]
 generalize (x.events.any fun s => decide (s.kind = 2) && (decide (s.msg = m) && decide (s.peer = q))) = sc at *
 clear HSB
 clear hne
 go_enter Tryz.func105, Tryz.ntmps105
 go_wp2_with fail
 generalize hw3 : ((w.alloc (.cells #[.slice (some ⟨B, O, none⟩) n C] 24)).alloc (.cells #[.int .i64 m] 3)).alloc (.cells #[.int .i64 q] 3) = w3 at *
 clear hw3
 refine (HCF.out _ HE3.out (by have := cellOf HX1.out 0; simpa using this) (by have := cellOf HX2.out 0; simpa using this)).mono ?_
 rintro e w4 ⟨rfl, hE4⟩
 go_wp2
 go_ret
 exact ⟨rfl, HE3.out.trans' hE4⟩
end Go.Proofs.YtbpdbikphlhaiaaGreatDoor
namespace Go.Proofs.YtbpdbikphlhaiaaGreatDoor
open Go.RowKit
set_option linter.unusedVariables false
open Go.Shelf
attribute [local go_sem] Oper.semAt_some
def MsgI (t : Tr) (w : World) (v : Value) (pre : List (EvA t w)) (W : World) : Prop :=
 (W.heap[w.heap.size]? = some (.cells #[v] 24) ∧ W.heap[w.heap.size + 1]? = some (.cells #[.pointer none] 131) ∧ W.heap[w.heap.size + 1 + 1]? = some (idO 0 0) ∧
  W.heap[w.heap.size + 1 + 1 + 1]? = some (.cells #[.int .i64 0] 33) ∧ W.heap[w.heap.size + 1 + 1 + 1 + 1 + 1]? = some (.cells #[.pointer (some ⟨w.heap.size + 1 + 1 + 1 + 1, 0, none⟩)] 131)) ∧
 Lett W (w.heap.size + 1 + 1 + 1 + 1) t (nms pre) ∧ okPre t (nms pre) ∧ Ext w W ∧ w.heap.size + 7 ≤ W.heap.size
def MsgX (t : Tr) (w : World) (c : Code) (pre : List (EvA t w)) (W : World) : Prop :=
 c = .ret ∧ (∃ l x, nms pre = l ++ [x] ∧ pairStep t l x = false) ∧ (∃ a b E : Int, E ≠ 0 ∧ W.heap[w.heap.size + 1]? = some (.cells #[.pointer none] 131) ∧ W.heap[w.heap.size + 1 + 1]? = some (idO a b) ∧
  W.heap[w.heap.size + 1 + 1 + 1]? = some (.cells #[.int .i64 E] 33)) ∧ Ext w W
theorem msgI_own (t : Tr) (w : World) (v : Value) (B : Nat) (hB : w.heap.size ≤ B) : OwnFrom B (MsgI t w v) := fun s A A' row hs hg hr => by
 obtain ⟨⟨h0, h1, h2, h3, h5⟩, hL, ho, hE, hz⟩ := hs
 have hr' := fun r e => (hr r e).2
 exact ⟨⟨heap_kept h0 hg hr', heap_kept h1 hg hr', heap_kept h2 hg hr', heap_kept h3 hg hr', heap_kept h5 hg hr'⟩, hL.kept hg hr', ho, ownFrom_below (β := Unit) (Nat.le_refl _) hB () A A' row hE hg hr, Nat.le_trans hz hg.size⟩
theorem msgX_own (t : Tr) (w : World) (c : Code) (B : Nat) (hB : w.heap.size ≤ B) : OwnFrom B (MsgX t w c) := fun s A A' row hs hg hr => by
 obtain ⟨hc, hx, ⟨a, b, E, hE0, h1, h2, h3⟩, hE⟩ := hs
 have hr' := fun r e => (hr r e).2
 exact ⟨hc, hx, ⟨a, b, E, hE0, heap_kept h1 hg hr', heap_kept h2 hg hr', heap_kept h3 hg hr'⟩, ownFrom_below (β := Unit) (Nat.le_refl _) hB () A A' row hE hg hr⟩
theorem MsgI.al {t : Tr} {w : World} {v : Value} {pre : List (EvA t w)} {W : World} (h : MsgI t w v pre W) (o : Obj) : MsgI t w v pre (W.alloc o) := (msgI_own t w v w.heap.size (Nat.le_refl _)).alloc o h
theorem ext_keeps {B : Nat} {W W' : World} (h : Ext W W') : KeepsFrom B W W' := ⟨h.size, fun k o hk hko ho => h.hp hko⟩
theorem pairStep_send {t : Tr} {pre : List Eid} {x : Eid} {m : Int} (hk : (ev t x).kind = 2) (hm : (ev t x).msg = m) : pairStep t pre x = (firstIn pre t 2 m).isNone := by
 unfold pairStep; rw [hk, hm]; simp
theorem pairStep_recv {t : Tr} {pre : List Eid} {x : Eid} {m : Int} {q : Nat} (hk : (ev t x).kind = 3) (hm : (ev t x).msg = m) (hq : (ev t x).peer = q) : pairStep t pre x = ((firstIn pre t 3 m).isNone && sendsB t q m x.1) := by
 unfold pairStep; rw [hk, hm, hq]; simp
theorem pairStep_loc {t : Tr} {pre : List Eid} {x : Eid} (hk : (ev t x).kind = 1) : pairStep t pre x = true := by
 unfold pairStep; rw [hk]; simp
theorem three_set {W : World} {k : Nat} {a b c d : Value} {T1 T3 : TypeId} (h1 : W.heap[k + 1]? = some (.cells #[a] T1)) (h2 : W.heap[k + 1 + 1]? = some (.cells #[b, c] 39)) (h3 : W.heap[k + 1 + 1 + 1]? = some (.cells #[d] T3)) (u p q e : Value) :
  ((((W.setCell ⟨k + 1, 0, none⟩ u).setCell ⟨k + 1 + 1, 0, none⟩ p).setCell ⟨k + 1 + 1, 1, none⟩ q).setCell ⟨k + 1 + 1 + 1, 0, none⟩ e).heap[k + 1]? = some (.cells #[u] T1) ∧
  ((((W.setCell ⟨k + 1, 0, none⟩ u).setCell ⟨k + 1 + 1, 0, none⟩ p).setCell ⟨k + 1 + 1, 1, none⟩ q).setCell ⟨k + 1 + 1 + 1, 0, none⟩ e).heap[k + 1 + 1]? = some (.cells #[p, q] 39) ∧
  ((((W.setCell ⟨k + 1, 0, none⟩ u).setCell ⟨k + 1 + 1, 0, none⟩ p).setCell ⟨k + 1 + 1, 1, none⟩ q).setCell ⟨k + 1 + 1 + 1, 0, none⟩ e).heap[k + 1 + 1 + 1]? = some (.cells #[e] T3) ∧
  ∀ j, j ≠ k + 1 → j ≠ k + 1 + 1 → j ≠ k + 1 + 1 + 1 → ((((W.setCell ⟨k + 1, 0, none⟩ u).setCell ⟨k + 1 + 1, 0, none⟩ p).setCell ⟨k + 1 + 1, 1, none⟩ q).setCell ⟨k + 1 + 1 + 1, 0, none⟩ e).heap[j]? = W.heap[j]? := by
 have a1 : (W.setCell ⟨k + 1, 0, none⟩ u).heap[k + 1]? = some (.cells #[u] T1) := by rw [heap_setCell_same h1]; simp
 have o : ∀ (V : World) (j i : Nat) (z : Value) (n : Nat), n ≠ j → (V.setCell ⟨j, i, none⟩ z).heap[n]? = V.heap[n]? := fun V j i z n hn => Below.heap_setCell V ⟨j, i, none⟩ z n hn
 have a2 : (W.setCell ⟨k + 1, 0, none⟩ u).heap[k + 1 + 1]? = some (.cells #[b, c] 39) := by rw [o _ _ _ _ _ (by omega)]; exact h2
 have a3 : (W.setCell ⟨k + 1, 0, none⟩ u).heap[k + 1 + 1 + 1]? = some (.cells #[d] T3) := by rw [o _ _ _ _ _ (by omega)]; exact h3
 have b2 := id_set a2 p q
 refine ⟨?_, ?_, ?_, fun j j1 j2 j3 => by rw [o _ _ _ _ _ j3, o _ _ _ _ _ j2, o _ _ _ _ _ j2, o _ _ _ _ _ j1]⟩
 ·rw [o _ _ _ _ _ (by omega), o _ _ _ _ _ (by omega), o _ _ _ _ _ (by omega)]; exact a1
 ·rw [o _ _ _ _ _ (by omega)]; exact b2
 ·rw [heap_setCell_same (by rw [o _ _ _ _ _ (by omega), o _ _ _ _ _ (by omega)]; exact a3)]; simp
theorem formedB_cases {n p : Nat} {kd pe ms ti : Int} {al : List Asg} (h : formedB n p ⟨kd, pe, ms, ti, al⟩ = true) : (kd = 1 ∧ pe = 0 ∧ ms = 0) ∨ (kd = 2 ∧ 0 ≤ pe ∧ pe < n ∧ ∃ m : Nat, ms = m ∧ m ≤ 199) ∨ (kd = 3 ∧ 0 ≤ pe ∧ pe < n ∧ ∃ m : Nat, ms = m ∧ m ≤ 199) := by
 unfold formedB at h
 by_cases h1 : kd = 1
 ·simp [h1] at h; exact .inl ⟨h1, h⟩
 ·simp [h1] at h
  obtain ⟨h2, h3, h4, h5, h6, h7⟩ := h
  have hm : ∃ m : Nat, ms = m ∧ m ≤ 199 := ⟨ms.toNat, by omega, by omega⟩
  rcases h2 with h2 | h2
  ·exact .inr (.inl ⟨h2, h3, h4, hm⟩)
  ·exact .inr (.inr ⟨h2, h3, h4, hm⟩)
theorem two_set {W : World} {b i j : Nat} {cs : Array Value} {T : TypeId} (h : W.heap[b]? = some (.cells cs T)) (u v : Value) :
  ((W.setCell ⟨b, i, none⟩ u).setCell ⟨b, j, none⟩ v).heap[b]? = some (.cells ((cs.setIfInBounds i u).setIfInBounds j v) T) ∧ ∀ k, k ≠ b → ((W.setCell ⟨b, i, none⟩ u).setCell ⟨b, j, none⟩ v).heap[k]? = W.heap[k]? := by
 refine ⟨heap_setCell_same (heap_setCell_same h), fun k hk => ?_⟩
 rw [Below.heap_setCell _ ⟨b, j, none⟩ v k hk, Below.heap_setCell _ ⟨b, i, none⟩ u k hk]
set_option maxHeartbeats 8000000 in
set_option maxRecDepth 100000 in
theorem messageP_calls (v : Value) (t : Tr) (w : World) (h : TrAt w v t) (hs : SmallTr t) (hf : ∀ x, Inn t x → formedB t.length x.1 (ev t x) = true) :
  Calls Tryz.prog 85 #[.agg #[v]] w fun e w' => MsgOut t w w' e := by
 have HT := Lib.hid h
 have HS := Lib.hid hs
 have HF := Lib.hid hf
 obtain ⟨ta, tc, rfl, htc⟩ := h.sh
 have hn1 := hs.1
 generalize hln : t.length = N at *
 have HL := Lib.hid hln
 clear h hs hf hln
 have hmix : Tryz.prog.follows Departure.mixedOrders = true := by kernel_rfl
 refine (callsIn_wide (n := 9)).1 ?_
 refine callsIn_of_wp_marks Tryz.func85 rfl trivial ?_ rfl
 simp only [Tryz.ntmps85, List.size_toArray, List.length_cons, List.length_nil, Nat.reduceAdd, Nat.reduceSub, Array.replicate_succ, Array.replicate_zero, List.push_toArray, List.append_toArray, List.nil_append, List.cons_append]
 gi_wp2_with fail
 refine ⟨trivial, (events_in 8 _ _).mono ?_⟩
 rintro e w' ⟨rfl, rfl⟩
 gi_wp2
 obtain ⟨W0, hW0⟩ : ∃ W0, ((((((w.alloc (.cells #[.slice ta N tc] 24)).alloc (.cells #[.pointer none] 131)).alloc (idO 0 0)).alloc (.cells #[.int .i64 0] 33)).alloc (.cells Tryz.zeroCells151 151)).alloc (.cells #[.pointer (some ⟨w.heap.size + 1 + 1 + 1 + 1, 0, none⟩)] 131)).alloc (.cells #[.slice ta N tc] 24) = W0 := ⟨_, rfl⟩
 have HB := Lib.hid (fun i o => allocs_at [.cells #[.slice ta N tc] 24, .cells #[.pointer none] 131, idO 0 0, .cells #[.int .i64 0] 33, .cells Tryz.zeroCells151 151, .cells #[.pointer (some ⟨w.heap.size + 1 + 1 + 1 + 1, 0, none⟩)] 131, .cells #[.slice ta N tc] 24] w i o)
 have HB : Hid (∀ i o, _ → W0.heap[w.heap.size + i]? = some o) := Lib.hid (fun i o h => hW0 ▸ HB.out i o h)
 have hsz : W0.heap.size = w.heap.size + 7 := by rw [← hW0]; simp
 have hE0 : Ext w W0 := by rw [← hW0]; exact (by repeat (first | refine Ext.st ?_ (by first | exact Nat.le_refl _ | exact Nat.le_succ _ | assumption | omega) _ | refine Ext.al ?_ _ | refine Ext.dr ?_ | refine Ext.drN ?_ _ | exact Ext.rf _))
 rw [hW0]
 clear hW0
 have HE0 := Lib.hid hE0
 have hi0 : MsgI t w (.slice ta N tc) [] W0 := ⟨⟨HB.out 0 _ rfl, HB.out 1 _ rfl, HB.out 2 _ rfl, HB.out 3 _ rfl, HB.out 5 _ rfl⟩, ⟨_, HB.out 4 _ rfl, LettA.start t⟩, okPre_nil t, hE0, by omega⟩
 have hc6 : W0.cell? ⟨w.heap.size + 1 + 1 + 1 + 1 + 1 + 1, 0, none⟩ = some (.slice ta N tc) := by have := cellOf (HB.out 6 _ rfl) 0; simpa using this
 refine wpIn_rangeFunc_ownH rfl (by decide) (gf := 97) (lb := #[.pointer (some ⟨w.heap.size + 1 + 1 + 1 + 1 + 1 + 1, 0, none⟩)]) rfl trivial enters_97
  (events_stops 8 (by decide) (w.heap.size + 1 + 1 + 1 + 1 + 1 + 1) _ t w W0 HT.out HS.out hE0 (by omega) hc6) belowK_t (belowK_b (by omega)) (Below.refl _ _) (fun _ => rfl)
  (MsgI t w (.slice ta N tc)) (MsgX t w) (msgI_own t w _ _ (by omega)) (fun c => msgX_own t w c _ (by omega)) hi0
  (fun x a' W => ∃ Bx ua uc, w.heap.size + 7 ≤ Bx ∧ x.1.2 = .slice ua (ev t x.1.1).asg.length uc ∧ W.heap[Bx]? = some (idO (x.1.1.1 : Int) ((x.1.1.2 : Int) + 1)) ∧ W.heap[Bx + 1]? = some (evO (ev t x.1.1).kind (ev t x.1.1).peer (ev t x.1.1).msg (ev t x.1.1).time (.slice ua (ev t x.1.1).asg.length uc)) ∧ a' = { tmps := #[.agg #[.slice ta N tc], .pointer (some ⟨w.heap.size, 0, none⟩), .pointer (some ⟨w.heap.size + 1, 0, none⟩), .pointer (some ⟨w.heap.size + 1 + 1, 0, none⟩), .pointer (some ⟨w.heap.size + 1 + 1 + 1, 0, none⟩), .pointer (some ⟨w.heap.size + 1 + 1 + 1 + 1 + 1, 0, none⟩), .pointer (some ⟨Bx, 0, none⟩), .pointer (some ⟨Bx + 1, 0, none⟩), undef, .agg Tryz.zeroCells151, .pointer (some ⟨w.heap.size + 1 + 1 + 1 + 1, 0, none⟩), .agg #[.slice ta N tc], .func (.func 97) #[] #[.pointer (some ⟨w.heap.size + 1 + 1 + 1 + 1 + 1 + 1, 0, none⟩)], .agg #[.int .i64 (x.1.1.1 : Int), .int .i64 ((x.1.1.2 : Int) + 1)], .agg #[.int .i64 (ev t x.1.1).kind, .int .i64 (ev t x.1.1).peer, .int .i64 (ev t x.1.1).msg, .int .i64 (ev t x.1.1).time, .slice ua (ev t x.1.1).asg.length uc], undef, undef, undef, undef, undef, undef, undef, undef, undef, undef, undef, undef, undef, undef, undef, undef, undef, undef, undef, undef, undef, undef, undef, undef, undef, undef, undef, undef, undef, undef, undef, undef, undef, undef, undef, undef, undef, undef, undef, undef, undef, undef, undef, undef, undef, undef, undef, undef, undef], defers := [] })
  (fun x a' s A A' row hs hg hr => by obtain ⟨Bx, ua, uc, h0, hv, h1, h2, h3⟩ := hs; exact ⟨Bx, ua, uc, h0, hv, heap_kept h1 hg (fun r e => (hr r e).2), heap_kept h2 hg (fun r e => (hr r e).2), h3⟩)
  ?assign ?body ?done ?stop
 case assign =>
  rintro l pre x W K hi hK
  obtain ⟨ua, uc, hva, huc⟩ := x.2.2.sh
  have HK := Lib.hid hK
  have HI := Lib.hid hi
  have HVA := Lib.hid hva
  have hWs := hi.2.2.2.1.sz
  have hW7 := hi.2.2.2.2
  simp only [encE]
  rw [hva]
  generalize hkd : (ev t x.1.1).kind = kd
  generalize hpe : (ev t x.1.1).peer = pe
  generalize hms : (ev t x.1.1).msg = ms
  generalize hti : (ev t x.1.1).time = ti
  generalize hna : (ev t x.1.1).asg.length = na
  generalize hxp : (x.1.1.1 : Int) = xp
  generalize hxi : (x.1.1.2 : Int) = xi
  have HG := Lib.hid (And.intro hkd (And.intro hpe (And.intro hms (And.intro hti (And.intro hna (And.intro hxp hxi))))))
  clear hK hi hva hkd hpe hms hti hna hxp hxi huc
  gi_wp2
  obtain ⟨rfl, rfl, rfl, rfl, rfl, rfl, rfl⟩ := HG.out
  have g0 := heap_alloc_new W (idO (x.1.1.1 : Int) ((x.1.1.2 : Int) + 1))
  have g1 := heap_new_eq (w := W.alloc (idO (x.1.1.1 : Int) ((x.1.1.2 : Int) + 1))) (o := evO (ev t x.1.1).kind (ev t x.1.1).peer (ev t x.1.1).msg (ev t x.1.1).time (.slice ua (ev t x.1.1).asg.length uc)) (b := W.heap.size + 1) (by simp)
  refine HK.out _ _ (((KeepsOthers.alloc _ _).trans (KeepsOthers.alloc _ _)).from _) (((Below.refl w.heap.size W).alloc hWs _).alloc (by simp; omega) _) ((HI.out.al _).al _) ⟨W.heap.size, ua, uc, hW7, HVA.out, ((Ext.rf _).al _).hp g0, g1, rfl⟩
 case body =>
  rintro l pre x a' W hl ⟨r, hr⟩ hI ⟨Bx, ua, uc, hB7, hva, hb0, hb1, rfl⟩ hlt
  obtain ⟨⟨i0, i1, i2, i3, i5⟩, ⟨cs, hcs, hL⟩, hok, hE, hz⟩ := hI
  have HVA := Lib.hid hva
  have HIN := Lib.hid x.2.1
  have HFM := Lib.hid (HF.out x.1.1 x.2.1)
  have HPRE := Lib.hid hok
  have HLA := Lib.hid hL
  have HEW := Lib.hid hE
  have h0 := Lib.hid i0
  have h1 := Lib.hid i1
  have h2 := Lib.hid i2
  have h3 := Lib.hid i3
  have h5 := Lib.hid i5
  have hc := Lib.hid hcs
  have hx := Lib.hid hb0
  have hy := Lib.hid hb1
  clear hr hlt hva hok hL hE i0 i1 i2 i3 i5 hcs hb0 hb1 hi0 hc6 HB
  generalize hxx : x.1.1 = xx at *
  obtain ⟨xp, xi⟩ := xx
  simp only at *
  have HXX := Lib.hid hxx
  generalize hyy : ev t (xp, xi) = y at *
  obtain ⟨kd, pe, ms, ti, al⟩ := y
  simp only at *
  have HY := Lib.hid hyy
  generalize al.length = na at *
  have hfo := formedB_cases HFM.out
  clear hxx hyy
  rcases hfo with ⟨rfl, _, _⟩ | ⟨rfl, hp0, hp1, m, rfl, hm9⟩ | ⟨rfl, hp0, hp1, m, rfl, hm9⟩
  ·
   have c1 := cellOf h1.out 0
   have c2 := cellOf h2.out 0
   have c2b := cellOf h2.out 1
   have c3 := cellOf h3.out 0
   have c5 := cellOf h5.out 0
   have f1 := freeOf h1.out 0
   have f2 := freeOf h2.out 0
   have f2b := freeOf h2.out 1
   have f3 := freeOf h3.out 0
   have x0 := cellOf hx.out 0
   have x1 := cellOf hx.out 1
   have y0 := cellOf hy.out 0
   have y1 := cellOf hy.out 1
   have y2 := cellOf hy.out 2
   have t0 := cellOf h0.out 0
   simp only [List.getElem?_toArray, List.getElem?_cons_zero, List.getElem?_cons_succ] at c1 c2 c2b c3 c5 x0 x1 y0 y1 y2 t0
   gi_wp2
   exact ⟨KeepsFrom.refl _ _, Below.refl _ _, ⟨h0.out, h1.out, h2.out, h3.out, h5.out⟩, ⟨cs, hc.out, by rw [nms_snoc, HXX.out]; exact HLA.out.local (by rw [HY.out])⟩,
    by rw [nms_snoc, HXX.out]; exact okPre_snoc HPRE.out (pairStep_loc (by rw [HY.out])), HEW.out, hz⟩
  ·
   have c1 := cellOf h1.out 0
   have c2 := cellOf h2.out 0
   have c2b := cellOf h2.out 1
   have c3 := cellOf h3.out 0
   have c5 := cellOf h5.out 0
   have f1 := freeOf h1.out 0
   have f2 := freeOf h2.out 0
   have f2b := freeOf h2.out 1
   have f3 := freeOf h3.out 0
   have x0 := cellOf hx.out 0
   have x1 := cellOf hx.out 1
   have y0 := cellOf hy.out 0
   have y1 := cellOf hy.out 1
   have y2 := cellOf hy.out 2
   have t0 := cellOf h0.out 0
   simp only [List.getElem?_toArray, List.getElem?_cons_zero, List.getElem?_cons_succ] at c1 c2 c2b c3 c5 x0 x1 y0 y1 y2 t0
   have hmz : (0 : Int) ≤ (m : Int) := by omega
   have hm2 : (m : Int) < 200 := by omega
   have hm3 : m < 200 := by omega
   have HK2 := Lib.hid (show (ev t (xp, xi)).kind = 2 from by rw [HY.out])
   have HM2 := Lib.hid (show (ev t (xp, xi)).msg = (m : Int) from by rw [HY.out])
   have lA := (cellOf hc.out (m * 4)).trans (HLA.out.2 m hm9).1
   have lB := (cellOf hc.out (m * 4 + 1)).trans (HLA.out.2 m hm9).2.1
   have fA := freeOf hc.out (m * 4)
   have fB := freeOf hc.out (m * 4 + 1)
   obtain ⟨o, ho⟩ : ∃ o, firstIn (nms pre) t 2 m = o := ⟨_, rfl⟩
   rw [ho] at lA lB
   have HO := Lib.hid ho
   clear ho
   cases o with
   | some z =>
     have hzb : 0 < eidB (some z) := by show (0 : Int) < (z.2 : Int) + 1; omega
     generalize eidA (some z) = za at *
     generalize eidB (some z) = zb at *
     have HST := Lib.hid (show pairStep t (nms pre) (xp, xi) = false from by rw [pairStep_send HK2.out HM2.out, HO.out]; rfl)
     gi_wp2
     gi_region_with_o (fail)
     all_goals
      gi_wp2
      have HT3 := three_set h1.out h2.out h3.out (.pointer none) (.int .i64 xp) (.int .i64 ((xi : Int) + 1)) (.int .i64 8)
      refine ⟨?_, rfl, ⟨nms pre, (xp, xi), by rw [nms_snoc, HXX.out], HST.out⟩, ⟨(xp : Int), (xi : Int) + 1, 8, by decide, HT3.1, HT3.2.1, HT3.2.2.1⟩, ?_⟩
      ·exact (KeepsFrom.refl _ _).trans (((((KeepsOthers.setCell _ _ _).trans (KeepsOthers.setCell _ _ _)).trans (KeepsOthers.setCell _ _ _)).trans ((KeepsOthers.setCell _ _ _).trans (KeepsOthers.drew _))).from _)
      ·exact ((((HEW.out.st (p := ⟨w.heap.size + 1, 0, none⟩) (by simp) _).st (p := ⟨w.heap.size + 1 + 1, 0, none⟩) (by simp; omega) _).st (p := ⟨w.heap.size + 1 + 1, 1, none⟩) (by simp; omega) _).st (p := ⟨w.heap.size + 1 + 1 + 1, 0, none⟩) (by simp; omega) _).dr
   | none =>
     have HST := Lib.hid (show pairStep t (nms pre) (xp, xi) = true from by rw [pairStep_send HK2.out HM2.out, HO.out]; rfl)
     simp only [eidA, eidB] at lA lB
     gi_wp2
     gi_region_with_o (fail)
     all_goals
      gi_wp2
      have HT2 := two_set (i := m * 4) (j := m * 4 + 1) hc.out (.int .i64 xp) (.int .i64 ((xi : Int) + 1))
      refine ⟨?_, ?_, ⟨(HT2.2 _ (by omega)).trans h0.out, (HT2.2 _ (by omega)).trans h1.out, (HT2.2 _ (by omega)).trans h2.out, (HT2.2 _ (by omega)).trans h3.out, (HT2.2 _ (by omega)).trans h5.out⟩, ⟨_, HT2.1, by rw [nms_snoc, HXX.out]; exact HLA.out.send HK2.out HM2.out hm9 HO.out⟩, by rw [nms_snoc, HXX.out]; exact okPre_snoc HPRE.out HST.out, ?_, ?_⟩
      ·exact (KeepsFrom.refl _ _).trans (((KeepsOthers.setCell _ _ _).trans ((KeepsOthers.setCell _ _ _).trans (KeepsOthers.drew _))).from _)
      ·exact (Below.refl _ _).trans ((((Below.refl w.heap.size _).setCell (p := ⟨w.heap.size + 1 + 1 + 1 + 1, m * 4, none⟩) (by simp; omega) _).setCell (p := ⟨w.heap.size + 1 + 1 + 1 + 1, m * 4 + 1, none⟩) (by simp; omega) _).drew)
      ·exact ((HEW.out.st (p := ⟨w.heap.size + 1 + 1 + 1 + 1, m * 4, none⟩) (by simp; omega) _).st (p := ⟨w.heap.size + 1 + 1 + 1 + 1, m * 4 + 1, none⟩) (by simp; omega) _).dr
      ·rw [World.size_drew, size_setCell, size_setCell]; exact hz
  ·
   have c1 := cellOf h1.out 0
   have c2 := cellOf h2.out 0
   have c2b := cellOf h2.out 1
   have c3 := cellOf h3.out 0
   have c5 := cellOf h5.out 0
   have f1 := freeOf h1.out 0
   have f2 := freeOf h2.out 0
   have f2b := freeOf h2.out 1
   have f3 := freeOf h3.out 0
   have x0 := cellOf hx.out 0
   have x1 := cellOf hx.out 1
   have y0 := cellOf hy.out 0
   have y1 := cellOf hy.out 1
   have y2 := cellOf hy.out 2
   have t0 := cellOf h0.out 0
   simp only [List.getElem?_toArray, List.getElem?_cons_zero, List.getElem?_cons_succ] at c1 c2 c2b c3 c5 x0 x1 y0 y1 y2 t0
   have hmz : (0 : Int) ≤ (m : Int) := by omega
   have hm2 : (m : Int) < 200 := by omega
   have hm3 : m < 200 := by omega
   obtain ⟨q, rfl⟩ : ∃ q : Nat, pe = q := ⟨pe.toNat, by omega⟩
   have hqN : q < N := by omega
   have HK3 := Lib.hid (show (ev t (xp, xi)).kind = 3 from by rw [HY.out])
   have HM3 := Lib.hid (show (ev t (xp, xi)).msg = (m : Int) from by rw [HY.out])
   have HQ3 := Lib.hid (show (ev t (xp, xi)).peer = (q : Int) from by rw [HY.out])
   have lA := (cellOf hc.out (m * 4 + 2)).trans (HLA.out.2 m hm9).2.2.1
   have lB := (cellOf hc.out (m * 4 + 3)).trans (HLA.out.2 m hm9).2.2.2
   have fA := freeOf hc.out (m * 4 + 2)
   have fB := freeOf hc.out (m * 4 + 3)
   obtain ⟨o, ho⟩ : ∃ o, firstIn (nms pre) t 3 m = o := ⟨_, rfl⟩
   rw [ho] at lA lB
   have HO := Lib.hid ho
   clear ho
   cases o with
   | some z =>
     have hzb : 0 < eidB (some z) := by show (0 : Int) < (z.2 : Int) + 1; omega
     generalize eidA (some z) = za at *
     generalize eidB (some z) = zb at *
     have HST := Lib.hid (show pairStep t (nms pre) (xp, xi) = false from by rw [pairStep_recv HK3.out HM3.out HQ3.out, HO.out]; rfl)
     gi_wp2
     gi_region_with_o (fail)
     all_goals
      gi_wp2
      have HT3 := three_set h1.out h2.out h3.out (.pointer none) (.int .i64 xp) (.int .i64 ((xi : Int) + 1)) (.int .i64 8)
      refine ⟨?_, rfl, ⟨nms pre, (xp, xi), by rw [nms_snoc, HXX.out], HST.out⟩, ⟨(xp : Int), (xi : Int) + 1, 8, by decide, HT3.1, HT3.2.1, HT3.2.2.1⟩, ?_⟩
      ·exact (KeepsFrom.refl _ _).trans (((((KeepsOthers.setCell _ _ _).trans (KeepsOthers.setCell _ _ _)).trans (KeepsOthers.setCell _ _ _)).trans ((KeepsOthers.setCell _ _ _).trans (KeepsOthers.drew _))).from _)
      ·exact ((((HEW.out.st (p := ⟨w.heap.size + 1, 0, none⟩) (by simp) _).st (p := ⟨w.heap.size + 1 + 1, 0, none⟩) (by simp; omega) _).st (p := ⟨w.heap.size + 1 + 1, 1, none⟩) (by simp; omega) _).st (p := ⟨w.heap.size + 1 + 1 + 1, 0, none⟩) (by simp; omega) _).dr
   | none =>
     simp only [eidA, eidB] at lA lB
     have HSE := Lib.hid (sends_calls (.slice ta N tc) t q (m : Int) (xp : Int) W (HT.out.ext HEW.out) HS.out (by rw [HL.out]; exact hqN))
     gi_wp2_with fail
     clear c1 c2 c2b c3 c5 f1 f2 f2b f3 x0 x1 y0 y1 y2 t0 lA lB fA fB
     refine ⟨trivial, (CallsIn.inRound l ((callsIn_wide (n := 9 - 1 - 1 - 1)).2 HSE.out)).mono ?_⟩
     rintro e W3 ⟨rfl, hE3⟩
     have h1 := Lib.hid (hE3.hp h1.out)
     have h2 := Lib.hid (hE3.hp h2.out)
     have h3 := Lib.hid (hE3.hp h3.out)
     have h5 := Lib.hid (hE3.hp h5.out)
     have h0 := Lib.hid (hE3.hp h0.out)
     have hx := Lib.hid (hE3.hp hx.out)
     have hy := Lib.hid (hE3.hp hy.out)
     have hc := Lib.hid (hE3.hp hc.out)
     have HE3 := Lib.hid hE3
     have HZ3 := Lib.hid (Nat.le_trans hz hE3.size)
     clear hE3
     have c1 := cellOf h1.out 0
     have c2 := cellOf h2.out 0
     have c2b := cellOf h2.out 1
     have c3 := cellOf h3.out 0
     have c5 := cellOf h5.out 0
     have f1 := freeOf h1.out 0
     have f2 := freeOf h2.out 0
     have f2b := freeOf h2.out 1
     have f3 := freeOf h3.out 0
     have x0 := cellOf hx.out 0
     have x1 := cellOf hx.out 1
     have y0 := cellOf hy.out 0
     have y1 := cellOf hy.out 1
     have y2 := cellOf hy.out 2
     have t0 := cellOf h0.out 0
     simp only [List.getElem?_toArray, List.getElem?_cons_zero, List.getElem?_cons_succ] at c1 c2 c2b c3 c5 x0 x1 y0 y1 y2 t0
     have lA := (cellOf hc.out (m * 4 + 2)).trans (HLA.out.2 m hm9).2.2.1
     have lB := (cellOf hc.out (m * 4 + 3)).trans (HLA.out.2 m hm9).2.2.2
     rw [HO.out] at lA lB
     simp only [eidA, eidB] at lA lB
     have fA := freeOf hc.out (m * 4 + 2)
     have fB := freeOf hc.out (m * 4 + 3)
     obtain ⟨sb, hsb⟩ : ∃ b, sendsB t q (m : Int) (xp : Int) = b := ⟨_, rfl⟩
     rw [hsb]
     have HSB := Lib.hid hsb
     clear hsb
     cases sb with
     | false =>
       have HST := Lib.hid (show pairStep t (nms pre) (xp, xi) = false from by rw [pairStep_recv HK3.out HM3.out HQ3.out, HO.out]; exact HSB.out)
       gi_wp2
       gi_region_with_o (fail)
       all_goals
        gi_wp2
        have HT3 := three_set h1.out h2.out h3.out (.pointer none) (.int .i64 xp) (.int .i64 ((xi : Int) + 1)) (.int .i64 7)
        refine ⟨?_, rfl, ⟨nms pre, (xp, xi), by rw [nms_snoc, HXX.out], HST.out⟩, ⟨(xp : Int), (xi : Int) + 1, 7, by decide, HT3.1, HT3.2.1, HT3.2.2.1⟩, ?_⟩
        ·exact (ext_keeps HE3.out).trans (((((KeepsOthers.setCell _ _ _).trans (KeepsOthers.setCell _ _ _)).trans (KeepsOthers.setCell _ _ _)).trans ((KeepsOthers.setCell _ _ _).trans (KeepsOthers.drew _))).from _)
        ·exact (((((HEW.out.trans' HE3.out).st (p := ⟨w.heap.size + 1, 0, none⟩) (by simp) _).st (p := ⟨w.heap.size + 1 + 1, 0, none⟩) (by simp; omega) _).st (p := ⟨w.heap.size + 1 + 1, 1, none⟩) (by simp; omega) _).st (p := ⟨w.heap.size + 1 + 1 + 1, 0, none⟩) (by simp; omega) _).dr
     | true =>
       have HST := Lib.hid (show pairStep t (nms pre) (xp, xi) = true from by rw [pairStep_recv HK3.out HM3.out HQ3.out, HO.out]; exact HSB.out)
       gi_wp2
       gi_region_with_o (fail)
       all_goals
        gi_wp2
        have HT2 := two_set (i := m * 4 + 2) (j := m * 4 + 3) hc.out (.int .i64 xp) (.int .i64 ((xi : Int) + 1))
        refine ⟨?_, ?_, ⟨(HT2.2 _ (by omega)).trans h0.out, (HT2.2 _ (by omega)).trans h1.out, (HT2.2 _ (by omega)).trans h2.out, (HT2.2 _ (by omega)).trans h3.out, (HT2.2 _ (by omega)).trans h5.out⟩, ⟨_, HT2.1, by rw [nms_snoc, HXX.out]; exact HLA.out.recv HK3.out HM3.out hm9 HO.out⟩, by rw [nms_snoc, HXX.out]; exact okPre_snoc HPRE.out HST.out, ?_, ?_⟩
        ·exact (ext_keeps HE3.out).trans (((KeepsOthers.setCell _ _ _).trans ((KeepsOthers.setCell _ _ _).trans (KeepsOthers.drew _))).from _)
        ·exact (HE3.out.mono HEW.out.size).trans ((((Below.refl w.heap.size _).setCell (p := ⟨w.heap.size + 1 + 1 + 1 + 1, m * 4 + 2, none⟩) (by simp; omega) _).setCell (p := ⟨w.heap.size + 1 + 1 + 1 + 1, m * 4 + 3, none⟩) (by simp; omega) _).drew)
        ·exact (((HEW.out.trans' HE3.out).st (p := ⟨w.heap.size + 1 + 1 + 1 + 1, m * 4 + 2, none⟩) (by simp; omega) _).st (p := ⟨w.heap.size + 1 + 1 + 1 + 1, m * 4 + 3, none⟩) (by simp; omega) _).dr
        ·rw [World.size_drew, size_setCell, size_setCell]; exact HZ3.out
 case done =>
  rintro D ys W hD hys hI hK
  obtain ⟨⟨i0, i1, i2, i3, i5⟩, hL, hok, hE, hz⟩ := hI
  have h1 := Lib.hid i1
  have h2 := Lib.hid i2
  have h3 := Lib.hid i3
  have HL2 := Lib.hid hL
  have HOK := Lib.hid hok
  have HEW := Lib.hid hE
  have HKD := Lib.hid hK
  have HYS := Lib.hid hys
  have c1 := cellOf i1 0
  have c2 := cellOf i2 0
  have c2b := cellOf i2 1
  have c3 := cellOf i3 0
  have c5 := cellOf i5 0
  have f1 := freeOf i1 0
  have f2 := freeOf i2 0
  have f2b := freeOf i2 1
  have f3 := freeOf i3 0
  simp only [List.getElem?_toArray, List.getElem?_cons_zero, List.getElem?_cons_succ] at c1 c2 c2b c3 c5
  clear hi0 hc6 HB hys hok hL hE hK i0 i1 i2 i3 i5
  gi_wp2
  obtain ⟨r1, r2, r3, ro⟩ := three_set h1.out h2.out h3.out (.pointer (some ⟨w.heap.size + 1 + 1 + 1 + 1, 0, none⟩)) (.int .i64 0) (.int .i64 0) (.int .i64 0)
  have hE4 : Ext w ((((W.setCell ⟨w.heap.size + 1, 0, none⟩ (.pointer (some ⟨w.heap.size + 1 + 1 + 1 + 1, 0, none⟩))).setCell ⟨w.heap.size + 1 + 1, 0, none⟩ (.int .i64 0)).setCell ⟨w.heap.size + 1 + 1, 1, none⟩ (.int .i64 0)).setCell ⟨w.heap.size + 1 + 1 + 1, 0, none⟩ (.int .i64 0)) :=
   (((HEW.out.st (p := ⟨w.heap.size + 1, 0, none⟩) (by simp) _).st (p := ⟨w.heap.size + 1 + 1, 0, none⟩) (by simp; omega) _).st (p := ⟨w.heap.size + 1 + 1, 1, none⟩) (by simp; omega) _).st (p := ⟨w.heap.size + 1 + 1 + 1, 0, none⟩) (by simp; omega) _
  have hK4 := (ro D (by omega) (by omega) (by omega)).trans HKD.out
  obtain ⟨cs, hcs, hLA⟩ := HL2.out
  have hc4 := (ro (w.heap.size + 1 + 1 + 1 + 1) (by omega) (by omega) (by omega)).trans hcs
  generalize (((W.setCell ⟨w.heap.size + 1, 0, none⟩ (.pointer (some ⟨w.heap.size + 1 + 1 + 1 + 1, 0, none⟩))).setCell ⟨w.heap.size + 1 + 1, 0, none⟩ (.int .i64 0)).setCell ⟨w.heap.size + 1 + 1, 1, none⟩ (.int .i64 0)).setCell ⟨w.heap.size + 1 + 1 + 1, 0, none⟩ (.int .i64 0) = W4 at *
  clear c1 c2 c2b c3 c5 f1 f2 f2b f3
  refine ⟨by simp, .inl ⟨_, _, rfl, run_takeDeferred hK4, ?_⟩⟩
  have hg := grownBy_putObj' W4 D (.deferred none)
  have hr : ∀ r, some D = some r → ∃ o : Obj, W4.heap[r]? = some o ∧ o.isCells = false := fun r e => by cases e; exact ⟨_, hK4, rfl⟩
  have s1 := cellOf (heap_kept r1 hg hr) 0
  have s2 := cellOf (heap_kept r2 hg hr) 0
  have s2b := cellOf (heap_kept r2 hg hr) 1
  have s3 := cellOf (heap_kept r3 hg hr) 0
  have s4 := heap_kept hc4 hg hr
  simp only [List.getElem?_toArray, List.getElem?_cons_zero, List.getElem?_cons_succ] at s1 s2 s2b s3
  have hE5 : Ext w (W4.putObj D (.deferred none)) := (hE4.grown hg hE4.size (fun k e => by cases e; omega))
  refine ⟨.tuple #[.pointer (some ⟨w.heap.size + 1 + 1 + 1 + 1, 0, none⟩), .agg #[.int .i64 0, .int .i64 0], .int .i64 0], by simp [results, Tryz.results85, go_sem, s1, s2, s2b, s3], ⟨some ⟨w.heap.size + 1 + 1 + 1 + 1, 0, none⟩, 0, 0, 0, rfl, ⟨fun _ => pairB_yes (HYS.out ▸ HOK.out), fun _ => rfl⟩, hE5, fun _ => ⟨_, rfl, cs, s4, HYS.out ▸ hLA⟩⟩⟩
 case stop =>
  rintro D c pre W hD hpre ⟨rfl, hx, ⟨a, b, E, hE0, i1, i2, i3⟩, hE⟩ hK
  have h1 := Lib.hid i1
  have h2 := Lib.hid i2
  have h3 := Lib.hid i3
  have HEW := Lib.hid hE
  have HKD := Lib.hid hK
  have HX := Lib.hid hx
  have HPR := Lib.hid hpre
  clear hi0 hc6 HB hx hpre hE hK i1 i2 i3
  gi_wp2
  refine ⟨by simp, .inl ⟨_, _, rfl, run_takeDeferred HKD.out, ?_⟩⟩
  have hg := grownBy_putObj' W D (.deferred none)
  have hr : ∀ r, some D = some r → ∃ o : Obj, W.heap[r]? = some o ∧ o.isCells = false := fun r e => by cases e; exact ⟨_, HKD.out, rfl⟩
  have s1 := cellOf (heap_kept h1.out hg hr) 0
  have s2 := cellOf (heap_kept h2.out hg hr) 0
  have s2b := cellOf (heap_kept h2.out hg hr) 1
  have s3 := cellOf (heap_kept h3.out hg hr) 0
  simp only [List.getElem?_toArray, List.getElem?_cons_zero, List.getElem?_cons_succ] at s1 s2 s2b s3
  have hE5 : Ext w (W.putObj D (.deferred none)) := (HEW.out.grown hg HEW.out.size (fun k e => by cases e; omega))
  refine ⟨.tuple #[.pointer none, .agg #[.int .i64 a, .int .i64 b], .int .i64 E], by simp [results, Tryz.results85, go_sem, s1, s2, s2b, s3], ⟨none, a, b, E, rfl, ⟨fun h => absurd h hE0, fun h => ?_⟩, hE5, fun h => absurd h hE0⟩⟩
  obtain ⟨l0, x0, hx1, hx2⟩ := HX.out
  rw [pairB_no (hx1 ▸ HPR.out) hx2] at h
  exact absurd h (by decide)
end Go.Proofs.YtbpdbikphlhaiaaGreatDoor
namespace Go.Proofs.YtbpdbikphlhaiaaGreatDoor
open Go.RowKit
set_option linter.unusedVariables false
attribute [local go_sem ↓] Go.wp_at_zero Go.wp_at_succ
abbrev e5 (a b c d : Value) (v : Value) : Obj := .cells #[a, b, c, d, v] 58
theorem e5_set {w : World} {K : Nat} {z0 z1 z2 z3 z4 : Value} (h : w.heap[K]? = some (e5 z0 z1 z2 z3 z4)) (a b c d v : Value) :
  (((((w.setCell ⟨K, 0, none⟩ a).setCell ⟨K, 1, none⟩ b).setCell ⟨K, 2, none⟩ c).setCell ⟨K, 3, none⟩ d).setCell ⟨K, 4, none⟩ v).heap[K]? = some (e5 a b c d v) := by
 have h0 : (w.setCell ⟨K, 0, none⟩ a).heap[K]? = some (e5 a z1 z2 z3 z4) := by rw [heap_setCell_same h]; simp
 have h1 : ((w.setCell ⟨K, 0, none⟩ a).setCell ⟨K, 1, none⟩ b).heap[K]? = some (e5 a b z2 z3 z4) := by rw [heap_setCell_same h0]; simp
 have h2 : (((w.setCell ⟨K, 0, none⟩ a).setCell ⟨K, 1, none⟩ b).setCell ⟨K, 2, none⟩ c).heap[K]? = some (e5 a b c z3 z4) := by rw [heap_setCell_same h1]; simp
 have h3 : ((((w.setCell ⟨K, 0, none⟩ a).setCell ⟨K, 1, none⟩ b).setCell ⟨K, 2, none⟩ c).setCell ⟨K, 3, none⟩ d).heap[K]? = some (e5 a b c d z4) := by rw [heap_setCell_same h2]; simp
 rw [heap_setCell_same h3]; simp
theorem e5_ext {w W : World} {K : Nat} (h : Ext w W) (hK : w.heap.size ≤ K) (a b c d v : Value) : Ext w (((((W.setCell ⟨K, 0, none⟩ a).setCell ⟨K, 1, none⟩ b).setCell ⟨K, 2, none⟩ c).setCell ⟨K, 3, none⟩ d).setCell ⟨K, 4, none⟩ v) :=
 ((((h.st (p := ⟨K, 0, none⟩) hK a).st (p := ⟨K, 1, none⟩) hK b).st (p := ⟨K, 2, none⟩) hK c).st (p := ⟨K, 3, none⟩) hK d).st (p := ⟨K, 4, none⟩) hK v
def EvOut (w w' : World) (e : Ending) (y : Ev) : Prop := ∃ a c, e = .returned (.agg #[.int .i64 y.kind, .int .i64 y.peer, .int .i64 y.msg, .int .i64 y.time, .slice a y.asg.length c]) ∧ Ext w w'
set_option maxHeartbeats 4000000 in
set_option maxRecDepth 100000 in
theorem atR_calls (v : Value) (t : Tr) (p i : Nat) (w : World) (h : TrAt w v t) (hs : SmallTr t) (hx : Inn t (p, i)) :
  Calls Tryz.prog 64 #[.agg #[v], .agg #[.int .i64 p, .int .i64 ((i : Int) + 1)]] w fun e w' => EvOut w w' e (ev t (p, i)) := by
 obtain ⟨hp, hi⟩ := hx
 simp only at hp hi
 show Calls _ _ _ _ fun e w' => EvOut w w' e t[p]!.events[i]!
 obtain ⟨B, O, C, vv, ve, rfl, hlC, hB, hn0, hv0, he0, hV, hE0⟩ := proc_at h p hp
 obtain ⟨EB, EO, EC, va, rfl, hlE, hEB, k0, k1, k2, k3, k4, ha⟩ := event_at hE0 i hi
 obtain ⟨ua, uc, rfl, huc⟩ := ha.sh
 have hn := hs.1
 have hen := (hs.2 p hp).2.1
 generalize hxx : t[p]! = x at *
 generalize hev : x.events[i]! = y at *
 generalize hln : t.length = n at *
 generalize hne : x.events.length = ne at *
 generalize hna : y.asg.length = na at *
 have HNA := Lib.hid hna
 have hpz : (0 : Int) ≤ (p : Int) := by omega
 have hpi : (p : Int) < (n : Int) := by omega
 have hiz : (0 : Int) ≤ (i : Int) := by omega
 have hii : (i : Int) < (ne : Int) := by omega
 have hE3 : Ext w (((w.alloc (.cells #[.slice (some ⟨B, O, none⟩) n C] 24)).alloc (.cells #[.int .i64 p, .int .i64 ((i : Int) + 1)] 39)).alloc (e5 (.int .i64 0) (.int .i64 0) (.int .i64 0) (.int .i64 0) (.slice none 0 0))) := (((Ext.rf w).al _).al _).al _
 have HX0 := Lib.hid ((((Ext.rf _).al (.cells #[.int .i64 p, .int .i64 ((i : Int) + 1)] 39)).al (e5 (.int .i64 0) (.int .i64 0) (.int .i64 0) (.int .i64 0) (.slice none 0 0))).hp (heap_alloc_new w (.cells #[.slice (some ⟨B, O, none⟩) n C] 24)))
 have HX1 := Lib.hid (((Ext.rf _).al (e5 (.int .i64 0) (.int .i64 0) (.int .i64 0) (.int .i64 0) (.slice none 0 0))).hp (heap_new_eq (w := w.alloc (.cells #[.slice (some ⟨B, O, none⟩) n C] 24)) (o := .cells #[.int .i64 p, .int .i64 ((i : Int) + 1)] 39) (b := w.heap.size + 1) (by simp)))
 have HX2 := Lib.hid (heap_new_eq (w := (w.alloc (.cells #[.slice (some ⟨B, O, none⟩) n C] 24)).alloc (.cells #[.int .i64 p, .int .i64 ((i : Int) + 1)] 39)) (o := e5 (.int .i64 0) (.int .i64 0) (.int .i64 0) (.int .i64 0) (.slice none 0 0)) (b := w.heap.size + 1 + 1) (by simp))
 have HE3 := Lib.hid hE3
 have he1 := hE3.cl he0
 have m0 := hE3.cl k0
 have m1 := hE3.cl k1
 have m2 := hE3.cl k2
 have m3 := hE3.cl k3
 have m4 := hE3.cl k4
 clear hn0 hv0 he0 hV hE0 h hs ha hE3 hxx hev hln hne hna k0 k1 k2 k3 k4
 go_enter Tryz.func64, Tryz.ntmps64
 go_wp2
 generalize hw3 : ((w.alloc (.cells #[.slice (some ⟨B, O, none⟩) n C] 24)).alloc (.cells #[.int .i64 p, .int .i64 ((i : Int) + 1)] 39)).alloc (e5 (.int .i64 0) (.int .i64 0) (.int .i64 0) (.int .i64 0) (.slice none 0 0)) = w3 at *
 clear hw3
 have t0 := cellOf HX0.out 0
 have j0 := cellOf HX1.out 0
 have j1 := cellOf HX1.out 1
 simp only [List.getElem?_toArray, List.getElem?_cons_zero, List.getElem?_cons_succ] at t0 j0 j1
 have z0 := cellOf HX2.out 0
 have z1 := cellOf HX2.out 1
 have z2 := cellOf HX2.out 2
 have z3 := cellOf HX2.out 3
 have z4 := cellOf HX2.out 4
 simp only [List.getElem?_toArray, List.getElem?_cons_zero, List.getElem?_cons_succ] at z0 z1 z2 z3 z4
 have g0 := freeOf HX2.out 0
 have g1 := freeOf HX2.out 1
 have g2 := freeOf HX2.out 2
 have g3 := freeOf HX2.out 3
 have g4 := freeOf HX2.out 4
 have w1 : IntKind.i64.wrap ((i : Int) + 1 - 1) = (i : Int) := by rw [IntWalk.i64_in _ (by omega)]; omega
 have w2 : IntKind.i64.wrap (i : Int) = (i : Int) := IntWalk.i64_in _ (by omega)
 go_region
 go_wp2
 clear w1 w2
 have r := e5_set HX2.out (.int .i64 y.kind) (.int .i64 y.peer) (.int .i64 y.msg) (.int .i64 y.time) (.slice ua na uc)
 have HR := Lib.hid r
 clear r t0 j0 j1 z0 z1 z2 z3 z4 g0 g1 g2 g3 g4
 have r0 := cellOf HR.out 0
 have r1 := cellOf HR.out 1
 have r2 := cellOf HR.out 2
 have r3 := cellOf HR.out 3
 have r4 := cellOf HR.out 4
 simp only [List.getElem?_toArray, List.getElem?_cons_zero, List.getElem?_cons_succ] at r0 r1 r2 r3 r4
 refine bodyPost_ret (v := .agg #[.int .i64 y.kind, .int .i64 y.peer, .int .i64 y.msg, .int .i64 y.time, .slice ua na uc]) (by simp [results, Tryz.results64, go_sem, r0, r1, r2, r3, r4]) rfl ?_
 exact ⟨ua, uc, by rw [HNA.out], e5_ext HE3.out.dr (by omega) _ _ _ _ _⟩
end Go.Proofs.YtbpdbikphlhaiaaGreatDoor
namespace Go.Proofs.YtbpdbikphlhaiaaGreatDoor
open Go.RowKit
set_option linter.unusedVariables false
attribute [local go_sem ↓] Go.wp_at_zero Go.wp_at_succ
def eidC (x : Eid) : List Value := [.int .i64 x.1, .int .i64 ((x.2 : Int) + 1)]
theorem eidC_len (l : List Eid) : (l.flatMap eidC).length = l.length * 2 := by
 induction l with
 | nil => rfl
 | cons a l ih => simp [eidC, ih]; omega
def EidsOut (w w' : World) (e : Ending) (l : List Eid) : Prop := ∃ v, e = .returned v ∧ Row w' w.heap.size 39 2 v l.length (l.flatMap eidC) ∧ Ext w w'
theorem info_eid : (Tryz.prog.info? 39).map (fun i => (i.zero, i.size, i.bytes)) = some (some (.agg #[.int .i64 0, .int .i64 0]), 2, 16) := by kernel_rfl
set_option maxHeartbeats 4000000 in
set_option maxRecDepth 100000 in
theorem directlyR_calls (v : Value) (t : Tr) (p i : Nat) (w : World) (h : TrAt w v t) (hs : SmallTr t) (hx : Inn t (p, i)) (hsd : (ev t (p, i)).kind = 3 → ∃ s, findE t 2 (ev t (p, i)).msg = some s) :
  Calls Tryz.prog 66 #[.agg #[v], .agg #[.int .i64 p, .int .i64 ((i : Int) + 1)]] w fun e w' => EidsOut w w' e (bef t (p, i)) := by
 obtain ⟨ix, hix⟩ : ∃ x : Int, (i : Int) + 1 = x := ⟨_, rfl⟩
 rw [hix]
 obtain ⟨ie, hie, iz0, iz1, iz2⟩ := info_parts info_eid
 have hi6 : i < 1000000 := by have := (hs.2 p hx.1).2.1; have := hx.2; simp only at this; omega
 have HAT : Hid (∀ W, Ext w W → Calls Tryz.prog 64 #[.agg #[v], .agg #[.int .i64 p, .int .i64 ix]] W fun e w' => EvOut W w' e (ev t (p, i))) := Lib.hid (fun W hW => hix ▸ atR_calls v t p i W (h.ext hW) hs hx)
 have HFI := Lib.hid (fun W (hW : Ext w W) m => findR_calls v t 2 m W (h.ext hW) hs)
 obtain ⟨ta, tc, rfl, htc⟩ := h.sh
 generalize hy : ev t (p, i) = y at *
 generalize hln : t.length = n at *
 have HSD := Lib.hid hsd
 have HY := Lib.hid hy
 have hb1 : 1 ≤ ix := by omega
 have hb2 : ix ≤ 1000000 := by omega
 have HIX := Lib.hid hix
 have HX0 := Lib.hid (((Ext.rf _).al (.cells #[.int .i64 p, .int .i64 ix] 39)).hp (heap_alloc_new w (.cells #[.slice ta n tc] 24)))
 have HX1 := Lib.hid (heap_new_eq (w := w.alloc (.cells #[.slice ta n tc] 24)) (o := .cells #[.int .i64 p, .int .i64 ix] 39) (b := w.heap.size + 1) (by simp))
 have HE2 : Hid (Ext w ((w.alloc (.cells #[.slice ta n tc] 24)).alloc (.cells #[.int .i64 p, .int .i64 ix] 39))) := Lib.hid (((Ext.rf w).al _).al _)
 clear h hs hx hsd hy hln hix hi6
 obtain ⟨bt, hbt⟩ : ∃ b, decide (1 < ix) = b := ⟨_, rfl⟩
 go_enter Tryz.func66, Tryz.ntmps66
 go_upto_if 9 with (fail)
 generalize hw2 : (w.alloc (.cells #[.slice ta n tc] 24)).alloc (.cells #[.int .i64 p, .int .i64 ix] 39) = w2 at *
 clear hw2
 have HBT := Lib.hid hbt
 clear hbt
 go_cut [5] (fun s5 wx => ∃ L : List Eid, Aside (L = if 0 < i then [(p, i - 1)] else []) ∧ Aside (Row wx w.heap.size 39 2 s5 L.length (L.flatMap eidC)) ∧ Aside (Ext w2 wx))
 case first =>
  cases bt with
  | false =>
    have HI := Lib.hid (show ¬ 0 < i from by have h9 : ¬ 1 < ix := of_decide_eq_false HBT.out; have := HIX.out; omega)
    go_wp2
    go_meet
    exact ⟨[], (show _ = _ from by rw [if_neg HI.out]), Row.mkNil _ _ _ _, Ext.rf _⟩
  | true =>
    have HI := Lib.hid (show 0 < i from by have h9 : 1 < ix := of_decide_eq_true HBT.out; have := HIX.out; omega)
    have j0 := cellOf HX1.out 0
    have j1 := cellOf HX1.out 1
    simp only [List.getElem?_toArray, List.getElem?_cons_zero, List.getElem?_cons_succ] at j0 j1
    have hsz := HE2.out.sz
    go_wp2_with ((at_builtin; go_loud (refine wpList_append_one rfl _ _ 71 rfl w.heap.size 39 ie (.agg #[.int .i64 0, .int .i64 0]) 2 16 Tryz.underlying71 hie iz0 iz1 iz2 rfl (by decide) _ 0 [] rfl (Row.mkNil _ _ _ _) w2.heap.size 1 [.int .i64 p, .int .i64 (ix - 1)] rfl rfl ⟨_, heap_alloc_new _ _⟩ (by simp [Value.oneCell']) (by unfold maxLen; omega) (by omega) (by simp; omega) ?_; intro v5 w5 hown5 hgrow5 hblk5; have HOWN := Lib.hid hown5; have HGR := Lib.hid (show (w2.alloc (.cells #[.int .i64 p, .int .i64 (ix - 1)] 39)).grownBy w5 none from hgrow5); clear hown5 hgrow5 hblk5)))
    go_meet
    refine ⟨[(p, i - 1)], (show _ = _ from by rw [if_pos HI.out]), (show Row _ _ _ _ _ _ _ from ?_), ((Ext.rf w2).al _).gr HGR.out (by simp)⟩
    have := HOWN.out
    have e : ix - 1 = ((i - 1 : Nat) : Int) + 1 := by have := HIX.out; have := HI.out; omega
    rw [e] at this
    simpa [eidC] using this
 case rest =>
  obtain ⟨L, HL, HR, HE⟩ := hcut
  have HEW := Lib.hid (HE2.out.trans' HE.out)
  have HXA := Lib.hid (HE.out.hp HX0.out)
  have HXB := Lib.hid (HE.out.hp HX1.out)
  have t0 := cellOf HXA.out 0
  have j0 := cellOf HXB.out 0
  have j1 := cellOf HXB.out 1
  simp only [List.getElem?_toArray, List.getElem?_cons_zero, List.getElem?_cons_succ] at t0 j0 j1
  go_wp2_with fail
  refine (HAT.out _ HEW.out).mono ?_
  rintro e w3 ⟨ua, uc, rfl, hE3⟩
  generalize y.asg.length = na
  have HE3 := Lib.hid hE3
  have HXA3 := Lib.hid (hE3.hp HXA.out)
  have HR3 := Lib.hid (HR.out.ext hE3)
  clear hE3 t0 j0 j1
  obtain ⟨kd, hkd⟩ : ∃ k, y.kind = k := ⟨_, rfl⟩
  obtain ⟨ms, hms⟩ : ∃ k, y.msg = k := ⟨_, rfl⟩
  rw [hkd, hms]
  have HKD := Lib.hid hkd
  have HMS := Lib.hid hms
  clear hkd hms
  have HB4 := Lib.hid (heap_alloc_new w3 (e5 (.int .i64 kd) (.int .i64 y.peer) (.int .i64 ms) (.int .i64 y.time) (.slice ua na uc)))
  have HXA4 := Lib.hid (((Ext.rf w3).al (e5 (.int .i64 kd) (.int .i64 y.peer) (.int .i64 ms) (.int .i64 y.time) (.slice ua na uc))).hp HXA3.out)
  have HE4 := Lib.hid ((HEW.out.trans' HE3.out).al (e5 (.int .i64 kd) (.int .i64 y.peer) (.int .i64 ms) (.int .i64 y.time) (.slice ua na uc)))
  have HR4 := Lib.hid (HR3.out.al (e5 (.int .i64 kd) (.int .i64 y.peer) (.int .i64 ms) (.int .i64 y.time) (.slice ua na uc)))
  have HBEF : Hid (bef t (p, i) = L ++ (if kd = 3 then (findE t 2 ms).toList else [])) := Lib.hid (by
   unfold bef; rw [HY.out, HKD.out, HMS.out, HL.out])
  by_cases h3 : kd = 3
  ·obtain ⟨s, hs⟩ := HSD.out (HKD.out.trans h3)
   rw [HMS.out] at hs
   have c3 : (kd == 3) = true := by simp [h3]
   have HB2 : Hid (bef t (p, i) = L ++ [s]) := Lib.hid (by rw [HBEF.out, if_pos h3, hs]; rfl)
   have HFS : Hid (∀ W, Ext w W → Calls Tryz.prog 65 #[.agg #[.slice ta n tc], .int .i64 2, .int .i64 ms] W fun e w' => e = .returned (.agg #[.int .i64 s.1, .int .i64 ((s.2 : Int) + 1)]) ∧ Ext W w') := Lib.hid (fun W hW => by have := HFI.out W hW ms; rw [hs] at this; exact this)
   clear h3 hs
   obtain ⟨s1, hs1⟩ : ∃ z : Int, (s.1 : Int) = z := ⟨_, rfl⟩
   obtain ⟨s2, hs2⟩ : ∃ z : Int, (s.2 : Int) + 1 = z := ⟨_, rfl⟩
   rw [hs1, hs2] at HFS
   have HS12 := Lib.hid (And.intro hs1 hs2)
   clear hs1 hs2
   have t3 := cellOf HXA3.out 0
   simp only [List.getElem?_toArray, List.getElem?_cons_zero] at t3
   have q3 : w.heap.size < w3.heap.size := (Array.getElem?_eq_some_iff.1 HXA3.out).1
   have q3n : w.heap.size ≠ w3.heap.size := by omega
   go_wp2_with fail
   clear t3
   refine (HFS.out _ HE4.out).mono ?_
   rintro e w5 ⟨rfl, hE5⟩
   have HE5 := Lib.hid (HE4.out.trans' hE5)
   have HR5 := Lib.hid (HR4.out.ext hE5)
   have hsz5 := HE5.out.sz
   clear hE5
   have hLn : L.length ≤ 1 := by rw [HL.out]; split <;> simp
   generalize hLL : L.length = ln at *
   have HLL := Lib.hid hLL
   clear hLL
   go_wp2_with ((at_builtin; go_loud (refine wpList_append_one rfl _ _ 71 rfl w.heap.size 39 ie (.agg #[.int .i64 0, .int .i64 0]) 2 16 Tryz.underlying71 hie iz0 iz1 iz2 rfl (by decide) _ ln _ rfl (HR5.out.al _) w5.heap.size 1 [.int .i64 s1, .int .i64 s2] rfl rfl ⟨_, heap_alloc_new _ _⟩ (by simp [Value.oneCell']) (by unfold maxLen; omega) (by omega) (by simp; omega) ?_; intro v6 w6 hown6 hgrow6 hblk6; have HOWN := Lib.hid hown6; have HE6 := Lib.hid (show Ext w w6 from (HE5.out.al (.cells #[.int .i64 s1, .int .i64 s2] 39)).gr hgrow6 (fun q hq => (HR5.out.lt q hq).1)); clear hown6 hgrow6 hblk6)))
   go_ret
   refine ⟨_, rfl, ?_, HE6.out⟩
   rw [HB2.out, List.length_append, List.flatMap_append, HLL.out]
   have := HOWN.out
   rw [← HS12.out.1, ← HS12.out.2] at this
   simpa [eidC] using this
  ·have c3 : (kd == 3) = false := by simp [h3]
   have HB2 : Hid (bef t (p, i) = L) := Lib.hid (by rw [HBEF.out, if_neg h3, List.append_nil])
   clear h3
   go_wp2
   go_ret
   exact ⟨_, rfl, by rw [HB2.out]; exact HR4.out, HE4.out⟩
end Go.Proofs.YtbpdbikphlhaiaaGreatDoor
namespace Go.Proofs.YtbpdbikphlhaiaaGreatDoor
open Go.RowKit
set_option linter.unusedVariables false
theorem step_append_rowN {P : Program} {ops : Array Oper} {o : Oper} {a : Act} {w : World} {K : Act → World → Prop} {Q : Exit → Act → World → Prop} {E : Prop}
  (hgd : o.guard = none) (s x : Operand) (t : TypeId)
  (ho : o.op = .call { callee := .builtin .append, args := #[s, x], argTypes := #[t, t] })
  (base : Nat) (e : TypeId) (i : TypeInfo) (z : Value) (size bytes : Nat) (ht : P.underlying t = some (.slice e)) (hi : P.info? e = some i) (hz : i.zero = some z)
  (hsize : i.size = size) (hby : i.bytes = bytes) (hzs : z.cells.size = size) (hsz : 0 < size)
  (v : Value) (n : Nat) (xs : List Value) (hs : a.eval s = v) (hown : Row w base e size v n xs)
  (k c : Nat) (news : List Value) (hx : a.eval x = .slice (some ⟨k, 0, none⟩) 1 c) (hl : news.length = size) (hnews : ∃ fr, w.heap[k]? = some (.cells news.toArray e fr)) (h1 : ∀ u ∈ news, u.oneCell' = true)
  (h63 : n + 1 ≤ maxLen) (hbytes : (n + 1) * bytes ≤ 140737488355328) (hbase : base ≤ w.heap.size)
  (h : ∀ v' w', Row w' base e size v' (n + 1) (xs ++ news) → w.grownBy w' v.ownBlock → (v'.ownBlock = v.ownBlock ∨ ∃ k, v'.ownBlock = some k ∧ w.heap.size ≤ k) → K (a.put o.dst v') w') :
  if Region.wanted o (yielded ops a.tmps) = true then Oper.wp P o a w K Q else E := by
 have hw : Region.wanted o (yielded ops a.tmps) = true := by simp [Region.wanted, hgd]
 rw [if_pos hw]
 obtain ⟨v', w', hr, h2, h3, h4⟩ := run_append_row (P := P) w base t o.type e i z size bytes ht hi hz hsize hby hzs hsz v n xs hown (some ⟨k, 0, none⟩) 1 c news (by omega)
  (fun _ => ⟨_, rfl, fun j u hj => by
   obtain ⟨fr, hf⟩ := hnews
   have := (List.getElem?_eq_some_iff.1 hj)
   simp [Addr.add_lit, World.cell?, hf, hj]⟩) h1 h63 hbytes hbase
 unfold Oper.wp execOp
 simp only [ho, resolve, invoke, builtin, Sem.run_bind, Sem.run_pure, Result.andThen_ok, List.map_toArray, List.map_cons, List.map_nil, hs, hx, hr]
 exact h v' w' h2 h3 h4
end Go.Proofs.YtbpdbikphlhaiaaGreatDoor
