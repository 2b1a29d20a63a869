import Derived.Test.YtfcpnggdpaeldaaGreatJa
import Derived.Test.YtfcpnggdpaeldaaGreatProg
import Derived.Test.YtfcpnggdpaeldaaGreatGj
import Derived.Test.YtfcpnggdpaeldaaGreatGe
import Derived.Test.YtfcpnggdpaeldaaGreatGf
import Derived.BigQuiet
import Derived.Deep.QuietTactic
import Derived.Deep.LoopGhost
import Derived.Shelf.Abstract
import Derived.Deep.DeepCutAuto
import Derived.Deep.DrawnRows
/-
  What an event must be: the program's eventFault, walked.
-/
namespace Go.Proofs.YtfcpnggdpaeldaaGreat
open Go.RowKit
set_option linter.unusedVariables false
attribute [local go_sem ↓] Go.wp_at_zero Go.wp_at_succ

abbrev trT (v : Value) : Obj := .cells #[v] 24
abbrev idT (p i : Int) : Obj := .cells #[.int .i64 p, .int .i64 i] 72
abbrev evT (a b c d : Int) (v : Value) : Obj := .cells #[.int .i64 a, .int .i64 b, .int .i64 c, .int .i64 d, v] 62

set_option maxHeartbeats 4000000 in
set_option maxRecDepth 100000 in
theorem eventFaultP_calls (v va : Value) (t : Tr) (p i : Nat) (ix : Int) (hix : ix = (i : Int) + 1) (ev : Ev) (w : World) (h : TrAt w v t) (hs : SmallTr t) (hp : p < t.length) (hi : i < t[p]!.events.length) (hev : t[p]!.events[i]! = ev) (ha : Sl RAsg 2 w va ev.asg) :
    Calls Tryz.prog 104 #[.agg #[v], .agg #[.int .i64 p, .int .i64 ix], .agg #[.int .i64 ev.kind, .int .i64 ev.peer, .int .i64 ev.msg, .int .i64 ev.time, va]] w fun e w' => ErrIff w w' e (eventB t p i) := by
  have HIX := Lib.hid hix
  have hix0 : 1 ≤ ix := by omega
  clear hix
  have HT := Lib.hid h
  obtain ⟨B, O, C, vv, ve, rfl, hlC, hB, hn0, hv0, he0, hV, hE0⟩ := proc_at h p hp
  obtain ⟨xa, xc, rfl, hvc⟩ := hV.sh
  have HEV := Lib.hid hE0
  obtain ⟨EB, EO, EC, _, rfl, hlE, hEB, _, _, _, _, _, _⟩ := event_at hE0 i hi
  obtain ⟨ua, uc, rfl, huc⟩ := ha.sh
  have hn := hs.1
  have hvn := (hs.2 p hp).1
  have hen := (hs.2 p hp).2.1
  have han := (hs.2 p hp).2.2 i hi
  rw [hev] at han
  have HB := Lib.hid (@eventB_parts t p i)
  rw [hev] at HB
  generalize hhb : eventB t p i = hb at *
  have HA := Lib.hid ha
  have HPREV := Lib.hid (fun hi0 : 0 < i => event_at hE0 (i - 1) (by omega))
  generalize hx : t[p]! = x at *
  generalize hln : t.length = n at *
  generalize hnv : x.vars.length = nv at *
  generalize hne : x.events.length = ne at *
  generalize hua : ev.asg.length = na at *
  have HNA := Lib.hid hua
  have HFO : Hid (∀ W, Calls Tryz.prog 115 #[.agg #[.slice (some ⟨B, O, none⟩) n C], .int .i64 p, .agg #[.int .i64 ev.kind, .int .i64 ev.peer, .int .i64 ev.msg, .int .i64 ev.time, .slice ua na uc]] W fun e w' => e = .returned (.bool (formedB n p ev)) ∧ Ext W w') :=
    Lib.hid (fun W => formedP_calls (some ⟨B, O, none⟩) n C p (.slice ua na uc) ev.kind ev.peer ev.msg ev.time ev.asg W hn hp)
  have hpz : (0 : Int) ≤ (p : Int) := by omega
  have hpi : (p : Int) < (n : Int) := by omega
  have hE3 : Ext w (((w.alloc (trT (.slice (some ⟨B, O, none⟩) n C))).alloc (idT p ix)).alloc (evT ev.kind ev.peer ev.msg ev.time (.slice ua na uc))) := (((Ext.rf w).al _).al _).al _
  have hv1 := hE3.cl hv0
  have he1 := hE3.cl he0
  have hn1 := hE3.cl hn0
  clear hn0 hv0 he0 hV hE0 h hs ha hhb hx hln hnv hne hua hev
  go_enter Tryz.func104, Tryz.ntmps104
  go_upto_region 3 with (fail)
  have HI0 := Lib.hid ((((Ext.rf _).al (idT p ix)).al (evT ev.kind ev.peer ev.msg ev.time (.slice ua na uc))).hp (heap_alloc_new w (trT (.slice (some ⟨B, O, none⟩) n C))))
  have HI1 := Lib.hid (((Ext.rf _).al (evT ev.kind ev.peer ev.msg ev.time (.slice ua na uc))).hp (heap_new_eq (w := w.alloc (trT (.slice (some ⟨B, O, none⟩) n C))) (o := idT p ix) (b := w.heap.size + 1) (by simp)))
  have HI2 := Lib.hid (heap_new_eq (w := (w.alloc (trT (.slice (some ⟨B, O, none⟩) n C))).alloc (idT p ix)) (o := evT ev.kind ev.peer ev.msg ev.time (.slice ua na uc)) (b := w.heap.size + 1 + 1) (by simp))
  have hsz3 : (((w.alloc (trT (.slice (some ⟨B, O, none⟩) n C))).alloc (idT p ix)).alloc (evT ev.kind ev.peer ev.msg ev.time (.slice ua na uc))).heap.size = w.heap.size + 3 := by simp
  generalize hw3 : ((w.alloc (trT (.slice (some ⟨B, O, none⟩) n C))).alloc (idT p ix)).alloc (evT ev.kind ev.peer ev.msg ev.time (.slice ua na uc)) = w3 at *
  have HSZ3 := Lib.hid hsz3
  have q1 : w.heap.size + 1 < w3.heap.size := by omega
  have q2 : w.heap.size + 1 ≠ w3.heap.size := by omega
  have q3 : w.heap.size < w3.heap.size := by omega
  have q4 : w.heap.size ≠ w3.heap.size := by omega
  have q5 : w.heap.size + 1 + 1 < w3.heap.size := by omega
  have q6 : w.heap.size + 1 + 1 ≠ w3.heap.size := by omega
  have HE3 := Lib.hid hE3
  clear hw3 hsz3 hE3
  have y0 := cellOf HI1.out 0
  have y1 := cellOf HI1.out 1
  simp only [List.getElem?_toArray, List.getElem?_cons_zero, List.getElem?_cons_succ] at y0 y1
  obtain ⟨bt, hbt⟩ : ∃ b, decide (1 < ix) = b := ⟨_, rfl⟩
  go_upto_if 19 with (fail)
  have HBT := Lib.hid hbt
  clear hbt
  have HP3 := Lib.hid (heap_new_eq (w := w3) (o := .cells #[.string x.name, .slice xa nv xc, .slice (some ⟨EB, EO, none⟩) ne EC] 58) (b := w.heap.size + 1 + 1 + 1) (by have := HSZ3.out; omega))
  go_cut [8] (fun s8 wx => ∃ lt : Int, s8 = .int .i64 lt ∧ wx = w3.alloc (.cells #[.string x.name, .slice xa nv xc, .slice (some ⟨EB, EO, none⟩) ne EC] 58) ∧ Aside (lt = if i = 0 then 0 else x.events[i - 1]!.time))
  case first =>
    cases bt with
    | false =>
      have hi0 : i = 0 := by have := HIX.out; have h9 : ¬ 1 < ix := of_decide_eq_false HBT.out; omega
      have HI := Lib.hid hi0
      clear hi0
      go_wp2
      go_meet
      exact ⟨0, rfl, rfl, (show _ = _ from by rw [if_pos HI.out])⟩
    | true =>
      have hi0 : 0 < i := by have h9 : 1 < ix := of_decide_eq_true HBT.out; have := HIX.out; omega
      obtain ⟨EB', EO', EC', wv, hee, hz1, hz2, hz3, hz4, hz5, htm, hz6, hz7⟩ := HPREV.out hi0
      simp only [Value.slice.injEq, Option.some.injEq, Addr.mk.injEq, and_true] at hee
      obtain ⟨⟨rfl, rfl⟩, hz8, rfl⟩ := hee
      have htm1 := HE3.out.cl htm
      have ix2 : (2 : Int) ≤ ix := by have := HIX.out; omega
      have ix3 : (ix - 2).toNat = i - 1 := by have := HIX.out; omega
      have ix4 : ix - 2 < (ne : Int) := by have := HIX.out; omega
      have p2 := cellOf HP3.out 2
      simp only [List.getElem?_toArray, List.getElem?_cons_zero, List.getElem?_cons_succ] at p2
      have HI := Lib.hid (show ¬ i = 0 from by omega)
      have q7 : EB < w3.heap.size := by have := HSZ3.out; omega
      have q8 : EB ≠ w3.heap.size := by omega
      clear hz1 hz2 hz3 hz4 hz5 hz6 hz7 hz8 htm hi0
      go_wp2
      go_meet
      exact ⟨_, rfl, rfl, (show _ = _ from by rw [if_neg HI.out]; simp)⟩
  case rest =>
    obtain ⟨lt, rfl, rfl, HLT⟩ := hcut
    have HI0 := Lib.hid (((Ext.rf w3).al (.cells #[.string x.name, .slice xa nv xc, .slice (some ⟨EB, EO, none⟩) ne EC] 58)).hp HI0.out)
    have HI1 := Lib.hid (((Ext.rf w3).al (.cells #[.string x.name, .slice xa nv xc, .slice (some ⟨EB, EO, none⟩) ne EC] 58)).hp HI1.out)
    have HI2 := Lib.hid (((Ext.rf w3).al (.cells #[.string x.name, .slice xa nv xc, .slice (some ⟨EB, EO, none⟩) ne EC] 58)).hp HI2.out)
    have HE4 := Lib.hid (HE3.out.al (.cells #[.string x.name, .slice xa nv xc, .slice (some ⟨EB, EO, none⟩) ne EC] 58))
    generalize hw4 : w3.alloc (.cells #[.string x.name, .slice xa nv xc, .slice (some ⟨EB, EO, none⟩) ne EC] 58) = w4 at *
    clear hw4 y0 y1
    obtain ⟨fo, hfo⟩ : ∃ b, formedB n p ev = b := ⟨_, rfl⟩
    rw [hfo] at HFO
    have HFOB := Lib.hid hfo
    clear hfo
    have u0 := cellOf HI0.out 0
    have u1 := cellOf HI1.out 0
    have v0 := cellOf HI2.out 0
    have v1 := cellOf HI2.out 1
    have v2 := cellOf HI2.out 2
    have v3 := cellOf HI2.out 3
    have v4 := cellOf HI2.out 4
    simp only [List.getElem?_toArray, List.getElem?_cons_zero, List.getElem?_cons_succ] at v0 v1 v2 v3 v4
    simp only [List.getElem?_toArray, List.getElem?_cons_zero] at u0 u1
    cases fo with
    | false =>
      obtain rfl : hb = false := by
        rw [Bool.eq_false_iff]; intro hbt; have := (HB.out.1 hbt).1; rw [HFOB.out] at this; exact absurd this (by decide)
      go_wp2_with fail
      refine (HFO.out _).mono ?_
      rintro e w5 ⟨rfl, hE5⟩
      have HE5 := Lib.hid (HE4.out.trans' hE5)
      clear hE5
      go_wp2
      go_ret
      exact ⟨3, rfl, ⟨fun h => absurd h (by decide), fun h => absurd h (by decide)⟩, HE5.out⟩
    | true =>
    go_wp2_with fail
    refine (HFO.out _).mono ?_
    rintro e w5 ⟨rfl, hE5⟩
    have HI2 := Lib.hid (hE5.hp HI2.out)
    have HP5 := Lib.hid (hE5.hp HP3.out)
    have HE5 := Lib.hid (HE4.out.trans' hE5)
    clear hE5 u0 u1 v0 v1 v2 v3 v4
    have v3 := cellOf HI2.out 3
    have v4 := cellOf HI2.out 4
    simp only [List.getElem?_toArray, List.getElem?_cons_zero, List.getElem?_cons_succ] at v3 v4
    obtain ⟨tm, htm⟩ : ∃ b, ev.time = b := ⟨_, rfl⟩
    have HTM := Lib.hid htm
    rw [htm] at HB v3 HI2
    clear htm
    obtain ⟨ti, hti⟩ : ∃ b, (decide (0 ≤ tm) && decide (tm ≤ 1099511627776)) = b := ⟨_, rfl⟩
    have HIN := Lib.hid (inP_calls tm 0 1099511627776)
    rw [hti] at HIN
    have HTI := Lib.hid hti
    clear hti
    cases ti with
    | false =>
      obtain rfl : hb = false := by
        rw [Bool.eq_false_iff]; intro hbt; have h9 := HB.out.1 hbt; have h8 := HTI.out; simp [h9.2.1, h9.2.2.1] at h8
      go_wp2_with fail
      refine (HIN.out _).mono ?_
      rintro e w6 ⟨rfl, rfl⟩
      go_wp2
      go_ret
      exact ⟨11, rfl, ⟨fun h => absurd h (by decide), fun h => absurd h (by decide)⟩, HE5.out⟩
    | true =>
    have HT0 := Lib.hid (show 0 ≤ tm ∧ tm ≤ 1099511627776 from by have h8 := HTI.out; simp only [Bool.and_eq_true, decide_eq_true_eq] at h8; exact h8)
    by_cases hlt : tm < lt
    · obtain rfl : hb = false := by
        rw [Bool.eq_false_iff]; intro hbt
        have h9 := (HB.out.1 hbt).2.2.2.1
        have h8 := HLT.out
        have h7 := HT0.out
        by_cases hi0 : i = 0
        · rw [if_pos hi0] at h8; omega
        · rw [if_neg hi0] at h8; omega
      go_wp2_with fail
      refine (HIN.out _).mono ?_
      rintro e w6 ⟨rfl, rfl⟩
      go_wp2
      go_ret
      exact ⟨11, rfl, ⟨fun h => absurd h (by decide), fun h => absurd h (by decide)⟩, HE5.out⟩
    have HORD := Lib.hid (show i = 0 ∨ x.events[i - 1]!.time ≤ tm from by
      by_cases hi0 : i = 0
      · exact .inl hi0
      · have h8 := HLT.out; rw [if_neg hi0] at h8; right; omega)
    by_cases h8 : 8 < na
    · have c8 : decide (8 < (na : Int)) = true := by simp; omega
      have c8n : decide (8 < na) = true := by simp; omega
      obtain rfl : hb = false := by
        rw [Bool.eq_false_iff]; intro hbt; have := (HB.out.1 hbt).2.2.2.2.1; omega
      go_wp2_with fail
      refine (HIN.out _).mono ?_
      rintro e w6 ⟨rfl, rfl⟩
      go_wp2
      go_ret
      exact ⟨5, rfl, ⟨fun h => absurd h (by decide), fun h => absurd h (by decide)⟩, HE5.out⟩
    have c8 : decide (8 < (na : Int)) = false := by simp; omega
    have c8n : decide (8 < na) = false := by simp; omega
    go_wp2_with fail
    refine (HIN.out _).mono ?_
    rintro e w6 ⟨rfl, rfl⟩
    go_wp2
    clear v3 v4
    go_loopg [54] na (fun g s54 wr => ∃ k : Nat, k ≤ na ∧ na - k ≤ g ∧ s54 = .int .i64 k ∧ Aside (∀ j, j < k → asgB nv ev.asg j = true) ∧ Aside (Ext w6 wr))
    case atStart => exact ⟨0, Nat.zero_le _, by omega, rfl, (fun j hj => absurd hj (Nat.not_lt_zero _)), Ext.rf _⟩
    case round =>
      obtain ⟨k, hk, hg, rfl, A, HEK⟩ := hrel
      have HEW := Lib.hid (HE5.out.trans' HEK.out)
      have HPK := Lib.hid (HEK.out.hp HP5.out)
      have HIK := Lib.hid (HEK.out.hp HI2.out)
      by_cases hltk : k < na
      · have hltz : (k : Int) < (na : Int) := by omega
        have hkz : (0 : Int) ≤ (k : Int) := by omega
        have hkc : (k : Int) ≤ (uc : Int) := by omega
        obtain ⟨AB, AO, AC, hae, _, hAB, hav0, haw0⟩ := asg_at HA.out k (by rw [HNA.out]; exact hltk)
        simp only [Value.slice.injEq] at hae
        obtain ⟨rfl, hzz, rfl⟩ := hae
        have hav1 := HEW.out.cl hav0
        have haw1 := HEW.out.cl haw0
        have HAP := Lib.hid (@asgB_parts nv ev.asg k)
        have HANV := Lib.hid (any_take ev.asg k (by rw [HNA.out]; omega) fun y => decide (y.var = ev.asg[k]!.var))
        have HALL := Lib.hid (fun hbt : hb = true => (HB.out.1 hbt).2.2.2.2.2 k hltk)
        generalize hy : ev.asg[k]! = y at *
        have HBV := Lib.hid (heap_alloc_new wr (.cells #[.int .i64 y.var, .int .i64 y.value] 126))
        have HPV := Lib.hid (((Ext.rf wr).al (.cells #[.int .i64 y.var, .int .i64 y.value] 126)).hp HPK.out)
        have HIV := Lib.hid (((Ext.rf wr).al (.cells #[.int .i64 y.var, .int .i64 y.value] 126)).hp HIK.out)
        have HEV2 := Lib.hid (HEW.out.al (.cells #[.int .i64 y.var, .int .i64 y.value] 126))
        have HEK2 := Lib.hid (HEK.out.al (.cells #[.int .i64 y.var, .int .i64 y.value] 126))
        clear hav0 haw0 hzz hy
        have y0 := cellOf HBV.out 0
        have y1 := cellOf HBV.out 1
        have p1 := cellOf HPV.out 1
        have i4 := cellOf HIV.out 4
        simp only [List.getElem?_toArray, List.getElem?_cons_zero, List.getElem?_cons_succ] at y0 y1 p1 i4
        have HIA := Lib.hid (inP_calls y.var 0 ((nv : Int) - 1))
        have HIB := Lib.hid (inP_calls y.value (-1073741824) 1073741824)
        obtain ⟨ba, hba⟩ : ∃ b, (decide (0 ≤ y.var) && decide (y.var ≤ (nv : Int) - 1)) = b := ⟨_, rfl⟩
        rw [hba] at HIA
        have HBA := Lib.hid hba
        clear hba
        cases ba with
        | false =>
          obtain rfl : hb = false := by
            rw [Bool.eq_false_iff]; intro hbt; have h9 := HAP.out.1 (HALL.out hbt); have h8 := HBA.out; simp only [Bool.and_eq_false_iff, decide_eq_false_iff_not] at h8; omega
          go_wp2_with fail
          refine (HIA.out _).mono ?_
          rintro e w7 ⟨rfl, rfl⟩
          go_wp2
          go_ret
          exact ⟨2, rfl, ⟨fun h => absurd h (by decide), fun h => absurd h (by decide)⟩, HEV2.out⟩
        | true =>
        have HVR := Lib.hid (show 0 ≤ y.var ∧ y.var < nv from by have h8 := HBA.out; simp only [Bool.and_eq_true, decide_eq_true_eq] at h8; omega)
        have hvb : valueB y.value = (decide (-1073741824 ≤ y.value) && decide (y.value ≤ 1073741824)) := rfl
        rw [← hvb] at HIB
        clear hvb
        obtain ⟨bv, hbv⟩ : ∃ b, valueB y.value = b := ⟨_, rfl⟩
        rw [hbv] at HIB
        have HBVL := Lib.hid hbv
        clear hbv
        cases bv with
        | false =>
          obtain rfl : hb = false := by
            rw [Bool.eq_false_iff]; intro hbt; have h9 := (HAP.out.1 (HALL.out hbt)).2.2.1; rw [HBVL.out] at h9; exact absurd h9 (by decide)
          go_wp2_with fail
          refine (HIA.out _).mono ?_
          rintro e w7 ⟨rfl, rfl⟩
          go_wp2_with fail
          refine (HIB.out _).mono ?_
          rintro e w7 ⟨rfl, rfl⟩
          go_wp2
          go_ret
          exact ⟨2, rfl, ⟨fun h => absurd h (by decide), fun h => absurd h (by decide)⟩, HEV2.out⟩
        | true =>
        have HCV := Lib.hid (fun W (hW : Ext w W) (hc : W.cell? ⟨wr.heap.size, 0, none⟩ = some (.int .i64 y.var)) => containsFunc_asgs RAsg rasg_lasts 117 #[.pointer (some ⟨wr.heap.size, 0, none⟩)] enters_117 (fun z => decide (z.var = y.var)) (.slice (some ⟨AB, AO, none⟩) k uc) (ev.asg.take k) W ((HA.out.ext rasg_lasts hW).take k (by rw [HNA.out]; omega)) (by rw [List.length_take]; omega) (fun z hz W2 vs hW2 hR => asgVar_calls vs z _ y.var W2 hR (hW2.cl hc)))
        obtain ⟨bt, hbt⟩ : ∃ b, (ev.asg.take k).any (fun z => decide (z.var = y.var)) = b := ⟨_, rfl⟩
        rw [hbt] at HCV
        rw [hbt] at HANV
        clear hbt
        cases bt with
        | true =>
          obtain rfl : hb = false := by
            rw [Bool.eq_false_iff]; intro hbt
            have h7 := HANV.out.symm
            rw [range_any] at h7
            obtain ⟨j, hj, hf⟩ := h7
            have := (HAP.out.1 (HALL.out hbt)).2.2.2 j hj
            rw [hf] at this; exact absurd this (by decide)
          go_wp2_with fail
          refine (HIA.out _).mono ?_
          rintro e w7 ⟨rfl, rfl⟩
          go_wp2_with fail
          refine (HIB.out _).mono ?_
          rintro e w7 ⟨rfl, rfl⟩
          go_wp2_with fail
          refine (HCV.out _ HEV2.out y0).mono ?_
          rintro e w8 ⟨rfl, hE8⟩
          have HE8 := Lib.hid (HEV2.out.trans' hE8)
          clear hE8
          go_wp2
          go_ret
          exact ⟨8, rfl, ⟨fun h => absurd h (by decide), fun h => absurd h (by decide)⟩, HE8.out⟩
        | false =>
          have HOK := Lib.hid (HAP.out.2 ⟨HVR.out.1, HVR.out.2, HBVL.out, by have h7 := HANV.out.symm; rw [range_any_false] at h7; exact h7⟩)
          go_wp2_with fail
          refine (HIA.out _).mono ?_
          rintro e w7 ⟨rfl, rfl⟩
          go_wp2_with fail
          refine (HIB.out _).mono ?_
          rintro e w7 ⟨rfl, rfl⟩
          go_wp2_with fail
          refine (HCV.out _ HEV2.out y0).mono ?_
          rintro e w8 ⟨rfl, hE8⟩
          have HE8 := Lib.hid (HEK2.out.trans' hE8)
          clear hE8
          go_wp2
          go_roundg (na - (k + 1))
          case measure => omega
          case rel =>
            refine ⟨k + 1, by omega, by omega, by go_num, (show Aside _ from fun j hj => ?_), (show Ext _ _ from HE8.out)⟩
            by_cases e : j = k
            · subst e; exact HOK.out
            · exact A.out j (by omega)
      · have hltz : ¬ (k : Int) < (na : Int) := by omega
        obtain rfl : na = k := by omega
        obtain rfl : hb = true := HB.out.2 ⟨HFOB.out, HT0.out.1, HT0.out.2, HORD.out, by omega, A.out⟩
        go_wp2
        go_ret
        exact ⟨0, rfl, ⟨fun _ => rfl, fun _ => rfl⟩, HEW.out⟩

end Go.Proofs.YtfcpnggdpaeldaaGreat

/-
  Whether a process sends a number to another one: the program's sends.
-/
namespace Go.Proofs.YtfcpnggdpaeldaaGreat
open Go.RowKit
set_option linter.unusedVariables false
attribute [local go_sem ↓] Go.wp_at_zero Go.wp_at_succ

set_option maxHeartbeats 400000 in
theorem indexFunc_evs {α : Type} [Inhabited α] (R : World → List Value → α → Prop) (hLasts : Lasts R) (g : Nat) (cb : Array Value) (eg : ∀ args w, (callFunc g args).run Tryz.prog w = .ok (.enter g args) w) (p : α → Bool) (v : Value) (l : List α) (w : World)
    (hv : Sl R 5 w v l) (hn : l.length ≤ 1000000) (hp : SaysOf Tryz.prog R encAgg g cb p l w) :
    Calls Tryz.prog 62 #[v, .func (.func g) #[] cb] w fun e w' => e = .returned (.int .i64 (firstAt p l)) ∧ Ext w w' := by
  obtain ⟨a, c, rfl, hlc, hv⟩ := hv
  have HLC := Lib.hid hlc; clear hlc
  have HV := Lib.hid hv; clear hv
  have HP := Lib.hid hp; clear hp
  have HT := Lib.hid hLasts; clear hLasts
  generalize hln : l.length = n at hn
  have HL := Lib.hid hln; clear hln
  go_enter Tryz.func62, Tryz.ntmps62
  go_wp2
  go_loopg [5, 8] n (fun m _ s8 wr => ∃ k : Nat, k ≤ n ∧ n - k ≤ m ∧ s8 = .int .i64 k ∧ Ext w wr ∧ Aside (∀ j, j < k → p l[j]! = false))
  case atStart => exact ⟨0, Nat.zero_le _, by omega, rfl, Below.refl _ _, (fun j hj => absurd hj (Nat.not_lt_zero _))⟩
  case round =>
    obtain ⟨k, hk, hm, rfl, he, A⟩ := hrel
    have HE := Lib.hid he; clear he
    by_cases hlt : k < n
    · obtain ⟨b, off, rfl, hb, hc⟩ := HV.out (by intro e; have := HL.out; simp [e] at this; omega)
      obtain ⟨vs, hvs, hR, hcell⟩ := hc k (by rw [HL.out]; exact hlt)
      obtain ⟨c0, c1, c2, c3, c4, rfl⟩ : ∃ c0 c1 c2 c3 c4, vs = [c0, c1, c2, c3, c4] := by match vs, hvs with | [c0, c1, c2, c3, c4], _ => exact ⟨c0, c1, c2, c3, c4, rfl⟩
      have d0 : wr.cell? ⟨b, off + k * 5, none⟩ = some c0 := (HE.out.cell hb).trans (hcell 0 (by omega))
      have d1 : wr.cell? ⟨b, off + k * 5 + 1, none⟩ = some c1 := (HE.out.cell hb).trans (hcell 1 (by omega))
      have d2 : wr.cell? ⟨b, off + k * 5 + 2, none⟩ = some c2 := (HE.out.cell hb).trans (hcell 2 (by omega))
      have d3 : wr.cell? ⟨b, off + k * 5 + 3, none⟩ = some c3 := (HE.out.cell hb).trans (hcell 3 (by omega))
      have d4 : wr.cell? ⟨b, off + k * 5 + 4, none⟩ = some c4 := (HE.out.cell hb).trans (hcell 4 (by omega))
      have hltz : (k : Int) < (n : Int) := by omega
      clear hc hcell
      have hcall := HP.out _ (mem_at l k (by rw [HL.out]; exact hlt)) wr _ HE.out (HT.out _ _ _ _ hR HE.out)
      unfold encAgg at hcall
      generalize hy : l[k]! = y at hcall hR
      have B := Lib.hid hy
      clear hy hR hvs HV HT HP
      cases hq : p y with
      | true =>
        rw [hq] at hcall
        have HQ := Lib.hid hq; clear hq
        go_wp2_with (go_at_fn g; refine hcall.mono ?_; rintro e w' ⟨rfl, he'⟩)
        go_ret
        exact ⟨by rw [firstAt_hit p l k (by rw [HL.out]; omega) (by rw [B.out]; exact HQ.out) A.out]; rfl, HE.out.trans' he'⟩
      | false =>
        rw [hq] at hcall
        have HQ := Lib.hid hq; clear hq
        go_wp2_with (go_at_fn g; refine hcall.mono ?_; rintro e w' ⟨rfl, he'⟩)
        go_roundg (n - (k + 1))
        case measure => omega
        case rel =>
          refine ⟨k + 1, by omega, by omega, by go_num, HE.out.trans' he', (show Aside _ from fun j hj => ?_)⟩
          by_cases e : j = k
          · subst e
            rw [B.out]; exact HQ.out
          · exact A.out j (by omega)
    · have hltz : ¬ (k : Int) < (n : Int) := by omega
      go_wp2
      go_ret
      exact ⟨by rw [firstAt_miss p l (fun j hj => A.out j (by rw [HL.out] at hj; omega))]; rfl, HE.out⟩

theorem enters_62 : ∀ args w, (callFunc 62 args).run Tryz.prog w = .ok (.enter 62 args) w := enters_of Tryz.func62 (by kernel_rfl) rfl

set_option maxHeartbeats 400000 in
theorem containsFunc_evs {α : Type} [Inhabited α] (R : World → List Value → α → Prop) (hLasts : Lasts R) (g : Nat) (cb : Array Value) (eg : ∀ args w, (callFunc g args).run Tryz.prog w = .ok (.enter g args) w) (p : α → Bool) (v : Value) (l : List α) (w : World)
    (hv : Sl R 5 w v l) (hn : l.length ≤ 1000000) (hp : SaysOf Tryz.prog R encAgg g cb p l w) :
    Calls Tryz.prog 29 #[v, .func (.func g) #[] cb] w fun e w' => e = .returned (.bool (l.any p)) ∧ Ext w w' := by
  have HI := Lib.hid (indexFunc_evs R hLasts g cb eg p v l w hv hn hp)
  clear hv hp eg hLasts
  rw [← firstAt_any]
  go_enter Tryz.func29, Tryz.ntmps29
  go_wp2_with (go_at_call 62; refine HI.out.mono ?_; rintro e w' ⟨rfl, he'⟩)
  go_ret
  exact ⟨rfl, he'⟩

theorem enters_125 : ∀ args w, (callFunc 125 args).run Tryz.prog w = .ok (.enter 125 args) w := enters_of Tryz.func125 (by kernel_rfl) rfl

set_option maxHeartbeats 1000000 in
theorem sends1_calls (vs : List Value) (x : Ev) (b1 b2 : Nat) (m q : Int) (w : World) (hx : REv w vs x) (hc1 : w.cell? ⟨b1, 0, none⟩ = some (.int .i64 m)) (hc2 : w.cell? ⟨b2, 0, none⟩ = some (.int .i64 q)) :
    Calls Tryz.prog 125 #[.agg vs.toArray, .pointer (some ⟨b1, 0, none⟩), .pointer (some ⟨b2, 0, none⟩)] w fun e w' => e = .returned (.bool (decide (x.kind = 2) && (decide (x.msg = m) && decide (x.peer = q)))) ∧ Ext w w' := by
  obtain ⟨va, rfl, ha⟩ := hx
  obtain ⟨ua, uc, rfl, huc⟩ := ha.sh
  have hbl1 := World.block_lt_of_cell? w _ hc1
  have hbn1 : b1 ≠ w.heap.size := Nat.ne_of_lt hbl1
  have hbl2 := World.block_lt_of_cell? w _ hc2
  have hbn2 : b2 ≠ w.heap.size := Nat.ne_of_lt hbl2
  generalize x.asg.length = na at *
  clear ha
  have hx0 := cell_new w #[.int .i64 x.kind, .int .i64 x.peer, .int .i64 x.msg, .int .i64 x.time, .slice ua na uc] 62 0 _ rfl
  have hx1 := cell_new w #[.int .i64 x.kind, .int .i64 x.peer, .int .i64 x.msg, .int .i64 x.time, .slice ua na uc] 62 1 _ rfl
  have hx2 := cell_new w #[.int .i64 x.kind, .int .i64 x.peer, .int .i64 x.msg, .int .i64 x.time, .slice ua na uc] 62 2 _ rfl
  obtain ⟨c1, hd1⟩ : ∃ b, (x.kind == 2) = b := ⟨_, rfl⟩
  obtain ⟨c2, hd2⟩ : ∃ b, (x.msg == m) = b := ⟨_, rfl⟩
  obtain ⟨c3, hd3⟩ : ∃ b, (x.peer == q) = b := ⟨_, rfl⟩
  have HR : Hid ((decide (x.kind = 2) && (decide (x.msg = m) && decide (x.peer = q))) = (c1 && (c2 && c3))) := Lib.hid (by rw [← hd1, ← hd2, ← hd3]; rfl)
  rw [HR.out]
  cases c1 <;> cases c2 <;> cases c3
  all_goals
    go_enter Tryz.func125, Tryz.ntmps125
    go_wp2
    go_ret
    exact ⟨rfl, (by repeat (first | refine Ext.st ?_ (by first | exact Nat.le_refl _ | exact Nat.le_succ _ | assumption | omega) _ | refine Ext.al ?_ _ | refine Ext.dr ?_ | refine Ext.drN ?_ _ | exact Ext.rf _))⟩

set_option maxHeartbeats 2000000 in
theorem sends_calls (v : Value) (t : Tr) (p : Nat) (m q : Int) (w : World) (h : TrAt w v t) (hs : SmallTr t) (hp : p < t.length) :
    Calls Tryz.prog 118 #[.agg #[v], .int .i64 p, .int .i64 m, .int .i64 q] w fun e w' => e = .returned (.bool (sendsB t p m q)) ∧ Ext w w' := by
  obtain ⟨B, O, C, vv, ve, rfl, hlC, hB, hn0, hv0, he0, hV, hE0⟩ := proc_at h p hp
  have hn := hs.1
  have hen := (hs.2 p hp).2.1
  have HA := Lib.hid hE0
  obtain ⟨ea, ec, rfl, hec⟩ := hE0.sh
  have HSB : Hid (sendsB t p m q = t[p]!.events.any fun s => decide (s.kind = 2) && (decide (s.msg = m) && decide (s.peer = q))) := Lib.hid rfl
  generalize sendsB t p m q = sb at *
  generalize hx : t[p]! = x at *
  generalize t.length = n at *
  have hE3 : Ext w (((w.alloc (.cells #[.slice (some ⟨B, O, none⟩) n C] 24)).alloc (.cells #[.int .i64 m] 3)).alloc (.cells #[.int .i64 q] 3)) := (((Ext.rf w).al _).al _).al _
  have he1 := hE3.cl he0
  have HX0 := Lib.hid ((((Ext.rf _).al (.cells #[.int .i64 m] 3)).al (.cells #[.int .i64 q] 3)).hp (heap_alloc_new w (.cells #[.slice (some ⟨B, O, none⟩) n C] 24)))
  have HX1 := Lib.hid (((Ext.rf _).al (.cells #[.int .i64 q] 3)).hp (heap_new_eq (w := w.alloc (.cells #[.slice (some ⟨B, O, none⟩) n C] 24)) (o := .cells #[.int .i64 m] 3) (b := w.heap.size + 1) (by simp)))
  have HX2 := Lib.hid (heap_new_eq (w := (w.alloc (.cells #[.slice (some ⟨B, O, none⟩) n C] 24)).alloc (.cells #[.int .i64 m] 3)) (o := .cells #[.int .i64 q] 3) (b := w.heap.size + 1 + 1) (by simp))
  have HE3 := Lib.hid hE3
  have hpz : (0 : Int) ≤ (p : Int) := by omega
  have hpi : (p : Int) < (n : Int) := by omega
  have HCF := Lib.hid (fun W (hW : Ext w W) (hc1 : W.cell? ⟨w.heap.size + 1, 0, none⟩ = some (.int .i64 m)) (hc2 : W.cell? ⟨w.heap.size + 1 + 1, 0, none⟩ = some (.int .i64 q)) =>
    containsFunc_evs REv rev_lasts 125 #[.pointer (some ⟨w.heap.size + 1, 0, none⟩), .pointer (some ⟨w.heap.size + 1 + 1, 0, none⟩)] enters_125 (fun s => decide (s.kind = 2) && (decide (s.msg = m) && decide (s.peer = q))) _ x.events W (HA.out.ext rev_lasts hW) hen
      (fun y hy W2 vs hW2 hR => sends1_calls vs y _ _ m q W2 hR (hW2.cl hc1) (hW2.cl hc2)))
  generalize hne : x.events.length = ne at *
  clear h hs hE3 hn0 hv0 he0 hV hE0 hx
  rw [HSB.out]
  generalize (x.events.any fun s => decide (s.kind = 2) && (decide (s.msg = m) && decide (s.peer = q))) = sc at *
  clear HSB
  clear hne
  go_enter Tryz.func118, Tryz.ntmps118
  go_wp2_with fail
  generalize hw3 : ((w.alloc (.cells #[.slice (some ⟨B, O, none⟩) n C] 24)).alloc (.cells #[.int .i64 m] 3)).alloc (.cells #[.int .i64 q] 3) = w3 at *
  clear hw3
  refine (HCF.out _ HE3.out (by have := cellOf HX1.out 0; simpa using this) (by have := cellOf HX2.out 0; simpa using this)).mono ?_
  rintro e w4 ⟨rfl, hE4⟩
  go_wp2
  go_ret
  exact ⟨rfl, HE3.out.trans' hE4⟩

end Go.Proofs.YtfcpnggdpaeldaaGreat
