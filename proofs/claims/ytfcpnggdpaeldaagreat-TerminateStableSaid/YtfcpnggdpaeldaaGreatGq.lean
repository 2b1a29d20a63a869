import Derived.Test.YtfcpnggdpaeldaaGreatJa
import Derived.Test.YtfcpnggdpaeldaaGreatProg
import Derived.Test.YtfcpnggdpaeldaaGreatGj
import Derived.Test.YtfcpnggdpaeldaaGreatGp
import Derived.Test.YtfcpnggdpaeldaaGreatGf
import Derived.Test.YtfcpnggdpaeldaaGreatGg
import Derived.Test.YtfcpnggdpaeldaaGreatGk
import Derived.BigQuiet
import Derived.Deep.QuietTactic
import Derived.Deep.LoopGhost
import Derived.Shelf.Abstract
import Derived.IntWalk
import Derived.Deep.RegionHeld3
/-
  What an event must be: the reference's form.
-/
namespace Go.Proofs.YtfcpnggdpaeldaaGreat
open Go.RowKit
set_option linter.unusedVariables false
attribute [local go_sem ↓] Go.wp_at_zero Go.wp_at_succ

abbrev evB (a b c d : Int) (v : Value) : Obj := .cells #[.int .i64 a, .int .i64 b, .int .i64 c, .int .i64 d, v] 62
abbrev agB (a b : Int) : Obj := .cells #[.int .i64 a, .int .i64 b] 126

theorem formedB_iff {n p : Nat} {kd pe ms ti : Int} {al : List Asg} : formedB n p ⟨kd, pe, ms, ti, al⟩ = true ↔ (kd = 1 ∧ pe = 0 ∧ ms = 0) ∨ ((kd = 2 ∨ kd = 3) ∧ 0 ≤ pe ∧ pe < n ∧ pe ≠ p ∧ 0 ≤ ms ∧ ms ≤ 199) := by
  unfold formedB
  by_cases h : kd = 1
  · simp [h]
  · simp [h]
set_option maxHeartbeats 8000000 in
set_option maxRecDepth 100000 in
theorem formR_calls (v : Value) (t : Tr) (p i : Nat) (w : World) (h : TrAt w v t) (hs : SmallTr t) (hp : p < t.length) (hi : i < t[p]!.events.length) :
    Calls Tryz.prog 70 #[.agg #[v], .int .i64 p, .int .i64 i] w fun e w' => ErrIff w w' e (eventB t p i) := by
  have HT := Lib.hid h
  obtain ⟨B, O, C, vv, ve, rfl, hlC, hB, hn0, hv0, he0, hV, hE0⟩ := proc_at h p hp
  obtain ⟨xa, xc, rfl, hvc⟩ := hV.sh
  have HEV := Lib.hid hE0
  obtain ⟨EB, EO, EC, va, rfl, hlE, hEB, k0, k1, k2, k3, k4, ha⟩ := event_at hE0 i hi
  obtain ⟨ua, uc, rfl, huc⟩ := ha.sh
  have hn := hs.1
  have hvn := (hs.2 p hp).1
  have hen := (hs.2 p hp).2.1
  have han := (hs.2 p hp).2.2 i hi
  have HB := Lib.hid (@eventB_parts t p i)
  generalize hhb : eventB t p i = hb at *
  have HA := Lib.hid ha
  have HPREV := Lib.hid (fun hi0 : 0 < i => event_at hE0 (i - 1) (by omega))
  generalize hx : t[p]! = x at *
  have HEVE := Lib.hid hE0
  generalize hev : x.events[i]! = ev at *
  obtain ⟨kd, pe, ms, ti, al⟩ := ev
  simp only at *
  generalize hln : t.length = n at *
  generalize hnv : x.vars.length = nv at *
  generalize hne : x.events.length = ne at *
  generalize hua : al.length = na at *
  have HNA := Lib.hid hua
  have hpz : (0 : Int) ≤ (p : Int) := by omega
  have hpi : (p : Int) < (n : Int) := by omega
  have hiz : (0 : Int) ≤ (i : Int) := by omega
  have hii : (i : Int) < (ne : Int) := by omega
  have hE1 : Ext w (w.alloc (.cells #[.slice (some ⟨B, O, none⟩) n C] 24)) := (Ext.rf w).al _
  have HX1 := Lib.hid (heap_new_eq (w := w.alloc (.cells #[.slice (some ⟨B, O, none⟩) n C] 24)) (o := evB kd pe ms ti (.slice ua na uc)) (b := w.heap.size + 1) (by simp))
  have HX0 := Lib.hid (((Ext.rf _).al (evB kd pe ms ti (.slice ua na uc))).hp (heap_alloc_new w (.cells #[.slice (some ⟨B, O, none⟩) n C] 24)))
  have HE2 : Hid (Ext w ((w.alloc (.cells #[.slice (some ⟨B, O, none⟩) n C] 24)).alloc (evB kd pe ms ti (.slice ua na uc)))) := Lib.hid (((Ext.rf w).al _).al _)
  have HV0 := Lib.hid hv0
  have HE00 := Lib.hid he0
  have he1 := hE1.cl he0
  have m0 := hE1.cl k0
  have m1 := hE1.cl k1
  have m2 := hE1.cl k2
  have m3 := hE1.cl k3
  have m4 := hE1.cl k4
  have hT0 := cell_new w #[.slice (some ⟨B, O, none⟩) n C] 24 0 _ rfl
  clear hn0 hv0 he0 hV hE0 h hs ha hhb hE1 hx hln hnv hne hua hev k0 k1 k2 k3 k4 HEVE
  go_enter Tryz.func70, Tryz.ntmps70
  go_upto_if 22 with (fail)
  clear hT0 he1 m0 m1 m2 m3 m4
  generalize hw2 : (w.alloc (.cells #[.slice (some ⟨B, O, none⟩) n C] 24)).alloc (evB kd pe ms ti (.slice ua na uc)) = w2 at *
  clear hw2
  have z0 := cellOf HX1.out 0
  have z1 := cellOf HX1.out 1
  have z2 := cellOf HX1.out 2
  have z3 := cellOf HX1.out 3
  have z4 := cellOf HX1.out 4
  simp only [List.getElem?_toArray, List.getElem?_cons_zero, List.getElem?_cons_succ] at z0 z1 z2 z3 z4
  have t0 := cellOf HX0.out 0
  simp only [List.getElem?_toArray, List.getElem?_cons_zero] at t0
  go_cut [] (fun wx => wx = w2 ∧ Aside (formedB n p ⟨kd, pe, ms, ti, al⟩ = true))
  case first =>
    by_cases h1 : kd = 1
    · have c1 : (kd == 1) = true := by simp [h1]
      by_cases h2 : pe = 0
      · have c2 : (pe != 0) = false := by simp [h2]
        by_cases h3 : ms = 0
        · have c3 : (ms != 0) = false := by simp [h3]
          have HFM := Lib.hid (show formedB n p ⟨kd, pe, ms, ti, al⟩ = true from formedB_iff.2 (.inl ⟨h1, h2, h3⟩))
          clear h1 h2 h3
          go_wp2
          go_meet
          exact ⟨rfl, HFM.out⟩
        · have c3 : (ms != 0) = true := by simp [h3]
          obtain rfl : hb = false := by
            rw [Bool.eq_false_iff]; intro hbt; have h9 := (HB.out.1 hbt).1; rw [formedB_iff] at h9; omega
          go_wp2
          go_ret
          exact ⟨3, rfl, ⟨fun h => absurd h (by decide), fun h => absurd h (by decide)⟩, HE2.out⟩
      · have c2 : (pe != 0) = true := by simp [h2]
        obtain rfl : hb = false := by
          rw [Bool.eq_false_iff]; intro hbt; have h9 := (HB.out.1 hbt).1; rw [formedB_iff] at h9; omega
        go_wp2
        go_ret
        exact ⟨3, rfl, ⟨fun h => absurd h (by decide), fun h => absurd h (by decide)⟩, HE2.out⟩
    · by_cases h2 : kd = 2
      · subst h2
        clear h1
        by_cases h3 : pe < 0
        ·
          obtain rfl : hb = false := by
            rw [Bool.eq_false_iff]; intro hbt; have h9 := (HB.out.1 hbt).1; rw [formedB_iff] at h9; omega
          go_wp2
          go_ret
          exact ⟨3, rfl, ⟨fun h => absurd h (by decide), fun h => absurd h (by decide)⟩, HE2.out⟩
        have h3 : 0 ≤ pe := by omega
        by_cases h4 : (n : Int) ≤ pe
        ·
          obtain rfl : hb = false := by
            rw [Bool.eq_false_iff]; intro hbt; have h9 := (HB.out.1 hbt).1; rw [formedB_iff] at h9; omega
          go_wp2
          go_ret
          exact ⟨3, rfl, ⟨fun h => absurd h (by decide), fun h => absurd h (by decide)⟩, HE2.out⟩
        have h4 : pe < (n : Int) := by omega
        by_cases h5 : pe = p
        · have c5 : (pe == (p : Int)) = true := by simp [h5]
          obtain rfl : hb = false := by
            rw [Bool.eq_false_iff]; intro hbt; have h9 := (HB.out.1 hbt).1; rw [formedB_iff] at h9; omega
          go_wp2
          go_ret
          exact ⟨3, rfl, ⟨fun h => absurd h (by decide), fun h => absurd h (by decide)⟩, HE2.out⟩
        have c5 : (pe == (p : Int)) = false := by simp [h5]
        by_cases h6 : ms < 0
        ·
          obtain rfl : hb = false := by
            rw [Bool.eq_false_iff]; intro hbt; have h9 := (HB.out.1 hbt).1; rw [formedB_iff] at h9; omega
          go_wp2
          go_ret
          exact ⟨3, rfl, ⟨fun h => absurd h (by decide), fun h => absurd h (by decide)⟩, HE2.out⟩
        have h6 : 0 ≤ ms := by omega
        by_cases h7 : 199 < ms
        ·
          obtain rfl : hb = false := by
            rw [Bool.eq_false_iff]; intro hbt; have h9 := (HB.out.1 hbt).1; rw [formedB_iff] at h9; omega
          go_wp2
          go_ret
          exact ⟨3, rfl, ⟨fun h => absurd h (by decide), fun h => absurd h (by decide)⟩, HE2.out⟩
        have h7 : ms ≤ 199 := by omega
        have HFM := Lib.hid (show 0 ≤ pe ∧ pe < n ∧ pe ≠ p ∧ 0 ≤ ms ∧ ms ≤ 199 from ⟨h3, h4, h5, h6, h7⟩)
        clear h5
        go_wp2
        go_meet
        exact ⟨rfl, (show formedB n p ⟨_, pe, ms, ti, al⟩ = true from formedB_iff.2 (.inr ⟨by decide, HFM.out⟩))⟩
      · by_cases h2b : kd = 3
        · subst h2b
          clear h1 h2
          by_cases h3 : pe < 0
          ·
            obtain rfl : hb = false := by
              rw [Bool.eq_false_iff]; intro hbt; have h9 := (HB.out.1 hbt).1; rw [formedB_iff] at h9; omega
            go_wp2
            go_ret
            exact ⟨3, rfl, ⟨fun h => absurd h (by decide), fun h => absurd h (by decide)⟩, HE2.out⟩
          have h3 : 0 ≤ pe := by omega
          by_cases h4 : (n : Int) ≤ pe
          ·
            obtain rfl : hb = false := by
              rw [Bool.eq_false_iff]; intro hbt; have h9 := (HB.out.1 hbt).1; rw [formedB_iff] at h9; omega
            go_wp2
            go_ret
            exact ⟨3, rfl, ⟨fun h => absurd h (by decide), fun h => absurd h (by decide)⟩, HE2.out⟩
          have h4 : pe < (n : Int) := by omega
          by_cases h5 : pe = p
          · have c5 : (pe == (p : Int)) = true := by simp [h5]
            obtain rfl : hb = false := by
              rw [Bool.eq_false_iff]; intro hbt; have h9 := (HB.out.1 hbt).1; rw [formedB_iff] at h9; omega
            go_wp2
            go_ret
            exact ⟨3, rfl, ⟨fun h => absurd h (by decide), fun h => absurd h (by decide)⟩, HE2.out⟩
          have c5 : (pe == (p : Int)) = false := by simp [h5]
          by_cases h6 : ms < 0
          ·
            obtain rfl : hb = false := by
              rw [Bool.eq_false_iff]; intro hbt; have h9 := (HB.out.1 hbt).1; rw [formedB_iff] at h9; omega
            go_wp2
            go_ret
            exact ⟨3, rfl, ⟨fun h => absurd h (by decide), fun h => absurd h (by decide)⟩, HE2.out⟩
          have h6 : 0 ≤ ms := by omega
          by_cases h7 : 199 < ms
          ·
            obtain rfl : hb = false := by
              rw [Bool.eq_false_iff]; intro hbt; have h9 := (HB.out.1 hbt).1; rw [formedB_iff] at h9; omega
            go_wp2
            go_ret
            exact ⟨3, rfl, ⟨fun h => absurd h (by decide), fun h => absurd h (by decide)⟩, HE2.out⟩
          have h7 : ms ≤ 199 := by omega
          have HFM := Lib.hid (show 0 ≤ pe ∧ pe < n ∧ pe ≠ p ∧ 0 ≤ ms ∧ ms ≤ 199 from ⟨h3, h4, h5, h6, h7⟩)
          clear h5
          go_wp2
          go_meet
          exact ⟨rfl, (show formedB n p ⟨_, pe, ms, ti, al⟩ = true from formedB_iff.2 (.inr ⟨by decide, HFM.out⟩))⟩
        · have c1 : (kd == 1) = false := by simp [h1]
          have c2 : (kd != 2) = true := by simp [h2]
          have c3 : (kd != 3) = true := by simp [h2b]
          obtain rfl : hb = false := by
            rw [Bool.eq_false_iff]; intro hbt; have h9 := (HB.out.1 hbt).1; rw [formedB_iff] at h9; omega
          go_wp2
          go_ret
          exact ⟨3, rfl, ⟨fun h => absurd h (by decide), fun h => absurd h (by decide)⟩, HE2.out⟩
  case rest =>
    obtain ⟨hw, HFM⟩ := hcut
    have hw := hw.symm
    subst hw
    have he2 := HE2.out.cl HE00.out
    go_upto_region 7 with (fail)
    go_cut [95] (fun s95 wx => ∃ c : Bool, s95 = .bool c ∧ Aside (∃ q, wx = w2.drewN q) ∧ Aside ((c = true → hb = false) ∧ (c = false → 0 ≤ ti ∧ ti ≤ 1099511627776 ∧ (i = 0 ∨ x.events[i - 1]!.time ≤ ti))))
    case first =>
      by_cases h3 : ti < 0
      · have HBF := Lib.hid (show hb = false from by
          rw [Bool.eq_false_iff]; intro hbt; have h9 := HB.out.1 hbt; omega)
        have d1 : decide (ti < 0) = true := decide_eq_true h3
        clear h3
        go_wp2
        go_quiet (fail)
        go_wp2
        go_meet
        exact ⟨true, rfl, (show Aside _ from ⟨_, rfl⟩), (show Aside _ from ⟨fun _ => HBF.out, fun h => absurd h (by decide)⟩)⟩
      have d1 : decide (ti < 0) = false := decide_eq_false h3
      by_cases h4 : 1099511627776 < ti
      · have HBF := Lib.hid (show hb = false from by
          rw [Bool.eq_false_iff]; intro hbt; have h9 := HB.out.1 hbt; omega)
        have d2 : decide (1099511627776 < ti) = true := decide_eq_true h4
        clear h3 h4
        go_wp2
        go_quiet (fail)
        go_wp2
        go_meet
        exact ⟨true, rfl, (show Aside _ from ⟨_, rfl⟩), (show Aside _ from ⟨fun _ => HBF.out, fun h => absurd h (by decide)⟩)⟩
      have d2 : decide (1099511627776 < ti) = false := decide_eq_false h4
      by_cases hi0 : i = 0
      · have HTM := Lib.hid (show 0 ≤ ti ∧ ti ≤ 1099511627776 ∧ (i = 0 ∨ x.events[i - 1]!.time ≤ ti) from ⟨by omega, by omega, .inl hi0⟩)
        have d3 : decide ((0 : Int) < (i : Int)) = false := decide_eq_false (by omega)
        have d3n : decide (0 < i) = false := decide_eq_false (by omega)
        clear h3 h4 hi0
        go_wp2
        go_quiet (fail)
        go_wp2
        go_meet
        exact ⟨false, rfl, (show Aside _ from ⟨_, rfl⟩), (show Aside _ from ⟨fun h => absurd h (by decide), fun _ => HTM.out⟩)⟩
      obtain ⟨EB', EO', EC', wv, hee, hz1, hz2, hz3, hz4, hz5, htm, hz6, hz7⟩ := HPREV.out (by omega)
      simp only [Value.slice.injEq, Option.some.injEq, Addr.mk.injEq, and_true] at hee
      obtain ⟨⟨rfl, rfl⟩, hz8, rfl⟩ := hee
      have htm1 := HE2.out.cl htm
      have i1 : (1 : Int) ≤ (i : Int) := by omega
      have i2 : 0 < i := by omega
      have i2b : 1 ≤ i := by omega
      have i3 : (0 : Int) ≤ (i : Int) - 1 := by omega
      have i5 : (i : Int) - 1 < (ne : Int) := by omega
      have i4 : ((i : Int) - 1).toNat = i - 1 := by omega
      have i6 : IntKind.i64.wrap ((i : Int) - 1) = (i : Int) - 1 := IntWalk.i64_in _ (by omega)
      have d3 : decide ((0 : Int) < (i : Int)) = true := decide_eq_true (by omega)
      have d3n : decide (0 < i) = true := decide_eq_true (by omega)
      clear hz1 hz2 hz3 hz4 hz5 hz6 hz7 hz8 htm
      generalize hpt : x.events[i - 1]!.time = pt at *
      by_cases h5 : ti < pt
      · have HBF := Lib.hid (show hb = false from by
          rw [Bool.eq_false_iff]; intro hbt; have h9 := HB.out.1 hbt; omega)
        have d4 : decide (ti < pt) = true := decide_eq_true h5
        clear h3 h4 h5 hi0 hpt
        go_wp2
        go_quiet (fail)
        go_wp2
        go_meet
        exact ⟨true, rfl, (show Aside _ from ⟨_, rfl⟩), (show Aside _ from ⟨fun _ => HBF.out, fun h => absurd h (by decide)⟩)⟩
      have d4 : decide (ti < pt) = false := decide_eq_false h5
      have HTM := Lib.hid (show 0 ≤ ti ∧ ti ≤ 1099511627776 ∧ (i = 0 ∨ pt ≤ ti) from ⟨by omega, by omega, by omega⟩)
      clear h3 h4 h5 hi0 hpt
      go_wp2
      go_quiet (fail)
      go_wp2
      go_meet
      exact ⟨false, rfl, (show Aside _ from ⟨_, rfl⟩), (show Aside _ from ⟨fun h => absurd h (by decide), fun _ => HTM.out⟩)⟩
    case rest =>
      obtain ⟨cc, rfl, HQ, HTM0⟩ := hcut
      obtain ⟨q, rfl⟩ := HQ.out
      cases cc with
      | true =>
        obtain rfl : hb = false := HTM0.out.1 rfl
        go_wp2
        go_ret
        exact ⟨11, rfl, ⟨fun h => absurd h (by decide), fun h => absurd h (by decide)⟩, HE2.out.drN _⟩
      | false =>
      have HTM := Lib.hid (HTM0.out.2 rfl)
      clear HTM0
      have HX0 := Lib.hid (((Ext.rf w2).drN q).hp HX0.out)
      have HX1 := Lib.hid (((Ext.rf w2).drN q).hp HX1.out)
      have HE3 := Lib.hid (HE2.out.drN q)
      generalize w2.drewN q = w3 at *
      clear he2 HQ z0 z1 z2 z3 z4 t0
      have z0 := cellOf HX1.out 0
      have z1 := cellOf HX1.out 1
      have z2 := cellOf HX1.out 2
      have z3 := cellOf HX1.out 3
      have z4 := cellOf HX1.out 4
      simp only [List.getElem?_toArray, List.getElem?_cons_zero, List.getElem?_cons_succ] at z0 z1 z2 z3 z4
      by_cases h8 : 8 < na
      · have c8 : decide (8 < (na : Int)) = true := by simp; omega
        have c8n : decide (8 < na) = true := by simp; omega
        obtain rfl : hb = false := by
          rw [Bool.eq_false_iff]; intro hbt; have := (HB.out.1 hbt).2.2.2.2.1; omega
        go_wp2
        go_ret
        exact ⟨5, rfl, ⟨fun h => absurd h (by decide), fun h => absurd h (by decide)⟩, HE3.out⟩
      have c8 : decide (8 < (na : Int)) = false := by simp; omega
      have c8n : decide (8 < na) = false := by simp; omega
      go_wp2
      clear z0 z1 z2 z3 z4
      go_loopg [8] na (fun g s8 wr => ∃ k : Nat, k ≤ na ∧ na - k ≤ g ∧ s8 = .int .i64 k ∧ Aside (∀ j, j < k → asgB nv al j = true) ∧ Aside (Ext w3 wr))
      case atStart => exact ⟨0, Nat.zero_le _, by omega, rfl, (fun j hj => absurd hj (Nat.not_lt_zero _)), Ext.rf _⟩
      case round =>
        obtain ⟨k, hk, hg, rfl, A, HEK⟩ := hrel
        have HEW := Lib.hid (HE3.out.trans' HEK.out)
        have HXA := Lib.hid (HEK.out.hp HX0.out)
        have HXB := Lib.hid (HEK.out.hp HX1.out)
        have z4 := cellOf HXB.out 4
        have t0 := cellOf HXA.out 0
        simp only [List.getElem?_toArray, List.getElem?_cons_zero, List.getElem?_cons_succ] at z4 t0
        by_cases hlt : k < na
        · have hltz : (k : Int) < (na : Int) := by omega
          have hkz : (0 : Int) ≤ (k : Int) := by omega
          obtain ⟨AB, AO, AC, hae, _, hAB, hav0, haw0⟩ := asg_at HA.out k (by rw [HNA.out]; exact hlt)
          simp only [Value.slice.injEq] at hae
          obtain ⟨rfl, hzz, rfl⟩ := hae
          have hav1 := HEW.out.cl hav0
          have haw1 := HEW.out.cl haw0
          have hv2 := HEW.out.cl HV0.out
          have HAP := Lib.hid (@asgB_parts nv al k)
          have HALL := Lib.hid (fun hbt : hb = true => (HB.out.1 hbt).2.2.2.2.2 k hlt)
          generalize hy : al[k]! = y at *
          obtain ⟨yv, yw⟩ := y
          simp only at *
          have HY := Lib.hid hy
          have HBV := Lib.hid (heap_alloc_new wr (agB yv yw))
          have HXA2 := Lib.hid (((Ext.rf wr).al (agB yv yw)).hp HXA.out)
          have HXB2 := Lib.hid (((Ext.rf wr).al (agB yv yw)).hp HXB.out)
          have HEV2 := Lib.hid (HEW.out.al (agB yv yw))
          have HEK2 := Lib.hid (HEK.out.al (agB yv yw))
          have HIB := Lib.hid (valueR_calls yw)
          clear hav0 haw0 hzz hy
          have hwl : w.heap.size < wr.heap.size := (Array.getElem?_eq_some_iff.1 HXA.out).1
          have hwn : w.heap.size ≠ wr.heap.size := by omega
          have hBn : B < wr.heap.size := by omega
          have hBnn : B ≠ wr.heap.size := by omega
          have hABn : AB < wr.heap.size := by omega
          have hABnn : AB ≠ wr.heap.size := by omega
          go_wp2
          generalize hw4 : wr.alloc (agB yv yw) = w4 at *
          have hv3 := HEV2.out.cl HV0.out
          have y0 := cellOf HBV.out 0
          have y1 := cellOf HBV.out 1
          have t2 := cellOf HXA2.out 0
          simp only [List.getElem?_toArray, List.getElem?_cons_zero, List.getElem?_cons_succ] at y0 y1 t2
          clear hw4 z4 t0 hav1 haw1 hv2
          go_upto_region 15 with (fail)
          go_cut [132] (fun s132 wx => ∃ c : Bool, s132 = .bool c ∧ Aside (∃ q, wx = w4.drewN q) ∧ Aside ((c = true → hb = false) ∧ (c = false → 0 ≤ yv ∧ yv < nv ∧ valueB yw = true)))
          case first =>
            by_cases h3 : yv < 0
            · have HBF := Lib.hid (show hb = false from by
                rw [Bool.eq_false_iff]; intro hbt; have h9 := HAP.out.1 (HALL.out hbt); omega)
              have d1 : decide (yv < 0) = true := decide_eq_true h3
              clear h3
              go_wp2
              go_quiet (fail)
              go_wp2
              go_meet
              exact ⟨true, rfl, (show Aside _ from ⟨_, rfl⟩), (show Aside _ from ⟨fun _ => HBF.out, fun h => absurd h (by decide)⟩)⟩
            have d1 : decide (yv < 0) = false := decide_eq_false h3
            by_cases h4 : (nv : Int) ≤ yv
            · have HBF := Lib.hid (show hb = false from by
                rw [Bool.eq_false_iff]; intro hbt; have h9 := HAP.out.1 (HALL.out hbt); omega)
              have d2 : decide ((nv : Int) ≤ yv) = true := decide_eq_true h4
              clear h3 h4
              go_wp2
              go_quiet (fail)
              go_wp2
              go_meet
              exact ⟨true, rfl, (show Aside _ from ⟨_, rfl⟩), (show Aside _ from ⟨fun _ => HBF.out, fun h => absurd h (by decide)⟩)⟩
            have d2 : decide ((nv : Int) ≤ yv) = false := decide_eq_false h4
            have HVR := Lib.hid (show 0 ≤ yv ∧ yv < nv from ⟨by omega, by omega⟩)
            obtain ⟨bv, hbv⟩ : ∃ b, valueB yw = b := ⟨_, rfl⟩
            rw [hbv] at HIB
            have HBVL := Lib.hid hbv
            clear hbv h3 h4
            cases bv with
            | false =>
              have HBF := Lib.hid (show hb = false from by
                rw [Bool.eq_false_iff]; intro hbt; have h9 := (HAP.out.1 (HALL.out hbt)).2.2.1; rw [HBVL.out] at h9; exact absurd h9 (by decide))
              go_wp2
              go_quiet ((go_at_call 94; exact Calls.quiet_of_same (HIB.out _)))
              go_wp2
              go_meet
              exact ⟨true, rfl, (show Aside _ from ⟨_, rfl⟩), (show Aside _ from ⟨fun _ => HBF.out, fun h => absurd h (by decide)⟩)⟩
            | true =>
              go_wp2
              go_quiet ((go_at_call 94; exact Calls.quiet_of_same (HIB.out _)))
              go_wp2
              go_meet
              exact ⟨false, rfl, (show Aside _ from ⟨_, rfl⟩), (show Aside _ from ⟨fun h => absurd h (by decide), fun _ => ⟨HVR.out.1, HVR.out.2, HBVL.out⟩⟩)⟩
          case rest =>
            obtain ⟨cc, rfl, HQ, HTM2⟩ := hcut
            obtain ⟨q, rfl⟩ := HQ.out
            have HE4 := Lib.hid (HEV2.out.drN q)
            have HEK4 := Lib.hid (HEK2.out.drN q)
            have HBV4 := Lib.hid (((Ext.rf w4).drN q).hp HBV.out)
            have HXB4 := Lib.hid (((Ext.rf w4).drN q).hp HXB2.out)
            generalize w4.drewN q = w5 at *
            clear HQ y0 y1 t2 hv3
            cases cc with
            | true =>
              obtain rfl : hb = false := HTM2.out.1 rfl
              go_wp2
              go_ret
              exact ⟨2, rfl, ⟨fun h => absurd h (by decide), fun h => absurd h (by decide)⟩, HE4.out⟩
            | false =>
            have HTM3 := Lib.hid (HTM2.out.2 rfl)
            clear HTM2
            go_wp2
            obtain ⟨wo, rfl⟩ : ∃ x, x = wr := ⟨_, rfl⟩
            go_loopg [10] k (fun g2 s10 wr => ∃ j : Nat, j ≤ k ∧ k - j ≤ g2 ∧ s10 = .int .i64 j ∧ Aside (∀ r, r < j → decide (al[r]!.var = yv) = false) ∧ Aside (Ext w5 wr))
            case atStart => exact ⟨0, Nat.zero_le _, by omega, rfl, (fun r hr => absurd hr (Nat.not_lt_zero _)), Ext.rf _⟩
            case round =>
              obtain ⟨j, hj, hg2, rfl, A2, HEM⟩ := hrel
              have HEY := Lib.hid (HE4.out.trans' HEM.out)
              have HBV5 := Lib.hid (HEM.out.hp HBV4.out)
              have HXB5 := Lib.hid (HEM.out.hp HXB4.out)
              by_cases hltj : j < k
              · have hltz2 : (j : Int) < (k : Int) := by omega
                have hjz : (0 : Int) ≤ (j : Int) := by omega
                have hja : (j : Int) < (na : Int) := by omega
                obtain ⟨_, _, _, hae, _, _, hjv0, _⟩ := asg_at HA.out j (by rw [HNA.out]; omega)
                simp only [Value.slice.injEq, Option.some.injEq, Addr.mk.injEq, and_true] at hae
                obtain ⟨⟨rfl, rfl⟩, hzz, rfl⟩ := hae
                have hjv1 := HEY.out.cl hjv0
                have z4 := cellOf HXB5.out 4
                have y0 := cellOf HBV5.out 0
                simp only [List.getElem?_toArray, List.getElem?_cons_zero, List.getElem?_cons_succ] at z4 y0
                have HALJ := Lib.hid (fun hbt : hb = true => (HAP.out.1 (HALL.out hbt)).2.2.2 j hltj)
                generalize hz : al[j]!.var = zv at *
                have HZ := Lib.hid hz
                clear hjv0 hzz hz
                obtain ⟨bq, hbq⟩ : ∃ b, (zv == yv) = b := ⟨_, rfl⟩
                have HBQ : Hid (decide (zv = yv) = bq) := Lib.hid (by rw [← hbq]; rfl)
                cases bq with
                | true =>
                  obtain rfl : hb = false := by
                    rw [Bool.eq_false_iff]; intro hbt; have := HALJ.out hbt; rw [HBQ.out] at this; exact absurd this (by decide)
                  go_wp2
                  go_quiet (fail)
                  go_wp2
                  go_ret
                  exact ⟨8, rfl, ⟨fun h => absurd h (by decide), fun h => absurd h (by decide)⟩, HEY.out.drN _⟩
                | false =>
                  go_wp2
                  go_quiet (fail)
                  go_wp2
                  go_roundg (k - (j + 1))
                  case measure => omega
                  case rel =>
                    refine ⟨j + 1, by omega, by omega, by go_num, (show Aside _ from fun r hr => ?_), (show Ext _ _ from HEM.out.drN _)⟩
                    by_cases e : r = j
                    · subst e; rw [HZ.out]; exact HBQ.out
                    · exact A2.out r (by omega)
              · have hltz2 : ¬ (j : Int) < (k : Int) := by omega
                obtain rfl : j = k := by omega
                have HOK := Lib.hid (HAP.out.2 ⟨HTM3.out.1, HTM3.out.2.1, HTM3.out.2.2, A2.out⟩)
                go_wp2
                go_roundg (na - (j + 1))
                case measure => omega
                case rel =>
                  refine ⟨j + 1, by omega, by omega, by go_num, (show Aside _ from fun r hr => ?_), (show Ext _ _ from HEK4.out.trans' HEM.out)⟩
                  by_cases e : r = j
                  · subst e; exact HOK.out
                  · exact A.out r (by omega)
        · have hltz : ¬ (k : Int) < (na : Int) := by omega
          obtain rfl : k = na := by omega
          obtain rfl : hb = true := HB.out.2 ⟨HFM.out, HTM.out.1, HTM.out.2.1, HTM.out.2.2, by omega, A.out⟩
          go_wp2
          go_ret
          exact ⟨0, rfl, ⟨fun _ => rfl, fun _ => rfl⟩, HEW.out⟩

end Go.Proofs.YtfcpnggdpaeldaaGreat

/-
  The messages of a trace in pairs: the reference's paired.
-/
namespace Go.Proofs.YtfcpnggdpaeldaaGreat
open Go.RowKit
set_option linter.unusedVariables false
attribute [local go_sem ↓] Go.wp_at_zero Go.wp_at_succ

theorem pairOf_parts {t : Tr} {x : Eid} : pairOf t x = true ↔ (ev t x).kind = 1 ∨ (findE t (ev t x).kind (ev t x).msg = some x ∧ ((ev t x).kind ≠ 3 ∨ sendsB t (ev t x).peer.toNat (ev t x).msg x.1 = true)) := by
  simp only [pairOf, Bool.or_eq_true, Bool.and_eq_true, decide_eq_true_eq]
/-- Two names are the same just where their numbers are. -/
theorem eid_same {o : Option Eid} {p i : Nat} : (eidA o = (p : Int) ∧ eidB o = (i : Int) + 1) ↔ o = some (p, i) := by
  cases o with
  | none => simp [eidA, eidB]; omega
  | some x =>
    obtain ⟨a, b⟩ := x
    simp only [eidA, eidB, Option.some.injEq, Prod.mk.injEq]
    omega

set_option maxHeartbeats 8000000 in
set_option maxRecDepth 100000 in
theorem pairedR_calls (v : Value) (t : Tr) (p i : Nat) (w : World) (h : TrAt w v t) (hs : SmallTr t) (hx : Inn t (p, i)) (hf : formedB t.length p (ev t (p, i)) = true) :
    Calls Tryz.prog 71 #[.agg #[v], .agg #[.int .i64 p, .int .i64 ((i : Int) + 1)]] w fun e w' => ErrIff w w' e (pairOf t (p, i)) := by
  obtain ⟨ix, hix⟩ : ∃ x : Int, (i : Int) + 1 = x := ⟨_, rfl⟩
  rw [hix]
  have HAT : Hid (∀ W, Ext w W → Calls Tryz.prog 95 #[.agg #[v], .agg #[.int .i64 p, .int .i64 ix]] W fun e w' => EvOut W w' e (ev t (p, i))) := Lib.hid (fun W hW => hix ▸ atR_calls v t p i W (h.ext hW) hs hx)
  have HFI := Lib.hid (fun W (hW : Ext w W) k m => findR_calls v t k m W (h.ext hW) hs)
  have HT := Lib.hid h
  have HS := Lib.hid hs
  obtain ⟨ta, tc, rfl, htc⟩ := h.sh
  have HB := Lib.hid (@pairOf_parts t (p, i))
  generalize hhb : pairOf t (p, i) = hb at *
  have hsame := @eid_same (findE t (ev t (p, i)).kind (ev t (p, i)).msg) p i
  generalize hy : ev t (p, i) = y at *
  obtain ⟨kd, pe, ms, ti, al⟩ := y
  simp only at *
  have HFM := Lib.hid hf
  have hn1 := hs.1
  have HSAME := Lib.hid hsame
  generalize hfe : findE t kd ms = fe at *
  have HFE := Lib.hid hfe
  generalize hln : t.length = n at *
  have HL := Lib.hid hln
  have HY := Lib.hid hy
  have HIX := Lib.hid hix
  have HX0 := Lib.hid (((Ext.rf _).al (.cells #[.int .i64 p, .int .i64 ix] 72)).hp (heap_alloc_new w (.cells #[.slice ta n tc] 24)))
  have HX1 := Lib.hid (heap_new_eq (w := w.alloc (.cells #[.slice ta n tc] 24)) (o := .cells #[.int .i64 p, .int .i64 ix] 72) (b := w.heap.size + 1) (by simp))
  have HE2 : Hid (Ext w ((w.alloc (.cells #[.slice ta n tc] 24)).alloc (.cells #[.int .i64 p, .int .i64 ix] 72))) := Lib.hid (((Ext.rf w).al _).al _)
  clear h hs hx hf hsame hfe hhb hy hln hix
  go_enter Tryz.func71, Tryz.ntmps71
  go_wp2_with fail
  generalize hw2 : (w.alloc (.cells #[.slice ta n tc] 24)).alloc (.cells #[.int .i64 p, .int .i64 ix] 72) = w2 at *
  clear hw2
  refine (HAT.out _ HE2.out).mono ?_
  rintro e w3 ⟨ua, uc, rfl, hE3⟩
  simp only
  generalize al.length = na
  have HE3 := Lib.hid (HE2.out.trans' hE3)
  have HXA3 := Lib.hid (hE3.hp HX0.out)
  have HXB3 := Lib.hid (hE3.hp HX1.out)
  have HB4 := Lib.hid (heap_alloc_new w3 (e5 (.int .i64 kd) (.int .i64 pe) (.int .i64 ms) (.int .i64 ti) (.slice ua na uc)))
  have HXA4 := Lib.hid (((Ext.rf w3).al (e5 (.int .i64 kd) (.int .i64 pe) (.int .i64 ms) (.int .i64 ti) (.slice ua na uc))).hp HXA3.out)
  have HXB4 := Lib.hid (((Ext.rf w3).al (e5 (.int .i64 kd) (.int .i64 pe) (.int .i64 ms) (.int .i64 ti) (.slice ua na uc))).hp HXB3.out)
  have HE4 := Lib.hid (HE3.out.al (e5 (.int .i64 kd) (.int .i64 pe) (.int .i64 ms) (.int .i64 ti) (.slice ua na uc)))
  clear hE3
  by_cases h1 : kd = 1
  · have c1 : (kd == 1) = true := by simp [h1]
    obtain rfl : hb = true := HB.out.2 (.inl h1)
    clear h1
    go_wp2
    go_ret
    exact ⟨0, rfl, ⟨fun _ => rfl, fun _ => rfl⟩, HE4.out⟩
  have c1 : (kd == 1) = false := by simp [h1]
  have HK1 := Lib.hid h1
  clear h1
  go_wp2
  generalize hw4 : w3.alloc (.cells #[.int .i64 kd, .int .i64 pe, .int .i64 ms, .int .i64 ti, .slice ua na uc] 62) = w4 at *
  have hb3 : w3.heap.size < w4.heap.size := by rw [← hw4]; simp
  clear hw4
  have t0 := cellOf HXA4.out 0
  have j0 := cellOf HXB4.out 0
  have j1 := cellOf HXB4.out 1
  have y0 := cellOf HB4.out 0
  have y2 := cellOf HB4.out 2
  simp only [List.getElem?_toArray, List.getElem?_cons_zero, List.getElem?_cons_succ] at t0 j0 j1 y0 y2
  have HXA := Lib.hid (Ext.rf w4)
  have HFW : Hid (∀ W, Ext w W → Calls Tryz.prog 92 #[.agg #[.slice ta n tc], .int .i64 kd, .int .i64 ms] W fun e w' => e = .returned (.agg #[.int .i64 (eidA fe), .int .i64 (eidB fe)]) ∧ Ext W w') := Lib.hid (fun W hW => by have := HFI.out W hW kd ms; rw [HFE.out] at this; exact this)
  obtain ⟨za, hza⟩ : ∃ z, eidA fe = z := ⟨_, rfl⟩
  obtain ⟨zb, hzb⟩ : ∃ z, eidB fe = z := ⟨_, rfl⟩
  rw [hza, hzb] at HFW HSAME
  clear hza hzb HFI
  by_cases ha : za = (p : Int)
  · subst ha
    by_cases hb2 : zb = ix
    · have hb2 := hb2.symm
      subst hb2
      have HSM : Hid (fe = some (p, i)) := Lib.hid (HSAME.out.1 ⟨rfl, HIX.out.symm⟩)
      clear HSAME
      go_region_held3 (fun w' => w'.cell? ⟨w.heap.size, 0, none⟩ = some (.slice ta n tc) ∧ w'.cell? ⟨w.heap.size + 1, 0, none⟩ = some (.int .i64 p) ∧ w'.cell? ⟨w.heap.size + 1, 1, none⟩ = some (.int .i64 ix) ∧ w'.cell? ⟨w3.heap.size, 0, none⟩ = some (.int .i64 kd) ∧ w'.cell? ⟨w3.heap.size, 2, none⟩ = some (.int .i64 ms)) (go_keep)
        (first
          | (go_at_call 92
             refine (HFW.out _ (HE4.out.trans' (by repeat (first | refine Ext.st ?_ (by first | exact Nat.le_refl _ | exact Nat.le_succ _ | assumption | omega) _ | refine Ext.al ?_ _ | refine Ext.dr ?_ | refine Ext.drN ?_ _ | exact HXA.out)))).mono ?_
             rintro e wA ⟨rfl, hE⟩
             have hxA : Ext w4 wA := Ext.trans' (by repeat (first | refine Ext.st ?_ (by first | exact Nat.le_refl _ | exact Nat.le_succ _ | assumption | omega) _ | refine Ext.al ?_ _ | refine Ext.dr ?_ | refine Ext.drN ?_ _ | exact HXA.out)) hE
             have HXA := Lib.hid hxA
             have kt0 := hxA.cl t0
             have kj0 := hxA.cl j0
             have kj1 := hxA.cl j1
             have ky0 := hxA.cl y0
             have ky2 := hxA.cl y2
             clear hxA hE))
      have HZA := Lib.hid (HXA.out.hp HXA4.out)
      have HZB := Lib.hid (HXA.out.hp HXB4.out)
      have HZE := Lib.hid (HXA.out.hp HB4.out)
      have HEA := Lib.hid (HE4.out.trans' HXA.out)
      clear hb2 t0 j0 j1 y0 y2 kj0 kj1 ky2
      by_cases h3 : kd = 3
      · have HQ := Lib.hid (show 0 ≤ pe ∧ pe < n ∧ 0 ≤ ms ∧ ms ≤ 199 from by have := HFM.out; subst h3; simp [formedB] at this; omega)
        subst h3
        obtain ⟨q, rfl⟩ : ∃ q : Nat, pe = q := ⟨pe.toNat, by have := HQ.out; omega⟩
        have hqn : q < n := by have := HQ.out; omega
        obtain ⟨_, _, TC, vv, ve, hve, hlC, hBB, hn0, hv0, he0, hV, hE0⟩ := proc_at HT.out q (by rw [HL.out]; exact hqn)
        simp only [Value.slice.injEq] at hve
        obtain ⟨rfl, hzz, rfl⟩ := hve
        obtain ⟨ea, ec, rfl, hec⟩ := hE0.sh
        have hen := (HS.out.2 q (by rw [HL.out]; exact hqn)).2.1
        have HEV := Lib.hid hE0
        have HE00 := Lib.hid he0
        have HSB : Hid (hb = true ↔ t[q]!.events.any (fun s => decide (s.kind = 2) && (decide (s.msg = ms) && decide (s.peer = (p : Int)))) = true) := Lib.hid (by
          rw [HB.out]
          constructor
          · rintro (h9 | ⟨_, h9 | h9⟩)
            · exact absurd h9 (by decide)
            · exact absurd rfl h9
            · exact h9
          · intro h9; exact .inr ⟨HSM.out, .inr h9⟩)
        have hqz : (0 : Int) ≤ (q : Int) := by omega
        have hqi : (q : Int) < (n : Int) := by omega
        generalize hxx : t[q]! = x at *
        generalize hne : x.events.length = ne at *
        have HNE := Lib.hid hne
        have he1 := HEA.out.cl he0
        clear hn0 hv0 hV hE0 hzz hxx hne he0
        go_wp2
        clear kt0 ky0 he1
        go_loopg [6, 7] ne (fun g s6 s7 wr => ∃ j : Nat, j ≤ ne ∧ ne - j ≤ g ∧ s7 = .int .i64 j ∧ ∃ b : Bool, s6 = .bool b ∧ Aside (b = (x.events.take j).any (fun s => decide (s.kind = 2) && (decide (s.msg = ms) && decide (s.peer = (p : Int))))) ∧ Aside (Ext wA wr))
        case atStart => exact ⟨0, Nat.zero_le _, by omega, rfl, false, rfl, (show _ = _ from by simp), Ext.rf _⟩
        case round =>
          obtain ⟨j, hj, hg, rfl, b, rfl, A, HEK⟩ := hrel
          have HEW := Lib.hid (HEA.out.trans' HEK.out)
          have HYA := Lib.hid (HEK.out.hp HZA.out)
          have HYB := Lib.hid (HEK.out.hp HZB.out)
          have HYE := Lib.hid (HEK.out.hp HZE.out)
          have t0 := cellOf HYA.out 0
          have y1 := cellOf HYE.out 1
          simp only [List.getElem?_toArray, List.getElem?_cons_zero, List.getElem?_cons_succ] at t0 y1
          have he1 := HEW.out.cl HE00.out
          by_cases hlt : j < ne
          · have hltz : (j : Int) < (ne : Int) := by omega
            have hjz : (0 : Int) ≤ (j : Int) := by omega
            obtain ⟨EB, EO, EC, va, hee, hlE, hEB, k0, k1, k2, k3, k4, ha⟩ := event_at HEV.out j (by rw [HNE.out]; exact hlt)
            simp only [Value.slice.injEq] at hee
            obtain ⟨rfl, hzz, rfl⟩ := hee
            obtain ⟨va1, va2, rfl, _⟩ := ha.sh
            have m0 := HEW.out.cl k0
            have m1 := HEW.out.cl k1
            have m2 := HEW.out.cl k2
            have m3 := HEW.out.cl k3
            have m4 := HEW.out.cl k4
            have HTK := Lib.hid (take_snoc' x.events j (by rw [HNE.out]; exact hlt))
            generalize hyv : x.events[j]! = y at *
            generalize y.asg.length = nb at *
            have HBE := Lib.hid (heap_alloc_new wr (e5 (.int .i64 y.kind) (.int .i64 y.peer) (.int .i64 y.msg) (.int .i64 y.time) (.slice va1 nb va2)))
            have HYB2 := Lib.hid (((Ext.rf wr).al (e5 (.int .i64 y.kind) (.int .i64 y.peer) (.int .i64 y.msg) (.int .i64 y.time) (.slice va1 nb va2))).hp HYB.out)
            have HYE2 := Lib.hid (((Ext.rf wr).al (e5 (.int .i64 y.kind) (.int .i64 y.peer) (.int .i64 y.msg) (.int .i64 y.time) (.slice va1 nb va2))).hp HYE.out)
            have HEK2 := Lib.hid (HEK.out.al (e5 (.int .i64 y.kind) (.int .i64 y.peer) (.int .i64 y.msg) (.int .i64 y.time) (.slice va1 nb va2)))
            clear k0 k1 k2 k3 k4 hzz ha hyv
            go_upto_region 12 with (fail)
            generalize hw6 : wr.alloc (e5 (.int .i64 y.kind) (.int .i64 y.peer) (.int .i64 y.msg) (.int .i64 y.time) (.slice va1 nb va2)) = w6 at *
            clear hw6 t0 y1 he1 m0 m1 m2 m3 m4
            have z0 := cellOf HBE.out 0
            have z1 := cellOf HBE.out 1
            have z2 := cellOf HBE.out 2
            have j0 := cellOf HYB2.out 0
            have y2 := cellOf HYE2.out 2
            simp only [List.getElem?_toArray, List.getElem?_cons_zero, List.getElem?_cons_succ] at z0 z1 z2 j0 y2
            obtain ⟨c1, hd1⟩ : ∃ b, (y.kind == 2) = b := ⟨_, rfl⟩
            obtain ⟨c2, hd2⟩ : ∃ b, (y.msg == ms) = b := ⟨_, rfl⟩
            obtain ⟨c3, hd3⟩ : ∃ b, (y.peer == (p : Int)) = b := ⟨_, rfl⟩
            have HNX : Hid ((x.events.take (j + 1)).any (fun s => decide (s.kind = 2) && (decide (s.msg = ms) && decide (s.peer = (p : Int)))) = (b || (c1 && (c2 && c3)))) := Lib.hid (by
              rw [HTK.out, List.any_append, ← A.out, ← hd1, ← hd2, ← hd3]; simp; rfl)
            cases b with
            | true =>
              go_wp2
              go_roundg (ne - (j + 1))
              case measure => omega
              case rel => exact ⟨j + 1, by omega, by omega, by go_num, _, rfl, (show _ = _ from by rw [HNX.out]; rfl), (show Ext _ _ from HEK2.out)⟩
            | false =>
              cases c1 <;> cases c2 <;> cases c3
              all_goals
                go_wp2
                go_roundg (ne - (j + 1))
                case measure => omega
                case rel => exact ⟨j + 1, by omega, by omega, by go_num, _, rfl, (show _ = _ from by rw [HNX.out]; rfl), (show Ext _ _ from HEK2.out)⟩
          · have hltz : ¬ (j : Int) < (ne : Int) := by omega
            obtain rfl : j = ne := by omega
            have HBB : Hid (hb = b) := Lib.hid (by
              have h9 := A.out
              rw [← HNE.out, List.take_length] at h9
              have h8 := HSB.out
              rw [← h9] at h8
              cases hb <;> cases b <;> simp at h8 ⊢)
            cases b with
            | false =>
              obtain rfl : hb = false := HBB.out
              go_wp2
              go_ret
              exact ⟨7, rfl, ⟨fun h => absurd h (by decide), fun h => absurd h (by decide)⟩, HEW.out⟩
            | true =>
              obtain rfl : hb = true := HBB.out
              go_wp2
              go_ret
              exact ⟨0, rfl, ⟨fun _ => rfl, fun _ => rfl⟩, HEW.out⟩
      · have c3 : (kd == 3) = false := by simp [h3]
        obtain rfl : hb = true := HB.out.2 (.inr ⟨HSM.out, .inl h3⟩)
        clear h3
        go_wp2
        go_ret
        exact ⟨0, rfl, ⟨fun _ => rfl, fun _ => rfl⟩, HEA.out⟩
    · have c2 : (zb == ix) = false := by simp [hb2]
      have c3 : (zb != ix) = true := by simp [hb2]
      have HNS := Lib.hid (show ¬ fe = some (p, i) from fun e => hb2 ((HSAME.out.2 e).2.trans HIX.out))
      go_region_held3 (fun w' => w'.cell? ⟨w.heap.size, 0, none⟩ = some (.slice ta n tc) ∧ w'.cell? ⟨w.heap.size + 1, 0, none⟩ = some (.int .i64 p) ∧ w'.cell? ⟨w.heap.size + 1, 1, none⟩ = some (.int .i64 ix) ∧ w'.cell? ⟨w3.heap.size, 0, none⟩ = some (.int .i64 kd) ∧ w'.cell? ⟨w3.heap.size, 2, none⟩ = some (.int .i64 ms)) (go_keep)
        (first
          | (go_at_call 92
             refine (HFW.out _ (HE4.out.trans' (by repeat (first | refine Ext.st ?_ (by first | exact Nat.le_refl _ | exact Nat.le_succ _ | assumption | omega) _ | refine Ext.al ?_ _ | refine Ext.dr ?_ | refine Ext.drN ?_ _ | exact HXA.out)))).mono ?_
             rintro e wA ⟨rfl, hE⟩
             have hxA : Ext w4 wA := Ext.trans' (by repeat (first | refine Ext.st ?_ (by first | exact Nat.le_refl _ | exact Nat.le_succ _ | assumption | omega) _ | refine Ext.al ?_ _ | refine Ext.dr ?_ | refine Ext.drN ?_ _ | exact HXA.out)) hE
             have HXA := Lib.hid hxA
             have kt0 := hxA.cl t0
             have kj0 := hxA.cl j0
             have kj1 := hxA.cl j1
             have ky0 := hxA.cl y0
             have ky2 := hxA.cl y2
             clear hxA hE))
      all_goals
        obtain rfl : hb = false := by
          rw [Bool.eq_false_iff]; intro hbt; rcases HB.out.1 hbt with h9 | h9; exact HK1.out h9; exact HNS.out h9.1
        go_wp2
        go_ret
        exact ⟨8, rfl, ⟨fun h => absurd h (by decide), fun h => absurd h (by decide)⟩, HE4.out.trans' (by repeat (first | refine Ext.st ?_ (by first | exact Nat.le_refl _ | exact Nat.le_succ _ | assumption | omega) _ | refine Ext.al ?_ _ | refine Ext.dr ?_ | refine Ext.drN ?_ _ | exact HXA.out))⟩
  · have c2 : (za == (p : Int)) = false := by simp [ha]
    have c3 : (za != (p : Int)) = true := by simp [ha]
    have HNS := Lib.hid (show ¬ fe = some (p, i) from fun e => ha (HSAME.out.2 e).1)
    go_region_held3 (fun w' => w'.cell? ⟨w.heap.size, 0, none⟩ = some (.slice ta n tc) ∧ w'.cell? ⟨w.heap.size + 1, 0, none⟩ = some (.int .i64 p) ∧ w'.cell? ⟨w.heap.size + 1, 1, none⟩ = some (.int .i64 ix) ∧ w'.cell? ⟨w3.heap.size, 0, none⟩ = some (.int .i64 kd) ∧ w'.cell? ⟨w3.heap.size, 2, none⟩ = some (.int .i64 ms)) (go_keep)
      (first
        | (go_at_call 92
           refine (HFW.out _ (HE4.out.trans' (by repeat (first | refine Ext.st ?_ (by first | exact Nat.le_refl _ | exact Nat.le_succ _ | assumption | omega) _ | refine Ext.al ?_ _ | refine Ext.dr ?_ | refine Ext.drN ?_ _ | exact HXA.out)))).mono ?_
           rintro e wA ⟨rfl, hE⟩
           have hxA : Ext w4 wA := Ext.trans' (by repeat (first | refine Ext.st ?_ (by first | exact Nat.le_refl _ | exact Nat.le_succ _ | assumption | omega) _ | refine Ext.al ?_ _ | refine Ext.dr ?_ | refine Ext.drN ?_ _ | exact HXA.out)) hE
           have HXA := Lib.hid hxA
           have kt0 := hxA.cl t0
           have kj0 := hxA.cl j0
           have kj1 := hxA.cl j1
           have ky0 := hxA.cl y0
           have ky2 := hxA.cl y2
           clear hxA hE))
    all_goals
      obtain rfl : hb = false := by
        rw [Bool.eq_false_iff]; intro hbt; rcases HB.out.1 hbt with h9 | h9; exact HK1.out h9; exact HNS.out h9.1
      go_wp2
      go_ret
      exact ⟨8, rfl, ⟨fun h => absurd h (by decide), fun h => absurd h (by decide)⟩, HE4.out.trans' (by repeat (first | refine Ext.st ?_ (by first | exact Nat.le_refl _ | exact Nat.le_succ _ | assumption | omega) _ | refine Ext.al ?_ _ | refine Ext.dr ?_ | refine Ext.drN ?_ _ | exact HXA.out))⟩

end Go.Proofs.YtfcpnggdpaeldaaGreat
