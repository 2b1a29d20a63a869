import Derived.Test.YtfcpnggdpaeldaaGa
import Derived.Test.YtfcpnggdpaeldaaProg
import Derived.Test.YtfcpnggdpaeldaaGd
import Derived.Test.YtfcpnggdpaeldaaGg
import Derived.BigQuiet
import Derived.Deep.QuietTactic
import Derived.Deep.LoopGhost
import Derived.Shelf.Abstract
import Derived.IntWalk
/-
  What an event must be: the reference's form.
-/
namespace Go.Proofs.Ytfcpnggdpaeldaa
open Go.RowKit
set_option linter.unusedVariables false
attribute [local go_sem ↓] Go.wp_at_zero Go.wp_at_succ

abbrev evB (a b c d : Int) (v : Value) : Obj := .cells #[.int .i64 a, .int .i64 b, .int .i64 c, .int .i64 d, v] 55
abbrev agB (a b : Int) : Obj := .cells #[.int .i64 a, .int .i64 b] 57

theorem formedB_iff {n p : Nat} {kd pe ms ti : Int} {al : List Asg} : formedB n p ⟨kd, pe, ms, ti, al⟩ = true ↔ (kd = 1 ∧ pe = 0 ∧ ms = 0) ∨ ((kd = 2 ∨ kd = 3) ∧ 0 ≤ pe ∧ pe < n ∧ pe ≠ p ∧ 0 ≤ ms ∧ ms ≤ 199) := by
  unfold formedB
  by_cases h : kd = 1
  · simp [h]
  · simp [h]
set_option maxHeartbeats 8000000 in
set_option maxRecDepth 100000 in
theorem formR_calls (v : Value) (t : Tr) (p i : Nat) (w : World) (h : TrAt w v t) (hs : SmallTr t) (hp : p < t.length) (hi : i < t[p]!.events.length) :
    Calls Try.prog 72 #[.agg #[v], .int .i64 p, .int .i64 i] w fun e w' => ErrIff w w' e (eventB t p i) := by
  have HT := Lib.hid h
  obtain ⟨B, O, C, vv, ve, rfl, hlC, hB, hn0, hv0, he0, hV, hE0⟩ := proc_at h p hp
  obtain ⟨xa, xc, rfl, hvc⟩ := hV.sh
  have HEV := Lib.hid hE0
  obtain ⟨EB, EO, EC, va, rfl, hlE, hEB, k0, k1, k2, k3, k4, ha⟩ := event_at hE0 i hi
  obtain ⟨ua, uc, rfl, huc⟩ := ha.sh
  have hn := hs.1
  have hvn := (hs.2 p hp).1
  have hen := (hs.2 p hp).2.1
  have han := (hs.2 p hp).2.2 i hi
  have HB := Lib.hid (@eventB_parts t p i)
  generalize hhb : eventB t p i = hb at *
  have HA := Lib.hid ha
  have HPREV := Lib.hid (fun hi0 : 0 < i => event_at hE0 (i - 1) (by omega))
  generalize hx : t[p]! = x at *
  have HEVE := Lib.hid hE0
  generalize hev : x.events[i]! = ev at *
  obtain ⟨kd, pe, ms, ti, al⟩ := ev
  simp only at *
  generalize hln : t.length = n at *
  generalize hnv : x.vars.length = nv at *
  generalize hne : x.events.length = ne at *
  generalize hua : al.length = na at *
  have HNA := Lib.hid hua
  have hpz : (0 : Int) ≤ (p : Int) := by omega
  have hpi : (p : Int) < (n : Int) := by omega
  have hiz : (0 : Int) ≤ (i : Int) := by omega
  have hii : (i : Int) < (ne : Int) := by omega
  have hE1 : Ext w (w.alloc (.cells #[.slice (some ⟨B, O, none⟩) n C] 24)) := (Ext.rf w).al _
  have HX1 := Lib.hid (heap_new_eq (w := w.alloc (.cells #[.slice (some ⟨B, O, none⟩) n C] 24)) (o := evB kd pe ms ti (.slice ua na uc)) (b := w.heap.size + 1) (by simp))
  have HX0 := Lib.hid (((Ext.rf _).al (evB kd pe ms ti (.slice ua na uc))).hp (heap_alloc_new w (.cells #[.slice (some ⟨B, O, none⟩) n C] 24)))
  have HE2 : Hid (Ext w ((w.alloc (.cells #[.slice (some ⟨B, O, none⟩) n C] 24)).alloc (evB kd pe ms ti (.slice ua na uc)))) := Lib.hid (((Ext.rf w).al _).al _)
  have HV0 := Lib.hid hv0
  have HE00 := Lib.hid he0
  have he1 := hE1.cl he0
  have m0 := hE1.cl k0
  have m1 := hE1.cl k1
  have m2 := hE1.cl k2
  have m3 := hE1.cl k3
  have m4 := hE1.cl k4
  have hT0 := cell_new w #[.slice (some ⟨B, O, none⟩) n C] 24 0 _ rfl
  clear hn0 hv0 he0 hV hE0 h hs ha hhb hE1 hx hln hnv hne hua hev k0 k1 k2 k3 k4 HEVE
  go_enter Try.func72, Try.ntmps72
  go_upto_if 22 with (fail)
  clear hT0 he1 m0 m1 m2 m3 m4
  generalize hw2 : (w.alloc (.cells #[.slice (some ⟨B, O, none⟩) n C] 24)).alloc (evB kd pe ms ti (.slice ua na uc)) = w2 at *
  clear hw2
  have z0 := cellOf HX1.out 0
  have z1 := cellOf HX1.out 1
  have z2 := cellOf HX1.out 2
  have z3 := cellOf HX1.out 3
  have z4 := cellOf HX1.out 4
  simp only [List.getElem?_toArray, List.getElem?_cons_zero, List.getElem?_cons_succ] at z0 z1 z2 z3 z4
  have t0 := cellOf HX0.out 0
  simp only [List.getElem?_toArray, List.getElem?_cons_zero] at t0
  go_cut [] (fun wx => wx = w2 ∧ Aside (formedB n p ⟨kd, pe, ms, ti, al⟩ = true))
  case first =>
    by_cases h1 : kd = 1
    · have c1 : (kd == 1) = true := by simp [h1]
      by_cases h2 : pe = 0
      · have c2 : (pe != 0) = false := by simp [h2]
        by_cases h3 : ms = 0
        · have c3 : (ms != 0) = false := by simp [h3]
          have HFM := Lib.hid (show formedB n p ⟨kd, pe, ms, ti, al⟩ = true from formedB_iff.2 (.inl ⟨h1, h2, h3⟩))
          clear h1 h2 h3
          go_wp2
          go_meet
          exact ⟨rfl, HFM.out⟩
        · have c3 : (ms != 0) = true := by simp [h3]
          obtain rfl : hb = false := by
            rw [Bool.eq_false_iff]; intro hbt; have h9 := (HB.out.1 hbt).1; rw [formedB_iff] at h9; omega
          go_wp2
          go_ret
          exact ⟨3, rfl, ⟨fun h => absurd h (by decide), fun h => absurd h (by decide)⟩, HE2.out⟩
      · have c2 : (pe != 0) = true := by simp [h2]
        obtain rfl : hb = false := by
          rw [Bool.eq_false_iff]; intro hbt; have h9 := (HB.out.1 hbt).1; rw [formedB_iff] at h9; omega
        go_wp2
        go_ret
        exact ⟨3, rfl, ⟨fun h => absurd h (by decide), fun h => absurd h (by decide)⟩, HE2.out⟩
    · by_cases h2 : kd = 2
      · subst h2
        clear h1
        by_cases h3 : pe < 0
        ·
          obtain rfl : hb = false := by
            rw [Bool.eq_false_iff]; intro hbt; have h9 := (HB.out.1 hbt).1; rw [formedB_iff] at h9; omega
          go_wp2
          go_ret
          exact ⟨3, rfl, ⟨fun h => absurd h (by decide), fun h => absurd h (by decide)⟩, HE2.out⟩
        have h3 : 0 ≤ pe := by omega
        by_cases h4 : (n : Int) ≤ pe
        ·
          obtain rfl : hb = false := by
            rw [Bool.eq_false_iff]; intro hbt; have h9 := (HB.out.1 hbt).1; rw [formedB_iff] at h9; omega
          go_wp2
          go_ret
          exact ⟨3, rfl, ⟨fun h => absurd h (by decide), fun h => absurd h (by decide)⟩, HE2.out⟩
        have h4 : pe < (n : Int) := by omega
        by_cases h5 : pe = p
        · have c5 : (pe == (p : Int)) = true := by simp [h5]
          obtain rfl : hb = false := by
            rw [Bool.eq_false_iff]; intro hbt; have h9 := (HB.out.1 hbt).1; rw [formedB_iff] at h9; omega
          go_wp2
          go_ret
          exact ⟨3, rfl, ⟨fun h => absurd h (by decide), fun h => absurd h (by decide)⟩, HE2.out⟩
        have c5 : (pe == (p : Int)) = false := by simp [h5]
        by_cases h6 : ms < 0
        ·
          obtain rfl : hb = false := by
            rw [Bool.eq_false_iff]; intro hbt; have h9 := (HB.out.1 hbt).1; rw [formedB_iff] at h9; omega
          go_wp2
          go_ret
          exact ⟨3, rfl, ⟨fun h => absurd h (by decide), fun h => absurd h (by decide)⟩, HE2.out⟩
        have h6 : 0 ≤ ms := by omega
        by_cases h7 : 199 < ms
        ·
          obtain rfl : hb = false := by
            rw [Bool.eq_false_iff]; intro hbt; have h9 := (HB.out.1 hbt).1; rw [formedB_iff] at h9; omega
          go_wp2
          go_ret
          exact ⟨3, rfl, ⟨fun h => absurd h (by decide), fun h => absurd h (by decide)⟩, HE2.out⟩
        have h7 : ms ≤ 199 := by omega
        have HFM := Lib.hid (show 0 ≤ pe ∧ pe < n ∧ pe ≠ p ∧ 0 ≤ ms ∧ ms ≤ 199 from ⟨h3, h4, h5, h6, h7⟩)
        clear h5
        go_wp2
        go_meet
        exact ⟨rfl, (show formedB n p ⟨_, pe, ms, ti, al⟩ = true from formedB_iff.2 (.inr ⟨by decide, HFM.out⟩))⟩
      · by_cases h2b : kd = 3
        · subst h2b
          clear h1 h2
          by_cases h3 : pe < 0
          ·
            obtain rfl : hb = false := by
              rw [Bool.eq_false_iff]; intro hbt; have h9 := (HB.out.1 hbt).1; rw [formedB_iff] at h9; omega
            go_wp2
            go_ret
            exact ⟨3, rfl, ⟨fun h => absurd h (by decide), fun h => absurd h (by decide)⟩, HE2.out⟩
          have h3 : 0 ≤ pe := by omega
          by_cases h4 : (n : Int) ≤ pe
          ·
            obtain rfl : hb = false := by
              rw [Bool.eq_false_iff]; intro hbt; have h9 := (HB.out.1 hbt).1; rw [formedB_iff] at h9; omega
            go_wp2
            go_ret
            exact ⟨3, rfl, ⟨fun h => absurd h (by decide), fun h => absurd h (by decide)⟩, HE2.out⟩
          have h4 : pe < (n : Int) := by omega
          by_cases h5 : pe = p
          · have c5 : (pe == (p : Int)) = true := by simp [h5]
            obtain rfl : hb = false := by
              rw [Bool.eq_false_iff]; intro hbt; have h9 := (HB.out.1 hbt).1; rw [formedB_iff] at h9; omega
            go_wp2
            go_ret
            exact ⟨3, rfl, ⟨fun h => absurd h (by decide), fun h => absurd h (by decide)⟩, HE2.out⟩
          have c5 : (pe == (p : Int)) = false := by simp [h5]
          by_cases h6 : ms < 0
          ·
            obtain rfl : hb = false := by
              rw [Bool.eq_false_iff]; intro hbt; have h9 := (HB.out.1 hbt).1; rw [formedB_iff] at h9; omega
            go_wp2
            go_ret
            exact ⟨3, rfl, ⟨fun h => absurd h (by decide), fun h => absurd h (by decide)⟩, HE2.out⟩
          have h6 : 0 ≤ ms := by omega
          by_cases h7 : 199 < ms
          ·
            obtain rfl : hb = false := by
              rw [Bool.eq_false_iff]; intro hbt; have h9 := (HB.out.1 hbt).1; rw [formedB_iff] at h9; omega
            go_wp2
            go_ret
            exact ⟨3, rfl, ⟨fun h => absurd h (by decide), fun h => absurd h (by decide)⟩, HE2.out⟩
          have h7 : ms ≤ 199 := by omega
          have HFM := Lib.hid (show 0 ≤ pe ∧ pe < n ∧ pe ≠ p ∧ 0 ≤ ms ∧ ms ≤ 199 from ⟨h3, h4, h5, h6, h7⟩)
          clear h5
          go_wp2
          go_meet
          exact ⟨rfl, (show formedB n p ⟨_, pe, ms, ti, al⟩ = true from formedB_iff.2 (.inr ⟨by decide, HFM.out⟩))⟩
        · have c1 : (kd == 1) = false := by simp [h1]
          have c2 : (kd != 2) = true := by simp [h2]
          have c3 : (kd != 3) = true := by simp [h2b]
          obtain rfl : hb = false := by
            rw [Bool.eq_false_iff]; intro hbt; have h9 := (HB.out.1 hbt).1; rw [formedB_iff] at h9; omega
          go_wp2
          go_ret
          exact ⟨3, rfl, ⟨fun h => absurd h (by decide), fun h => absurd h (by decide)⟩, HE2.out⟩
  case rest =>
    obtain ⟨hw, HFM⟩ := hcut
    have hw := hw.symm
    subst hw
    have he2 := HE2.out.cl HE00.out
    go_upto_region 7 with (fail)
    go_cut [95] (fun s95 wx => ∃ c : Bool, s95 = .bool c ∧ Aside (∃ q, wx = w2.drewN q) ∧ Aside ((c = true → hb = false) ∧ (c = false → 0 ≤ ti ∧ ti ≤ 1099511627776 ∧ (i = 0 ∨ x.events[i - 1]!.time ≤ ti))))
    case first =>
      by_cases h3 : ti < 0
      · have HBF := Lib.hid (show hb = false from by
          rw [Bool.eq_false_iff]; intro hbt; have h9 := HB.out.1 hbt; omega)
        have d1 : decide (ti < 0) = true := decide_eq_true h3
        clear h3
        go_wp2
        go_quiet (fail)
        go_wp2
        go_meet
        exact ⟨true, rfl, (show Aside _ from ⟨_, rfl⟩), (show Aside _ from ⟨fun _ => HBF.out, fun h => absurd h (by decide)⟩)⟩
      have d1 : decide (ti < 0) = false := decide_eq_false h3
      by_cases h4 : 1099511627776 < ti
      · have HBF := Lib.hid (show hb = false from by
          rw [Bool.eq_false_iff]; intro hbt; have h9 := HB.out.1 hbt; omega)
        have d2 : decide (1099511627776 < ti) = true := decide_eq_true h4
        clear h3 h4
        go_wp2
        go_quiet (fail)
        go_wp2
        go_meet
        exact ⟨true, rfl, (show Aside _ from ⟨_, rfl⟩), (show Aside _ from ⟨fun _ => HBF.out, fun h => absurd h (by decide)⟩)⟩
      have d2 : decide (1099511627776 < ti) = false := decide_eq_false h4
      by_cases hi0 : i = 0
      · have HTM := Lib.hid (show 0 ≤ ti ∧ ti ≤ 1099511627776 ∧ (i = 0 ∨ x.events[i - 1]!.time ≤ ti) from ⟨by omega, by omega, .inl hi0⟩)
        have d3 : decide ((0 : Int) < (i : Int)) = false := decide_eq_false (by omega)
        have d3n : decide (0 < i) = false := decide_eq_false (by omega)
        clear h3 h4 hi0
        go_wp2
        go_quiet (fail)
        go_wp2
        go_meet
        exact ⟨false, rfl, (show Aside _ from ⟨_, rfl⟩), (show Aside _ from ⟨fun h => absurd h (by decide), fun _ => HTM.out⟩)⟩
      obtain ⟨EB', EO', EC', wv, hee, hz1, hz2, hz3, hz4, hz5, htm, hz6, hz7⟩ := HPREV.out (by omega)
      simp only [Value.slice.injEq, Option.some.injEq, Addr.mk.injEq, and_true] at hee
      obtain ⟨⟨rfl, rfl⟩, hz8, rfl⟩ := hee
      have htm1 := HE2.out.cl htm
      have i1 : (1 : Int) ≤ (i : Int) := by omega
      have i2 : 0 < i := by omega
      have i2b : 1 ≤ i := by omega
      have i3 : (0 : Int) ≤ (i : Int) - 1 := by omega
      have i5 : (i : Int) - 1 < (ne : Int) := by omega
      have i4 : ((i : Int) - 1).toNat = i - 1 := by omega
      have i6 : IntKind.i64.wrap ((i : Int) - 1) = (i : Int) - 1 := IntWalk.i64_in _ (by omega)
      have d3 : decide ((0 : Int) < (i : Int)) = true := decide_eq_true (by omega)
      have d3n : decide (0 < i) = true := decide_eq_true (by omega)
      clear hz1 hz2 hz3 hz4 hz5 hz6 hz7 hz8 htm
      generalize hpt : x.events[i - 1]!.time = pt at *
      by_cases h5 : ti < pt
      · have HBF := Lib.hid (show hb = false from by
          rw [Bool.eq_false_iff]; intro hbt; have h9 := HB.out.1 hbt; omega)
        have d4 : decide (ti < pt) = true := decide_eq_true h5
        clear h3 h4 h5 hi0 hpt
        go_wp2
        go_quiet (fail)
        go_wp2
        go_meet
        exact ⟨true, rfl, (show Aside _ from ⟨_, rfl⟩), (show Aside _ from ⟨fun _ => HBF.out, fun h => absurd h (by decide)⟩)⟩
      have d4 : decide (ti < pt) = false := decide_eq_false h5
      have HTM := Lib.hid (show 0 ≤ ti ∧ ti ≤ 1099511627776 ∧ (i = 0 ∨ pt ≤ ti) from ⟨by omega, by omega, by omega⟩)
      clear h3 h4 h5 hi0 hpt
      go_wp2
      go_quiet (fail)
      go_wp2
      go_meet
      exact ⟨false, rfl, (show Aside _ from ⟨_, rfl⟩), (show Aside _ from ⟨fun h => absurd h (by decide), fun _ => HTM.out⟩)⟩
    case rest =>
      obtain ⟨cc, rfl, HQ, HTM0⟩ := hcut
      obtain ⟨q, rfl⟩ := HQ.out
      cases cc with
      | true =>
        obtain rfl : hb = false := HTM0.out.1 rfl
        go_wp2
        go_ret
        exact ⟨11, rfl, ⟨fun h => absurd h (by decide), fun h => absurd h (by decide)⟩, HE2.out.drN _⟩
      | false =>
      have HTM := Lib.hid (HTM0.out.2 rfl)
      clear HTM0
      have HX0 := Lib.hid (((Ext.rf w2).drN q).hp HX0.out)
      have HX1 := Lib.hid (((Ext.rf w2).drN q).hp HX1.out)
      have HE3 := Lib.hid (HE2.out.drN q)
      generalize w2.drewN q = w3 at *
      clear he2 HQ z0 z1 z2 z3 z4 t0
      have z0 := cellOf HX1.out 0
      have z1 := cellOf HX1.out 1
      have z2 := cellOf HX1.out 2
      have z3 := cellOf HX1.out 3
      have z4 := cellOf HX1.out 4
      simp only [List.getElem?_toArray, List.getElem?_cons_zero, List.getElem?_cons_succ] at z0 z1 z2 z3 z4
      by_cases h8 : 8 < na
      · have c8 : decide (8 < (na : Int)) = true := by simp; omega
        have c8n : decide (8 < na) = true := by simp; omega
        obtain rfl : hb = false := by
          rw [Bool.eq_false_iff]; intro hbt; have := (HB.out.1 hbt).2.2.2.2.1; omega
        go_wp2
        go_ret
        exact ⟨5, rfl, ⟨fun h => absurd h (by decide), fun h => absurd h (by decide)⟩, HE3.out⟩
      have c8 : decide (8 < (na : Int)) = false := by simp; omega
      have c8n : decide (8 < na) = false := by simp; omega
      go_wp2
      clear z0 z1 z2 z3 z4
      go_loopg [8] na (fun g s8 wr => ∃ k : Nat, k ≤ na ∧ na - k ≤ g ∧ s8 = .int .i64 k ∧ Aside (∀ j, j < k → asgB nv al j = true) ∧ Aside (Ext w3 wr))
      case atStart => exact ⟨0, Nat.zero_le _, by omega, rfl, (fun j hj => absurd hj (Nat.not_lt_zero _)), Ext.rf _⟩
      case round =>
        obtain ⟨k, hk, hg, rfl, A, HEK⟩ := hrel
        have HEW := Lib.hid (HE3.out.trans' HEK.out)
        have HXA := Lib.hid (HEK.out.hp HX0.out)
        have HXB := Lib.hid (HEK.out.hp HX1.out)
        have z4 := cellOf HXB.out 4
        have t0 := cellOf HXA.out 0
        simp only [List.getElem?_toArray, List.getElem?_cons_zero, List.getElem?_cons_succ] at z4 t0
        by_cases hlt : k < na
        · have hltz : (k : Int) < (na : Int) := by omega
          have hkz : (0 : Int) ≤ (k : Int) := by omega
          obtain ⟨AB, AO, AC, hae, _, hAB, hav0, haw0⟩ := asg_at HA.out k (by rw [HNA.out]; exact hlt)
          simp only [Value.slice.injEq] at hae
          obtain ⟨rfl, hzz, rfl⟩ := hae
          have hav1 := HEW.out.cl hav0
          have haw1 := HEW.out.cl haw0
          have hv2 := HEW.out.cl HV0.out
          have HAP := Lib.hid (@asgB_parts nv al k)
          have HALL := Lib.hid (fun hbt : hb = true => (HB.out.1 hbt).2.2.2.2.2 k hlt)
          generalize hy : al[k]! = y at *
          obtain ⟨yv, yw⟩ := y
          simp only at *
          have HY := Lib.hid hy
          have HBV := Lib.hid (heap_alloc_new wr (agB yv yw))
          have HXA2 := Lib.hid (((Ext.rf wr).al (agB yv yw)).hp HXA.out)
          have HXB2 := Lib.hid (((Ext.rf wr).al (agB yv yw)).hp HXB.out)
          have HEV2 := Lib.hid (HEW.out.al (agB yv yw))
          have HEK2 := Lib.hid (HEK.out.al (agB yv yw))
          have HIB := Lib.hid (valueR_calls yw)
          clear hav0 haw0 hzz hy
          have hwl : w.heap.size < wr.heap.size := (Array.getElem?_eq_some_iff.1 HXA.out).1
          have hwn : w.heap.size ≠ wr.heap.size := by omega
          have hBn : B < wr.heap.size := by omega
          have hBnn : B ≠ wr.heap.size := by omega
          have hABn : AB < wr.heap.size := by omega
          have hABnn : AB ≠ wr.heap.size := by omega
          go_wp2
          generalize hw4 : wr.alloc (agB yv yw) = w4 at *
          have hv3 := HEV2.out.cl HV0.out
          have y0 := cellOf HBV.out 0
          have y1 := cellOf HBV.out 1
          have t2 := cellOf HXA2.out 0
          simp only [List.getElem?_toArray, List.getElem?_cons_zero, List.getElem?_cons_succ] at y0 y1 t2
          clear hw4 z4 t0 hav1 haw1 hv2
          go_upto_region 15 with (fail)
          go_cut [132] (fun s132 wx => ∃ c : Bool, s132 = .bool c ∧ Aside (∃ q, wx = w4.drewN q) ∧ Aside ((c = true → hb = false) ∧ (c = false → 0 ≤ yv ∧ yv < nv ∧ valueB yw = true)))
          case first =>
            by_cases h3 : yv < 0
            · have HBF := Lib.hid (show hb = false from by
                rw [Bool.eq_false_iff]; intro hbt; have h9 := HAP.out.1 (HALL.out hbt); omega)
              have d1 : decide (yv < 0) = true := decide_eq_true h3
              clear h3
              go_wp2
              go_quiet (fail)
              go_wp2
              go_meet
              exact ⟨true, rfl, (show Aside _ from ⟨_, rfl⟩), (show Aside _ from ⟨fun _ => HBF.out, fun h => absurd h (by decide)⟩)⟩
            have d1 : decide (yv < 0) = false := decide_eq_false h3
            by_cases h4 : (nv : Int) ≤ yv
            · have HBF := Lib.hid (show hb = false from by
                rw [Bool.eq_false_iff]; intro hbt; have h9 := HAP.out.1 (HALL.out hbt); omega)
              have d2 : decide ((nv : Int) ≤ yv) = true := decide_eq_true h4
              clear h3 h4
              go_wp2
              go_quiet (fail)
              go_wp2
              go_meet
              exact ⟨true, rfl, (show Aside _ from ⟨_, rfl⟩), (show Aside _ from ⟨fun _ => HBF.out, fun h => absurd h (by decide)⟩)⟩
            have d2 : decide ((nv : Int) ≤ yv) = false := decide_eq_false h4
            have HVR := Lib.hid (show 0 ≤ yv ∧ yv < nv from ⟨by omega, by omega⟩)
            obtain ⟨bv, hbv⟩ : ∃ b, valueB yw = b := ⟨_, rfl⟩
            rw [hbv] at HIB
            have HBVL := Lib.hid hbv
            clear hbv h3 h4
            cases bv with
            | false =>
              have HBF := Lib.hid (show hb = false from by
                rw [Bool.eq_false_iff]; intro hbt; have h9 := (HAP.out.1 (HALL.out hbt)).2.2.1; rw [HBVL.out] at h9; exact absurd h9 (by decide))
              go_wp2
              go_quiet ((go_at_call 84; exact Calls.quiet_of_same (HIB.out _)))
              go_wp2
              go_meet
              exact ⟨true, rfl, (show Aside _ from ⟨_, rfl⟩), (show Aside _ from ⟨fun _ => HBF.out, fun h => absurd h (by decide)⟩)⟩
            | true =>
              go_wp2
              go_quiet ((go_at_call 84; exact Calls.quiet_of_same (HIB.out _)))
              go_wp2
              go_meet
              exact ⟨false, rfl, (show Aside _ from ⟨_, rfl⟩), (show Aside _ from ⟨fun h => absurd h (by decide), fun _ => ⟨HVR.out.1, HVR.out.2, HBVL.out⟩⟩)⟩
          case rest =>
            obtain ⟨cc, rfl, HQ, HTM2⟩ := hcut
            obtain ⟨q, rfl⟩ := HQ.out
            have HE4 := Lib.hid (HEV2.out.drN q)
            have HEK4 := Lib.hid (HEK2.out.drN q)
            have HBV4 := Lib.hid (((Ext.rf w4).drN q).hp HBV.out)
            have HXB4 := Lib.hid (((Ext.rf w4).drN q).hp HXB2.out)
            generalize w4.drewN q = w5 at *
            clear HQ y0 y1 t2 hv3
            cases cc with
            | true =>
              obtain rfl : hb = false := HTM2.out.1 rfl
              go_wp2
              go_ret
              exact ⟨2, rfl, ⟨fun h => absurd h (by decide), fun h => absurd h (by decide)⟩, HE4.out⟩
            | false =>
            have HTM3 := Lib.hid (HTM2.out.2 rfl)
            clear HTM2
            go_wp2
            obtain ⟨wo, rfl⟩ : ∃ x, x = wr := ⟨_, rfl⟩
            go_loopg [10] k (fun g2 s10 wr => ∃ j : Nat, j ≤ k ∧ k - j ≤ g2 ∧ s10 = .int .i64 j ∧ Aside (∀ r, r < j → decide (al[r]!.var = yv) = false) ∧ Aside (Ext w5 wr))
            case atStart => exact ⟨0, Nat.zero_le _, by omega, rfl, (fun r hr => absurd hr (Nat.not_lt_zero _)), Ext.rf _⟩
            case round =>
              obtain ⟨j, hj, hg2, rfl, A2, HEM⟩ := hrel
              have HEY := Lib.hid (HE4.out.trans' HEM.out)
              have HBV5 := Lib.hid (HEM.out.hp HBV4.out)
              have HXB5 := Lib.hid (HEM.out.hp HXB4.out)
              by_cases hltj : j < k
              · have hltz2 : (j : Int) < (k : Int) := by omega
                have hjz : (0 : Int) ≤ (j : Int) := by omega
                have hja : (j : Int) < (na : Int) := by omega
                obtain ⟨_, _, _, hae, _, _, hjv0, _⟩ := asg_at HA.out j (by rw [HNA.out]; omega)
                simp only [Value.slice.injEq, Option.some.injEq, Addr.mk.injEq, and_true] at hae
                obtain ⟨⟨rfl, rfl⟩, hzz, rfl⟩ := hae
                have hjv1 := HEY.out.cl hjv0
                have z4 := cellOf HXB5.out 4
                have y0 := cellOf HBV5.out 0
                simp only [List.getElem?_toArray, List.getElem?_cons_zero, List.getElem?_cons_succ] at z4 y0
                have HALJ := Lib.hid (fun hbt : hb = true => (HAP.out.1 (HALL.out hbt)).2.2.2 j hltj)
                generalize hz : al[j]!.var = zv at *
                have HZ := Lib.hid hz
                clear hjv0 hzz hz
                obtain ⟨bq, hbq⟩ : ∃ b, (zv == yv) = b := ⟨_, rfl⟩
                have HBQ : Hid (decide (zv = yv) = bq) := Lib.hid (by rw [← hbq]; rfl)
                cases bq with
                | true =>
                  obtain rfl : hb = false := by
                    rw [Bool.eq_false_iff]; intro hbt; have := HALJ.out hbt; rw [HBQ.out] at this; exact absurd this (by decide)
                  go_wp2
                  go_quiet (fail)
                  go_wp2
                  go_ret
                  exact ⟨8, rfl, ⟨fun h => absurd h (by decide), fun h => absurd h (by decide)⟩, HEY.out.drN _⟩
                | false =>
                  go_wp2
                  go_quiet (fail)
                  go_wp2
                  go_roundg (k - (j + 1))
                  case measure => omega
                  case rel =>
                    refine ⟨j + 1, by omega, by omega, by go_num, (show Aside _ from fun r hr => ?_), (show Ext _ _ from HEM.out.drN _)⟩
                    by_cases e : r = j
                    · subst e; rw [HZ.out]; exact HBQ.out
                    · exact A2.out r (by omega)
              · have hltz2 : ¬ (j : Int) < (k : Int) := by omega
                obtain rfl : j = k := by omega
                have HOK := Lib.hid (HAP.out.2 ⟨HTM3.out.1, HTM3.out.2.1, HTM3.out.2.2, A2.out⟩)
                go_wp2
                go_roundg (na - (j + 1))
                case measure => omega
                case rel =>
                  refine ⟨j + 1, by omega, by omega, by go_num, (show Aside _ from fun r hr => ?_), (show Ext _ _ from HEK4.out.trans' HEM.out)⟩
                  by_cases e : r = j
                  · subst e; exact HOK.out
                  · exact A.out r (by omega)
        · have hltz : ¬ (k : Int) < (na : Int) := by omega
          obtain rfl : k = na := by omega
          obtain rfl : hb = true := HB.out.2 ⟨HFM.out, HTM.out.1, HTM.out.2.1, HTM.out.2.2, by omega, A.out⟩
          go_wp2
          go_ret
          exact ⟨0, rfl, ⟨fun _ => rfl, fun _ => rfl⟩, HEW.out⟩

end Go.Proofs.Ytfcpnggdpaeldaa
