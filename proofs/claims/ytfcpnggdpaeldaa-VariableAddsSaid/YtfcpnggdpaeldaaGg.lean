import Derived.Test.YtfcpnggdpaeldaaGa
import Derived.Test.YtfcpnggdpaeldaaProg
import Derived.Test.YtfcpnggdpaeldaaGc
import Derived.Test.YtfcpnggdpaeldaaGb
import Derived.Test.YtfcpnggdpaeldaaGe
import Derived.BigQuiet
import Derived.Deep.QuietTactic
import Derived.Deep.LoopGhost
import Derived.Shelf.Abstract
import Derived.Deep.DeepCutAuto
import Derived.Deep.DrawnRows
import Derived.Deep.RegionHeld3
/-
  What a process must be, without its events: the reference's head.
-/
namespace Go.Proofs.Ytfcpnggdpaeldaa
open Go.RowKit
set_option linter.unusedVariables false
attribute [local go_sem ↓] Go.wp_at_zero Go.wp_at_succ

theorem valueR_calls (x : Int) (w : World) : Calls Try.prog 84 #[.int .i64 x] w fun e w' => e = .returned (.bool (valueB x)) ∧ w' = w := by
  have hb : valueB x = (decide (-1073741824 ≤ x) && decide (x ≤ 1073741824)) := rfl
  have HB := Lib.hid hb
  generalize valueB x = b at *
  clear hb
  by_cases h1 : -1073741824 ≤ x <;> by_cases h2 : x ≤ 1073741824
  all_goals
    go_enter Try.func84, Try.ntmps84
    go_wp2
    go_ret
    refine ⟨?_, rfl⟩
    rw [HB.out]
    simp [h1, h2]

set_option maxHeartbeats 4000000 in
set_option maxRecDepth 100000 in
theorem headR_calls (v : Value) (t : Tr) (p : Nat) (w : World) (h : TrAt w v t) (hs : LooseTr t) (hp : p < t.length) :
    Calls Try.prog 71 #[.agg #[v], .int .i64 p] w fun e w' => ErrIff w w' e (headB t p) := by
  have HT := Lib.hid h
  obtain ⟨B, O, C, vv, ve, rfl, hlC, hB, hn0, hv0, he0, hV, hE0⟩ := proc_at h p hp
  obtain ⟨va, vc, rfl, hvc⟩ := hV.sh
  obtain ⟨ea, ec, rfl, hec⟩ := hE0.sh
  have hn := hs.1
  have hvn := (hs.2 p hp).1
  have HB := Lib.hid (@headB_parts t p)
  generalize hhb : headB t p = hb at *
  generalize hx : t[p]! = x at *
  generalize hln : t.length = n at *
  generalize hnv : x.vars.length = nv at *
  generalize hne : x.events.length = ne at *
  have HN := Lib.hid hln
  have HNV := Lib.hid hnv
  have HV := Lib.hid hV
  have HNM := Lib.hid (nameR_calls x.name)
  have HP := Lib.hid hp
  have hpz : (0 : Int) ≤ (p : Int) := by omega
  have hpi : (p : Int) < (n : Int) := by omega
  have hE1 : Ext w (w.alloc (.cells #[.slice (some ⟨B, O, none⟩) n C] 24)) := (Ext.rf w).al _
  have HX1 := Lib.hid (heap_new_eq (w := w.alloc (.cells #[.slice (some ⟨B, O, none⟩) n C] 24)) (o := .cells #[.string x.name, .slice va nv vc, .slice ea ne ec] 47) (b := w.heap.size + 1) (by simp))
  have HX0 := Lib.hid (((Ext.rf _).al (.cells #[.string x.name, .slice va nv vc, .slice ea ne ec] 47)).hp (heap_alloc_new w (.cells #[.slice (some ⟨B, O, none⟩) n C] 24)))
  have HE2 : Hid (Ext w ((w.alloc (.cells #[.slice (some ⟨B, O, none⟩) n C] 24)).alloc (.cells #[.string x.name, .slice va nv vc, .slice ea ne ec] 47))) := Lib.hid (((Ext.rf w).al _).al _)
  have hn1 := hE1.cl hn0
  have hv1 := hE1.cl hv0
  have he1 := hE1.cl he0
  have hT0 := cell_new w #[.slice (some ⟨B, O, none⟩) n C] 24 0 _ rfl
  clear hn0 hv0 he0 hV hE0 h hs hhb hE1 hx hln hnv hne
  cases hnm : nameB x.name with
  | false =>
    rw [hnm] at HNM
    obtain rfl : hb = false := by
      rw [Bool.eq_false_iff]; intro hbt; have := (HB.out.1 hbt).1; rw [hnm] at this; exact absurd this (by decide)
    clear hnm
    go_enter Try.func71, Try.ntmps71
    go_wp2_with fail
    refine (HNM.out _).mono ?_
    rintro e w2 ⟨rfl, rfl⟩
    go_wp2
    go_ret
    exact ⟨13, rfl, ⟨fun h => absurd h (by decide), fun h => absurd h (by decide)⟩, (by repeat (first | refine Ext.st ?_ (by first | exact Nat.le_refl _ | exact Nat.le_succ _ | assumption | omega) _ | refine Ext.al ?_ _ | refine Ext.dr ?_ | refine Ext.drN ?_ _ | exact Ext.rf _))⟩
  | true =>
    rw [hnm] at HNM
    have HNB := Lib.hid hnm
    clear hnm
    go_enter Try.func71, Try.ntmps71
    go_wp2_with fail
    generalize hw2 : (w.alloc (.cells #[.slice (some ⟨B, O, none⟩) n C] 24)).alloc (.cells #[.string x.name, .slice va nv vc, .slice ea ne ec] 47) = w2 at *
    clear hw2 hn1 hv1 he1 hT0
    refine (HNM.out _).mono ?_
    rintro e w2' ⟨rfl, rfl⟩
    go_wp2
    go_loopg [6] p (fun g s6 wr => ∃ q : Nat, q ≤ p ∧ p - q ≤ g ∧ s6 = .int .i64 q ∧ Aside (∀ j, j < q → (t[j]!.name.toList == x.name.toList) = false) ∧ Aside (Ext w2' wr))
    case atStart => exact ⟨0, Nat.zero_le _, by omega, rfl, (fun j hj => absurd hj (Nat.not_lt_zero _)), Ext.rf _⟩
    case round =>
      obtain ⟨q, hq, hg, rfl, A, HEK⟩ := hrel
      have HEW := Lib.hid (HE2.out.trans' HEK.out)
      have HXA := Lib.hid (HEK.out.hp HX0.out)
      have HXB := Lib.hid (HEK.out.hp HX1.out)
      by_cases hlt : q < p
      · have hltz : (q : Int) < (p : Int) := by omega
        have hqz : (0 : Int) ≤ (q : Int) := by omega
        have hqi : (q : Int) < (n : Int) := by omega
        obtain ⟨_, _, _, _, _, hve, _, _, hqn0, _, _, _, _⟩ := proc_at HT.out q (by rw [HN.out]; omega)
        simp only [Value.slice.injEq, Option.some.injEq, Addr.mk.injEq, and_true] at hve
        obtain ⟨⟨rfl, rfl⟩, hzz, rfl⟩ := hve
        have hqn1 := HEW.out.cl hqn0
        have a0 := cellOf HXA.out 0
        have b0 := cellOf HXB.out 0
        simp only [List.getElem?_toArray, List.getElem?_cons_zero] at a0 b0
        have HALL := Lib.hid (fun hbt : hb = true => (HB.out.1 hbt).2.1 q hlt)
        generalize hy : t[q]! = y at *
        have HY := Lib.hid hy
        clear hqn0 hzz hy
        obtain ⟨bq, hbq⟩ : ∃ b, (y.name.toList == x.name.toList) = b := ⟨_, rfl⟩
        cases bq with
        | true =>
          obtain rfl : hb = false := by
            rw [Bool.eq_false_iff]; intro hbt; have := HALL.out hbt; rw [hbq] at this; exact absurd this (by decide)
          go_wp2
          go_quiet (fail)
          go_wp2
          go_ret
          exact ⟨13, rfl, ⟨fun h => absurd h (by decide), fun h => absurd h (by decide)⟩, HEW.out.drN _⟩
        | false =>
          have HBQ := Lib.hid hbq
          go_wp2
          go_quiet (fail)
          go_wp2
          go_roundg (p - (q + 1))
          case measure => omega
          case rel =>
            refine ⟨q + 1, by omega, by omega, by go_num, (show Aside _ from fun j hj => ?_), (show Ext _ _ from HEK.out.drN _)⟩
            by_cases e : j = q
            · subst e; rw [HY.out]; exact HBQ.out
            · exact A.out j (by omega)
      · have hltz : ¬ (q : Int) < (p : Int) := by omega
        obtain rfl : q = p := by omega
        have HNO := Lib.hid A.out
        have b0 := cellOf HXB.out 0
        have b1 := cellOf HXB.out 1
        have b2 := cellOf HXB.out 2
        simp only [List.getElem?_toArray, List.getElem?_cons_zero, List.getElem?_cons_succ] at b0 b1 b2
        clear A
        by_cases h8 : 8 < nv
        · have c8 : decide (8 < (nv : Int)) = true := by simp; omega
          have c8n : decide (8 < nv) = true := by simp; omega
          obtain rfl : hb = false := by
            rw [Bool.eq_false_iff]; intro hbt; have := (HB.out.1 hbt).2.2.1; omega
          go_wp2
          go_ret
          exact ⟨5, rfl, ⟨fun h => absurd h (by decide), fun h => absurd h (by decide)⟩, HEW.out⟩
        have c8 : decide (8 < (nv : Int)) = false := by simp; omega
        have c8n : decide (8 < nv) = false := by simp; omega
        go_wp2
        clear b0 b1 b2
        obtain ⟨wo, rfl⟩ : ∃ x, x = wr := ⟨_, rfl⟩
        go_loopg [7] nv (fun g s7 wr => ∃ k : Nat, k ≤ nv ∧ nv - k ≤ g ∧ s7 = .int .i64 k ∧ Aside (∀ j, j < k → varB x.vars j = true) ∧ Aside (Ext wo wr))
        case atStart => exact ⟨0, Nat.zero_le _, by omega, rfl, (fun j hj => absurd hj (Nat.not_lt_zero _)), Ext.rf _⟩
        case round =>
          obtain ⟨k, hk, hg2, rfl, A, HEL⟩ := hrel
          have HEX := Lib.hid (HEW.out.trans' HEL.out)
          have HXC := Lib.hid (HEL.out.hp HXB.out)
          have b0 := cellOf HXC.out 0
          have b1 := cellOf HXC.out 1
          have b2 := cellOf HXC.out 2
          simp only [List.getElem?_toArray, List.getElem?_cons_zero, List.getElem?_cons_succ] at b0 b1 b2
          by_cases hltk : k < nv
          · have hltz : (k : Int) < (nv : Int) := by omega
            have hkz : (0 : Int) ≤ (k : Int) := by omega
            obtain ⟨VB, VO, VC, hve, _, hVB, hvn0, hvi0⟩ := var_at HV.out k (by rw [HNV.out]; exact hltk)
            simp only [Value.slice.injEq] at hve
            obtain ⟨rfl, hzz, rfl⟩ := hve
            have hvn1 := HEX.out.cl hvn0
            have HVP := Lib.hid (@varB_parts x.vars k)
            have HALL := Lib.hid (fun hbt : hb = true => (HB.out.1 hbt).2.2.2.1 k hltk)
            have HVI0 := Lib.hid hvi0
            generalize hy : x.vars[k]! = y at *
            have HY := Lib.hid hy
            have HNY := Lib.hid (nameR_calls y.name)
            have HVN0 := Lib.hid hvn0
            clear hvn0 hvi0 hzz hy
            obtain ⟨bn, hbn⟩ : ∃ b, nameB y.name = b := ⟨_, rfl⟩
            rw [hbn] at HNY
            have HBN := Lib.hid hbn
            clear hbn
            cases bn with
            | false =>
              obtain rfl : hb = false := by
                rw [Bool.eq_false_iff]; intro hbt; have := (HVP.out.1 (HALL.out hbt)).1.1; rw [HBN.out] at this; exact absurd this (by decide)
              go_wp2_with fail
              refine (HNY.out _).mono ?_
              rintro e w4 ⟨rfl, rfl⟩
              go_wp2
              go_ret
              exact ⟨13, rfl, ⟨fun h => absurd h (by decide), fun h => absurd h (by decide)⟩, HEX.out⟩
            | true =>
            go_wp2_with fail
            refine (HNY.out _).mono ?_
            rintro e w4 ⟨rfl, rfl⟩
            go_wp2
            clear b0 b1 b2 hvn1
            obtain ⟨wp, rfl⟩ : ∃ x, x = w4 := ⟨_, rfl⟩
            go_loopg [8] k (fun g s8 wr => ∃ j : Nat, j ≤ k ∧ k - j ≤ g ∧ s8 = .int .i64 j ∧ Aside (∀ i, i < j → (x.vars[i]!.name.toList == y.name.toList) = false) ∧ Aside (Ext wp wr))
            case atStart => exact ⟨0, Nat.zero_le _, by omega, rfl, (fun j hj => absurd hj (Nat.not_lt_zero _)), Ext.rf _⟩
            case round =>
              obtain ⟨j, hj, hg3, rfl, A2, HEM⟩ := hrel
              have HEY := Lib.hid (HEX.out.trans' HEM.out)
              have HXD := Lib.hid (HEM.out.hp HXC.out)
              have HVN1 := HEY.out.cl HVN0.out
              have HVI1 := HEY.out.cl HVI0.out
              have b0 := cellOf HXD.out 0
              have b1 := cellOf HXD.out 1
              have b2 := cellOf HXD.out 2
              simp only [List.getElem?_toArray, List.getElem?_cons_zero, List.getElem?_cons_succ] at b0 b1 b2
              by_cases hltj : j < k
              · have hltz2 : (j : Int) < (k : Int) := by omega
                have hjz : (0 : Int) ≤ (j : Int) := by omega
                have hji : (j : Int) < (nv : Int) := by omega
                obtain ⟨_, _, _, hve, _, _, hjn0, _⟩ := var_at HV.out j (by rw [HNV.out]; omega)
                simp only [Value.slice.injEq, Option.some.injEq, Addr.mk.injEq, and_true] at hve
                obtain ⟨⟨rfl, rfl⟩, hzz, rfl⟩ := hve
                have hjn1 := HEY.out.cl hjn0
                have HALJ := Lib.hid (fun hbt : hb = true => (HVP.out.1 (HALL.out hbt)).1.2 j hltj)
                generalize hz : x.vars[j]! = z at *
                have HZ := Lib.hid hz
                clear hjn0 hzz hz HVI1
                obtain ⟨bq, hbq⟩ : ∃ b, (z.name.toList == y.name.toList) = b := ⟨_, rfl⟩
                cases bq with
                | true =>
                  obtain rfl : hb = false := by
                    rw [Bool.eq_false_iff]; intro hbt; have := HALJ.out hbt; rw [hbq] at this; exact absurd this (by decide)
                  go_wp2
                  go_quiet (fail)
                  go_wp2
                  go_ret
                  exact ⟨13, rfl, ⟨fun h => absurd h (by decide), fun h => absurd h (by decide)⟩, HEY.out.drN _⟩
                | false =>
                  have HBQ := Lib.hid hbq
                  go_wp2
                  go_quiet (fail)
                  go_wp2
                  go_roundg (k - (j + 1))
                  case measure => omega
                  case rel =>
                    refine ⟨j + 1, by omega, by omega, by go_num, (show Aside _ from fun i hi => ?_), (show Ext _ _ from HEM.out.drN _)⟩
                    by_cases e : i = j
                    · subst e; rw [HZ.out]; exact HBQ.out
                    · exact A2.out i (by omega)
              · have hltz2 : ¬ (j : Int) < (k : Int) := by omega
                obtain rfl : j = k := by omega
                have HIB := Lib.hid (valueR_calls y.init)
                obtain ⟨bv, hbv⟩ : ∃ b, valueB y.init = b := ⟨_, rfl⟩
                rw [hbv] at HIB
                have HBV := Lib.hid hbv
                clear hbv
                cases bv with
                | false =>
                  obtain rfl : hb = false := by
                    rw [Bool.eq_false_iff]; intro hbt; have := (HVP.out.1 (HALL.out hbt)).2; rw [HBV.out] at this; exact absurd this (by decide)
                  go_wp2_with fail
                  refine (HIB.out _).mono ?_
                  rintro e w5 ⟨rfl, rfl⟩
                  go_wp2
                  go_ret
                  exact ⟨2, rfl, ⟨fun h => absurd h (by decide), fun h => absurd h (by decide)⟩, HEY.out⟩
                | true =>
                  have HVB := Lib.hid (HVP.out.2 ⟨⟨HBN.out, A2.out⟩, HBV.out⟩)
                  go_wp2_with fail
                  refine (HIB.out _).mono ?_
                  rintro e w5 ⟨rfl, rfl⟩
                  go_wp2
                  go_roundg (nv - (j + 1))
                  case measure => omega
                  case rel =>
                    refine ⟨j + 1, by omega, by omega, by go_num, (show Aside _ from fun i hi => ?_), (show Ext _ _ from HEL.out.trans' HEM.out)⟩
                    by_cases e : i = j
                    · subst e; exact HVB.out
                    · exact A.out i (by omega)
          · have hltz : ¬ (k : Int) < (nv : Int) := by omega
            obtain rfl : k = nv := by omega
            by_cases h64 : 64 < ne
            · have c64 : decide (64 < (ne : Int)) = true := by simp; omega
              have c64n : decide (64 < ne) = true := by simp; omega
              obtain rfl : hb = false := by
                rw [Bool.eq_false_iff]; intro hbt; have := (HB.out.1 hbt).2.2.2.2; omega
              go_wp2
              go_ret
              exact ⟨5, rfl, ⟨fun h => absurd h (by decide), fun h => absurd h (by decide)⟩, HEX.out⟩
            · have c64 : decide (64 < (ne : Int)) = false := by simp; omega
              have c64n : decide (64 < ne) = false := by simp; omega
              obtain rfl : hb = true := HB.out.2 ⟨HNB.out, HNO.out, by omega, A.out, by omega⟩
              go_wp2
              go_ret
              exact ⟨0, rfl, ⟨fun _ => rfl, fun _ => rfl⟩, HEX.out⟩

end Go.Proofs.Ytfcpnggdpaeldaa

/-
  The messages of a trace in pairs: the reference's paired.
-/
namespace Go.Proofs.Ytfcpnggdpaeldaa
open Go.RowKit
set_option linter.unusedVariables false
attribute [local go_sem ↓] Go.wp_at_zero Go.wp_at_succ

theorem pairOf_parts {t : Tr} {x : Eid} : pairOf t x = true ↔ (ev t x).kind = 1 ∨ (findE t (ev t x).kind (ev t x).msg = some x ∧ ((ev t x).kind ≠ 3 ∨ sendsB t (ev t x).peer.toNat (ev t x).msg x.1 = true)) := by
  simp only [pairOf, Bool.or_eq_true, Bool.and_eq_true, decide_eq_true_eq]
/-- Two names are the same just where their numbers are. -/
theorem eid_same {o : Option Eid} {p i : Nat} : (eidA o = (p : Int) ∧ eidB o = (i : Int) + 1) ↔ o = some (p, i) := by
  cases o with
  | none => simp [eidA, eidB]; omega
  | some x =>
    obtain ⟨a, b⟩ := x
    simp only [eidA, eidB, Option.some.injEq, Prod.mk.injEq]
    omega

set_option maxHeartbeats 8000000 in
set_option maxRecDepth 100000 in
theorem pairedR_calls (v : Value) (t : Tr) (p i : Nat) (w : World) (h : TrAt w v t) (hs : SmallTr t) (hx : Inn t (p, i)) (hf : formedB t.length p (ev t (p, i)) = true) :
    Calls Try.prog 73 #[.agg #[v], .agg #[.int .i64 p, .int .i64 ((i : Int) + 1)]] w fun e w' => ErrIff w w' e (pairOf t (p, i)) := by
  obtain ⟨ix, hix⟩ : ∃ x : Int, (i : Int) + 1 = x := ⟨_, rfl⟩
  rw [hix]
  have HAT : Hid (∀ W, Ext w W → Calls Try.prog 85 #[.agg #[v], .agg #[.int .i64 p, .int .i64 ix]] W fun e w' => EvOut W w' e (ev t (p, i))) := Lib.hid (fun W hW => hix ▸ atR_calls v t p i W (h.ext hW) hs hx)
  have HFI := Lib.hid (fun W (hW : Ext w W) k m => findR_calls v t k m W (h.ext hW) hs)
  have HT := Lib.hid h
  have HS := Lib.hid hs
  obtain ⟨ta, tc, rfl, htc⟩ := h.sh
  have HB := Lib.hid (@pairOf_parts t (p, i))
  generalize hhb : pairOf t (p, i) = hb at *
  have hsame := @eid_same (findE t (ev t (p, i)).kind (ev t (p, i)).msg) p i
  generalize hy : ev t (p, i) = y at *
  obtain ⟨kd, pe, ms, ti, al⟩ := y
  simp only at *
  have HFM := Lib.hid hf
  have hn1 := hs.1
  have HSAME := Lib.hid hsame
  generalize hfe : findE t kd ms = fe at *
  have HFE := Lib.hid hfe
  generalize hln : t.length = n at *
  have HL := Lib.hid hln
  have HY := Lib.hid hy
  have HIX := Lib.hid hix
  have HX0 := Lib.hid (((Ext.rf _).al (.cells #[.int .i64 p, .int .i64 ix] 87)).hp (heap_alloc_new w (.cells #[.slice ta n tc] 24)))
  have HX1 := Lib.hid (heap_new_eq (w := w.alloc (.cells #[.slice ta n tc] 24)) (o := .cells #[.int .i64 p, .int .i64 ix] 87) (b := w.heap.size + 1) (by simp))
  have HE2 : Hid (Ext w ((w.alloc (.cells #[.slice ta n tc] 24)).alloc (.cells #[.int .i64 p, .int .i64 ix] 87))) := Lib.hid (((Ext.rf w).al _).al _)
  clear h hs hx hf hsame hfe hhb hy hln hix
  go_enter Try.func73, Try.ntmps73
  go_wp2_with fail
  generalize hw2 : (w.alloc (.cells #[.slice ta n tc] 24)).alloc (.cells #[.int .i64 p, .int .i64 ix] 87) = w2 at *
  clear hw2
  refine (HAT.out _ HE2.out).mono ?_
  rintro e w3 ⟨ua, uc, rfl, hE3⟩
  simp only
  generalize al.length = na
  have HE3 := Lib.hid (HE2.out.trans' hE3)
  have HXA3 := Lib.hid (hE3.hp HX0.out)
  have HXB3 := Lib.hid (hE3.hp HX1.out)
  have HB4 := Lib.hid (heap_alloc_new w3 (e5 (.int .i64 kd) (.int .i64 pe) (.int .i64 ms) (.int .i64 ti) (.slice ua na uc)))
  have HXA4 := Lib.hid (((Ext.rf w3).al (e5 (.int .i64 kd) (.int .i64 pe) (.int .i64 ms) (.int .i64 ti) (.slice ua na uc))).hp HXA3.out)
  have HXB4 := Lib.hid (((Ext.rf w3).al (e5 (.int .i64 kd) (.int .i64 pe) (.int .i64 ms) (.int .i64 ti) (.slice ua na uc))).hp HXB3.out)
  have HE4 := Lib.hid (HE3.out.al (e5 (.int .i64 kd) (.int .i64 pe) (.int .i64 ms) (.int .i64 ti) (.slice ua na uc)))
  clear hE3
  by_cases h1 : kd = 1
  · have c1 : (kd == 1) = true := by simp [h1]
    obtain rfl : hb = true := HB.out.2 (.inl h1)
    clear h1
    go_wp2
    go_ret
    exact ⟨0, rfl, ⟨fun _ => rfl, fun _ => rfl⟩, HE4.out⟩
  have c1 : (kd == 1) = false := by simp [h1]
  have HK1 := Lib.hid h1
  clear h1
  go_wp2
  generalize hw4 : w3.alloc (.cells #[.int .i64 kd, .int .i64 pe, .int .i64 ms, .int .i64 ti, .slice ua na uc] 55) = w4 at *
  have hb3 : w3.heap.size < w4.heap.size := by rw [← hw4]; simp
  clear hw4
  have t0 := cellOf HXA4.out 0
  have j0 := cellOf HXB4.out 0
  have j1 := cellOf HXB4.out 1
  have y0 := cellOf HB4.out 0
  have y2 := cellOf HB4.out 2
  simp only [List.getElem?_toArray, List.getElem?_cons_zero, List.getElem?_cons_succ] at t0 j0 j1 y0 y2
  have HXA := Lib.hid (Ext.rf w4)
  have HFW : Hid (∀ W, Ext w W → Calls Try.prog 82 #[.agg #[.slice ta n tc], .int .i64 kd, .int .i64 ms] W fun e w' => e = .returned (.agg #[.int .i64 (eidA fe), .int .i64 (eidB fe)]) ∧ Ext W w') := Lib.hid (fun W hW => by have := HFI.out W hW kd ms; rw [HFE.out] at this; exact this)
  obtain ⟨za, hza⟩ : ∃ z, eidA fe = z := ⟨_, rfl⟩
  obtain ⟨zb, hzb⟩ : ∃ z, eidB fe = z := ⟨_, rfl⟩
  rw [hza, hzb] at HFW HSAME
  clear hza hzb HFI
  by_cases ha : za = (p : Int)
  · subst ha
    by_cases hb2 : zb = ix
    · have hb2 := hb2.symm
      subst hb2
      have HSM : Hid (fe = some (p, i)) := Lib.hid (HSAME.out.1 ⟨rfl, HIX.out.symm⟩)
      clear HSAME
      go_region_held3 (fun w' => w'.cell? ⟨w.heap.size, 0, none⟩ = some (.slice ta n tc) ∧ w'.cell? ⟨w.heap.size + 1, 0, none⟩ = some (.int .i64 p) ∧ w'.cell? ⟨w.heap.size + 1, 1, none⟩ = some (.int .i64 ix) ∧ w'.cell? ⟨w3.heap.size, 0, none⟩ = some (.int .i64 kd) ∧ w'.cell? ⟨w3.heap.size, 2, none⟩ = some (.int .i64 ms)) (go_keep)
        (first
          | (go_at_call 82
             refine (HFW.out _ (HE4.out.trans' (by repeat (first | refine Ext.st ?_ (by first | exact Nat.le_refl _ | exact Nat.le_succ _ | assumption | omega) _ | refine Ext.al ?_ _ | refine Ext.dr ?_ | refine Ext.drN ?_ _ | exact HXA.out)))).mono ?_
             rintro e wA ⟨rfl, hE⟩
             have hxA : Ext w4 wA := Ext.trans' (by repeat (first | refine Ext.st ?_ (by first | exact Nat.le_refl _ | exact Nat.le_succ _ | assumption | omega) _ | refine Ext.al ?_ _ | refine Ext.dr ?_ | refine Ext.drN ?_ _ | exact HXA.out)) hE
             have HXA := Lib.hid hxA
             have kt0 := hxA.cl t0
             have kj0 := hxA.cl j0
             have kj1 := hxA.cl j1
             have ky0 := hxA.cl y0
             have ky2 := hxA.cl y2
             clear hxA hE))
      have HZA := Lib.hid (HXA.out.hp HXA4.out)
      have HZB := Lib.hid (HXA.out.hp HXB4.out)
      have HZE := Lib.hid (HXA.out.hp HB4.out)
      have HEA := Lib.hid (HE4.out.trans' HXA.out)
      clear hb2 t0 j0 j1 y0 y2 kj0 kj1 ky2
      by_cases h3 : kd = 3
      · have HQ := Lib.hid (show 0 ≤ pe ∧ pe < n ∧ 0 ≤ ms ∧ ms ≤ 199 from by have := HFM.out; subst h3; simp [formedB] at this; omega)
        subst h3
        obtain ⟨q, rfl⟩ : ∃ q : Nat, pe = q := ⟨pe.toNat, by have := HQ.out; omega⟩
        have hqn : q < n := by have := HQ.out; omega
        obtain ⟨_, _, TC, vv, ve, hve, hlC, hBB, hn0, hv0, he0, hV, hE0⟩ := proc_at HT.out q (by rw [HL.out]; exact hqn)
        simp only [Value.slice.injEq] at hve
        obtain ⟨rfl, hzz, rfl⟩ := hve
        obtain ⟨ea, ec, rfl, hec⟩ := hE0.sh
        have hen := (HS.out.2 q (by rw [HL.out]; exact hqn)).2.1
        have HEV := Lib.hid hE0
        have HE00 := Lib.hid he0
        have HSB : Hid (hb = true ↔ t[q]!.events.any (fun s => decide (s.kind = 2) && (decide (s.msg = ms) && decide (s.peer = (p : Int)))) = true) := Lib.hid (by
          rw [HB.out]
          constructor
          · rintro (h9 | ⟨_, h9 | h9⟩)
            · exact absurd h9 (by decide)
            · exact absurd rfl h9
            · exact h9
          · intro h9; exact .inr ⟨HSM.out, .inr h9⟩)
        have hqz : (0 : Int) ≤ (q : Int) := by omega
        have hqi : (q : Int) < (n : Int) := by omega
        generalize hxx : t[q]! = x at *
        generalize hne : x.events.length = ne at *
        have HNE := Lib.hid hne
        have he1 := HEA.out.cl he0
        clear hn0 hv0 hV hE0 hzz hxx hne he0
        go_wp2
        clear kt0 ky0 he1
        go_loopg [6, 7] ne (fun g s6 s7 wr => ∃ j : Nat, j ≤ ne ∧ ne - j ≤ g ∧ s7 = .int .i64 j ∧ ∃ b : Bool, s6 = .bool b ∧ Aside (b = (x.events.take j).any (fun s => decide (s.kind = 2) && (decide (s.msg = ms) && decide (s.peer = (p : Int))))) ∧ Aside (Ext wA wr))
        case atStart => exact ⟨0, Nat.zero_le _, by omega, rfl, false, rfl, (show _ = _ from by simp), Ext.rf _⟩
        case round =>
          obtain ⟨j, hj, hg, rfl, b, rfl, A, HEK⟩ := hrel
          have HEW := Lib.hid (HEA.out.trans' HEK.out)
          have HYA := Lib.hid (HEK.out.hp HZA.out)
          have HYB := Lib.hid (HEK.out.hp HZB.out)
          have HYE := Lib.hid (HEK.out.hp HZE.out)
          have t0 := cellOf HYA.out 0
          have y1 := cellOf HYE.out 1
          simp only [List.getElem?_toArray, List.getElem?_cons_zero, List.getElem?_cons_succ] at t0 y1
          have he1 := HEW.out.cl HE00.out
          by_cases hlt : j < ne
          · have hltz : (j : Int) < (ne : Int) := by omega
            have hjz : (0 : Int) ≤ (j : Int) := by omega
            obtain ⟨EB, EO, EC, va, hee, hlE, hEB, k0, k1, k2, k3, k4, ha⟩ := event_at HEV.out j (by rw [HNE.out]; exact hlt)
            simp only [Value.slice.injEq] at hee
            obtain ⟨rfl, hzz, rfl⟩ := hee
            obtain ⟨va1, va2, rfl, _⟩ := ha.sh
            have m0 := HEW.out.cl k0
            have m1 := HEW.out.cl k1
            have m2 := HEW.out.cl k2
            have m3 := HEW.out.cl k3
            have m4 := HEW.out.cl k4
            have HTK := Lib.hid (take_snoc' x.events j (by rw [HNE.out]; exact hlt))
            generalize hyv : x.events[j]! = y at *
            generalize y.asg.length = nb at *
            have HBE := Lib.hid (heap_alloc_new wr (e5 (.int .i64 y.kind) (.int .i64 y.peer) (.int .i64 y.msg) (.int .i64 y.time) (.slice va1 nb va2)))
            have HYB2 := Lib.hid (((Ext.rf wr).al (e5 (.int .i64 y.kind) (.int .i64 y.peer) (.int .i64 y.msg) (.int .i64 y.time) (.slice va1 nb va2))).hp HYB.out)
            have HYE2 := Lib.hid (((Ext.rf wr).al (e5 (.int .i64 y.kind) (.int .i64 y.peer) (.int .i64 y.msg) (.int .i64 y.time) (.slice va1 nb va2))).hp HYE.out)
            have HEK2 := Lib.hid (HEK.out.al (e5 (.int .i64 y.kind) (.int .i64 y.peer) (.int .i64 y.msg) (.int .i64 y.time) (.slice va1 nb va2)))
            clear k0 k1 k2 k3 k4 hzz ha hyv
            go_upto_region 12 with (fail)
            generalize hw6 : wr.alloc (e5 (.int .i64 y.kind) (.int .i64 y.peer) (.int .i64 y.msg) (.int .i64 y.time) (.slice va1 nb va2)) = w6 at *
            clear hw6 t0 y1 he1 m0 m1 m2 m3 m4
            have z0 := cellOf HBE.out 0
            have z1 := cellOf HBE.out 1
            have z2 := cellOf HBE.out 2
            have j0 := cellOf HYB2.out 0
            have y2 := cellOf HYE2.out 2
            simp only [List.getElem?_toArray, List.getElem?_cons_zero, List.getElem?_cons_succ] at z0 z1 z2 j0 y2
            obtain ⟨c1, hd1⟩ : ∃ b, (y.kind == 2) = b := ⟨_, rfl⟩
            obtain ⟨c2, hd2⟩ : ∃ b, (y.msg == ms) = b := ⟨_, rfl⟩
            obtain ⟨c3, hd3⟩ : ∃ b, (y.peer == (p : Int)) = b := ⟨_, rfl⟩
            have HNX : Hid ((x.events.take (j + 1)).any (fun s => decide (s.kind = 2) && (decide (s.msg = ms) && decide (s.peer = (p : Int)))) = (b || (c1 && (c2 && c3)))) := Lib.hid (by
              rw [HTK.out, List.any_append, ← A.out, ← hd1, ← hd2, ← hd3]; simp; rfl)
            cases b with
            | true =>
              go_wp2
              go_roundg (ne - (j + 1))
              case measure => omega
              case rel => exact ⟨j + 1, by omega, by omega, by go_num, _, rfl, (show _ = _ from by rw [HNX.out]; rfl), (show Ext _ _ from HEK2.out)⟩
            | false =>
              cases c1 <;> cases c2 <;> cases c3
              all_goals
                go_wp2
                go_roundg (ne - (j + 1))
                case measure => omega
                case rel => exact ⟨j + 1, by omega, by omega, by go_num, _, rfl, (show _ = _ from by rw [HNX.out]; rfl), (show Ext _ _ from HEK2.out)⟩
          · have hltz : ¬ (j : Int) < (ne : Int) := by omega
            obtain rfl : j = ne := by omega
            have HBB : Hid (hb = b) := Lib.hid (by
              have h9 := A.out
              rw [← HNE.out, List.take_length] at h9
              have h8 := HSB.out
              rw [← h9] at h8
              cases hb <;> cases b <;> simp at h8 ⊢)
            cases b with
            | false =>
              obtain rfl : hb = false := HBB.out
              go_wp2
              go_ret
              exact ⟨7, rfl, ⟨fun h => absurd h (by decide), fun h => absurd h (by decide)⟩, HEW.out⟩
            | true =>
              obtain rfl : hb = true := HBB.out
              go_wp2
              go_ret
              exact ⟨0, rfl, ⟨fun _ => rfl, fun _ => rfl⟩, HEW.out⟩
      · have c3 : (kd == 3) = false := by simp [h3]
        obtain rfl : hb = true := HB.out.2 (.inr ⟨HSM.out, .inl h3⟩)
        clear h3
        go_wp2
        go_ret
        exact ⟨0, rfl, ⟨fun _ => rfl, fun _ => rfl⟩, HEA.out⟩
    · have c2 : (zb == ix) = false := by simp [hb2]
      have c3 : (zb != ix) = true := by simp [hb2]
      have HNS := Lib.hid (show ¬ fe = some (p, i) from fun e => hb2 ((HSAME.out.2 e).2.trans HIX.out))
      go_region_held3 (fun w' => w'.cell? ⟨w.heap.size, 0, none⟩ = some (.slice ta n tc) ∧ w'.cell? ⟨w.heap.size + 1, 0, none⟩ = some (.int .i64 p) ∧ w'.cell? ⟨w.heap.size + 1, 1, none⟩ = some (.int .i64 ix) ∧ w'.cell? ⟨w3.heap.size, 0, none⟩ = some (.int .i64 kd) ∧ w'.cell? ⟨w3.heap.size, 2, none⟩ = some (.int .i64 ms)) (go_keep)
        (first
          | (go_at_call 82
             refine (HFW.out _ (HE4.out.trans' (by repeat (first | refine Ext.st ?_ (by first | exact Nat.le_refl _ | exact Nat.le_succ _ | assumption | omega) _ | refine Ext.al ?_ _ | refine Ext.dr ?_ | refine Ext.drN ?_ _ | exact HXA.out)))).mono ?_
             rintro e wA ⟨rfl, hE⟩
             have hxA : Ext w4 wA := Ext.trans' (by repeat (first | refine Ext.st ?_ (by first | exact Nat.le_refl _ | exact Nat.le_succ _ | assumption | omega) _ | refine Ext.al ?_ _ | refine Ext.dr ?_ | refine Ext.drN ?_ _ | exact HXA.out)) hE
             have HXA := Lib.hid hxA
             have kt0 := hxA.cl t0
             have kj0 := hxA.cl j0
             have kj1 := hxA.cl j1
             have ky0 := hxA.cl y0
             have ky2 := hxA.cl y2
             clear hxA hE))
      all_goals
        obtain rfl : hb = false := by
          rw [Bool.eq_false_iff]; intro hbt; rcases HB.out.1 hbt with h9 | h9; exact HK1.out h9; exact HNS.out h9.1
        go_wp2
        go_ret
        exact ⟨8, rfl, ⟨fun h => absurd h (by decide), fun h => absurd h (by decide)⟩, HE4.out.trans' (by repeat (first | refine Ext.st ?_ (by first | exact Nat.le_refl _ | exact Nat.le_succ _ | assumption | omega) _ | refine Ext.al ?_ _ | refine Ext.dr ?_ | refine Ext.drN ?_ _ | exact HXA.out))⟩
  · have c2 : (za == (p : Int)) = false := by simp [ha]
    have c3 : (za != (p : Int)) = true := by simp [ha]
    have HNS := Lib.hid (show ¬ fe = some (p, i) from fun e => ha (HSAME.out.2 e).1)
    go_region_held3 (fun w' => w'.cell? ⟨w.heap.size, 0, none⟩ = some (.slice ta n tc) ∧ w'.cell? ⟨w.heap.size + 1, 0, none⟩ = some (.int .i64 p) ∧ w'.cell? ⟨w.heap.size + 1, 1, none⟩ = some (.int .i64 ix) ∧ w'.cell? ⟨w3.heap.size, 0, none⟩ = some (.int .i64 kd) ∧ w'.cell? ⟨w3.heap.size, 2, none⟩ = some (.int .i64 ms)) (go_keep)
      (first
        | (go_at_call 82
           refine (HFW.out _ (HE4.out.trans' (by repeat (first | refine Ext.st ?_ (by first | exact Nat.le_refl _ | exact Nat.le_succ _ | assumption | omega) _ | refine Ext.al ?_ _ | refine Ext.dr ?_ | refine Ext.drN ?_ _ | exact HXA.out)))).mono ?_
           rintro e wA ⟨rfl, hE⟩
           have hxA : Ext w4 wA := Ext.trans' (by repeat (first | refine Ext.st ?_ (by first | exact Nat.le_refl _ | exact Nat.le_succ _ | assumption | omega) _ | refine Ext.al ?_ _ | refine Ext.dr ?_ | refine Ext.drN ?_ _ | exact HXA.out)) hE
           have HXA := Lib.hid hxA
           have kt0 := hxA.cl t0
           have kj0 := hxA.cl j0
           have kj1 := hxA.cl j1
           have ky0 := hxA.cl y0
           have ky2 := hxA.cl y2
           clear hxA hE))
    all_goals
      obtain rfl : hb = false := by
        rw [Bool.eq_false_iff]; intro hbt; rcases HB.out.1 hbt with h9 | h9; exact HK1.out h9; exact HNS.out h9.1
      go_wp2
      go_ret
      exact ⟨8, rfl, ⟨fun h => absurd h (by decide), fun h => absurd h (by decide)⟩, HE4.out.trans' (by repeat (first | refine Ext.st ?_ (by first | exact Nat.le_refl _ | exact Nat.le_succ _ | assumption | omega) _ | refine Ext.al ?_ _ | refine Ext.dr ?_ | refine Ext.drN ?_ _ | exact HXA.out))⟩

end Go.Proofs.Ytfcpnggdpaeldaa
