import Derived.Test.YtfcpnggdpaeldaaGreatJa
import Derived.Test.YtfcpnggdpaeldaaGreatProg
import Derived.Test.YtfcpnggdpaeldaaGreatGt
import Derived.Test.YtfcpnggdpaeldaaGreatGu
import Derived.Test.YtfcpnggdpaeldaaGreatGh
import Derived.BigQuiet
import Derived.Deep.QuietTactic
import Derived.Deep.LoopGhost
import Derived.Shelf.Abstract
/-
  Whether cuts are consistent: the program's closed, given and Consistent.
-/
namespace Go.Proofs.YtfcpnggdpaeldaaGreat
open Go.RowKit
set_option linter.unusedVariables false
attribute [local go_sem ↓] Go.wp_at_zero Go.wp_at_succ

set_option maxHeartbeats 4000000 in
set_option maxRecDepth 100000 in
theorem closedP_calls (v vc : Value) (t : Tr) (c : List Int) (w : World) (h : TrAt w v t) (hs : SmallTr t) (hv : validT t = true) (hc : Ints w vc c) (hr : RangeC t c) :
    Calls Tryz.prog 79 #[.agg #[v], vc] w fun e w' => e = .returned (.bool (missE t c).isNone) ∧ Ext w w' := by
  have HM := Lib.hid (fun W (hW : Ext w W) => missingP_calls v vc t c W (h.ext hW) hs hv (hc.ext hW) hr)
  obtain ⟨ta, tc, rfl, htc⟩ := h.sh
  obtain ⟨ca, cc, rfl, hlc, _⟩ := hc
  generalize t.length = N at *
  generalize c.length = M at *
  have HE1 := Lib.hid ((Ext.rf w).al (.cells #[.slice ta N tc] 24))
  have HN : Hid ((missE t c).isNone = !(missE t c).isSome) := Lib.hid (by cases missE t c <;> rfl)
  rw [HN.out]
  obtain ⟨f, hf⟩ : ∃ f, (missE t c).isSome = f := ⟨_, rfl⟩
  rw [hf]
  have HF := Lib.hid hf
  clear h hs hv hr HN hf
  go_enter Tryz.func79, Tryz.ntmps79
  go_wp2_with fail
  refine (HM.out _ HE1.out).mono ?_
  rintro e w2 ⟨rfl, hX⟩
  have HX := Lib.hid (HE1.out.trans' hX)
  rw [HF.out]
  generalize eidA (misS t c) = a1 at *
  generalize eidB (misS t c) = b1 at *
  generalize eidA (missE t c) = a2 at *
  generalize eidB (missE t c) = b2 at *
  clear hX
  go_wp2
  go_ret
  exact ⟨rfl, (HX.out.al _).al _⟩

/-- A list of a list of lists, and its cell. -/
theorem stamp_at' {w : World} {a : Option Addr} {m c : Nat} {q : List (List Int)} (h : Sl RInts 1 w (.slice a m c) q) (i : Nat) (hi : i < q.length) :
    ∃ b o sv, a = some ⟨b, o, none⟩ ∧ w.cell? ⟨b, o + i, none⟩ = some sv ∧ Ints w sv q[i]! := by
  obtain ⟨b, o, c2, cv, he, _, _, hc, ⟨u, hu, hi2⟩⟩ := h.at1 i hi
  simp only [List.cons.injEq, and_true] at hu
  subst hu
  simp only [Value.slice.injEq] at he
  exact ⟨b, o, _, he.1, hc, hi2⟩

/-- The error of a trace, of cuts, and of processes. -/
noncomputable def givenE (t : Tr) (l : List (List Int)) (ps : List Int) : Int :=
  if (validT t && l.all (fitsB t)) = true then
    if l.all (rangeB t) = true then
      if (ps.all fun p => decide (0 ≤ p) && decide (p < (t.length : Int))) = true then
        if (l.all fun c => (missE t c).isNone) = true then 0 else 18
      else 2
    else 2
  else 1
theorem all_of {α : Type} [Inhabited α] {l : List α} {f : α → Bool} (h : ∀ i, i < l.length → f l[i]! = true) : l.all f = true := by
  rw [List.all_eq_true]
  intro x hx
  obtain ⟨i, hi, rfl⟩ := List.getElem_of_mem hx
  have := h i hi
  rwa [getElem!_pos l i hi] at this
theorem all_at {α : Type} [Inhabited α] {l : List α} {f : α → Bool} (h : l.all f = true) {i : Nat} (hi : i < l.length) : f l[i]! = true := by
  rw [List.all_eq_true] at h
  rw [getElem!_pos l i hi]
  exact h _ (List.getElem_mem hi)
theorem all_not {α : Type} [Inhabited α] {l : List α} {f : α → Bool} {i : Nat} (hi : i < l.length) (h : f l[i]! = false) : l.all f = false := by
  rw [Bool.eq_false_iff]; intro e; have := all_at e hi; rw [h] at this; cases this

set_option maxHeartbeats 8000000 in
set_option maxRecDepth 100000 in
theorem givenP_calls (v vl vp : Value) (t : Tr) (l : List (List Int)) (ps : List Int) (w : World) (h : TrAt w v t) (hs : LooseTr t) (hl : Sl RInts 1 w vl l) (hn : l.length ≤ 1000000) (hp : Ints w vp ps) (hm : ps.length ≤ 1000000) :
    Calls Tryz.prog 49 #[.agg #[v], vl, vp] w fun e w' => e = .returned (.int .i64 (givenE t l ps)) ∧ Ext w w' := by
  have HSZ := Lib.hid (fun W (hW : Ext w W) => sizedP_calls v vl t l W (h.ext hW) hs (hl.ext rints_lasts hW) hn)
  have HRG := Lib.hid (fun W (hW : Ext w W) (hv : validT t = true) vc c (hc : Ints W vc c) (hf : c.length = t.length) => inRangeP_calls v vc t c W (h.ext hW) (valid_small hv) hc hf)
  have HPR := Lib.hid (fun W (hW : Ext w W) p => processP_calls v t p W (h.ext hW) hs)
  have HCL := Lib.hid (fun W (hW : Ext w W) vc c (hc : Ints W vc c) (hv : validT t = true) (hf : RangeC t c) => closedP_calls v vc t c W (h.ext hW) (valid_small hv) hv hc hf)
  have HT := Lib.hid h
  have HLL := Lib.hid hl
  have HPP := Lib.hid hp
  obtain ⟨ta, tc, rfl, htc⟩ := h.sh
  obtain ⟨la, lc, rfl, hlc⟩ := hl.shape
  obtain ⟨pa, pc, rfl, hpc, _⟩ := hp
  obtain ⟨tn, htn⟩ : ∃ n, t.length = n := ⟨_, rfl⟩
  obtain ⟨n, hln⟩ : ∃ n, l.length = n := ⟨_, rfl⟩
  obtain ⟨m, hpn⟩ : ∃ n, ps.length = n := ⟨_, rfl⟩
  obtain ⟨ge, hge⟩ : ∃ E, givenE t l ps = E := ⟨_, rfl⟩
  have HG := Lib.hid hge
  have HN := Lib.hid hln
  have HM := Lib.hid hpn
  rw [hge]
  rw [hln] at HSZ hlc hn ⊢
  rw [hpn] at hpc hm ⊢
  rw [htn] at HPR HRG HSZ HCL ⊢
  have HX0 := Lib.hid (heap_alloc_new w (.cells #[.slice ta tn tc] 24))
  have HE1 := Lib.hid ((Ext.rf w).al (.cells #[.slice ta tn tc] 24))
  obtain ⟨sz, hsz⟩ : ∃ b, (validT t && l.all (fitsB t)) = b := ⟨_, rfl⟩
  rw [hsz] at HSZ
  have HSB := Lib.hid hsz
  clear h hs hl hge hln hpn htc hsz
  go_enter Tryz.func49, Tryz.ntmps49
  go_wp2_with fail
  refine (HSZ.out _ HE1.out).mono ?_
  rintro e w2 ⟨rfl, hX⟩
  have HY0 := Lib.hid (hX.hp HX0.out)
  have HE2 := Lib.hid (HE1.out.trans' hX)
  clear hX
  cases sz with
  | false =>
    have HF : Hid (ge = 1) := Lib.hid (by rw [← HG.out]; unfold givenE; rw [HSB.out]; rfl)
    go_wp2
    go_ret
    exact ⟨by rw [HF.out]; rfl, HE2.out⟩
  | true =>
  have HVF := Lib.hid (Bool.and_eq_true _ _ ▸ HSB.out : validT t = true ∧ l.all (fitsB t) = true)
  go_wp2
  go_loopg [19] n (fun g s19 wr => ∃ i : Nat, i ≤ n ∧ n - i ≤ g ∧ s19 = .int .i64 i ∧ Aside (∀ j, j < i → rangeB t l[j]! = true) ∧ Aside (Ext w2 wr))
  case atStart => exact ⟨0, Nat.zero_le _, by omega, rfl, (fun j hj => absurd hj (Nat.not_lt_zero _)), Ext.rf _⟩
  case round =>
    obtain ⟨i, hi, hg, rfl, A, HEK⟩ := hrel
    have HEW := Lib.hid (HE2.out.trans' HEK.out)
    have HZ0 := Lib.hid (HEK.out.hp HY0.out)
    have t0 := cellOf HZ0.out 0
    simp only [List.getElem?_toArray, List.getElem?_cons_zero] at t0
    by_cases hlt : i < n
    · have hltz : (i : Int) < (n : Int) := by omega
      have hiz : (0 : Int) ≤ (i : Int) := by omega
      have HIL := Lib.hid (show i < l.length from by rw [HN.out]; exact hlt)
      obtain ⟨b, o, cv, rfl, hcell, hci⟩ := stamp_at' HLL.out i HIL.out
      have hc1 := HEW.out.cl hcell
      have HCI := Lib.hid (hci.ext HEW.out)
      obtain ⟨ca, cc, rfl, hcc, _⟩ := hci
      have HCR := Lib.hid (HRG.out wr HEW.out HVF.out.1 _ _ HCI.out (by have := all_at HVF.out.2 HIL.out; unfold fitsB at this; rw [← htn]; exact of_decide_eq_true this))
      generalize l[i]!.length = ci at *
      obtain ⟨rb, hrb⟩ : ∃ b, rangeB t l[i]! = b := ⟨_, rfl⟩
      rw [hrb] at HCR
      have HRB := Lib.hid hrb
      clear hrb hcell
      go_wp2_with fail
      refine HCR.out.mono ?_
      rintro e w5 ⟨rfl, hX5⟩
      cases rb with
      | true =>
        go_wp2
        go_roundg (n - (i + 1))
        case measure => omega
        case rel =>
          refine ⟨i + 1, by omega, by omega, by go_num, (show Aside _ from fun j hj => ?_), (show Ext _ _ from HEK.out.trans' hX5)⟩
          by_cases e : j = i
          · subst e; exact HRB.out
          · exact A.out j (by omega)
      | false =>
        have HF : Hid (ge = 2) := Lib.hid (by rw [← HG.out]; unfold givenE; rw [HSB.out, all_not HIL.out HRB.out]; rfl)
        go_wp2
        go_ret
        exact ⟨by rw [HF.out]; rfl, HEW.out.trans' hX5⟩
    · have hltz : ¬ (i : Int) < (n : Int) := by omega
      obtain rfl : n = i := by omega
      have HALR := Lib.hid (show l.all (rangeB t) = true from all_of (fun j hj => A.out j (by rw [HN.out] at hj; exact hj)))
      clear A
      go_wp2
      obtain ⟨wA, rfl⟩ : ∃ x, x = wr := ⟨_, rfl⟩
      clear t0
      go_loopg [30] m (fun g s30 wr => ∃ i : Nat, i ≤ m ∧ m - i ≤ g ∧ s30 = .int .i64 i ∧ Aside (∀ j, j < i → (decide (0 ≤ ps[j]!) && decide (ps[j]! < (tn : Int))) = true) ∧ Aside (Ext wA wr))
      case atStart => exact ⟨0, Nat.zero_le _, by omega, rfl, (fun j hj => absurd hj (Nat.not_lt_zero _)), Ext.rf _⟩
      case round =>
        obtain ⟨i, hi, hg2, rfl, A, HEK2⟩ := hrel
        have HEW2 := Lib.hid (HEW.out.trans' HEK2.out)
        have HZ2 := Lib.hid (HEK2.out.hp HZ0.out)
        have t0 := cellOf HZ2.out 0
        simp only [List.getElem?_toArray, List.getElem?_cons_zero] at t0
        by_cases hlt : i < m
        · have hltz : (i : Int) < (m : Int) := by omega
          have hiz : (0 : Int) ≤ (i : Int) := by omega
          have HIL := Lib.hid (show i < ps.length from by rw [HM.out]; exact hlt)
          obtain ⟨b, o, rfl, hb, hcell⟩ := ints_at HPP.out i HIL.out
          have hc1 := HEW2.out.cl hcell
          have HCR := Lib.hid (HPR.out wr HEW2.out ps[i]!)
          obtain ⟨rb, hrb⟩ : ∃ b, (decide (0 ≤ ps[i]!) && decide (ps[i]! < (tn : Int))) = b := ⟨_, rfl⟩
          rw [hrb] at HCR
          have HRB := Lib.hid hrb
          generalize hpi : ps[i]! = pi at *
          have HPI := Lib.hid hpi
          clear hrb hcell hpi hb
          go_wp2_with fail
          refine HCR.out.mono ?_
          rintro e w5 ⟨rfl, hX5⟩
          cases rb with
          | true =>
            go_wp2
            go_roundg (m - (i + 1))
            case measure => omega
            case rel =>
              refine ⟨i + 1, by omega, by omega, by go_num, (show Aside _ from fun j hj => ?_), (show Ext _ _ from HEK2.out.trans' hX5)⟩
              by_cases e : j = i
              · subst e; rw [HPI.out]; exact HRB.out
              · exact A.out j (by omega)
          | false =>
            have HF : Hid (ge = 2) := Lib.hid (by rw [← HG.out]; unfold givenE; rw [HSB.out, HALR.out, htn, all_not HIL.out (by rw [HPI.out]; exact HRB.out)]; rfl)
            go_wp2
            go_ret
            exact ⟨by rw [HF.out]; rfl, HEW2.out.trans' hX5⟩
        · have hltz : ¬ (i : Int) < (m : Int) := by omega
          obtain rfl : m = i := by omega
          have HALP := Lib.hid (show (ps.all fun p => decide (0 ≤ p) && decide (p < (tn : Int))) = true from all_of (fun j hj => A.out j (by rw [HM.out] at hj; exact hj)))
          clear A
          go_wp2
          obtain ⟨wB, rfl⟩ : ∃ x, x = wr := ⟨_, rfl⟩
          clear t0
          go_loopg [41] n (fun g s41 wr => ∃ i : Nat, i ≤ n ∧ n - i ≤ g ∧ s41 = .int .i64 i ∧ Aside (∀ j, j < i → (missE t l[j]!).isNone = true) ∧ Aside (Ext wB wr))
          case atStart => exact ⟨0, Nat.zero_le _, by omega, rfl, (fun j hj => absurd hj (Nat.not_lt_zero _)), Ext.rf _⟩
          case round =>
            obtain ⟨i, hi, hg3, rfl, A, HEK3⟩ := hrel
            have HEW3 := Lib.hid (HEW2.out.trans' HEK3.out)
            have HZ3 := Lib.hid (HEK3.out.hp HZ2.out)
            have t0 := cellOf HZ3.out 0
            simp only [List.getElem?_toArray, List.getElem?_cons_zero] at t0
            by_cases hlt : i < n
            · have hltz : (i : Int) < (n : Int) := by omega
              have hiz : (0 : Int) ≤ (i : Int) := by omega
              have HIL := Lib.hid (show i < l.length from by rw [HN.out]; exact hlt)
              obtain ⟨b, o, cv, rfl, hcell, hci⟩ := stamp_at' HLL.out i HIL.out
              have hc1 := HEW3.out.cl hcell
              have HCI := Lib.hid (hci.ext HEW3.out)
              obtain ⟨ca, cc, rfl, hcc, _⟩ := hci
              have HCR := Lib.hid (HCL.out wr HEW3.out _ _ HCI.out HVF.out.1 ⟨(by have := all_at HVF.out.2 HIL.out; unfold fitsB at this; exact of_decide_eq_true this), all_at HALR.out HIL.out⟩)
              generalize l[i]!.length = ci at *
              obtain ⟨rb, hrb⟩ : ∃ b, (missE t l[i]!).isNone = b := ⟨_, rfl⟩
              rw [hrb] at HCR
              have HRB := Lib.hid hrb
              clear hrb hcell
              go_wp2_with fail
              refine HCR.out.mono ?_
              rintro e w5 ⟨rfl, hX5⟩
              cases rb with
              | true =>
                go_wp2
                go_roundg (n - (i + 1))
                case measure => omega
                case rel =>
                  refine ⟨i + 1, by omega, by omega, by go_num, (show Aside _ from fun j hj => ?_), (show Ext _ _ from HEK3.out.trans' hX5)⟩
                  by_cases e : j = i
                  · subst e; exact HRB.out
                  · exact A.out j (by omega)
              | false =>
                have HF : Hid (ge = 18) := Lib.hid (by rw [← HG.out]; unfold givenE; rw [HSB.out, HALR.out, htn, HALP.out, all_not HIL.out HRB.out]; rfl)
                go_wp2
                go_ret
                exact ⟨by rw [HF.out]; rfl, HEW3.out.trans' hX5⟩
            · have hltz : ¬ (i : Int) < (n : Int) := by omega
              obtain rfl : n = i := by omega
              have HF : Hid (ge = 0) := Lib.hid (by rw [← HG.out]; unfold givenE; rw [HSB.out, HALR.out, htn, HALP.out, show (l.all fun c => (missE t c).isNone) = true from all_of (fun j hj => A.out j (by rw [HN.out] at hj; exact hj))]; rfl)
              go_wp2
              go_ret
              exact ⟨by rw [HF.out]; rfl, HEW3.out⟩

/-- One list of counts, as the call lays it. -/
theorem rows_one {w : World} {b : Nat} {ty : TypeId} {vc : Value} {c : List Int} {fr : Nat × Nat} (hb : w.heap[b]? = some (.cells #[vc] ty fr)) (hc : Ints w vc c) : Sl RInts 1 w (.slice (some ⟨b, 0, none⟩) 1 1) [c] := by
  refine ⟨_, _, rfl, Nat.le_refl _, fun _ => ⟨b, 0, rfl, (Array.getElem?_eq_some_iff.1 hb).1, fun i hi => ?_⟩⟩
  obtain rfl : i = 0 := by simpa using hi
  refine ⟨[vc], rfl, ⟨vc, rfl, hc⟩, fun j hj => ?_⟩
  obtain rfl : j = 0 := by omega
  have := cellOf hb 0
  simpa using this
theorem rows_two {w : World} {b : Nat} {ty : TypeId} {va vc : Value} {a c : List Int} {fr : Nat × Nat} (hb : w.heap[b]? = some (.cells #[va, vc] ty fr)) (ha : Ints w va a) (hc : Ints w vc c) : Sl RInts 1 w (.slice (some ⟨b, 0, none⟩) 2 2) [a, c] := by
  refine ⟨_, _, rfl, Nat.le_refl _, fun _ => ⟨b, 0, rfl, (Array.getElem?_eq_some_iff.1 hb).1, fun i hi => ?_⟩⟩
  have h0 := cellOf hb 0
  have h1 := cellOf hb 1
  have hi : i < 2 := hi
  rcases Nat.lt_or_ge i 1 with h | h
  · obtain rfl : i = 0 := by omega
    refine ⟨[va], rfl, ⟨va, rfl, ha⟩, fun j hj => ?_⟩
    obtain rfl : j = 0 := by omega
    simpa using h0
  · obtain rfl : i = 1 := by omega
    refine ⟨[vc], rfl, ⟨vc, rfl, hc⟩, fun j hj => ?_⟩
    obtain rfl : j = 0 := by omega
    simpa using h1
theorem ints_none (w : World) : Ints w (.slice none 0 0) [] := ⟨none, 0, rfl, Nat.le_refl _, fun h => absurd rfl h⟩
theorem givenE_one (t : Tr) (c : List Int) : (givenE t [c] [] = 0) ↔ consB t c = true := by
  unfold givenE consB
  simp only [List.all_cons, List.all_nil, Bool.and_true]
  generalize (missE t c).isNone = q
  cases validT t <;> cases fitsB t c <;> cases rangeB t c <;> cases q <;> simp

end Go.Proofs.YtfcpnggdpaeldaaGreat

/-
  Joins, meets, and the order of counts: the program's combine, Join, Meet and Leq.
-/
namespace Go.Proofs.YtfcpnggdpaeldaaGreat
open Go.RowKit
set_option linter.unusedVariables false
attribute [local go_sem ↓] Go.wp_at_zero Go.wp_at_succ

/-- A function of two numbers that only reckons. -/
def FnC (g : Nat) (f : Int → Int → Int) : Prop := ∀ x y W, Calls Tryz.prog g #[.int .i64 x, .int .i64 y] W fun e w' => e = .returned (.int .i64 (f x y)) ∧ w' = W
theorem join1_calls : FnC 48 max := fun x y W => by
  go_enter Tryz.func48, Tryz.ntmps48
  go_wp2
  all_goals
    go_ret
    exact ⟨ret_int (by omega), rfl⟩
theorem enters_48 : ∀ args w, (callFunc 48 args).run Tryz.prog w = .ok (.enter 48 args) w := enters_of Tryz.func48 (by kernel_rfl) rfl

set_option maxHeartbeats 8000000 in
set_option maxRecDepth 100000 in
theorem combineP_calls (g : Nat) (f : Int → Int → Int) (eg : ∀ args w, (callFunc g args).run Tryz.prog w = .ok (.enter g args) w) (hf : FnC g f) (v va vb : Value) (t : Tr) (a b : List Int) (w : World) (h : TrAt w v t) (hs : LooseTr t) (ha : Ints w va a) (hb : Ints w vb b) :
    Calls Tryz.prog 47 #[.agg #[v], va, vb, .func (.func g) #[] #[]] w fun e w' => IntsRes w w' e (givenE t [a, b] []) (if givenE t [a, b] [] = 0 then zipC f a b else []) := by
  obtain ⟨ta, tc, rfl, htc⟩ := h.sh
  have HA := Lib.hid ha
  have HB := Lib.hid hb
  have HF := Lib.hid hf
  obtain ⟨ii, hii, iz0, iz1, iz2⟩ := info_parts info_int3
  obtain ⟨aa, ac, rfl, hac, _⟩ := ha
  obtain ⟨ba, bc, rfl, hbc, _⟩ := hb
  have HX2 : Hid (Ext w ((w.alloc (.cells #[.slice ta t.length tc] 24)).alloc (.cells #[.slice aa a.length ac, .slice ba b.length bc] 25))) := Lib.hid (by repeat (first | refine Ext.st ?_ (by first | exact Nat.le_refl _ | exact Nat.le_succ _ | assumption | omega) _ | refine Ext.al ?_ _ | refine Ext.dr ?_ | refine Ext.drN ?_ _ | exact Ext.rf _))
  have HG := Lib.hid (givenP_calls (.slice ta t.length tc) (.slice (some ⟨w.heap.size + 1, 0, none⟩) 2 2) (.slice none 0 0) t [a, b] [] _ (h.ext HX2.out) hs (rows_two (heap_new_eq (by simp)) (HA.out.ext HX2.out) (HB.out.ext HX2.out)) (by simp) (ints_none _) (by simp))
  obtain ⟨ge, hge⟩ : ∃ E, givenE t [a, b] [] = E := ⟨_, rfl⟩
  rw [hge] at HG ⊢
  have HGE := Lib.hid hge
  have hsm := hs.1
  have HLN : Hid (ge = 0 → a.length = t.length ∧ b.length = t.length) := Lib.hid (fun h0 => by
    have h0 := hge.trans h0
    unfold givenE at h0
    split at h0
    · rename_i h1
      simp only [List.all_cons, List.all_nil, Bool.and_true, Bool.and_eq_true, fitsB, decide_eq_true_eq] at h1
      exact h1.2
    · simp at h0)
  obtain ⟨R, hR⟩ : ∃ R, (if ge = 0 then zipC f a b else []) = R := ⟨_, rfl⟩
  rw [hR]
  have HR0 := Lib.hid hR
  generalize hN : t.length = N at *
  generalize hna : a.length = n at *
  generalize hnb : b.length = m at *
  have HA' := Lib.hid hna
  have HB' := Lib.hid hnb
  clear h hs hge hN hna hnb hR
  go_enter Tryz.func47, Tryz.ntmps47
  go_wp2_with fail
  refine HG.out.mono ?_
  rintro e w2 ⟨rfl, hX⟩
  have HE2 := Lib.hid (HX2.out.trans' hX)
  clear hX
  by_cases h0 : ge = 0
  · subst h0
    have HRZ := Lib.hid (HR0.out.symm.trans (if_pos rfl))
    have HL := Lib.hid (HLN.out rfl)
    have hnn : n ≤ 1000000 := by rw [HL.out.1]; exact hsm
    obtain rfl : m = n := by rw [HL.out.1, HL.out.2]
    have hsz2 := HE2.out.sz
    go_wp2_with ((at_make; refine wpList_make_full _ rfl _ _ 25 rfl w2.heap.size 3 ii (.int .i64 0) 1 Tryz.underlying25 hii iz0 iz1 .i64 .i64 _ _ m rfl rfl rfl rfl (by rw [iz2]; omega) (by unfold maxLen; omega) (by simp) ?_; intro w3 hown3 hgrow3))
    have HROW := Lib.hid (show Row w3 w2.heap.size 3 1 (.slice (some ⟨w2.heap.size, 0, none⟩) m m) m ((List.replicate m (0 : Int)).map (Value.int .i64)) from by
      have := Row.ofOwns hown3
      rw [show (Value.int .i64 0).cells = #[.int .i64 0] from rfl, Nat.mul_one, toList_madeCells_one] at this
      simpa using this)
    have HX3 := Lib.hid ((Ext.rf w2).gr hgrow3 (by simp))
    clear hown3 hgrow3
    go_loopg [26] m (fun gg s26 wr => ∃ (i : Nat) (L : List Int), i ≤ m ∧ m - i ≤ gg ∧ s26 = .int .i64 i ∧ Aside (L.length = m) ∧ Aside (∀ j, j < i → L[j]! = f a[j]! b[j]!) ∧ Aside (Row wr w2.heap.size 3 1 (.slice (some ⟨w2.heap.size, 0, none⟩) m m) m (L.map (Value.int .i64))) ∧ Aside (Ext w2 wr))
    case atStart => exact ⟨0, _, Nat.zero_le _, by omega, rfl, (show _ = _ from by simp), (fun j hj => absurd hj (Nat.not_lt_zero _)), HROW, HX3⟩
    case round =>
      obtain ⟨i, L, hi, hg, rfl, HLL, A, HR, HEK⟩ := hrel
      by_cases hlt : i < m
      · have hltz : (i : Int) < (m : Int) := by omega
        have hiz : (0 : Int) ≤ (i : Int) := by omega
        obtain ⟨b1, o1, rfl, hb1, hc1⟩ := ints_at HA.out i (by rw [HA'.out]; exact hlt)
        obtain ⟨b2, o2, rfl, hb2, hc2⟩ := ints_at HB.out i (by rw [HB'.out]; exact hlt)
        have HEW := Lib.hid (HE2.out.trans' HEK.out)
        have d1 := HEW.out.cl hc1
        have d2 := HEW.out.cl hc2
        have hb1w := HEW.out.sz
        have c3 := HR.out.cell i (by omega)
        have f3 := HR.out.free i
        rw [Nat.zero_add, List.getElem?_map, List.getElem?_eq_getElem (by rw [HLL.out]; exact hlt), Option.map_some] at c3
        generalize hx : a[i]! = x at *
        generalize hy : b[i]! = y at *
        have HXY := Lib.hid (And.intro hx hy)
        have HFC := Lib.hid (HF.out x y)
        clear hx hy hc1 hc2
        go_wp2
        go_region_with (refine (HFC.out _).mono ?_; rintro e w9 ⟨rfl, rfl⟩)
        all_goals
          go_wp2
          go_roundg (m - (i + 1))
          case measure => omega
          case rel =>
            refine ⟨i + 1, L.set i (f x y), by omega, by omega, by go_num, (show _ = _ from by rw [List.length_set]; exact HLL.out), (show Aside _ from fun j hj => ?_), (show Row _ _ _ _ _ _ _ from ?_), (show Ext _ _ from (HEK.out.st (p := ⟨w2.heap.size, i, none⟩) (Nat.le_refl _) _).dr)⟩
            · by_cases e : j = i
              · subst e; rw [setC_at (by rw [HLL.out]; exact hlt), HXY.out.1, HXY.out.2]
              · rw [setC_ne e]; exact A.out j (by omega)
            · have := HR.out.set i (.int .i64 (f x y)) (by omega)
              rw [Nat.zero_add, ← List.map_set] at this
              exact this.ext ((Ext.rf _).dr)
      · have hltz : ¬ (i : Int) < (m : Int) := by omega
        obtain rfl : m = i := by omega
        go_wp2
        go_ret2
        refine ⟨_, rfl, ?_, HE2.out.trans' HEK.out⟩
        have hz : zipC f a b = L := list_ext (by rw [zipC_len, HA'.out, HLL.out]) (fun p hp => by
          rw [zipC_len] at hp
          rw [zipC_at hp, A.out p (by rw [← HA'.out]; exact hp)])
        rw [HRZ.out, hz, HLL.out]
        exact HR.out.mono HE2.out.sz
  · have c9 : (ge != 0) = true := by simp [h0]
    obtain rfl := HR0.out.symm.trans (if_neg h0)
    clear h0
    go_wp2
    go_ret2
    exact IntsRes.none HE2.out

set_option maxHeartbeats 2000000 in
theorem joinP_calls (v va vb : Value) (t : Tr) (a b : List Int) (w : World) (h : TrAt w v t) (hs : LooseTr t) (ha : Ints w va a) (hb : Ints w vb b) :
    Calls Tryz.prog 18 #[.agg #[v], va, vb] w fun e w' => IntsRes w w' e (givenE t [a, b] []) (if givenE t [a, b] [] = 0 then joinC a b else []) := by
  have HCB := Lib.hid (fun W (hW : Ext w W) => combineP_calls 48 _ enters_48 join1_calls v va vb t a b W (h.ext hW) hs (ha.ext hW) (hb.ext hW))
  obtain ⟨ta, tc, rfl, htc⟩ := h.sh
  obtain ⟨aa, ac, rfl, hac, _⟩ := ha
  obtain ⟨ba, bc, rfl, hbc, _⟩ := hb
  have HE1 := Lib.hid ((Ext.rf w).al (.cells #[.slice ta t.length tc] 24))
  show Calls _ _ _ _ fun e w' => IntsRes w w' e (givenE t [a, b] []) (if givenE t [a, b] [] = 0 then zipC _ a b else [])
  generalize (if givenE t [a, b] [] = 0 then zipC _ a b else []) = R at *
  generalize givenE t [a, b] [] = ge at *
  generalize t.length = N at *
  generalize a.length = n at *
  generalize b.length = m at *
  clear h hs
  go_enter Tryz.func18, Tryz.ntmps18
  go_wp2_with fail
  refine (HCB.out _ HE1.out).mono ?_
  rintro e w2 ⟨u, rfl, hR, hX⟩
  have HR := Lib.hid (hR.mono HE1.out.sz)
  obtain ⟨ra, rc, rfl, _⟩ := hR.any
  generalize hrl : R.length = rl at *
  have HRL := Lib.hid hrl
  have HX := Lib.hid (HE1.out.trans' hX)
  clear hR hX hrl
  go_wp2
  go_ret2
  exact ⟨_, rfl, by rw [HRL.out]; exact HR.out, HX.out⟩



set_option maxHeartbeats 4000000 in
set_option maxRecDepth 100000 in
theorem leqP_calls (va vb : Value) (a b : List Int) (w : World) (ha : Ints w va a) (hb : Ints w vb b) (hn : a.length ≤ 1000000) (hm : b.length ≤ 1000000) :
    Calls Tryz.prog 39 #[va, vb] w fun e w' => e = .returned (.bool (leCB a b)) ∧ Ext w w' := by
  have HA := Lib.hid ha
  have HB := Lib.hid hb
  obtain ⟨aa, ac, rfl, hac, _⟩ := ha
  obtain ⟨ba, bc, rfl, hbc, _⟩ := hb
  obtain ⟨r, hr⟩ : ∃ r, leCB a b = r := ⟨_, rfl⟩
  rw [hr]
  have HRR := Lib.hid hr
  generalize hna : a.length = n at *
  generalize hnb : b.length = m at *
  have HA' := Lib.hid hna
  have HB' := Lib.hid hnb
  clear hr hna hnb
  by_cases hnm : n = m
  case neg =>
    have HF : Hid (r = false) := Lib.hid (by rw [← HRR.out, Bool.eq_false_iff]; intro h; have := (leCB_iff.1 h).1; rw [HA'.out, HB'.out] at this; exact hnm this)
    have c1 : ((n : Int) != (m : Int)) = true := by simp; omega
    have c1n : (n != m) = true := by simp; omega
    clear hnm
    go_enter Tryz.func39, Tryz.ntmps39
    go_wp2
    go_ret
    exact ⟨by rw [HF.out]; rfl, Ext.rf _⟩
  case pos =>
    subst hnm
    go_enter Tryz.func39, Tryz.ntmps39
    go_wp2
    go_loopg [13] n (fun g s wr => ∃ i : Nat, i ≤ n ∧ n - i ≤ g ∧ s = .int .i64 i ∧ Aside (∀ j, j < i → a[j]! ≤ b[j]!) ∧ Aside (Ext w wr))
    case atStart => exact ⟨0, Nat.zero_le _, by omega, rfl, (fun j hj => absurd hj (Nat.not_lt_zero _)), Ext.rf _⟩
    case round =>
      obtain ⟨i, hi, hg, rfl, A, HEK⟩ := hrel
      by_cases hlt : i < n
      · have hltz : (i : Int) < (n : Int) := by omega
        have hiz : (0 : Int) ≤ (i : Int) := by omega
        have HIA := Lib.hid (show i < a.length from by rw [HA'.out]; exact hlt)
        obtain ⟨b1, o1, rfl, hb1, hc1⟩ := ints_at HA.out i HIA.out
        obtain ⟨b2, o2, rfl, hb2, hc2⟩ := ints_at HB.out i (by rw [HB'.out]; exact hlt)
        have d1 := HEK.out.cl hc1
        have d2 := HEK.out.cl hc2
        generalize hx : a[i]! = x at *
        generalize hy : b[i]! = y at *
        have HXY := Lib.hid (And.intro hx hy)
        clear hx hy hc1 hc2 hb1 hb2
        by_cases hgt : y < x
        · have e1 : decide (y < x) = true := decide_eq_true hgt
          have HF : Hid (r = false) := Lib.hid (by
            rw [← HRR.out, Bool.eq_false_iff]; intro h
            have := (leCB_iff.1 h).2 i HIA.out
            rw [HXY.out.1, HXY.out.2] at this; omega)
          clear hgt
          go_wp2
          go_quiet (fail)
          go_wp2
          go_ret
          exact ⟨by rw [HF.out]; rfl, HEK.out.drN _⟩
        · have e1 : decide (y < x) = false := decide_eq_false hgt
          have HOK := Lib.hid (show x ≤ y by omega)
          clear hgt
          go_wp2
          go_quiet (fail)
          go_wp2
          go_roundg (n - (i + 1))
          case measure => omega
          case rel =>
            refine ⟨i + 1, by omega, by omega, by go_num, (show Aside _ from fun j hj => ?_), (show Ext _ _ from HEK.out.drN _)⟩
            by_cases e : j = i
            · subst e; rw [HXY.out.1, HXY.out.2]; exact HOK.out
            · exact A.out j (by omega)
      · have hltz : ¬ (i : Int) < (n : Int) := by omega
        obtain rfl : n = i := by omega
        go_wp2
        go_ret
        refine ⟨?_, HEK.out⟩
        rw [← HRR.out, show leCB a b = true from leCB_iff.2 ⟨by rw [HA'.out, HB'.out], fun p hp => A.out p (by rw [← HA'.out]; exact hp)⟩]
        rfl



end Go.Proofs.YtfcpnggdpaeldaaGreat
