/-
  A trace with a further variable: the reference's With.
-/
import Derived.Test.YtfcpnggdpaeldaaGa
import Derived.Test.YtfcpnggdpaeldaaProg
import Derived.BigQuiet
import Derived.Deep.QuietTactic
import Derived.Deep.LoopGhost
import Derived.Shelf.Abstract
import Derived.Test.YtfcpnggdpaeldaaWrB
import Derived.Test.YtfcpnggdpaeldaaOwnW
import Derived.Test.YtfcpnggdpaeldaaGl
import Derived.Test.YtfcpnggdpaeldaaGn
import Derived.Test.YtfcpnggdpaeldaaGq
import Derived.BigRegion
import Derived.Laws.EntriesVeiled
import Derived.Deep.DeepCutAuto
namespace Go.Proofs.Ytfcpnggdpaeldaa
open Go.RowKit
set_option linter.unusedVariables false
attribute [local go_sem ↓] Go.wp_at_zero Go.wp_at_succ

theorem enters_63 : ∀ args w, (callFunc 63 args).run Try.prog w = .ok (.enter 63 args) w := enters_of Try.func63 (by kernel_rfl) rfl
theorem enters_62 : ∀ args w, (callFunc 62 args).run Try.prog w = .ok (.enter 62 args) w := enters_of Try.func62 (by kernel_rfl) rfl

/-- What With hands back. -/
def WrOut (w w' : World) (e : Ending) (E : Int) (u : Tr) : Prop := ∃ v, e = .returned (.tuple #[.agg #[v], .int .i64 E]) ∧ TrAt w' v u ∧ Ext w w'
theorem tr_noneR (w : World) : TrAt w (.slice none 0 0) [] := ⟨none, 0, rfl, Nat.le_refl _, fun h => absurd rfl h⟩
def WrJ (W : World) (D base : Nat) (vo : Value) (L : Tr) : Prop := ∃ vv ve va, W.heap[D]? = some (.cells #[vo] 24) ∧ OwnP W base vo L vv ve va ∧ DisP L vv ve va
theorem WrJ.ext {W W' : World} {D base : Nat} {vo : Value} {L : Tr} (h : WrJ W D base vo L) (x : Ext W W') : WrJ W' D base vo L := by
  obtain ⟨vv, ve, va, h1, h2, h3⟩ := h
  exact ⟨vv, ve, va, x.hp h1, h2.ext x, h3⟩
/-- The box of the copy, and what it owns. -/
def WrI (W : World) (D base : Nat) (L : Tr) : Prop := ∃ vo vv ve va, W.heap[D]? = some (.cells #[vo] 24) ∧ OwnP W base vo L vv ve va ∧ DisP L vv ve va



set_option maxHeartbeats 16000000 in
set_option maxRecDepth 100000 in
theorem withR_calls (v vl : Value) (t : Tr) (s : ByteArray) (l : List (List Int)) (w : World) (h : TrAt w v t) (hs : LooseTr t) (hl : Sl RInts 1 w vl l) (hln : l.length ≤ 1000000) (hlb : ∀ p, p < l.length → l[p]!.length ≤ 1000000) :
    Calls Try.prog 26 #[.agg #[v], .string s, vl] w fun e w' => WrOut w w' e (wiE t s l) (wiT t s l) := by
  have HT := Lib.hid h
  have HW := Lib.hid hl
  have HLS := Lib.hid hs
  have HVC := Lib.hid (fun W (hW : Ext w W) => validR_calls v t W (h.ext hW) hs)
  have HFC := Lib.hid (fun W (hW : Ext w W) (hv : validT t = true) => shapedR_calls v vl t l W (h.ext hW) (valid_small hv) (hl.ext rints_lasts hW))
  have HRC := Lib.hid (fun W (hW : Ext w W) => inRangeR_calls vl l W (hl.ext rints_lasts hW) hln hlb)
  have HNC := Lib.hid (fun W => (nameR_calls s W))
  have HIC := Lib.hid (fun W (hW : Ext w W) (p : Nat) (hp : p < t.length) => indexR_calls v t p s W (h.ext hW) hs hp (hs.2 p hp).1)
  obtain ⟨E, hE⟩ : ∃ E, wiE t s l = E := ⟨_, rfl⟩
  have HED : Hid (E = if validT t = true then (if fitsW t l = true then (if rangW l = true then (if nameB s = true then (if twiceW t s = true then 8 else if fullW t l = true then 5 else 0) else 13) else 2) else 3) else 1) := Lib.hid hE.symm
  have HTD : Hid (E = 0 → wiT t s l = withT s l t) := Lib.hid (fun h => by
    have h0 : wiE t s l = 0 := hE.trans h
    unfold wiT; rw [if_pos h0])
  have HTN : Hid (E ≠ 0 → wiT t s l = []) := Lib.hid (fun h => by unfold wiT; rw [if_neg (by rw [hE]; exact h)])
  rw [hE]
  generalize wiT t s l = U at *
  obtain ⟨ta, tc, rfl, htc⟩ := h.sh
  obtain ⟨la, lc, rfl, hlc⟩ := hl.shape
  obtain ⟨vb, hvb⟩ : ∃ b, validT t = b := ⟨_, rfl⟩
  obtain ⟨fb, hfb⟩ : ∃ b, fitsW t l = b := ⟨_, rfl⟩
  obtain ⟨rb, hrb⟩ : ∃ b, rangW l = b := ⟨_, rfl⟩
  obtain ⟨nb, hnb⟩ : ∃ b, nameB s = b := ⟨_, rfl⟩
  have HFB := Lib.hid hfb
  have HVB := Lib.hid hvb
  rw [hvb] at HVC HFC HED
  rw [hfb] at HFC HED
  rw [hrb] at HRC HED
  rw [hnb] at HED HNC
  obtain ⟨n, htn⟩ : ∃ n, t.length = n := ⟨_, rfl⟩
  have HN := Lib.hid htn
  obtain ⟨m, hlm⟩ : ∃ n, l.length = n := ⟨_, rfl⟩
  have HM := Lib.hid hlm
  have hn1 := hs.1
  rw [htn] at HVC HFC HIC HT hn1 ⊢
  rw [hlm] at HFC HRC HW hln ⊢
  have HLB := Lib.hid hlb
  have HY1 : Hid (((w.alloc (.cells #[.slice ta n tc] 24)).alloc (.cells #[.slice none 0 0] 24)).heap[w.heap.size]? = some (.cells #[.slice ta n tc] 24)) := Lib.hid (allocs_at [.cells #[.slice ta n tc] 24, .cells #[.slice none 0 0] 24] w 0 _ rfl)
  have HR1 : Hid (((w.alloc (.cells #[.slice ta n tc] 24)).alloc (.cells #[.slice none 0 0] 24)).heap[w.heap.size + 1]? = some (.cells #[.slice none 0 0] 24)) := Lib.hid (allocs_at [.cells #[.slice ta n tc] 24, .cells #[.slice none 0 0] 24] w 1 _ rfl)
  have HE1 : Hid (Ext w ((w.alloc (.cells #[.slice ta n tc] 24)).alloc (.cells #[.slice none 0 0] 24))) := Lib.hid (by repeat (first | refine Ext.st ?_ (by first | exact Nat.le_refl _ | exact Nat.le_succ _ | assumption | omega) _ | refine Ext.al ?_ _ | refine Ext.dr ?_ | refine Ext.drN ?_ _ | exact Ext.rf _))
  clear h hs hl hE hvb hfb hrb hnb htn hlm htc hlc hlb
  go_enter Try.func26, Try.ntmps26
  go_wp2_with fail
  refine (HVC.out _ HE1.out).mono ?_
  rintro e w2 ⟨rfl, hX⟩
  have HE2 := Lib.hid (HE1.out.trans' hX)
  have HY2 := Lib.hid (hX.hp HY1.out)
  have HR2 := Lib.hid (hX.hp HR1.out)
  have t2 := cellOf HY2.out 0
  have r2 := cellOf HR2.out 0
  have f2 := freeOf HR2.out 0
  simp only [List.getElem?_toArray, List.getElem?_cons_zero] at t2 r2
  clear hX
  cases vb with
  | false =>
    obtain rfl : E = 1 := HED.out
    obtain rfl : U = [] := HTN.out (by decide)
    go_wp2
    have z0 := cellOf (heap_setCell_same (o := 0) (u := .slice none 0 0) HR2.out) 0
    simp only [Array.setIfInBounds, List.size_toArray, List.length_cons, List.length_nil, Nat.zero_lt_succ] at z0
    refine bodyPost_ret (v := .tuple #[.agg #[.slice none 0 0], .int .i64 1]) (by simp [results, Try.results26, go_sem, z0]) rfl ?_
    exact ⟨_, rfl, tr_noneR _, HE2.out.st (by show w.heap.size ≤ w.heap.size + 1; omega) _⟩
  | true =>
  have HFC2 := Lib.hid (fun W hW => HFC.out W hW (by trivial))
  clear r2 f2
  go_wp2_with fail
  refine (HFC2.out _ HE2.out).mono ?_
  rintro e w3 ⟨rfl, hX⟩
  have HE3 := Lib.hid (HE2.out.trans' hX)
  have HY3 := Lib.hid (hX.hp HY2.out)
  have HR3 := Lib.hid (hX.hp HR2.out)
  have t3 := cellOf HY3.out 0
  have r3 := cellOf HR3.out 0
  have f3 := freeOf HR3.out 0
  simp only [List.getElem?_toArray, List.getElem?_cons_zero] at t3 r3
  clear hX
  cases fb with
  | false =>
    obtain rfl : E = 3 := HED.out
    obtain rfl : U = [] := HTN.out (by decide)
    clear t2
    go_wp2
    have z0 := cellOf (heap_setCell_same (o := 0) (u := .slice none 0 0) HR3.out) 0
    simp only [Array.setIfInBounds, List.size_toArray, List.length_cons, List.length_nil, Nat.zero_lt_succ] at z0
    refine bodyPost_ret (v := .tuple #[.agg #[.slice none 0 0], .int .i64 3]) (by simp [results, Try.results26, go_sem, z0]) rfl ?_
    exact ⟨_, rfl, tr_noneR _, HE3.out.st (by show w.heap.size ≤ w.heap.size + 1; omega) _⟩
  | true =>
  clear t2 r3 f3
  go_wp2_with fail
  refine (HRC.out _ HE3.out).mono ?_
  rintro e w4 ⟨rfl, hX⟩
  have HE4 := Lib.hid (HE3.out.trans' hX)
  have HY4 := Lib.hid (hX.hp HY3.out)
  have HR4 := Lib.hid (hX.hp HR3.out)
  have t4 := cellOf HY4.out 0
  have r4 := cellOf HR4.out 0
  have f4 := freeOf HR4.out 0
  simp only [List.getElem?_toArray, List.getElem?_cons_zero] at t4 r4
  clear hX
  cases rb with
  | false =>
    obtain rfl : E = 2 := HED.out
    obtain rfl : U = [] := HTN.out (by decide)
    clear t3
    go_wp2
    have z0 := cellOf (heap_setCell_same (o := 0) (u := .slice none 0 0) HR4.out) 0
    simp only [Array.setIfInBounds, List.size_toArray, List.length_cons, List.length_nil, Nat.zero_lt_succ] at z0
    refine bodyPost_ret (v := .tuple #[.agg #[.slice none 0 0], .int .i64 2]) (by simp [results, Try.results26, go_sem, z0]) rfl ?_
    exact ⟨_, rfl, tr_noneR _, HE4.out.st (by show w.heap.size ≤ w.heap.size + 1; omega) _⟩
  | true =>
  clear t3 r4 f4
  go_wp2_with fail
  refine (HNC.out _).mono ?_
  rintro e w5 ⟨rfl, rfl⟩
  cases nb with
  | false =>
    obtain rfl : E = 13 := HED.out
    obtain rfl : U = [] := HTN.out (by decide)
    have r4 := cellOf HR4.out 0
    have f4 := freeOf HR4.out 0
    simp only [List.getElem?_toArray, List.getElem?_cons_zero] at r4
    go_wp2
    have z0 := cellOf (heap_setCell_same (o := 0) (u := .slice none 0 0) HR4.out) 0
    simp only [Array.setIfInBounds, List.size_toArray, List.length_cons, List.length_nil, Nat.zero_lt_succ] at z0
    refine bodyPost_ret (v := .tuple #[.agg #[.slice none 0 0], .int .i64 13]) (by simp [results, Try.results26, go_sem, z0]) rfl ?_
    exact ⟨_, rfl, tr_noneR _, HE4.out.st (by show w.heap.size ≤ w.heap.size + 1; omega) _⟩
  | true =>
  go_wp2
  clear t4
  obtain ⟨hF1, hF2⟩ := fitsW_iff.1 HFB.out
  rw [HM.out, HN.out] at hF1
  subst hF1
  have HFL := Lib.hid hF2
  clear hF2
  go_loopg [8] m (fun g s8 wr => ∃ p : Nat, p ≤ m ∧ m - p ≤ g ∧ s8 = .int .i64 p ∧ Aside (∀ q, q < p → twiceP s t[q]! = false) ∧ Aside (Ext w5 wr))
  case atStart => exact ⟨0, Nat.zero_le _, by omega, rfl, (fun j hj => absurd hj (Nat.not_lt_zero _)), Ext.rf _⟩
  case round =>
    obtain ⟨p, hp, hg, rfl, A, HEK⟩ := hrel
    have HEW := Lib.hid (HE4.out.trans' HEK.out)
    have HYW := Lib.hid (HEK.out.hp HY4.out)
    have HRW := Lib.hid (HEK.out.hp HR4.out)
    have t0 := cellOf HYW.out 0
    have r0 := cellOf HRW.out 0
    have f0 := freeOf HRW.out 0
    simp only [List.getElem?_toArray, List.getElem?_cons_zero] at t0 r0
    by_cases hlt : p < m
    case pos =>
      have hltz : (p : Int) < (m : Int) := by omega
      have HP : Hid (twiceP s t[p]! = decide (0 ≤ idxV t[p]! s)) := Lib.hid rfl
      have HPN : Hid (twiceP s t[p]! = true → twiceW t s = true) := Lib.hid (fun h => List.any_eq_true.2 ⟨t[p]!, mem_at t p (by rw [HN.out]; exact hlt), h⟩)
      have HPA : Hid (twiceP s t[p]! = false → ∀ q, q < p + 1 → twiceP s t[q]! = false) := Lib.hid (fun h q hq => by
        by_cases e : q = p
        · subst e; exact h
        · exact A.out q (by omega))
      have HIP := Lib.hid (HIC.out wr HEW.out p (by first | exact hlt | (rw [HN.out]; exact hlt)))
      generalize twiceP s t[p]! = tb at *
      generalize idxV t[p]! s = ix at *
      go_wp2_with fail
      refine HIP.out.mono ?_
      rintro e wi ⟨rfl, hX⟩
      by_cases hix : 0 ≤ ix
      · have hb : tb = true := by rw [HP.out]; exact decide_eq_true hix
        have hE8 := HED.out
        simp only [if_true, if_pos (HPN.out hb)] at hE8
        subst hE8
        obtain rfl : U = [] := HTN.out (by decide)
        have HR9 := Lib.hid (hX.hp HRW.out)
        have HE9 := Lib.hid (HEW.out.trans' hX)
        have r9 := cellOf HR9.out 0
        have f9 := freeOf HR9.out 0
        simp only [List.getElem?_toArray, List.getElem?_cons_zero] at r9
        clear hX r0 f0 t0
        go_wp2
        have z0 := cellOf (heap_setCell_same (o := 0) (u := .slice none 0 0) HR9.out) 0
        simp only [Array.setIfInBounds, List.size_toArray, List.length_cons, List.length_nil, Nat.zero_lt_succ] at z0
        refine bodyPost_ret (v := .tuple #[.agg #[.slice none 0 0], .int .i64 8]) (by simp [results, Try.results26, go_sem, z0]) rfl ?_
        exact ⟨_, rfl, tr_noneR _, HE9.out.st (by show w.heap.size ≤ w.heap.size + 1; omega) _⟩
      · have hb : tb = false := by rw [HP.out]; exact decide_eq_false hix
        have HA9 := Lib.hid (HPA.out hb)
        have HX9 := Lib.hid (HEK.out.trans' hX)
        clear hX r0 f0 t0
        go_wp2
        go_roundg (m - (p + 1))
        case measure => omega
        case rel => exact ⟨p + 1, by omega, by omega, by go_num, (show Aside _ from HA9.out), (show Ext _ _ from HX9.out)⟩
    case neg =>
      have hltz : ¬ (p : Int) < (m : Int) := by omega
      obtain rfl : m = p := by omega
      have HTW : Hid (twiceW t s = false) := Lib.hid (List.any_eq_false.2 (fun x hx => by
        obtain ⟨q, hq, rfl⟩ := List.getElem_of_mem hx
        have := A.out q (by rw [HN.out] at hq; exact hq)
        rw [getElem!_pos t q hq] at this
        rw [this]; simp))
      obtain ⟨ub, hub⟩ : ∃ b, fullW t l = b := ⟨_, rfl⟩
      have HUB := Lib.hid hub
      have hE9 := HED.out
      simp only [if_true, HTW.out, hub, Bool.false_eq_true, if_false] at hE9
      have HE9 := Lib.hid hE9
      clear hub hE9 A HED
      have HLC := Lib.hid (fun W (hW : Ext w W) => lengths12_calls _ t W (HT.out.ext hW) (valid_small HVB.out))
      have HCC := Lib.hid (fun W vc (hW : Ext w W) hi => copyT_calls _ vc t (len12C t) W (HT.out.ext hW) (valid_small HVB.out) hi (range_len12 t))
      go_upto_region 14 with (fail)
      go_cut [9] (fun s9 wx => ∃ D : Nat, s9 = .pointer (some ⟨D, 0, none⟩) ∧ w5.heap.size ≤ D ∧ Aside (WrI wx D w5.heap.size t) ∧ Aside (Ext w5 wx))
      case first =>
        have HS : Hid (∀ W, Ext w5 W → W.cell? ⟨w.heap.size, 0, none⟩ = some (.slice ta m tc)) := Lib.hid (fun W hW => by
          have h := cellOf (hW.hp HY4.out) 0
          simpa using h)
        clear t0 r0 f0
        go_wp2
        refine wp_region_tails (fun W => W.cell? ⟨w.heap.size, 0, none⟩ = some (.slice ta m tc)) [5] (by kernel_rfl) (HS.out _ HEK.out.dr) (fun hHeld => ?_)
        obtain ⟨y0, hy0⟩ : ∃ z, z = wr.drew := ⟨_, rfl⟩
        have HX0 : Hid (Ext w5 y0) := Lib.hid (by rw [hy0]; exact HEK.out.dr)
        rw [← hy0] at hHeld ⊢
        have HLC := Lib.hid (fun W (hW : Ext w5 W) => HLC.out W (HE4.out.trans' hW))
        have HCC := Lib.hid (fun W vc (hW : Ext w5 W) hi => HCC.out W vc (HE4.out.trans' hW) hi)
        clear hy0
        refine wpAnyU_take (i := 0) (d := some 44) (v := ?_) rfl rfl (by kernel_rfl) (by kernel_rfl) (by kernel_rfl) (by kernel_rfl) (fun _ _ _ h => h) (Or.inl ⟨by rfl, ?_⟩) (by assumption) ?_
        rotate_left
        · (intro w hSw; (try dsimp only at hSw); go_simp; try (with_reducible rfl))
        try simp only [Act.put]
        try simp only [List.setIfInBounds_toArray]
        try simp only [List.set_cons_zero, List.set_cons_succ]
        refine wpAnyU_take (i := 1) (d := some 45) (v := ?_) rfl rfl (by kernel_rfl) (by kernel_rfl) (by kernel_rfl) (by kernel_rfl) (fun _ _ _ h => h) (Or.inl ⟨by rfl, ?_⟩) (by assumption) ?_
        rotate_left
        · (intro w hSw; (try dsimp only at hSw); go_simp; try (with_reducible rfl))
        try simp only [Act.put]
        try simp only [List.setIfInBounds_toArray]
        try simp only [List.set_cons_zero, List.set_cons_succ]
        refine wpAnyU_ready (rs := [2, 4]) (by kernel_rfl) (by simp) ?_
        refine AllU.cons rfl (fun K hK => ?_) (AllU.cons rfl (fun K hK => ?_) AllU.nil)
        · skip
          refine step_callW (by kernel_rfl) 63 _ _ rfl enters_63 [.agg #[.slice ta m tc]] (by first | rfl | kernel_rfl | go_simp) (HLC.out _ HX0.out) ?_
          rintro e y1 ⟨u1, rfl, hR, hX⟩
          obtain ⟨a1, c1, rfl, _⟩ := hR.any
          refine ⟨_, rfl, ?_⟩
          have HX1 := Lib.hid (HX0.out.trans' hX)
          have HI1 := Lib.hid hR.ints
          clear hR hX
          refine hK.out _ _ ?_ (fun hHeld => ?_)
          · (try dsimp only)
            exact HS.out _ HX1.out
          clear hK K
          try simp only [List.getElem_toArray, List.getElem_cons_zero, List.getElem_cons_succ]
          try simp only [Act.put]
          try simp only [List.setIfInBounds_toArray]
          try simp only [List.set_cons_zero, List.set_cons_succ]
          refine wpAnyU_ready (rs := [3, 4]) (by kernel_rfl) (by simp) ?_
          refine AllU.cons rfl (fun K hK => ?_) (AllU.cons rfl (fun K hK => ?_) AllU.nil)
          · skip
            refine step_callW (by kernel_rfl) 62 _ _ rfl enters_62 [.agg #[.slice ta m tc], .slice a1 (len12C t).length c1] (by first | rfl | kernel_rfl | go_simp) (HCC.out _ _ HX1.out HI1.out) ?_
            rintro e y2 ⟨v9, vv, ve, va, rfl, hO, hD, hX⟩
            refine ⟨_, rfl, ?_⟩
            have HX2 := Lib.hid (HX1.out.trans' hX)
            have HO2 := Lib.hid (hO.mono HX1.out.sz)
            have HDD := Lib.hid hD
            obtain ⟨p9, c9, rfl, _⟩ : ∃ a c, v9 = .slice a (prefT t (len12C t)).length c ∧ True := by
              obtain ⟨_, h9, _⟩ := hO
              obtain ⟨a, c, e, _⟩ := h9.any
              exact ⟨a, c, e, trivial⟩
            clear hO hD hX
            refine hK.out _ _ ?_ (fun hHeld => ?_)
            · (try dsimp only)
              exact HS.out _ HX2.out
            clear hK K
            try simp only [List.getElem_toArray, List.getElem_cons_zero, List.getElem_cons_succ]
            try simp only [Act.put]
            try simp only [List.setIfInBounds_toArray]
            try simp only [List.set_cons_zero, List.set_cons_succ]
            refine wpAnyU_step (i := 4) (by kernel_rfl) rfl (fun K hK => ?_)
            go_simp
            have HG := Lib.hid (show w5.heap.size ≤ y2.heap.size from HX2.out.sz)
            have HX3 := Lib.hid (HX2.out.al (.cells #[.slice none 0 0] 24))
            have HY3 := Lib.hid (heap_alloc_new y2 (.cells #[.slice none 0 0] 24))
            have HO3 := Lib.hid (HO2.out.ext ((Ext.rf y2).al (.cells #[.slice none 0 0] 24)))
            refine hK.out _ _ ?_ (fun hHeld => ?_)
            · (try dsimp only)
              exact HS.out _ HX3.out
            clear hK K
            try simp only [List.getElem_toArray, List.getElem_cons_zero, List.getElem_cons_succ]
            try simp only [Act.put]
            try simp only [List.setIfInBounds_toArray]
            try simp only [List.set_cons_zero, List.set_cons_succ]
            generalize hyg : y2.alloc (.cells #[.slice none 0 0] 24) = y3 at *
            clear hyg
            generalize y2.heap.size = D at *
            have q0 := cellOf HY3.out 0
            have f0 := freeOf HY3.out 0
            simp only [List.getElem?_toArray, List.getElem?_cons_zero] at q0
            refine wpAnyU_store (i := 5) (by kernel_rfl) rfl (by decide) (fun K hK => ?_)
            go_simp
            refine hK.out _ _ ?_
            clear hK K
            try simp only [Act.put]
            try simp only [List.setIfInBounds_toArray]
            try simp only [List.set_cons_zero, List.set_cons_succ]
            refine wpAnyU_done (by kernel_rfl) ?_
            go_wp2_with fail
            go_meet
            refine ⟨D, rfl, HG.out, (show WrI _ _ _ _ from ?_), (show Ext _ _ from HX3.out.st HG.out _)⟩
            refine ⟨.slice p9 (prefT t (len12C t)).length c9, vv, ve, va, (heap_setCell_same HY3.out).trans (by simp), ?_, ?_⟩
            · have hO := HO3.out.stO HY3.out (by decide) (by decide) (by decide) (by decide) (.slice p9 (prefT t (len12C t)).length c9) (o := 0)
              rw [pref_len12] at hO ⊢
              exact hO
            · have hD := HDD.out
              rw [pref_len12] at hD
              exact hD
          · skip
            go_simp
            have HG := Lib.hid (show w5.heap.size ≤ y1.heap.size from HX1.out.sz)
            have HX2 := Lib.hid (HX1.out.al (.cells #[.slice none 0 0] 24))
            have HY2 := Lib.hid (heap_alloc_new y1 (.cells #[.slice none 0 0] 24))
            have HI2 := Lib.hid (HI1.out.ext ((Ext.rf y1).al (.cells #[.slice none 0 0] 24)))
            refine hK.out _ _ ?_ (fun hHeld => ?_)
            · (try dsimp only)
              exact HS.out _ HX2.out
            clear hK K
            try simp only [List.getElem_toArray, List.getElem_cons_zero, List.getElem_cons_succ]
            try simp only [Act.put]
            try simp only [List.setIfInBounds_toArray]
            try simp only [List.set_cons_zero, List.set_cons_succ]
            generalize hyg : y1.alloc (.cells #[.slice none 0 0] 24) = y2 at *
            clear hyg
            generalize y1.heap.size = D at *
            refine wpAnyU_step (i := 3) (by kernel_rfl) rfl (fun K hK => ?_)
            refine step_callW (by kernel_rfl) 62 _ _ rfl enters_62 [.agg #[.slice ta m tc], .slice a1 (len12C t).length c1] (by first | rfl | kernel_rfl | go_simp) (HCC.out _ _ HX2.out HI2.out) ?_
            rintro e y3 ⟨v9, vv, ve, va, rfl, hO, hD, hX⟩
            refine ⟨_, rfl, ?_⟩
            have HX3 := Lib.hid (HX2.out.trans' hX)
            have HO3 := Lib.hid (hO.mono HX2.out.sz)
            have HDD := Lib.hid hD
            obtain ⟨p9, c9, rfl, _⟩ : ∃ a c, v9 = .slice a (prefT t (len12C t)).length c ∧ True := by
              obtain ⟨_, h9, _⟩ := hO
              obtain ⟨a, c, e, _⟩ := h9.any
              exact ⟨a, c, e, trivial⟩
            have HY3 := Lib.hid (hX.hp HY2.out)
            clear hO hD hX
            refine hK.out _ _ ?_ (fun hHeld => ?_)
            · (try dsimp only)
              exact HS.out _ HX3.out
            clear hK K
            try simp only [List.getElem_toArray, List.getElem_cons_zero, List.getElem_cons_succ]
            try simp only [Act.put]
            try simp only [List.setIfInBounds_toArray]
            try simp only [List.set_cons_zero, List.set_cons_succ]
            have q0 := cellOf HY3.out 0
            have f0 := freeOf HY3.out 0
            simp only [List.getElem?_toArray, List.getElem?_cons_zero] at q0
            refine wpAnyU_store (i := 5) (by kernel_rfl) rfl (by decide) (fun K hK => ?_)
            go_simp
            refine hK.out _ _ ?_
            clear hK K
            try simp only [Act.put]
            try simp only [List.setIfInBounds_toArray]
            try simp only [List.set_cons_zero, List.set_cons_succ]
            refine wpAnyU_done (by kernel_rfl) ?_
            go_wp2_with fail
            go_meet
            refine ⟨D, rfl, HG.out, (show WrI _ _ _ _ from ?_), (show Ext _ _ from HX3.out.st HG.out _)⟩
            refine ⟨.slice p9 (prefT t (len12C t)).length c9, vv, ve, va, (heap_setCell_same HY3.out).trans (by simp), ?_, ?_⟩
            · have hO := HO3.out.stO HY3.out (by decide) (by decide) (by decide) (by decide) (.slice p9 (prefT t (len12C t)).length c9) (o := 0)
              rw [pref_len12] at hO ⊢
              exact hO
            · have hD := HDD.out
              rw [pref_len12] at hD
              exact hD
        · skip
          go_simp
          have HG := Lib.hid (show w5.heap.size ≤ y0.heap.size from HX0.out.sz)
          have HX1 := Lib.hid (HX0.out.al (.cells #[.slice none 0 0] 24))
          have HY1 := Lib.hid (heap_alloc_new y0 (.cells #[.slice none 0 0] 24))
          refine hK.out _ _ ?_ (fun hHeld => ?_)
          · (try dsimp only)
            exact HS.out _ HX1.out
          clear hK K
          try simp only [List.getElem_toArray, List.getElem_cons_zero, List.getElem_cons_succ]
          try simp only [Act.put]
          try simp only [List.setIfInBounds_toArray]
          try simp only [List.set_cons_zero, List.set_cons_succ]
          generalize hyg : y0.alloc (.cells #[.slice none 0 0] 24) = y1 at *
          clear hyg
          generalize y0.heap.size = D at *
          refine wpAnyU_step (i := 2) (by kernel_rfl) rfl (fun K hK => ?_)
          refine step_callW (by kernel_rfl) 63 _ _ rfl enters_63 [.agg #[.slice ta m tc]] (by first | rfl | kernel_rfl | go_simp) (HLC.out _ HX1.out) ?_
          rintro e y2 ⟨u1, rfl, hR, hX⟩
          obtain ⟨a1, c1, rfl, _⟩ := hR.any
          refine ⟨_, rfl, ?_⟩
          have HX2 := Lib.hid (HX1.out.trans' hX)
          have HI2 := Lib.hid hR.ints
          have HY2 := Lib.hid (hX.hp HY1.out)
          clear hR hX
          refine hK.out _ _ ?_ (fun hHeld => ?_)
          · (try dsimp only)
            exact HS.out _ HX2.out
          clear hK K
          try simp only [List.getElem_toArray, List.getElem_cons_zero, List.getElem_cons_succ]
          try simp only [Act.put]
          try simp only [List.setIfInBounds_toArray]
          try simp only [List.set_cons_zero, List.set_cons_succ]
          refine wpAnyU_step (i := 3) (by kernel_rfl) rfl (fun K hK => ?_)
          refine step_callW (by kernel_rfl) 62 _ _ rfl enters_62 [.agg #[.slice ta m tc], .slice a1 (len12C t).length c1] (by first | rfl | kernel_rfl | go_simp) (HCC.out _ _ HX2.out HI2.out) ?_
          rintro e y3 ⟨v9, vv, ve, va, rfl, hO, hD, hX⟩
          refine ⟨_, rfl, ?_⟩
          have HX3 := Lib.hid (HX2.out.trans' hX)
          have HO3 := Lib.hid (hO.mono HX2.out.sz)
          have HDD := Lib.hid hD
          obtain ⟨p9, c9, rfl, _⟩ : ∃ a c, v9 = .slice a (prefT t (len12C t)).length c ∧ True := by
            obtain ⟨_, h9, _⟩ := hO
            obtain ⟨a, c, e, _⟩ := h9.any
            exact ⟨a, c, e, trivial⟩
          have HY3 := Lib.hid (hX.hp HY2.out)
          clear hO hD hX
          refine hK.out _ _ ?_ (fun hHeld => ?_)
          · (try dsimp only)
            exact HS.out _ HX3.out
          clear hK K
          try simp only [List.getElem_toArray, List.getElem_cons_zero, List.getElem_cons_succ]
          try simp only [Act.put]
          try simp only [List.setIfInBounds_toArray]
          try simp only [List.set_cons_zero, List.set_cons_succ]
          have q0 := cellOf HY3.out 0
          have f0 := freeOf HY3.out 0
          simp only [List.getElem?_toArray, List.getElem?_cons_zero] at q0
          refine wpAnyU_store (i := 5) (by kernel_rfl) rfl (by decide) (fun K hK => ?_)
          go_simp
          refine hK.out _ _ ?_
          clear hK K
          try simp only [Act.put]
          try simp only [List.setIfInBounds_toArray]
          try simp only [List.set_cons_zero, List.set_cons_succ]
          refine wpAnyU_done (by kernel_rfl) ?_
          go_wp2_with fail
          go_meet
          refine ⟨D, rfl, HG.out, (show WrI _ _ _ _ from ?_), (show Ext _ _ from HX3.out.st HG.out _)⟩
          refine ⟨.slice p9 (prefT t (len12C t)).length c9, vv, ve, va, (heap_setCell_same HY3.out).trans (by simp), ?_, ?_⟩
          · have hO := HO3.out.stO HY3.out (by decide) (by decide) (by decide) (by decide) (.slice p9 (prefT t (len12C t)).length c9) (o := 0)
            rw [pref_len12] at hO ⊢
            exact hO
          · have hD := HDD.out
            rw [pref_len12] at hD
            exact hD
      case rest =>
        obtain ⟨D, rfl, hGD, HWI, HXC⟩ := hcut
        have HEC := Lib.hid (HE4.out.trans' HXC.out)
        have HYC := Lib.hid (HXC.out.hp HY4.out)
        have HRC2 := Lib.hid (HXC.out.hp HR4.out)
        obtain ⟨iv, hiv, iv0, iv1, iv2⟩ := info_parts info_var
        obtain ⟨ia, hia, ia0, ia1, ia2⟩ := info_parts info_asg
        have hbw : w.heap.size + 1 < w5.heap.size := (Array.getElem?_eq_some_iff.1 HR4.out).1
        clear t0 r0 f0
        go_wp2
        have HM0 : Hid (∃ L, MixL t s l 0 L ∧ WrI wc D w5.heap.size L) := Lib.hid ⟨t, MixL.zero t s l, HWI.out⟩
        obtain ⟨wz, rfl⟩ : ∃ x, x = wr := ⟨_, rfl⟩
        go_loopg [10, 11] m (fun g s10 s11 wr => ∃ p : Nat, p ≤ m ∧ m - p ≤ g ∧ s10 = .bool (fullTo t l p) ∧ s11 = .int .i64 p ∧ Aside (∃ L, MixL t s l p L ∧ WrI wr D w5.heap.size L) ∧ Aside (Ext w5 wr))
        case atStart => exact ⟨0, Nat.zero_le _, by omega, rfl, rfl, (show ∃ L, _ from HM0.out), (show Ext _ _ from HXC.out)⟩
        case round =>
          obtain ⟨p, hp, hg, rfl, rfl, HML, HEK⟩ := hrel
          have HEW := Lib.hid (HE4.out.trans' HEK.out)
          have HYW := Lib.hid (HEK.out.hp HY4.out)
          have HRW := Lib.hid (HEK.out.hp HR4.out)
          have t0 := cellOf HYW.out 0
          have r0 := cellOf HRW.out 0
          have f0 := freeOf HRW.out 0
          simp only [List.getElem?_toArray, List.getElem?_cons_zero] at t0 r0
          obtain ⟨L, hMX, vo, vv, ve, va, hD0, hO, hDi⟩ := HML.out
          have HMX := Lib.hid hMX
          have HD0 := Lib.hid hD0
          have HO := Lib.hid hO
          have HDI := Lib.hid hDi
          clear hMX hO hDi hD0
          by_cases hlt : p < m
          case neg =>
            have hltz : ¬ (p : Int) < (m : Int) := by omega
            obtain rfl : m = p := by omega
            have HFT : Hid (fullTo t l m = ub) := Lib.hid (by rw [← HUB.out]; unfold fullTo fullW; rw [HN.out])
            rw [HFT.out]
            cases ub with
            | true =>
              obtain rfl : E = 5 := HE9.out
              obtain rfl : U = [] := HTN.out (by decide)
              have HR10 := HRW
              have HE10 := HEW
              have r10 := r0
              have f10 := f0
              clear r0 f0 t0
              go_wp2
              have z0 := cellOf (heap_setCell_same (o := 0) (u := .slice none 0 0) HR10.out) 0
              simp only [Array.setIfInBounds, List.size_toArray, List.length_cons, List.length_nil, Nat.zero_lt_succ] at z0
              refine bodyPost_ret (v := .tuple #[.agg #[.slice none 0 0], .int .i64 5]) (by simp [results, Try.results26, go_sem, z0]) rfl ?_
              exact ⟨_, rfl, tr_noneR _, HE10.out.st (by show w.heap.size ≤ w.heap.size + 1; omega) _⟩
            | false =>
              obtain rfl : E = 0 := HE9.out
              have hU := HTD.out rfl
              obtain rfl : L = withT s l t := MixL.done (by rw [HN.out]; exact HMX.out)
              have HOT := Lib.hid HO.out.tr
              obtain ⟨ob, oc, hvo, _⟩ : ∃ a c, vo = .slice a (withT s l t).length c ∧ True := by
                obtain ⟨_, h9, _⟩ := HO.out
                obtain ⟨a, c, e, _⟩ := h9.any
                exact ⟨a, c, e, trivial⟩
              subst hvo
              have c9 := cellOf HD0.out 0
              simp only [List.getElem?_toArray, List.getElem?_cons_zero] at c9
              go_wp2
              have z0 := cellOf (heap_setCell_same (o := 0) (u := .slice ob (withT s l t).length oc) HRW.out) 0
              simp only [Array.setIfInBounds, List.size_toArray, List.length_cons, List.length_nil, Nat.zero_lt_succ] at z0
              refine bodyPost_ret (v := .tuple #[.agg #[.slice ob (withT s l t).length oc], .int .i64 0]) (by simp [results, Try.results26, go_sem, z0]) rfl ?_
              refine ⟨_, rfl, ?_, HEW.out.st (by show w.heap.size ≤ w.heap.size + 1; omega) _⟩
              exact (HO.out.stO HRW.out (by decide) (by decide) (by decide) (by decide) _ (o := 0)).tr
          case pos =>
            have hltz : (p : Int) < (m : Int) := by omega
            have hpz : (0 : Int) ≤ (p : Int) := by omega
            have HQ := Lib.hid (show p < t.length from by rw [HN.out]; exact hlt)
            have HLL := Lib.hid HMX.out.1
            have HLP := Lib.hid (HMX.out.2.2 p (Nat.le_refl _) HQ.out)
            have HQL := Lib.hid (show p < L.length from by rw [HLL.out]; exact HQ.out)
            obtain ⟨g1, o1, k1, rfl, hg1⟩ : ∃ g o c, vo = .slice (some ⟨g, o, none⟩) m c ∧ w5.heap.size ≤ g := by
              obtain ⟨cs, h1, _⟩ := HO.out
              obtain ⟨g, o, c, e, hb, _⟩ := h1.shape (by have := HQL.out; omega)
              exact ⟨g, o, c, by rw [e, HLL.out, HN.out], hb⟩
            have HLm := Lib.hid (HLL.out.trans HN.out)
            obtain ⟨x1, x2⟩ := HO.out.cellsAt HLm.out.symm HQL.out
            obtain ⟨va1, vc1, hvv, _⟩ : ∃ a c, vv p = .slice a t[p]!.vars.length c ∧ True := by
              obtain ⟨cs, _, _, h3⟩ := HO.out
              obtain ⟨a, c, e, _⟩ := (h3 p HQL.out).1.any
              exact ⟨a, c, by rw [e, HLP.out], trivial⟩
            have HVV := Lib.hid hvv
            rw [hvv] at x1
            obtain ⟨B, O, C, xv, xe, hve, hlC, hB, hn0, hv0, he0, hV, hE0⟩ := proc_at HT.out p HQ.out
            simp only [Value.slice.injEq] at hve
            obtain ⟨rfl, hzz, rfl⟩ := hve
            obtain ⟨xa, xc, rfl, hxc⟩ := hV.sh
            have v1 := HEW.out.cl hv0
            obtain ⟨rb, ro, sv, sc, rfl, hr0, hi0⟩ := rowl_at HW.out p (by rw [HM.out]; exact hlt)
            have HII := Lib.hid hi0
            have HLE := Lib.hid (HFL.out p (by rw [HM.out]; exact hlt))
            have hlb1 := HLB.out p (by rw [HM.out]; exact hlt)
            obtain ⟨cb, co, rfl, hcb, hcp⟩ := ints_at hi0 0 (by rw [HLE.out]; omega)
            have HR0 := Lib.hid hr0
            have HC0 := Lib.hid hcp
            have r1 := HEW.out.cl hr0
            have d1 := HEW.out.cl hcp
            rw [HLE.out] at hlb1 r1 HR0
            rw [Nat.add_zero] at d1
            have d0 := cellOf HD0.out 0
            simp only [List.getElem?_toArray, List.getElem?_cons_zero] at d0
            have hnv1 := (HLS.out.2 p HQ.out).1
            have HFI : Hid (fullIn (fullTo t l p) l[p]! t[p]! 0 = (fullTo t l p || decide (8 ≤ t[p]!.vars.length))) := Lib.hid (fullIn_zero _ _ _)
            have HFN : Hid (fullIn (fullTo t l p) l[p]! t[p]! t[p]!.events.length = fullTo t l (p + 1)) := Lib.hid (by rw [fullIn_all, fullTo_succ])
            obtain ⟨nv, hnv⟩ : ∃ n, t[p]!.vars.length = n := ⟨_, rfl⟩
            have HNV := Lib.hid hnv
            obtain ⟨ne, hne⟩ : ∃ n, t[p]!.events.length = n := ⟨_, rfl⟩
            have HNE := Lib.hid hne
            obtain ⟨fb, hfb⟩ : ∃ b, fullTo t l p = b := ⟨_, rfl⟩
            rw [hnv] at x1 v1 hnv1 HFI HVV
            rw [hfb] at HFI HFN ⊢
            rw [hne] at hlb1 r1 HR0 HFN HLE
            have hlr1 : D < wr.heap.size := (Array.getElem?_eq_some_iff.1 HD0.out).1
            clear hn0 hv0 he0 hV hE0 hzz hr0 hi0 hcp hnv hne hfb hvv hxc hlC hB hcb
            go_upto_region 20 with (fail)
            go_cut [10] (fun s10 wx => s10 = .bool (fb || decide (8 ≤ nv)) ∧ wx = wr)
            case first =>
              cases fb with
              | true =>
                go_wp2
                go_meet
                exact ⟨by simp, rfl⟩
              | false =>
                go_wp2
                go_meet
                exact ⟨by simp; omega, rfl⟩
            case rest =>
            obtain ⟨rfl, rfl⟩ := hcut
            obtain ⟨ws, rfl⟩ : ∃ x, x = wc := ⟨_, rfl⟩
            have hxr : g1 < ws.heap.size := World.block_lt_of_cell? ws _ x1
            have fD := freeOf HD0.out 0
            have HSS : Hid (∀ W, W.cell? ⟨D, 0, none⟩ = some (.slice (some ⟨g1, o1, none⟩) m k1) → W.cell? ⟨g1, o1 + p * 3 + 1, none⟩ = some (.slice va1 nv vc1) → Ext w W → W.cell? ⟨D, 0, none⟩ = some (.slice (some ⟨g1, o1, none⟩) m k1) ∧ W.cell? ⟨g1, o1 + p * 3 + 1, none⟩ = some (.slice va1 nv vc1) ∧ W.cell? ⟨rb, ro + p, none⟩ = some (.slice (some ⟨cb, co, none⟩) (ne + 1) sc) ∧ W.cell? ⟨cb, co, none⟩ = some (.int .i64 (l[p]!)[0]!)) := Lib.hid (fun W h1 h2 hW => ⟨h1, h2, hW.cl HR0.out, by have := hW.cl HC0.out; rw [Nat.add_zero] at this; exact this⟩)
            generalize hz0 : (l[p]!)[0]! = z0 at *
            have HZ0 := Lib.hid hz0
            clear hz0
            go_wp2
            refine wp_region_tail (fun W => W.cell? ⟨D, 0, none⟩ = some (.slice (some ⟨g1, o1, none⟩) m k1) ∧ W.cell? ⟨g1, o1 + p * 3 + 1, none⟩ = some (.slice va1 nv vc1) ∧ W.cell? ⟨rb, ro + p, none⟩ = some (.slice (some ⟨cb, co, none⟩) (ne + 1) sc) ∧ W.cell? ⟨cb, co, none⟩ = some (.int .i64 z0)) 21 (by kernel_rfl) ⟨d0, x1, r1, d1⟩ (fun hHeld => ?_)
            have HET := Lib.hid (show Ext ws ws.drew from (Ext.rf ws).dr)
            generalize ws.drew = wT at *
            refine wpAnyT_take (i := 0) (d := some 66) (v := ?_) rfl rfl (by kernel_rfl) (by kernel_rfl) (by kernel_rfl) (by kernel_rfl) (fun _ _ _ h => h) (Or.inl ⟨by rfl, ?_⟩) (by assumption) ?_
            rotate_left
            · (intro w hSw; (try dsimp only at hSw); go_simp; try (with_reducible rfl))
            try simp only [Act.put]
            try simp only [List.setIfInBounds_toArray]
            try simp only [List.set_cons_zero, List.set_cons_succ]
            refine wpAnyT_take (i := 1) (d := some 67) (v := ?_) rfl rfl (by kernel_rfl) (by kernel_rfl) (by kernel_rfl) (by kernel_rfl) (fun _ _ _ h => h) (Or.inl ⟨by rfl, ?_⟩) (by assumption) ?_
            rotate_left
            · (intro w hSw; (try dsimp only at hSw); go_simp; try (with_reducible rfl))
            try simp only [Act.put]
            try simp only [List.setIfInBounds_toArray]
            try simp only [List.set_cons_zero, List.set_cons_succ]
            refine wpAnyT_take (i := 2) (d := some 68) (v := ?_) rfl rfl (by kernel_rfl) (by kernel_rfl) (by kernel_rfl) (by kernel_rfl) (fun _ _ _ h => h) (Or.inl ⟨by rfl, ?_⟩) (by assumption) ?_
            rotate_left
            · (intro w hSw; (try dsimp only at hSw); go_simp; try (with_reducible rfl))
            try simp only [Act.put]
            try simp only [List.setIfInBounds_toArray]
            try simp only [List.set_cons_zero, List.set_cons_succ]
            refine wpAnyT_take (i := 3) (d := some 69) (v := ?_) rfl rfl (by kernel_rfl) (by kernel_rfl) (by kernel_rfl) (by kernel_rfl) (fun _ _ _ h => h) (Or.inl ⟨by rfl, ?_⟩) (by assumption) ?_
            rotate_left
            · (intro w hSw; (try dsimp only at hSw); go_simp; try (with_reducible rfl))
            try simp only [Act.put]
            try simp only [List.setIfInBounds_toArray]
            try simp only [List.set_cons_zero, List.set_cons_succ]
            refine wpAnyT_take (i := 4) (d := some 70) (v := ?_) rfl rfl (by kernel_rfl) (by kernel_rfl) (by kernel_rfl) (by kernel_rfl) (fun _ _ _ h => h) (Or.inl ⟨by rfl, ?_⟩) (by assumption) ?_
            rotate_left
            · (intro w hSw; (try dsimp only at hSw); go_simp; try (with_reducible rfl))
            try simp only [Act.put]
            try simp only [List.setIfInBounds_toArray]
            try simp only [List.set_cons_zero, List.set_cons_succ]
            refine wpAnyT_take (i := 5) (d := some 71) (v := ?_) rfl rfl (by kernel_rfl) (by kernel_rfl) (by kernel_rfl) (by kernel_rfl) (fun _ _ _ h => h) (Or.inl ⟨by rfl, ?_⟩) (by assumption) ?_
            rotate_left
            · (intro w hSw; (try dsimp only at hSw); go_simp; try (with_reducible rfl))
            try simp only [Act.put]
            try simp only [List.setIfInBounds_toArray]
            try simp only [List.set_cons_zero, List.set_cons_succ]
            refine wpAnyT_take (i := 6) (d := some 72) (v := ?_) rfl rfl (by kernel_rfl) (by kernel_rfl) (by kernel_rfl) (by kernel_rfl) (fun _ _ _ h => h) (Or.inl ⟨by rfl, ?_⟩) (by assumption) ?_
            rotate_left
            · (intro w hSw; (try dsimp only at hSw); go_simp; try (with_reducible rfl))
            try simp only [Act.put]
            try simp only [List.setIfInBounds_toArray]
            try simp only [List.set_cons_zero, List.set_cons_succ]
            refine wpAnyT_take (i := 7) (d := some 73) (v := ?_) rfl rfl (by kernel_rfl) (by kernel_rfl) (by kernel_rfl) (by kernel_rfl) (fun _ _ _ h => h) (Or.inl ⟨by rfl, ?_⟩) (by assumption) ?_
            rotate_left
            · (intro w hSw; (try dsimp only at hSw); go_simp; try (with_reducible rfl))
            try simp only [Act.put]
            try simp only [List.setIfInBounds_toArray]
            try simp only [List.set_cons_zero, List.set_cons_succ]
            refine wpAnyT_take (i := 8) (d := some 74) (v := ?_) rfl rfl (by kernel_rfl) (by kernel_rfl) (by kernel_rfl) (by kernel_rfl) (fun _ _ _ h => h) (Or.inl ⟨by rfl, ?_⟩) (by assumption) ?_
            rotate_left
            · (intro w hSw; (try dsimp only at hSw); go_simp; try (with_reducible rfl))
            try simp only [Act.put]
            try simp only [List.setIfInBounds_toArray]
            try simp only [List.set_cons_zero, List.set_cons_succ]
            refine wpAnyT_take (i := 9) (d := some 75) (v := ?_) rfl rfl (by kernel_rfl) (by kernel_rfl) (by kernel_rfl) (by kernel_rfl) (fun _ _ _ h => h) (Or.inl ⟨by rfl, ?_⟩) (by assumption) ?_
            rotate_left
            · (intro w hSw; (try dsimp only at hSw); go_simp; try (with_reducible rfl))
            try simp only [Act.put]
            try simp only [List.setIfInBounds_toArray]
            try simp only [List.set_cons_zero, List.set_cons_succ]
            refine wpAnyT_take (i := 10) (d := some 76) (v := ?_) rfl rfl (by kernel_rfl) (by kernel_rfl) (by kernel_rfl) (by kernel_rfl) (fun _ _ _ h => h) (Or.inl ⟨by rfl, ?_⟩) (by assumption) ?_
            rotate_left
            · (intro w hSw; (try dsimp only at hSw); go_simp; try (with_reducible rfl))
            try simp only [Act.put]
            try simp only [List.setIfInBounds_toArray]
            try simp only [List.set_cons_zero, List.set_cons_succ]
            refine wpAnyT_take (i := 11) (d := some 77) (v := ?_) rfl rfl (by kernel_rfl) (by kernel_rfl) (by kernel_rfl) (by kernel_rfl) (fun _ _ _ h => h) (Or.inl ⟨by rfl, ?_⟩) (by assumption) ?_
            rotate_left
            · (intro w hSw; (try dsimp only at hSw); go_simp; try (with_reducible rfl))
            try simp only [Act.put]
            try simp only [List.setIfInBounds_toArray]
            try simp only [List.set_cons_zero, List.set_cons_succ]
            refine wpAnyT_take (i := 12) (d := some 78) (v := ?_) rfl rfl (by kernel_rfl) (by kernel_rfl) (by kernel_rfl) (by kernel_rfl) (fun _ _ _ h => h) (Or.inl ⟨by rfl, ?_⟩) (by assumption) ?_
            rotate_left
            · (intro w hSw; (try dsimp only at hSw); go_simp; try (with_reducible rfl))
            try simp only [Act.put]
            try simp only [List.setIfInBounds_toArray]
            try simp only [List.set_cons_zero, List.set_cons_succ]
            refine wpAnyT_take (i := 13) (d := some 79) (v := ?_) rfl rfl (by kernel_rfl) (by kernel_rfl) (by kernel_rfl) (by kernel_rfl) (fun _ _ _ h => h) (Or.inl ⟨by rfl, ?_⟩) (by assumption) ?_
            rotate_left
            · (intro w hSw; (try dsimp only at hSw); go_simp; try (with_reducible rfl))
            try simp only [Act.put]
            try simp only [List.setIfInBounds_toArray]
            try simp only [List.set_cons_zero, List.set_cons_succ]
            refine wpAnyT_take (i := 14) (d := some 80) (v := ?_) rfl rfl (by kernel_rfl) (by kernel_rfl) (by kernel_rfl) (by kernel_rfl) (fun _ _ _ h => h) (Or.inl ⟨by rfl, ?_⟩) (by assumption) ?_
            rotate_left
            · (intro w hSw; (try dsimp only at hSw); go_simp; try (with_reducible rfl))
            try simp only [Act.put]
            try simp only [List.setIfInBounds_toArray]
            try simp only [List.set_cons_zero, List.set_cons_succ]
            refine wpAnyT_take (i := 15) (d := some 81) (v := ?_) rfl rfl (by kernel_rfl) (by kernel_rfl) (by kernel_rfl) (by kernel_rfl) (fun _ _ _ h => h) (Or.inl ⟨by rfl, ?_⟩) (by assumption) ?_
            rotate_left
            · (intro w hSw; (try dsimp only at hSw); go_simp; try (with_reducible rfl))
            try simp only [Act.put]
            try simp only [List.setIfInBounds_toArray]
            try simp only [List.set_cons_zero, List.set_cons_succ]
            refine wpAnyT_take (i := 16) (d := some 82) (v := ?_) rfl rfl (by kernel_rfl) (by kernel_rfl) (by kernel_rfl) (by kernel_rfl) (fun _ _ _ h => h) (Or.inl ⟨by rfl, ?_⟩) (by assumption) ?_
            rotate_left
            · (intro w hSw; (try dsimp only at hSw); go_simp; try (with_reducible rfl))
            try simp only [Act.put]
            try simp only [List.setIfInBounds_toArray]
            try simp only [List.set_cons_zero, List.set_cons_succ]
            refine wpAnyT_step (i := 17) (by kernel_rfl) rfl (fun K hK => ?_)
            go_simp
            refine hK.out _ _ ?_ (fun hHeld => ?_)
            · (try dsimp only)
              go_keep
            clear hK K
            try simp only [Act.put]
            try simp only [List.setIfInBounds_toArray]
            try simp only [List.set_cons_zero, List.set_cons_succ]
            refine wpAnyT_step (i := 18) (by kernel_rfl) rfl (fun K hK => ?_)
            have hEB := Lib.hid ((HET.out).al (.cells #[.string s, .int .i64 z0] 52))
            have HOV : Hid (Row ws w5.heap.size 52 2 (.slice va1 nv vc1) nv (t[p]!.vars.flatMap vrC)) := Lib.hid (by
              obtain ⟨_, _, _, h3⟩ := HO.out
              have h := (h3 p HQL.out).1
              rw [HLP.out, HVV.out, RowV, HNV.out] at h
              exact h)
            refine step_append_rowN rfl _ _ 44 rfl w5.heap.size 52 iv (.agg #[.string ⟨#[]⟩, .int .i64 0]) 2 24 Try.underlying44 hiv iv0 iv1 iv2 rfl (by decide) (.slice va1 nv vc1) nv (t[p]!.vars.flatMap vrC) rfl (HOV.out.ext hEB.out) wT.heap.size 1 [.string s, .int .i64 z0] rfl rfl ⟨_, heap_alloc_new _ _⟩ (by simp [Value.oneCell']) (by unfold maxLen; omega) (by omega) ((HEK.out.trans' hEB.out).sz) ?_
            intro v8 w8 hown8 hgrow8 hblk8
            obtain ⟨a8, c8, rfl, _⟩ := hown8.any
            have HG8 := Lib.hid (grown_from hEB.out hgrow8)
            have HOWN := Lib.hid hown8
            have HBK : Hid ((Value.slice a8 (nv + 1) c8).ownBlock = (Value.slice va1 nv vc1).ownBlock ∨ ∃ k, (Value.slice a8 (nv + 1) c8).ownBlock = some k ∧ ws.heap.size ≤ k) := Lib.hid (hblk8.imp id (fun ⟨k, h1, h2⟩ => ⟨k, h1, Nat.le_trans hEB.out.sz h2⟩))
            have HX8 := Lib.hid ((HEK.out.trans' hEB.out).gr hgrow8 (fun q hq => (HOV.out.lt q hq).1))
            have HD8 := Lib.hid (heap_keptT HD0.out HG8.out (fun q hq => by have := HOV.out.notBox HD0.out (by decide); exact fun e => this (by rw [hq, e])))
            have HP8 : Hid (w8.cell? ⟨g1, o1 + p * 3 + 1, none⟩ = some (.slice va1 nv vc1) ∧ w8.frozen? ⟨g1, o1 + p * 3 + 1, none⟩ = false) := Lib.hid (by
              obtain ⟨cs, h1, h2, h3⟩ := HO.out
              rw [HLm.out] at h1
              have h4 := h1.grown HG8.out (h1.apart HOV.out (by decide))
              have e := h4.cell (p * 3 + 1) (by omega)
              rw [drop_take_get (h2.2 p HQL.out) (by omega)] at e
              exact ⟨by rw [Nat.add_assoc, e]; exact congrArg some HVV.out, by rw [Nat.add_assoc]; exact h4.free _⟩)
            obtain ⟨e1, e2⟩ := HP8.out
            have e0 := cellOf HD8.out 0
            simp only [List.getElem?_toArray, List.getElem?_cons_zero] at e0
            clear hown8 hgrow8 hblk8
            refine hK.out _ _ ?_ (fun hHeld => ?_)
            · (try dsimp only)
              exact HSS.out _ e0 e1 (HE4.out.trans' HX8.out)
            clear hK K
            try simp only [Act.put]
            try simp only [List.setIfInBounds_toArray]
            try simp only [List.set_cons_zero, List.set_cons_succ]
            refine wpAnyT_take (i := 19) (d := some 85) (v := ?_) rfl rfl (by kernel_rfl) (by kernel_rfl) (by kernel_rfl) (by kernel_rfl) (fun _ _ _ h => h) (Or.inl ⟨by rfl, ?_⟩) (by assumption) ?_
            rotate_left
            · (intro w hSw; (try dsimp only at hSw); go_simp; try (with_reducible rfl))
            try simp only [Act.put]
            try simp only [List.setIfInBounds_toArray]
            try simp only [List.set_cons_zero, List.set_cons_succ]
            refine wpAnyT_take (i := 20) (d := some 86) (v := ?_) rfl rfl (by kernel_rfl) (by kernel_rfl) (by kernel_rfl) (by kernel_rfl) (fun _ _ _ h => h) (Or.inl ⟨by rfl, ?_⟩) (by assumption) ?_
            rotate_left
            · (intro w hSw; (try dsimp only at hSw); go_simp; try (with_reducible rfl))
            try simp only [Act.put]
            try simp only [List.setIfInBounds_toArray]
            try simp only [List.set_cons_zero, List.set_cons_succ]
            refine wpAnyT_last (by kernel_rfl) rfl (by kernel_rfl) (fun K hK => ?_)
            go_simp
            refine hK.out _ _ ?_
            go_wp2_with fail
            have HDG : Hid (D ≠ g1) := Lib.hid (fun e => by
              obtain ⟨cs, h1, _⟩ := HO.out
              obtain ⟨cur, fr, hg⟩ := own_heap h1
              have h0 := HD0.out
              rw [e, hg] at h0
              simp at h0)
            have HJ0 : Hid (WrJ (w8.setCell ⟨g1, o1 + p * 3 + 1, none⟩ (.slice a8 (nv + 1) c8)) D w5.heap.size (.slice (some ⟨g1, o1, none⟩) m k1) (L.set p (midP s l[p]! t[p]! 0))) := Lib.hid (by
              have hO' : OwnP ws w5.heap.size (.slice (some ⟨g1, o1, none⟩) L.length k1) L vv ve va := by rw [HLm.out]; exact HO.out
              have hr : RowV w8 w5.heap.size (.slice a8 (nv + 1) c8) (t[p]!.vars ++ [⟨s, (l[p]!)[0]!⟩]) := by
                rw [RowV, List.length_append, List.length_singleton, HNV.out, List.flatMap_append, HZ0.out]
                exact HOWN.out
              have h := hO'.vars HDI.out HQL.out hr (by rw [HVV.out]; exact HG8.out) (by rw [HVV.out]; exact HBK.out)
              rw [HMX.out.mid HQ.out, HLm.out, ← Nat.add_assoc] at h
              exact ⟨_, _, _, (Below.heap_setCell w8 ⟨g1, o1 + p * 3 + 1, none⟩ _ D HDG.out).trans HD8.out, h.1, h.2⟩)
            have HXJ := Lib.hid (show Ext w5 (w8.setCell ⟨g1, o1 + p * 3 + 1, none⟩ (.slice a8 (nv + 1) c8)) from HX8.out.st hg1 _)
            generalize w8.setCell ⟨g1, o1 + p * 3 + 1, none⟩ (.slice a8 (nv + 1) c8) = w9 at *
            rw [← HFI.out]
            clear e0 e1 e2 HP8 HD8 HX8 HG8 HBK HOWN HOV HET HSS hHeld t0 r0 f0 x1 x2 v1 r1 d1 d0 fD hxr HFI
            go_loopg [10, 13] ne (fun g2 s10 s13 wr => ∃ k : Nat, k ≤ ne ∧ ne - k ≤ g2 ∧ s10 = .bool (fullIn fb l[p]! t[p]! k) ∧ s13 = .int .i64 ((k : Int) + 1) ∧ Aside (WrJ wr D w5.heap.size (.slice (some ⟨g1, o1, none⟩) m k1) (L.set p (midP s l[p]! t[p]! k))) ∧ Aside (Ext w5 wr))
            case atStart => exact ⟨0, Nat.zero_le _, by omega, rfl, by go_num, (show WrJ _ _ _ _ _ from HJ0.out), (show Ext _ _ from HXJ.out)⟩
            case round =>
              obtain ⟨k, hk, hg2, rfl, rfl, HJ, HEK3⟩ := hrel
              have HEW3 := Lib.hid (HE4.out.trans' HEK3.out)
              have r1 := HEW3.out.cl HR0.out
              by_cases hlk : k < ne
              case neg =>
                have hlkz : ¬ (k : Int) < (ne : Int) := by omega
                obtain rfl : ne = k := by omega
                have HJN : Hid (∃ L, MixL t s l (p + 1) L ∧ WrI wr D w5.heap.size L) := Lib.hid (by
                  obtain ⟨vv, ve, va, h1, h2, h3⟩ := HJ.out
                  exact ⟨_, HMX.out.next HQ.out (by rw [HNE.out]; exact Nat.le_refl _), _, vv, ve, va, h1, h2, h3⟩)
                rw [HFN.out]
                go_wp2
                go_roundg (m - (p + 1))
                case measure => exact Nat.lt_of_lt_of_le (Nat.sub_lt_sub_left hlt (Nat.lt_succ_self p)) hg
                case rel => exact ⟨p + 1, hlt, Nat.le_refl _, rfl, by go_num, (show ∃ L, _ from HJN.out), (show Ext _ _ from HEK3.out)⟩
              case pos =>
                have hlkz : (k : Int) < (ne : Int) := by omega
                have hkz : (0 : Int) ≤ (k : Int) := by omega
                have hkz1 : (0 : Int) ≤ (k : Int) + 1 := by omega
                obtain ⟨cb1, co1, he1, _, hcp1⟩ := ints_at HII.out k (by rw [HLE.out]; omega)
                obtain ⟨cb2, co2, he2, _, hcp2⟩ := ints_at HII.out (k + 1) (by rw [HLE.out]; omega)
                simp only [Option.some.injEq, Addr.mk.injEq, and_true] at he1 he2
                obtain ⟨rfl, rfl⟩ := he1
                obtain ⟨rfl, rfl⟩ := he2
                have HK1 := Lib.hid hcp1
                have HK2 := Lib.hid hcp2
                have y1 := HEW3.out.cl hcp1
                have y2 := HEW3.out.cl hcp2
                clear hcp1 hcp2
                by_cases heq : (l[p]!)[k + 1]! = (l[p]!)[k]!
                · have HFE : Hid (fullIn fb l[p]! t[p]! (k + 1) = fullIn fb l[p]! t[p]! k) := Lib.hid (by
                    rw [fullIn_succ]; unfold fullE; rw [heq]; simp)
                  have HMS : Hid (midP s l[p]! t[p]! (k + 1) = midP s l[p]! t[p]! k) := Lib.hid (mid_same heq)
                  rw [heq] at y2
                  generalize (l[p]!)[k]! = z1 at *
                  have hzz : (z1 == z1) = true := by simp
                  clear heq
                  go_wp2
                  go_region
                  go_wp2
                  go_roundg (ne - (k + 1))
                  case measure => omega
                  case rel => exact ⟨k + 1, by omega, by omega, by rw [HFE.out], by go_num, (show WrJ _ _ _ _ _ from by rw [HMS.out]; exact HJ.out.ext ((Ext.rf _).dr)), (show Ext _ _ from HEK3.out.dr)⟩
                · have HNE2 := Lib.hid heq
                  obtain ⟨vv2, ve2, va2, hd2, hO2, hDi2⟩ := HJ.out
                  have HD2 := Lib.hid hd2
                  have HO2 := Lib.hid hO2
                  have HDI2 := Lib.hid hDi2
                  have HQ2 : Hid (p < (L.set p (midP s l[p]! t[p]! k)).length) := Lib.hid (by rw [List.length_set]; exact HQL.out)
                  have HLm2 : Hid ((L.set p (midP s l[p]! t[p]! k)).length = m) := Lib.hid (by rw [List.length_set]; exact HLm.out)
                  have HLP2 : Hid ((L.set p (midP s l[p]! t[p]! k))[p]! = midP s l[p]! t[p]! k) := Lib.hid (list_set_at HQL.out _)
                  have HKE := Lib.hid (show k < t[p]!.events.length from by rw [HNE.out]; exact hlk)
                  have HEVL : Hid ((midP s l[p]! t[p]! k).events.length = ne) := Lib.hid (by rw [show (midP s l[p]! t[p]! k).events = mixV t[p]!.vars.length l[p]! t[p]!.events k from rfl, mixV_len, HNE.out])
                  have HEVK : Hid ((midP s l[p]! t[p]! k).events[k]! = t[p]!.events[k]!) := Lib.hid (mixV_here HKE.out)
                  obtain ⟨es, eg, eo, ec, hre, hec, hve2, hra⟩ : ∃ es eg eo ec, Row wr w5.heap.size 55 5 (.slice (some ⟨eg, eo, none⟩) ne ec) ne es ∧ EvC es (midP s l[p]! t[p]! k).events (va2 p) ∧ ve2 p = .slice (some ⟨eg, eo, none⟩) ne ec ∧ RowA wr w5.heap.size (va2 p k) t[p]!.events[k]!.asg := by
                    obtain ⟨_, _, _, h3⟩ := HO2.out
                    obtain ⟨es, h1, h2, h4⟩ := (h3 p HQ2.out).2
                    rw [HLP2.out] at h1 h2 h4
                    rw [HEVL.out] at h1 h4
                    have h5 := h4 k hlk
                    rw [HEVK.out] at h5
                    obtain ⟨g, o, c, e, _⟩ := h1.shape (by omega)
                    rw [e] at h1
                    exact ⟨es, g, o, c, h1, h2, e, h5⟩
                  have HRE := Lib.hid hre
                  have HECC := Lib.hid hec
                  have HVE := Lib.hid hve2
                  have hx3 := (HO2.out.cellsAt HLm2.out.symm HQ2.out).2
                  rw [hve2] at hx3
                  obtain ⟨ev0, ev1, ev2, ev3, ev4⟩ := evCells hre hec HEVL.out.symm (by rw [HEVL.out]; exact hlk)
                  rw [HEVK.out] at ev0 ev1 ev2 ev3
                  obtain ⟨aa, ac, hva, _⟩ : ∃ a c, va2 p k = .slice a t[p]!.events[k]!.asg.length c ∧ True := by
                    obtain ⟨a, c, e, _⟩ := hra.any
                    exact ⟨a, c, e, trivial⟩
                  have HVA := Lib.hid hva
                  rw [hva] at ev4 hra
                  have hna := (HLS.out.2 p HQ.out).2 k HKE.out
                  have HFS : Hid (fullIn fb l[p]! t[p]! (k + 1) = (fullIn fb l[p]! t[p]! k || decide (8 ≤ t[p]!.events[k]!.asg.length))) := Lib.hid (by
                    rw [fullIn_succ]; unfold fullE; rw [bne_iff_ne.2 HNE2.out, Bool.true_and])
                  have HMN := Lib.hid (fun (b : List Asg) (hb : b = t[p]!.events[k]!.asg ++ [⟨(t[p]!.vars.length : Int), (l[p]!)[k + 1]!⟩]) => (by rw [hb]; exact mid_new HQL.out HKE.out HNE2.out : (L.set p (midP s l[p]! t[p]! k)).set p { (L.set p (midP s l[p]! t[p]! k))[p]! with events := (L.set p (midP s l[p]! t[p]! k))[p]!.events.set k { (L.set p (midP s l[p]! t[p]! k))[p]!.events[k]! with asg := b } } = L.set p (midP s l[p]! t[p]! (k + 1))))
                  obtain ⟨AL, hAL⟩ : ∃ x, t[p]!.events[k]!.asg = x := ⟨_, rfl⟩
                  rw [hAL] at ev4 hra hva HVA hna HFS HMN
                  obtain ⟨na, hnaE⟩ : ∃ n, AL.length = n := ⟨_, rfl⟩
                  have HNA := Lib.hid hnaE
                  rw [RowA] at hra
                  rw [hnaE] at ev4 hra hva HVA hna HFS
                  have HRA := Lib.hid hra
                  generalize hq0 : t[p]!.events[k]!.kind = q0 at *
                  have HQV0 := Lib.hid hq0
                  clear hq0
                  generalize hq1 : t[p]!.events[k]!.peer = q1 at *
                  have HQV1 := Lib.hid hq1
                  clear hq1
                  generalize hq2 : t[p]!.events[k]!.msg = q2 at *
                  have HQV2 := Lib.hid hq2
                  clear hq2
                  generalize hq3 : t[p]!.events[k]!.time = q3 at *
                  have HQV3 := Lib.hid hq3
                  clear hq3
                  generalize (l[p]!)[k + 1]! = z2 at *
                  generalize (l[p]!)[k]! = z1 at *
                  have hneb : (z2 == z1) = false := by rw [beq_eq_false_iff_ne]; exact heq
                  have d2 := cellOf hd2 0
                  simp only [List.getElem?_toArray, List.getElem?_cons_zero] at d2
                  obtain ⟨fk, hfk⟩ : ∃ b, fullIn fb l[p]! t[p]! k = b := ⟨_, rfl⟩
                  rw [hfk] at HFS ⊢
                  obtain ⟨fk1, hfk1⟩ : ∃ b, fullIn fb l[p]! t[p]! (k + 1) = b := ⟨_, rfl⟩
                  have HFK1 := Lib.hid hfk1
                  rw [hfk1] at HFS
                  clear hfk hfk1
                  clear heq hre hec hve2 hva hAL hnaE hd2 hO2 hDi2
                  go_wp2
                  go_region
                  go_upto_region 27 with (fail)
                  go_cut [10] (fun s10 wx => s10 = .bool fk1 ∧ wx = wr.drew.alloc (.cells #[.int .i64 q0, .int .i64 q1, .int .i64 q2, .int .i64 q3, .slice aa na ac] 55))
                  case first =>
                    cases fk with
                    | true =>
                      go_wp2
                      go_meet
                      exact ⟨by rw [HFS.out]; simp, rfl⟩
                    | false =>
                      go_wp2
                      go_meet
                      exact ⟨by rw [HFS.out]; simp; omega, rfl⟩
                  case rest =>
                  obtain ⟨rfl, rfl⟩ := hcut
                  have HXA := Lib.hid (((Ext.rf wr).dr).al (.cells #[.int .i64 q0, .int .i64 q1, .int .i64 q2, .int .i64 q3, .slice aa na ac] 55))
                  have HBX := Lib.hid (show (wr.drew.alloc (.cells #[.int .i64 q0, .int .i64 q1, .int .i64 q2, .int .i64 q3, .slice aa na ac] 55)).heap[wr.heap.size]? = some (.cells #[.int .i64 q0, .int .i64 q1, .int .i64 q2, .int .i64 q3, .slice aa na ac] 55) from heap_alloc_new wr.drew _)
                  obtain ⟨X, hX⟩ : ∃ X, wr.heap.size = X := ⟨_, rfl⟩
                  have HXX := Lib.hid hX
                  rw [hX] at HBX
                  have hX2 : wr.drew.heap.size = X := hX
                  simp only [hX2, hX]
                  generalize wr.drew.alloc (.cells #[.int .i64 q0, .int .i64 q1, .int .i64 q2, .int .i64 q3, .slice aa na ac] 55) = wA at *
                  have s4 := cellOf HBX.out 4
                  have g4 := freeOf HBX.out 4
                  simp only [List.getElem?_toArray, List.getElem?_cons_zero, List.getElem?_cons_succ] at s4
                  have HEWA := Lib.hid (HEW3.out.trans' HXA.out)
                  have u1 := HEWA.out.cl HR0.out
                  have u2 := HEWA.out.cl HK2.out
                  have hrx := World.block_lt_of_cell? wA _ s4
                  clear hX hX2 r1 y1 y2 hx3 ev0 ev1 ev2 ev3 ev4 d2 hneb
                  go_wp2
                  refine wp_region_tail (fun W => W.cell? ⟨X, 4, none⟩ = some (.slice aa na ac) ∧ W.cell? ⟨rb, ro + p, none⟩ = some (.slice (some ⟨cb, co, none⟩) (ne + 1) sc) ∧ W.cell? ⟨cb, co + (k + 1), none⟩ = some (.int .i64 z2)) 14 (by kernel_rfl) ⟨s4, u1, u2⟩ (fun hHeld => ?_)
                  have HET := Lib.hid (show Ext wA wA.drew from (Ext.rf wA).dr)
                  generalize wA.drew = wT at *
                  refine wpAnyT_take (i := 0) (d := some 129) (v := ?_) rfl rfl (by kernel_rfl) (by kernel_rfl) (by kernel_rfl) (by kernel_rfl) (fun _ _ _ h => h) (Or.inl ⟨by rfl, ?_⟩) (by assumption) ?_
                  rotate_left
                  · (intro w hSw; (try dsimp only at hSw); go_simp; try (with_reducible rfl))
                  try simp only [Act.put]
                  try simp only [List.setIfInBounds_toArray]
                  try simp only [List.set_cons_zero, List.set_cons_succ]
                  refine wpAnyT_take (i := 1) (d := some 130) (v := ?_) rfl rfl (by kernel_rfl) (by kernel_rfl) (by kernel_rfl) (by kernel_rfl) (fun _ _ _ h => h) (Or.inl ⟨by rfl, ?_⟩) (by assumption) ?_
                  rotate_left
                  · (intro w hSw; (try dsimp only at hSw); go_simp; try (with_reducible rfl))
                  try simp only [Act.put]
                  try simp only [List.setIfInBounds_toArray]
                  try simp only [List.set_cons_zero, List.set_cons_succ]
                  refine wpAnyT_take (i := 2) (d := some 131) (v := ?_) rfl rfl (by kernel_rfl) (by kernel_rfl) (by kernel_rfl) (by kernel_rfl) (fun _ _ _ h => h) (Or.inl ⟨by rfl, ?_⟩) (by assumption) ?_
                  rotate_left
                  · (intro w hSw; (try dsimp only at hSw); go_simp; try (with_reducible rfl))
                  try simp only [Act.put]
                  try simp only [List.setIfInBounds_toArray]
                  try simp only [List.set_cons_zero, List.set_cons_succ]
                  refine wpAnyT_take (i := 3) (d := some 132) (v := ?_) rfl rfl (by kernel_rfl) (by kernel_rfl) (by kernel_rfl) (by kernel_rfl) (fun _ _ _ h => h) (Or.inl ⟨by rfl, ?_⟩) (by assumption) ?_
                  rotate_left
                  · (intro w hSw; (try dsimp only at hSw); go_simp; try (with_reducible rfl))
                  try simp only [Act.put]
                  try simp only [List.setIfInBounds_toArray]
                  try simp only [List.set_cons_zero, List.set_cons_succ]
                  refine wpAnyT_take (i := 4) (d := some 133) (v := ?_) rfl rfl (by kernel_rfl) (by kernel_rfl) (by kernel_rfl) (by kernel_rfl) (fun _ _ _ h => h) (Or.inl ⟨by rfl, ?_⟩) (by assumption) ?_
                  rotate_left
                  · (intro w hSw; (try dsimp only at hSw); go_simp; try (with_reducible rfl))
                  try simp only [Act.put]
                  try simp only [List.setIfInBounds_toArray]
                  try simp only [List.set_cons_zero, List.set_cons_succ]
                  refine wpAnyT_take (i := 5) (d := some 134) (v := ?_) rfl rfl (by kernel_rfl) (by kernel_rfl) (by kernel_rfl) (by kernel_rfl) (fun _ _ _ h => h) (Or.inl ⟨by rfl, ?_⟩) (by assumption) ?_
                  rotate_left
                  · (intro w hSw; (try dsimp only at hSw); go_simp; try (with_reducible rfl))
                  try simp only [Act.put]
                  try simp only [List.setIfInBounds_toArray]
                  try simp only [List.set_cons_zero, List.set_cons_succ]
                  refine wpAnyT_take (i := 6) (d := some 135) (v := ?_) rfl rfl (by kernel_rfl) (by kernel_rfl) (by kernel_rfl) (by kernel_rfl) (fun _ _ _ h => h) (Or.inl ⟨by rfl, ?_⟩) (by assumption) ?_
                  rotate_left
                  · (intro w hSw; (try dsimp only at hSw); go_simp; try (with_reducible rfl))
                  try simp only [Act.put]
                  try simp only [List.setIfInBounds_toArray]
                  try simp only [List.set_cons_zero, List.set_cons_succ]
                  refine wpAnyT_take (i := 7) (d := some 136) (v := ?_) rfl rfl (by kernel_rfl) (by kernel_rfl) (by kernel_rfl) (by kernel_rfl) (fun _ _ _ h => h) (Or.inl ⟨by rfl, ?_⟩) (by assumption) ?_
                  rotate_left
                  · (intro w hSw; (try dsimp only at hSw); go_simp; try (with_reducible rfl))
                  try simp only [Act.put]
                  try simp only [List.setIfInBounds_toArray]
                  try simp only [List.set_cons_zero, List.set_cons_succ]
                  refine wpAnyT_take (i := 8) (d := some 137) (v := ?_) rfl rfl (by kernel_rfl) (by kernel_rfl) (by kernel_rfl) (by kernel_rfl) (fun _ _ _ h => h) (Or.inl ⟨by rfl, ?_⟩) (by assumption) ?_
                  rotate_left
                  · (intro w hSw; (try dsimp only at hSw); go_simp; try (with_reducible rfl))
                  try simp only [Act.put]
                  try simp only [List.setIfInBounds_toArray]
                  try simp only [List.set_cons_zero, List.set_cons_succ]
                  refine wpAnyT_take (i := 9) (d := some 138) (v := ?_) rfl rfl (by kernel_rfl) (by kernel_rfl) (by kernel_rfl) (by kernel_rfl) (fun _ _ _ h => h) (Or.inl ⟨by rfl, ?_⟩) (by assumption) ?_
                  rotate_left
                  · (intro w hSw; (try dsimp only at hSw); go_simp; try (with_reducible rfl))
                  try simp only [Act.put]
                  try simp only [List.setIfInBounds_toArray]
                  try simp only [List.set_cons_zero, List.set_cons_succ]
                  refine wpAnyT_take (i := 10) (d := some 139) (v := ?_) rfl rfl (by kernel_rfl) (by kernel_rfl) (by kernel_rfl) (by kernel_rfl) (fun _ _ _ h => h) (Or.inl ⟨by rfl, ?_⟩) (by assumption) ?_
                  rotate_left
                  · (intro w hSw; (try dsimp only at hSw); go_simp; try (with_reducible rfl))
                  try simp only [Act.put]
                  try simp only [List.setIfInBounds_toArray]
                  try simp only [List.set_cons_zero, List.set_cons_succ]
                  refine wpAnyT_step (i := 11) (by kernel_rfl) rfl (fun K hK => ?_)
                  go_simp
                  refine hK.out _ _ ?_ (fun hHeld => ?_)
                  · (try dsimp only)
                    go_keep
                  clear hK K
                  try simp only [Act.put]
                  try simp only [List.setIfInBounds_toArray]
                  try simp only [List.set_cons_zero, List.set_cons_succ]
                  refine wpAnyT_step (i := 12) (by kernel_rfl) rfl (fun K hK => ?_)
                  have HEB := Lib.hid ((HET.out).al (.cells #[.int .i64 nv, .int .i64 z2] 57))
                  refine step_append_rowN rfl _ _ 53 rfl w5.heap.size 57 ia (.agg #[.int .i64 0, .int .i64 0]) 2 16 Try.underlying53 hia ia0 ia1 ia2 rfl (by decide) (.slice aa na ac) na (AL.flatMap asC) rfl (HRA.out.ext (HXA.out.trans' HEB.out)) wT.heap.size 1 [.int .i64 nv, .int .i64 z2] rfl rfl ⟨_, heap_alloc_new _ _⟩ (by simp [Value.oneCell']) (by unfold maxLen; omega) (by omega) ((HEK3.out.trans' (HXA.out.trans' HEB.out)).sz) ?_
                  intro v8 w8 hown8 hgrow8 hblk8
                  obtain ⟨a8, c8, rfl, _⟩ := hown8.any
                  have HG8 := Lib.hid (grown_from (HXA.out.trans' HEB.out) hgrow8)
                  have HOWN := Lib.hid hown8
                  have HBK : Hid ((Value.slice a8 (na + 1) c8).ownBlock = (Value.slice aa na ac).ownBlock ∨ ∃ k, (Value.slice a8 (na + 1) c8).ownBlock = some k ∧ wr.heap.size ≤ k) := Lib.hid (hblk8.imp id (fun ⟨k, h1, h2⟩ => ⟨k, h1, Nat.le_trans (HXA.out.trans' HEB.out).sz h2⟩))
                  have HX8 := Lib.hid ((HEK3.out.trans' (HXA.out.trans' HEB.out)).gr hgrow8 (fun q hq => (HRA.out.lt q hq).1))
                  have HB8 := Lib.hid (heap_keptT (HEB.out.hp HBX.out) hgrow8 (fun q hq => by have := (HRA.out.lt q hq).2; rw [HXX.out] at this; omega))
                  have s8 := cellOf HB8.out 4
                  have g8 := freeOf HB8.out 4
                  simp only [List.getElem?_toArray, List.getElem?_cons_zero, List.getElem?_cons_succ] at s8
                  have HEW8 := Lib.hid (HE4.out.trans' HX8.out)
                  have u3 := HEW8.out.cl HR0.out
                  have u4 := HEW8.out.cl HK2.out
                  clear hown8 hgrow8 hblk8
                  refine hK.out _ _ ?_ (fun hHeld => ?_)
                  · (try dsimp only)
                    exact ⟨s8, u3, u4⟩
                  clear hK K
                  try simp only [Act.put]
                  try simp only [List.setIfInBounds_toArray]
                  try simp only [List.set_cons_zero, List.set_cons_succ]
                  refine wpAnyT_take (i := 13) (d := some 142) (v := ?_) rfl rfl (by kernel_rfl) (by kernel_rfl) (by kernel_rfl) (by kernel_rfl) (fun _ _ _ h => h) (Or.inl ⟨by rfl, ?_⟩) (by assumption) ?_
                  rotate_left
                  · (intro w hSw; (try dsimp only at hSw); go_simp; try (with_reducible rfl))
                  try simp only [Act.put]
                  try simp only [List.setIfInBounds_toArray]
                  try simp only [List.set_cons_zero, List.set_cons_succ]
                  refine wpAnyT_last (by kernel_rfl) rfl (by kernel_rfl) (fun K hK => ?_)
                  go_simp
                  refine hK.out _ _ ?_
                  go_wp2_with fail
                  have HGB : Hid (wr.grownBy (w8.setCell ⟨X, 4, none⟩ (.slice a8 (na + 1) c8)).drew (Value.slice aa na ac).ownBlock) := Lib.hid (by
                    have h := grown_st HG8.out (X := X) (o := 4) (by rw [HXX.out]; exact Nat.le_refl _) (.slice a8 (na + 1) c8)
                    exact ⟨h.os, h.tape, h.output, h.size, h.block⟩)
                  have HRB : Hid (Row (w8.setCell ⟨X, 4, none⟩ (.slice a8 (na + 1) c8)).drew w5.heap.size 57 2 (.slice a8 (na + 1) c8) (na + 1) (AL.flatMap asC ++ [.int .i64 nv, .int .i64 z2])) := Lib.hid ((HOWN.out.stO HB8.out (by decide) _).ext (Ext.rf _).dr)
                  have HBB : Hid ((w8.setCell ⟨X, 4, none⟩ (.slice a8 (na + 1) c8)).drew.heap[X]? = some (.cells #[.int .i64 q0, .int .i64 q1, .int .i64 q2, .int .i64 q3, .slice a8 (na + 1) c8] 55)) := Lib.hid ((heap_setCell_same HB8.out).trans (by simp))
                  have HXB := Lib.hid (show Ext w5 (w8.setCell ⟨X, 4, none⟩ (.slice a8 (na + 1) c8)).drew from (HX8.out.st (by show w5.heap.size ≤ X; rw [← HXX.out]; exact HEK3.out.sz) _).dr)
                  have HDB := Lib.hid (heap_keptT HD2.out HGB.out (fun q hq => by have := HRA.out.notBox HD2.out (by decide); exact fun e => this (by rw [hq, e])))
                  have HREB := Lib.hid (HRE.out.grown HGB.out (HRE.out.apart HRA.out (by decide)))
                  have HPB : Hid ((w8.setCell ⟨X, 4, none⟩ (.slice a8 (na + 1) c8)).drew.cell? ⟨g1, o1 + p * 3 + 2, none⟩ = some (.slice (some ⟨eg, eo, none⟩) ne ec)) := Lib.hid (by
                    obtain ⟨cs, h1, h2, h3⟩ := HO2.out
                    rw [HLm2.out] at h1
                    have h4 := h1.grown HGB.out (h1.apart HRA.out (by decide))
                    have e := h4.cell (p * 3 + 2) (by omega)
                    rw [drop_take_get (h2.2 p HQ2.out) (by omega)] at e
                    rw [Nat.add_assoc, e]; exact congrArg some HVE.out)
                  have i0 := cellOf HDB.out 0
                  have i1 := HPB.out
                  have i2 := cellOf HBB.out 0
                  have i3 := cellOf HBB.out 1
                  have i4 := cellOf HBB.out 2
                  have i5 := cellOf HBB.out 3
                  have i6 := cellOf HBB.out 4
                  simp only [List.getElem?_toArray, List.getElem?_cons_zero, List.getElem?_cons_succ] at i0 i2 i3 i4 i5 i6
                  refine wp_region_tail (fun W => W.cell? ⟨D, 0, none⟩ = some (.slice (some ⟨g1, o1, none⟩) m k1) ∧ W.cell? ⟨g1, o1 + p * 3 + 2, none⟩ = some (.slice (some ⟨eg, eo, none⟩) ne ec) ∧ W.cell? ⟨X, 0, none⟩ = some (.int .i64 q0) ∧ W.cell? ⟨X, 1, none⟩ = some (.int .i64 q1) ∧ W.cell? ⟨X, 2, none⟩ = some (.int .i64 q2) ∧ W.cell? ⟨X, 3, none⟩ = some (.int .i64 q3) ∧ W.cell? ⟨X, 4, none⟩ = some (.slice a8 (na + 1) c8)) 10 (by kernel_rfl) ⟨i0, i1, i2, i3, i4, i5, i6⟩ (fun hHeld => ?_)
                  generalize (w8.setCell ⟨X, 4, none⟩ (.slice a8 (na + 1) c8)).drew = wB at *
                  obtain ⟨j0, j1, j2, j3, j4⟩ := evCells HREB.out HECC.out HEVL.out.symm (by rw [HEVL.out]; exact hlk)
                  rw [HEVK.out] at j0 j1 j2 j3
                  rw [HQV0.out] at j0
                  rw [HQV1.out] at j1
                  rw [HQV2.out] at j2
                  rw [HQV3.out] at j3
                  rw [HVA.out] at j4
                  have n0 := HREB.out.free (eo + k * 5)
                  have n1 := HREB.out.free (eo + k * 5 + 1)
                  have n2 := HREB.out.free (eo + k * 5 + 2)
                  have n3 := HREB.out.free (eo + k * 5 + 3)
                  have n4 := HREB.out.free (eo + k * 5 + 4)
                  refine wpAnyT_take (i := 0) (d := some 143) (v := ?_) rfl rfl (by kernel_rfl) (by kernel_rfl) (by kernel_rfl) (by kernel_rfl) (fun _ _ _ h => h) (Or.inl ⟨by rfl, ?_⟩) (by assumption) ?_
                  rotate_left
                  · (intro w hSw; (try dsimp only at hSw); go_simp; try (with_reducible rfl))
                  try simp only [Act.put]
                  try simp only [List.setIfInBounds_toArray]
                  try simp only [List.set_cons_zero, List.set_cons_succ]
                  refine wpAnyT_take (i := 1) (d := some 144) (v := ?_) rfl rfl (by kernel_rfl) (by kernel_rfl) (by kernel_rfl) (by kernel_rfl) (fun _ _ _ h => h) (Or.inl ⟨by rfl, ?_⟩) (by assumption) ?_
                  rotate_left
                  · (intro w hSw; (try dsimp only at hSw); go_simp; try (with_reducible rfl))
                  try simp only [Act.put]
                  try simp only [List.setIfInBounds_toArray]
                  try simp only [List.set_cons_zero, List.set_cons_succ]
                  refine wpAnyT_take (i := 2) (d := some 145) (v := ?_) rfl rfl (by kernel_rfl) (by kernel_rfl) (by kernel_rfl) (by kernel_rfl) (fun _ _ _ h => h) (Or.inl ⟨by rfl, ?_⟩) (by assumption) ?_
                  rotate_left
                  · (intro w hSw; (try dsimp only at hSw); go_simp; try (with_reducible rfl))
                  try simp only [Act.put]
                  try simp only [List.setIfInBounds_toArray]
                  try simp only [List.set_cons_zero, List.set_cons_succ]
                  refine wpAnyT_take (i := 3) (d := some 146) (v := ?_) rfl rfl (by kernel_rfl) (by kernel_rfl) (by kernel_rfl) (by kernel_rfl) (fun _ _ _ h => h) (Or.inl ⟨by rfl, ?_⟩) (by assumption) ?_
                  rotate_left
                  · (intro w hSw; (try dsimp only at hSw); go_simp; try (with_reducible rfl))
                  try simp only [Act.put]
                  try simp only [List.setIfInBounds_toArray]
                  try simp only [List.set_cons_zero, List.set_cons_succ]
                  refine wpAnyT_take (i := 4) (d := some 147) (v := ?_) rfl rfl (by kernel_rfl) (by kernel_rfl) (by kernel_rfl) (by kernel_rfl) (fun _ _ _ h => h) (Or.inl ⟨by rfl, ?_⟩) (by assumption) ?_
                  rotate_left
                  · (intro w hSw; (try dsimp only at hSw); go_simp; try (with_reducible rfl))
                  try simp only [Act.put]
                  try simp only [List.setIfInBounds_toArray]
                  try simp only [List.set_cons_zero, List.set_cons_succ]
                  refine wpAnyT_take (i := 5) (d := some 148) (v := ?_) rfl rfl (by kernel_rfl) (by kernel_rfl) (by kernel_rfl) (by kernel_rfl) (fun _ _ _ h => h) (Or.inl ⟨by rfl, ?_⟩) (by assumption) ?_
                  rotate_left
                  · (intro w hSw; (try dsimp only at hSw); go_simp; try (with_reducible rfl))
                  try simp only [Act.put]
                  try simp only [List.setIfInBounds_toArray]
                  try simp only [List.set_cons_zero, List.set_cons_succ]
                  refine wpAnyT_take (i := 6) (d := some 149) (v := ?_) rfl rfl (by kernel_rfl) (by kernel_rfl) (by kernel_rfl) (by kernel_rfl) (fun _ _ _ h => h) (Or.inl ⟨by rfl, ?_⟩) (by assumption) ?_
                  rotate_left
                  · (intro w hSw; (try dsimp only at hSw); go_simp; try (with_reducible rfl))
                  try simp only [Act.put]
                  try simp only [List.setIfInBounds_toArray]
                  try simp only [List.set_cons_zero, List.set_cons_succ]
                  refine wpAnyT_take (i := 7) (d := some 150) (v := ?_) rfl rfl (by kernel_rfl) (by kernel_rfl) (by kernel_rfl) (by kernel_rfl) (fun _ _ _ h => h) (Or.inl ⟨by rfl, ?_⟩) (by assumption) ?_
                  rotate_left
                  · (intro w hSw; (try dsimp only at hSw); go_simp; try (with_reducible rfl))
                  try simp only [Act.put]
                  try simp only [List.setIfInBounds_toArray]
                  try simp only [List.set_cons_zero, List.set_cons_succ]
                  refine wpAnyT_take (i := 8) (d := some 151) (v := ?_) rfl rfl (by kernel_rfl) (by kernel_rfl) (by kernel_rfl) (by kernel_rfl) (fun _ _ _ h => h) (Or.inl ⟨by rfl, ?_⟩) (by assumption) ?_
                  rotate_left
                  · (intro w hSw; (try dsimp only at hSw); go_simp; try (with_reducible rfl))
                  try simp only [Act.put]
                  try simp only [List.setIfInBounds_toArray]
                  try simp only [List.set_cons_zero, List.set_cons_succ]
                  have hwk : IntKind.i64.wrap (k : Int) = (k : Int) := IntWalk.i64_in _ (by omega)
                  refine wpAnyT_take (i := 9) (d := some 152) (v := ?_) rfl rfl (by kernel_rfl) (by kernel_rfl) (by kernel_rfl) (by kernel_rfl) (fun _ _ _ h => h) (Or.inl ⟨by rfl, ?_⟩) (by assumption) ?_
                  rotate_left
                  · (intro w hSw; (try dsimp only at hSw); go_simp; try (with_reducible rfl))
                  try simp only [Act.put]
                  try simp only [List.setIfInBounds_toArray]
                  try simp only [List.set_cons_zero, List.set_cons_succ]
                  clear hwk
                  refine wpAnyT_last (by kernel_rfl) rfl (by kernel_rfl) (fun K hK => ?_)
                  go_simp
                  refine hK.out _ _ ?_
                  go_wp2_with fail
                  go_roundg (ne - (k + 1))
                  case measure => omega
                  case rel =>
                    have hge : w5.heap.size ≤ eg := (HRE.out.lt eg rfl).1
                    refine ⟨k + 1, by omega, by omega, by rw [HFK1.out], by go_num, (show WrJ _ _ _ _ _ from ?_), (show Ext _ _ from ?_)⟩
                    · rw [setCell_self j0, setCell_self j1, setCell_self j2, setCell_self j3]
                      have hr : RowA wB w5.heap.size (.slice a8 (na + 1) c8) (AL ++ [⟨(nv : Int), z2⟩]) := by
                        rw [RowA, List.length_append, List.length_singleton, HNA.out, List.flatMap_append]
                        exact HRB.out
                      have h := HO2.out.asg HDI2.out HQ2.out (n := ne) (by rw [HLP2.out, HEVL.out]) hlk HVE.out hr (by rw [HVA.out]; exact HGB.out) (by rw [HVA.out]; exact HBK.out)
                      rw [HMN.out _ (by rw [HNV.out]), ← Nat.add_assoc] at h
                      have hDe : D ≠ eg := fun e => by
                        obtain ⟨cur, fr, hg⟩ := own_heap HREB.out
                        have h0 := HDB.out
                        rw [e, hg] at h0
                        simp at h0
                      exact ⟨_, _, _, (Below.heap_setCell wB ⟨eg, eo + k * 5 + 4, none⟩ _ D hDe).trans HDB.out, h.1, h.2⟩
                    · exact ((((HXB.out.st hge _).st hge _).st hge _).st hge _).st hge _

end Go.Proofs.Ytfcpnggdpaeldaa
