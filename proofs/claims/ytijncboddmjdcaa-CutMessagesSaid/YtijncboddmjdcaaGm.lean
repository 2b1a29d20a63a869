import Derived.Test.YtijncboddmjdcaaGa
import Derived.Test.YtijncboddmjdcaaProg
import Derived.Test.YtijncboddmjdcaaGj
import Derived.BigQuiet
import Derived.Deep.QuietTactic
import Derived.Deep.LoopGhost
import Derived.Shelf.Abstract
/-
  Consistent cuts in the reference: Fits, Range, Sent, closed, Consistent and Fault.
-/
namespace Go.Proofs.Ytijncboddmjdcaa
open Go.RowKit
set_option linter.unusedVariables false
attribute [local go_sem ↓] Go.wp_at_zero Go.wp_at_succ

set_option maxHeartbeats 1000000 in
theorem fitsR_calls (v vc : Value) (t : Tr) (c : List Int) (w : World) (h : TrAt w v t) (hc : Ints w vc c) :
    Calls Try.prog 38 #[.agg #[v], vc] w fun e w' => e = .returned (.bool (fitsB t c)) ∧ Ext w w' := by
  obtain ⟨ta, tc, rfl, htc⟩ := h.sh
  obtain ⟨ca, cc, rfl, hlc, _⟩ := hc
  obtain ⟨r, hr⟩ : ∃ r, ((c.length : Int) == (t.length : Int)) = r := ⟨_, rfl⟩
  have HR : Hid (fitsB t c = r) := Lib.hid (by unfold fitsB; rw [← hr]; by_cases h : c.length = t.length <;> simp [h]; omega)
  rw [HR.out]
  generalize c.length = m at *
  generalize t.length = n at *
  have HE1 := Lib.hid ((Ext.rf w).al (.cells #[.slice ta n tc] 24))
  clear h
  go_enter Try.func38, Try.ntmps38
  go_wp2
  go_ret
  exact ⟨rfl, HE1.out⟩

set_option maxHeartbeats 4000000 in
set_option maxRecDepth 100000 in
theorem rangeR_calls (v vc : Value) (t : Tr) (c : List Int) (w : World) (h : TrAt w v t) (hs : SmallTr t) (hc : Ints w vc c) (hl : c.length = t.length) :
    Calls Try.prog 39 #[.agg #[v], vc] w fun e w' => e = .returned (.bool (rangeB t c)) ∧ Ext w w' := by
  have HT := Lib.hid h
  have HC := Lib.hid hc
  have HS := Lib.hid hs
  obtain ⟨ta, tc, rfl, htc⟩ := h.sh
  obtain ⟨ca, cc, rfl, hlc, _⟩ := hc
  have hn1 := hs.1
  rw [hl] at hlc ⊢
  have HCL := Lib.hid hl
  obtain ⟨rb, hrb⟩ : ∃ b, rangeB t c = b := ⟨_, rfl⟩
  rw [hrb]
  have HRB := Lib.hid hrb
  generalize hln : t.length = n at *
  have HL := Lib.hid hln
  have HX0 := Lib.hid (heap_alloc_new w (.cells #[.slice ta n tc] 24))
  have HE1 := Lib.hid ((Ext.rf w).al (.cells #[.slice ta n tc] 24))
  clear h hs hln hl hrb
  go_enter Try.func39, Try.ntmps39
  go_wp2
  generalize hw2 : w.alloc (.cells #[.slice ta n tc] 24) = w2 at *
  clear hw2
  go_loopg [5] n (fun g s5 wr => ∃ p : Nat, p ≤ n ∧ n - p ≤ g ∧ s5 = .int .i64 p ∧ Aside (∀ q, q < p → 0 ≤ c[q]! ∧ c[q]! ≤ (t[q]!.events.length : Int)) ∧ Aside (Ext w2 wr))
  case atStart => exact ⟨0, Nat.zero_le _, by omega, rfl, (fun j hj => absurd hj (Nat.not_lt_zero _)), Ext.rf _⟩
  case round =>
    obtain ⟨p, hp, hg, rfl, A, HEK⟩ := hrel
    have HEW := Lib.hid (HE1.out.trans' HEK.out)
    have HY0 := Lib.hid (HEK.out.hp HX0.out)
    have t0 := cellOf HY0.out 0
    simp only [List.getElem?_toArray, List.getElem?_cons_zero] at t0
    by_cases hlt : p < n
    · have hltz : (p : Int) < (n : Int) := by omega
      have hpz : (0 : Int) ≤ (p : Int) := by omega
      obtain ⟨B, O, C, vv, ve, hve, hlC, hB, hn0, hv0, he0, hV, hE0⟩ := proc_at HT.out p (by rw [HL.out]; exact hlt)
      simp only [Value.slice.injEq] at hve
      obtain ⟨rfl, hzz, rfl⟩ := hve
      obtain ⟨ea, ec, rfl, hec⟩ := hE0.sh
      obtain ⟨cb, co, rfl, hcb, hcp⟩ := ints_at HC.out p (by rw [HCL.out]; exact hlt)
      have he1 := HEW.out.cl he0
      have hc1 := HEW.out.cl hcp
      have hen := (HS.out.2 p (by rw [HL.out]; exact hlt)).2.1
      generalize hne : t[p]!.events.length = ne at *
      have HNE := Lib.hid hne
      generalize hk : c[p]! = k at *
      have HK := Lib.hid hk
      clear hn0 hv0 hV hE0 hzz hne he0 hk hcp
      have HNO : Hid (¬ (0 ≤ k ∧ k ≤ (ne : Int)) → rb = false) := Lib.hid (fun hno => by
        rw [← HRB.out, Bool.eq_false_iff]
        intro hr
        have := rangeB_iff.1 hr p (by rw [HCL.out]; exact hlt)
        rw [HNE.out, HK.out] at this
        exact hno this)
      by_cases h1 : k < 0
      · have d1 : decide (k < 0) = true := decide_eq_true h1
        have HF := Lib.hid (HNO.out (by omega))
        clear h1
        go_wp2
        go_quiet (fail)
        go_wp2
        go_ret
        exact ⟨by rw [HF.out]; rfl, HEW.out.drN _⟩
      · have d1 : decide (k < 0) = false := decide_eq_false h1
        by_cases h2 : (ne : Int) < k
        · have d2 : decide ((ne : Int) < k) = true := decide_eq_true h2
          have HF := Lib.hid (HNO.out (by omega))
          clear h1 h2
          go_wp2
          go_quiet (fail)
          go_wp2
          go_ret
          exact ⟨by rw [HF.out]; rfl, HEW.out.drN _⟩
        · have d2 : decide ((ne : Int) < k) = false := decide_eq_false h2
          have HOK := Lib.hid (show 0 ≤ k ∧ k ≤ (ne : Int) by omega)
          clear h1 h2
          go_wp2
          go_quiet (fail)
          go_wp2
          go_roundg (n - (p + 1))
          case measure => omega
          case rel =>
            refine ⟨p + 1, by omega, by omega, by go_num, (show Aside _ from fun j hj => ?_), (show Ext _ _ from HEK.out.drN _)⟩
            by_cases e : j = p
            · subst e; rw [HNE.out, HK.out]; exact HOK.out
            · exact A.out j (by omega)
    · have hltz : ¬ (p : Int) < (n : Int) := by omega
      obtain rfl : n = p := by omega
      go_wp2
      go_ret
      refine ⟨?_, HEW.out⟩
      have e : rangeB t c = true := rangeB_iff.2 (fun q hq => A.out q (by rw [HCL.out] at hq; exact hq))
      rw [← HRB.out, e]; rfl

set_option maxHeartbeats 8000000 in
set_option maxRecDepth 100000 in
theorem sentR_calls (v vc : Value) (t : Tr) (c : List Int) (p i : Nat) (w : World) (h : TrAt w v t) (hs : SmallTr t) (hv : validT t = true) (hc : Ints w vc c) (hl : c.length = t.length) (hx : Inn t (p, i)) :
    Calls Try.prog 58 #[.agg #[v], vc, .int .i64 p, .int .i64 i] w fun e w' => e = .returned (.bool (sentB t c (p, i))) ∧ Ext w w' := by
  have HC := Lib.hid hc
  have HSD := Lib.hid (fun (hk : (ev t (p, i)).kind = 3) => valid_send hv hx hk)
  have HFI := Lib.hid (fun W (hW : Ext w W) m => findR_calls v t 2 m W (h.ext hW) hs)
  have hp : p < t.length := hx.1
  have hi : i < t[p]!.events.length := hx.2
  obtain ⟨sb, hsb⟩ : ∃ b, sentB t c (p, i) = b := ⟨_, rfl⟩
  rw [hsb]
  have HSB := Lib.hid hsb
  have HEVE : Hid (ev t (p, i) = t[p]!.events[i]!) := Lib.hid rfl
  obtain ⟨B, O, C, vv, ve, rfl, hlC, hB, hn0, hv0, he0, hV, hE0⟩ := proc_at h p hp
  obtain ⟨EB, EO, EC, va, rfl, hlE, hEB, k0, k1, k2, k3, k4, ha⟩ := event_at hE0 i hi
  obtain ⟨va1, va2, rfl, huc⟩ := ha.sh
  obtain ⟨ca, cc, rfl, hlc, _⟩ := hc
  have hn := hs.1
  have hen := (hs.2 p hp).2.1
  rw [hl] at hlc ⊢
  have HCL := Lib.hid hl
  generalize hxx : t[p]! = x at *
  generalize hev : x.events[i]! = y at *
  generalize hln : t.length = n at *
  generalize hne : x.events.length = ne at *
  generalize hna : y.asg.length = nb at *
  have HLN := Lib.hid hln
  have HEV2 := Lib.hid hev
  have HX0 := Lib.hid (heap_alloc_new w (.cells #[.slice (some ⟨B, O, none⟩) n C] 24))
  have HE1 := Lib.hid ((Ext.rf w).al (.cells #[.slice (some ⟨B, O, none⟩) n C] 24))
  have hpz : (0 : Int) ≤ (p : Int) := by omega
  have hpi : (p : Int) < (n : Int) := by omega
  have hiz : (0 : Int) ≤ (i : Int) := by omega
  have hii : (i : Int) < (ne : Int) := by omega
  have he1 := HE1.out.cl he0
  have m0 := HE1.out.cl k0
  have m1 := HE1.out.cl k1
  have m2 := HE1.out.cl k2
  have m3 := HE1.out.cl k3
  have m4 := HE1.out.cl k4
  clear h hs hv hx hp hi hn0 hv0 he0 hV hE0 ha k0 k1 k2 k3 k4 hxx hev hln hne hna hsb hl
  go_enter Try.func58, Try.ntmps58
  obtain ⟨ck, hck⟩ : ∃ b, (y.kind != 3) = b := ⟨_, rfl⟩
  have HCK := Lib.hid hck
  generalize hw1 : w.alloc (.cells #[.slice (some ⟨B, O, none⟩) n C] 24) = w1 at *
  have HB6 := Lib.hid (heap_alloc_new w1 (e5 (.int .i64 y.kind) (.int .i64 y.peer) (.int .i64 y.msg) (.int .i64 y.time) (.slice va1 nb va2)))
  have HXT := Lib.hid ((Ext.rf w1).al (e5 (.int .i64 y.kind) (.int .i64 y.peer) (.int .i64 y.msg) (.int .i64 y.time) (.slice va1 nb va2)))
  have t0 := cellOf HX0.out 0
  simp only [List.getElem?_toArray, List.getElem?_cons_zero] at t0
  have l1 : w.heap.size < w1.heap.size := World.block_lt_of_cell? w1 _ t0
  have l2 : w.heap.size ≠ w1.heap.size := by omega
  cases ck with
  | true =>
    have HF : Hid (sb = true) := Lib.hid (by rw [← HSB.out]; exact sentB_other (by rw [HEVE.out]; have := HCK.out; simpa using this))
    go_wp2
    go_ret
    exact ⟨by rw [HF.out]; rfl, HE1.out.trans' HXT.out⟩
  | false =>
    have HK3 := Lib.hid (show y.kind = 3 from by have := HCK.out; simpa using this)
    obtain ⟨s, hs⟩ := HSD.out (by rw [HEVE.out]; exact HK3.out)
    have HFS := Lib.hid hs
    rw [HEVE.out] at hs
    have HSN := Lib.hid (findE_some hs).1
    have HFW := Lib.hid (HFI.out _ (HE1.out.trans' HXT.out) y.msg)
    rw [hs] at HFW
    simp only [eidA, eidB] at HFW
    clear hs
    obtain ⟨s1, s2⟩ := s
    simp only at HFW HFS HSN
    have hs1 : s1 < n := by have := HSN.out.1; rw [HLN.out] at this; exact this
    obtain ⟨cb, co, rfl, _, hcs⟩ := ints_at HC.out s1 (by rw [HCL.out]; exact hs1)
    have HCS := Lib.hid hcs
    have HSR := Lib.hid (sentB_recv (c := c) (by rw [HEVE.out]; exact HK3.out) HFS.out)
    simp only at HSR
    clear hcs
    go_wp2_with fail
    clear t0 l1 l2 m0 m1 m2 m3 m4 he1
    refine HFW.out.mono ?_
    rintro e w7 ⟨rfl, hE7⟩
    have HB8 := Lib.hid (heap_alloc_new w7 (idO (s1 : Int) ((s2 : Int) + 1)))
    have HE8 := Lib.hid ((HE1.out.trans' (HXT.out.trans' hE7)).al (idO (s1 : Int) ((s2 : Int) + 1)))
    have dsp := HE8.out.cl HCS.out
    have s0 := cellOf HB8.out 0
    have s1c := cellOf HB8.out 1
    simp only [List.getElem?_toArray, List.getElem?_cons_zero, List.getElem?_cons_succ] at s0 s1c
    have hspz : (0 : Int) ≤ (s1 : Int) := by omega
    have hspi : (s1 : Int) < (n : Int) := by omega
    generalize hdg : c[s1]! = dg at *
    clear hdg hE7 HB6
    go_wp2
    generalize hw8 : w7.alloc (idO (s1 : Int) ((s2 : Int) + 1)) = w8 at *
    clear hw8
    obtain ⟨r, hr⟩ : ∃ r, decide ((s2 : Int) + 1 ≤ dg) = r := ⟨_, rfl⟩
    have HF : Hid (sb = r) := Lib.hid (by rw [← HSB.out, HSR.out, hr])
    go_quiet (fail)
    go_wp2
    go_ret
    exact ⟨by rw [HF.out]; rfl, HE8.out.drN _⟩

set_option maxHeartbeats 8000000 in
set_option maxRecDepth 100000 in
theorem closedR_calls (v vc : Value) (t : Tr) (c : List Int) (w : World) (h : TrAt w v t) (hs : SmallTr t) (hv : validT t = true) (hc : Ints w vc c) (hr : RangeC t c) :
    Calls Try.prog 52 #[.agg #[v], vc] w fun e w' => e = .returned (.bool (missE t c).isNone) ∧ Ext w w' := by
  have HC := Lib.hid hc
  have HR := Lib.hid hr
  have HSE := Lib.hid (fun W (hW : Ext w W) p i (hx : Inn t (p, i)) => sentR_calls v vc t c p i W (h.ext hW) hs hv (hc.ext hW) hr.1 hx)
  obtain ⟨ta, tc, rfl, htc⟩ := h.sh
  obtain ⟨ca, cc, rfl, hlc, _⟩ := hc
  have hn1 := hs.1
  have HS := Lib.hid hs
  rw [hr.1] at hlc HSE ⊢
  have HCL := Lib.hid hr.1
  obtain ⟨mb, hmb⟩ : ∃ b, (missE t c).isNone = b := ⟨_, rfl⟩
  rw [hmb]
  have HMB := Lib.hid hmb
  generalize hln : t.length = n at *
  have HL := Lib.hid hln
  have HX0 := Lib.hid (heap_alloc_new w (.cells #[.slice ta n tc] 24))
  have HE1 := Lib.hid ((Ext.rf w).al (.cells #[.slice ta n tc] 24))
  clear h hs hln hr hv hmb
  go_enter Try.func52, Try.ntmps52
  go_wp2
  generalize hw2 : w.alloc (.cells #[.slice ta n tc] 24) = w2 at *
  clear hw2
  go_loopg [5] n (fun g s5 wr => ∃ p : Nat, p ≤ n ∧ n - p ≤ g ∧ s5 = .int .i64 p ∧ Aside (missTo t c p 0 = none) ∧ Aside (Ext w2 wr))
  case atStart => exact ⟨0, Nat.zero_le _, by omega, rfl, (show Aside _ from missTo_zero t c), Ext.rf _⟩
  case round =>
    obtain ⟨p, hp, hg, rfl, A, HEK⟩ := hrel
    have HEW := Lib.hid (HE1.out.trans' HEK.out)
    by_cases hlt : p < n
    · have hltz : (p : Int) < (n : Int) := by omega
      have hpz : (0 : Int) ≤ (p : Int) := by omega
      obtain ⟨cb, co, rfl, hcb, hcp⟩ := ints_at HC.out p (by rw [HCL.out]; exact hlt)
      have hkr := HR.out.at (p := p) (by rw [HL.out]; exact hlt)
      have HKN : Hid (∀ i : Nat, (i : Int) < c[p]! → Inn t (p, i)) := Lib.hid (fun i hi => ⟨by show p < t.length; rw [HL.out]; exact hlt, by show i < t[p]!.events.length; omega⟩)
      have hen := (HS.out.2 p (by rw [HL.out]; exact hlt)).2.1
      obtain ⟨k, hk⟩ : ∃ k : Nat, c[p]! = (k : Int) := ⟨c[p]!.toNat, by omega⟩
      rw [hk] at hcp HKN
      have HK := Lib.hid hk
      have hkm : k ≤ 1000000 := by omega
      have HCP := Lib.hid hcp
      clear hcp hkr hk hcb hen
      go_wp2
      obtain ⟨wo, rfl⟩ : ∃ x, x = wr := ⟨_, rfl⟩
      go_loopg [6] k (fun g2 s6 wr => ∃ i : Nat, i ≤ k ∧ k - i ≤ g2 ∧ s6 = .int .i64 i ∧ Aside (missTo t c p i = none) ∧ Aside (Ext wo wr))
      case atStart => exact ⟨0, Nat.zero_le _, by omega, rfl, A, Ext.rf _⟩
      case round =>
        obtain ⟨i, hi, hg2, rfl, A2, HEK2⟩ := hrel
        have HEW2 := Lib.hid (HEW.out.trans' HEK2.out)
        have hc1 := HEW2.out.cl HCP.out
        have HY0 := Lib.hid (HEK2.out.hp (HEK.out.hp HX0.out))
        have t0 := cellOf HY0.out 0
        simp only [List.getElem?_toArray, List.getElem?_cons_zero] at t0
        by_cases hli : i < k
        · have hliz : (i : Int) < (k : Int) := by omega
          have HSW := Lib.hid (HSE.out wr HEW2.out p i (HKN.out i hliz))
          obtain ⟨sb, hsb⟩ : ∃ b, sentB t c (p, i) = b := ⟨_, rfl⟩
          rw [hsb] at HSW
          have HSB := Lib.hid hsb
          clear hsb
          go_wp2_with fail
          refine HSW.out.mono ?_
          rintro e w7 ⟨rfl, hE7⟩
          cases sb with
          | true =>
            go_wp2
            go_roundg (k - (i + 1))
            case measure => omega
            case rel => exact ⟨i + 1, by omega, by omega, by go_num, (show Aside _ from missTo_succ A2.out HSB.out), (HEK2.out.trans' hE7 : Ext wo w7)⟩
          | false =>
            have HF : Hid (mb = false) := Lib.hid (by rw [← HMB.out, missTo_hit A2.out HSB.out (by rw [HCL.out]; exact hlt) (by rw [HK.out]; exact hliz)]; rfl)
            go_wp2
            go_ret
            exact ⟨by rw [HF.out]; rfl, HEW2.out.trans' hE7⟩
        · have hliz : ¬ (i : Int) < (k : Int) := by omega
          obtain rfl : k = i := by omega
          go_wp2
          go_roundg (n - (p + 1))
          case measure => omega
          case rel =>
            exact ⟨p + 1, by omega, by omega, by go_num, (show Aside _ from missTo_next A2.out (by rw [HK.out]; simp)), (show Ext _ _ from HEK.out.trans' HEK2.out)⟩
    · have hltz : ¬ (p : Int) < (n : Int) := by omega
      obtain rfl : n = p := by omega
      have HF : Hid (mb = true) := Lib.hid (by rw [← HMB.out, show missE t c = none from by unfold missE; rw [HCL.out]; exact A.out]; rfl)
      go_wp2
      go_ret
      exact ⟨by rw [HF.out]; rfl, HEW.out⟩

set_option maxHeartbeats 4000000 in
set_option maxRecDepth 100000 in
theorem consistentR_calls (v vc : Value) (t : Tr) (c : List Int) (w : World) (h : TrAt w v t) (hs : LooseTr t) (hc : Ints w vc c) :
    Calls Try.prog 15 #[.agg #[v], vc] w fun e w' => e = .returned (.bool (consB t c)) ∧ Ext w w' := by
  have HVC := Lib.hid (fun W (hW : Ext w W) => validR_calls v t W (h.ext hW) hs)
  have HFC := Lib.hid (fun W (hW : Ext w W) => fitsR_calls v vc t c W (h.ext hW) (hc.ext hW))
  have HRC := Lib.hid (fun W (hW : Ext w W) (hv : validT t = true) (hf : fitsB t c = true) => rangeR_calls v vc t c W (h.ext hW) (valid_small hv) (hc.ext hW) (of_decide_eq_true hf))
  have HCC := Lib.hid (fun W (hW : Ext w W) (hv : validT t = true) (hf : fitsB t c = true) (hr : rangeB t c = true) => closedR_calls v vc t c W (h.ext hW) (valid_small hv) hv (hc.ext hW) ⟨of_decide_eq_true hf, hr⟩)
  obtain ⟨ta, tc, rfl, htc⟩ := h.sh
  obtain ⟨ca, cc, rfl, hlc, _⟩ := hc
  obtain ⟨cb, hcb⟩ : ∃ b, consB t c = b := ⟨_, rfl⟩
  rw [hcb]
  have HB := Lib.hid hcb
  obtain ⟨vb, hvb⟩ : ∃ b, validT t = b := ⟨_, rfl⟩
  obtain ⟨fb, hfb⟩ : ∃ b, fitsB t c = b := ⟨_, rfl⟩
  obtain ⟨rb, hrb⟩ : ∃ b, rangeB t c = b := ⟨_, rfl⟩
  obtain ⟨mb, hmb⟩ : ∃ b, (missE t c).isNone = b := ⟨_, rfl⟩
  have HBB : Hid (cb = (vb && (fb && (rb && mb)))) := Lib.hid (by rw [← hcb, ← hvb, ← hfb, ← hrb, ← hmb]; rfl)
  rw [hvb] at HVC HRC HCC
  rw [hfb] at HFC HRC HCC
  rw [hrb] at HRC HCC
  rw [hmb] at HCC
  generalize t.length = n at *
  generalize c.length = m at *
  have HY1 := Lib.hid (heap_alloc_new w (.cells #[.slice ta n tc] 24))
  have HE1 := Lib.hid ((Ext.rf w).al (.cells #[.slice ta n tc] 24))
  have t1 : True := trivial
  clear h hs hcb hvb hfb hrb hmb hlc htc
  go_enter Try.func15, Try.ntmps15
  go_wp2_with fail
  refine (HVC.out _ HE1.out).mono ?_
  rintro e w2 ⟨rfl, hX2⟩
  have HE2 := Lib.hid (HE1.out.trans' hX2)
  have HY2 := Lib.hid (hX2.hp HY1.out)
  have t2 := cellOf HY2.out 0
  simp only [List.getElem?_toArray, List.getElem?_cons_zero] at t2
  clear hX2 t1
  cases vb with
  | false => go_wp2; go_ret; exact ⟨by rw [HBB.out]; simp, HE2.out⟩
  | true =>
    go_wp2_with fail
    refine (HFC.out _ HE2.out).mono ?_
    rintro e w3 ⟨rfl, hX3⟩
    have HE3 := Lib.hid (HE2.out.trans' hX3)
    have HY3 := Lib.hid (hX3.hp HY2.out)
    have t3 := cellOf HY3.out 0
    simp only [List.getElem?_toArray, List.getElem?_cons_zero] at t3
    clear hX3 t2
    cases fb with
    | false => go_wp2; go_ret; exact ⟨by rw [HBB.out]; simp, HE3.out⟩
    | true =>
      go_wp2_with fail
      refine (HRC.out _ HE3.out (by first | rfl | trivial) (by first | rfl | trivial)).mono ?_
      rintro e w4 ⟨rfl, hX4⟩
      have HE4 := Lib.hid (HE3.out.trans' hX4)
      have HY4 := Lib.hid (hX4.hp HY3.out)
      have t4 := cellOf HY4.out 0
      simp only [List.getElem?_toArray, List.getElem?_cons_zero] at t4
      clear hX4 t3
      cases rb with
      | false => go_wp2; go_ret; exact ⟨by rw [HBB.out]; simp, HE4.out⟩
      | true =>
        go_wp2_with fail
        refine (HCC.out _ HE4.out (by first | rfl | trivial) (by first | rfl | trivial) (by first | rfl | trivial)).mono ?_
        rintro e w5 ⟨rfl, hX5⟩
        have HE5 := Lib.hid (HE4.out.trans' hX5)
        have HY5 := Lib.hid (hX5.hp HY4.out)
        have t5 := cellOf HY5.out 0
        simp only [List.getElem?_toArray, List.getElem?_cons_zero] at t5
        clear hX5 t4
        go_wp2
        go_ret
        exact ⟨by rw [HBB.out]; simp, HE5.out⟩

set_option maxHeartbeats 8000000 in
set_option maxRecDepth 100000 in
theorem faultC_calls (v va vb : Value) (t : Tr) (a b : List Int) (w : World) (h : TrAt w v t) (hs : LooseTr t) (ha : Ints w va a) (hb : Ints w vb b) :
    Calls Try.prog 20 #[.agg #[v], va, vb] w fun e w' => e = .returned (.int .i64 (givenE t [a, b] [])) ∧ Ext w w' := by
  have HVC := Lib.hid (fun W (hW : Ext w W) => validR_calls v t W (h.ext hW) hs)
  have HFA := Lib.hid (fun W (hW : Ext w W) => fitsR_calls v va t a W (h.ext hW) (ha.ext hW))
  have HFB := Lib.hid (fun W (hW : Ext w W) => fitsR_calls v vb t b W (h.ext hW) (hb.ext hW))
  have HRA := Lib.hid (fun W (hW : Ext w W) (hv : validT t = true) (hf : fitsB t a = true) => rangeR_calls v va t a W (h.ext hW) (valid_small hv) (ha.ext hW) (of_decide_eq_true hf))
  have HRB := Lib.hid (fun W (hW : Ext w W) (hv : validT t = true) (hf : fitsB t b = true) => rangeR_calls v vb t b W (h.ext hW) (valid_small hv) (hb.ext hW) (of_decide_eq_true hf))
  have HCA := Lib.hid (fun W (hW : Ext w W) (hv : validT t = true) (hf : fitsB t a = true) (hr : rangeB t a = true) => closedR_calls v va t a W (h.ext hW) (valid_small hv) hv (ha.ext hW) ⟨of_decide_eq_true hf, hr⟩)
  have HCB := Lib.hid (fun W (hW : Ext w W) (hv : validT t = true) (hf : fitsB t b = true) (hr : rangeB t b = true) => closedR_calls v vb t b W (h.ext hW) (valid_small hv) hv (hb.ext hW) ⟨of_decide_eq_true hf, hr⟩)
  obtain ⟨ta, tc, rfl, htc⟩ := h.sh
  obtain ⟨aa, ac, rfl, hac, _⟩ := ha
  obtain ⟨ba, bc, rfl, hbc, _⟩ := hb
  obtain ⟨ge, hge⟩ : ∃ E, givenE t [a, b] [] = E := ⟨_, rfl⟩
  rw [hge]
  obtain ⟨vv, hvb⟩ : ∃ b, validT t = b := ⟨_, rfl⟩
  obtain ⟨fa, hfa⟩ : ∃ b, fitsB t a = b := ⟨_, rfl⟩
  obtain ⟨fb, hfb⟩ : ∃ r, fitsB t b = r := ⟨_, rfl⟩
  obtain ⟨ra, hra⟩ : ∃ b, rangeB t a = b := ⟨_, rfl⟩
  obtain ⟨rb, hrb⟩ : ∃ r, rangeB t b = r := ⟨_, rfl⟩
  obtain ⟨ma, hma⟩ : ∃ b, (missE t a).isNone = b := ⟨_, rfl⟩
  obtain ⟨mb, hmb⟩ : ∃ r, (missE t b).isNone = r := ⟨_, rfl⟩
  have HGG : Hid (ge = if (vv && (fa && fb)) = true then if (ra && rb) = true then if (ma && mb) = true then 0 else 18 else 2 else 1) := Lib.hid (by
    rw [← hge]; unfold givenE
    simp only [List.all_cons, List.all_nil, Bool.and_true, hvb, hfa, hfb, hra, hrb, hma, hmb, if_true])
  rw [hvb] at HVC HRA HRB HCA HCB
  rw [hfa] at HFA HRA HCA
  rw [hfb] at HFB HRB HCB
  rw [hra] at HRA HCA
  rw [hrb] at HRB HCB
  rw [hma] at HCA
  rw [hmb] at HCB
  generalize t.length = n at *
  generalize a.length = m at *
  generalize b.length = k at *
  have HY1 := Lib.hid (heap_alloc_new w (.cells #[.slice ta n tc] 24))
  have HE1 := Lib.hid ((Ext.rf w).al (.cells #[.slice ta n tc] 24))
  have t1 : True := trivial
  clear h hs hge hvb hfa hfb hra hrb hma hmb hac hbc htc
  go_enter Try.func20, Try.ntmps20
  go_wp2_with fail
  refine (HVC.out _ HE1.out).mono ?_
  rintro e w2 ⟨rfl, hX2⟩
  have HE2 := Lib.hid (HE1.out.trans' hX2)
  have HY2 := Lib.hid (hX2.hp HY1.out)
  have t2 := cellOf HY2.out 0
  simp only [List.getElem?_toArray, List.getElem?_cons_zero] at t2
  clear hX2 t1
  cases vv with
  | false =>
    go_wp2
    go_ret
    exact ⟨by rw [HGG.out]; rfl, HE2.out⟩
  | true =>
  go_wp2_with fail
  refine (HFA.out _ HE2.out).mono ?_
  rintro e w3 ⟨rfl, hX3⟩
  have HE3 := Lib.hid (HE2.out.trans' hX3)
  have HY3 := Lib.hid (hX3.hp HY2.out)
  have t3 := cellOf HY3.out 0
  simp only [List.getElem?_toArray, List.getElem?_cons_zero] at t3
  clear hX3 t2
  cases fa with
  | false =>
    go_wp2
    go_ret
    exact ⟨by rw [HGG.out]; rfl, HE3.out⟩
  | true =>
  go_wp2_with fail
  refine (HFB.out _ HE3.out).mono ?_
  rintro e w4 ⟨rfl, hX4⟩
  have HE4 := Lib.hid (HE3.out.trans' hX4)
  have HY4 := Lib.hid (hX4.hp HY3.out)
  have t4 := cellOf HY4.out 0
  simp only [List.getElem?_toArray, List.getElem?_cons_zero] at t4
  clear hX4 t3
  cases fb with
  | false =>
    go_wp2
    go_ret
    exact ⟨by rw [HGG.out]; rfl, HE4.out⟩
  | true =>
  go_wp2_with fail
  refine (HRA.out _ HE4.out (by first | rfl | trivial) (by first | rfl | trivial)).mono ?_
  rintro e w5 ⟨rfl, hX5⟩
  have HE5 := Lib.hid (HE4.out.trans' hX5)
  have HY5 := Lib.hid (hX5.hp HY4.out)
  have t5 := cellOf HY5.out 0
  simp only [List.getElem?_toArray, List.getElem?_cons_zero] at t5
  clear hX5 t4
  cases ra with
  | false =>
    go_wp2
    go_ret
    exact ⟨by rw [HGG.out]; rfl, HE5.out⟩
  | true =>
  go_wp2_with fail
  refine (HRB.out _ HE5.out (by first | rfl | trivial) (by first | rfl | trivial)).mono ?_
  rintro e w6 ⟨rfl, hX6⟩
  have HE6 := Lib.hid (HE5.out.trans' hX6)
  have HY6 := Lib.hid (hX6.hp HY5.out)
  have t6 := cellOf HY6.out 0
  simp only [List.getElem?_toArray, List.getElem?_cons_zero] at t6
  clear hX6 t5
  cases rb with
  | false =>
    go_wp2
    go_ret
    exact ⟨by rw [HGG.out]; rfl, HE6.out⟩
  | true =>
  go_wp2_with fail
  refine (HCA.out _ HE6.out (by first | rfl | trivial) (by first | rfl | trivial) (by first | rfl | trivial)).mono ?_
  rintro e w7 ⟨rfl, hX7⟩
  have HE7 := Lib.hid (HE6.out.trans' hX7)
  have HY7 := Lib.hid (hX7.hp HY6.out)
  have t7 := cellOf HY7.out 0
  simp only [List.getElem?_toArray, List.getElem?_cons_zero] at t7
  clear hX7 t6
  cases ma with
  | false =>
    go_wp2
    go_ret
    exact ⟨by rw [HGG.out]; rfl, HE7.out⟩
  | true =>
  go_wp2_with fail
  refine (HCB.out _ HE7.out (by first | rfl | trivial) (by first | rfl | trivial) (by first | rfl | trivial)).mono ?_
  rintro e w8 ⟨rfl, hX8⟩
  have HE8 := Lib.hid (HE7.out.trans' hX8)
  have HY8 := Lib.hid (hX8.hp HY7.out)
  have t8 := cellOf HY8.out 0
  simp only [List.getElem?_toArray, List.getElem?_cons_zero] at t8
  clear hX8 t7
  cases mb with
  | false =>
    go_wp2
    go_ret
    exact ⟨by rw [HGG.out]; rfl, HE8.out⟩
  | true =>
    go_wp2
    go_ret
    exact ⟨by rw [HGG.out]; rfl, HE8.out⟩

end Go.Proofs.Ytijncboddmjdcaa
