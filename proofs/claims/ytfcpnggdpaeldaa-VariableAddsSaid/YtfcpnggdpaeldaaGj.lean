import Derived.Test.YtfcpnggdpaeldaaGa
import Derived.Test.YtfcpnggdpaeldaaProg
import Derived.Test.YtfcpnggdpaeldaaGe
import Derived.Test.YtfcpnggdpaeldaaGi
import Derived.BigQuiet
import Derived.Deep.QuietTactic
import Derived.Deep.LoopGhost
import Derived.Shelf.Abstract
import Derived.BigRegion
import Derived.Laws.EntriesVeiled
/-
  The sizes and the range of counts: the program's sized, inRange and process.
-/
namespace Go.Proofs.Ytfcpnggdpaeldaa
open Go.RowKit
set_option linter.unusedVariables false
attribute [local go_sem ↓] Go.wp_at_zero Go.wp_at_succ

theorem enters_107 : ∀ args w, (callFunc 107 args).run Try.prog w = .ok (.enter 107 args) w := enters_of Try.func107 (by kernel_rfl) rfl

set_option maxHeartbeats 1000000 in
theorem sized1_calls (vs : List Value) (x : List Int) (b n tc : Nat) (ta : Option Addr) (w : World) (hx : RInts w vs x) (hc : w.cell? ⟨b, 0, none⟩ = some (.slice ta n tc)) :
    Calls Try.prog 107 #[encOne vs, .pointer (some ⟨b, 0, none⟩)] w fun e w' => e = .returned (.bool (!decide (x.length = n))) ∧ Ext w w' := by
  obtain ⟨u, rfl, hi⟩ := hx
  obtain ⟨a, c, rfl, hlc, _⟩ := hi
  unfold encOne
  simp only [List.headD_cons]
  obtain ⟨r, hr⟩ : ∃ r, ((x.length : Int) != (n : Int)) = r := ⟨_, rfl⟩
  have HR : Hid ((!decide (x.length = n)) = r) := Lib.hid (by rw [← hr]; by_cases h : x.length = n <;> simp [h]; omega)
  rw [HR.out]
  generalize x.length = m at *
  go_enter Try.func107, Try.ntmps107
  go_wp2
  go_ret
  exact ⟨rfl, Ext.rf _⟩

theorem all_any_not {α : Type} (l : List α) (f : α → Bool) : l.all f = !l.any fun x => !f x := by
  induction l with
  | nil => rfl
  | cons a l ih => simp [ih]

set_option maxHeartbeats 2000000 in
theorem sizedP_calls (v vl : Value) (t : Tr) (l : List (List Int)) (w : World) (h : TrAt w v t) (hs : LooseTr t) (hl : Sl RInts 1 w vl l) (hn : l.length ≤ 1000000) :
    Calls Try.prog 93 #[.agg #[v], vl] w fun e w' => e = .returned (.bool (validT t && l.all (fitsB t))) ∧ Ext w w' := by
  have HVC := Lib.hid (fun W (hW : Ext w W) => validP_calls v t W (h.ext hW) hs)
  obtain ⟨ta, tc, rfl, htc⟩ := h.sh
  have HCF := Lib.hid (fun W (hW : Ext w W) (hc : W.cell? ⟨w.heap.size, 0, none⟩ = some (.slice ta t.length tc)) =>
    containsFunc_rows RInts rints_lasts 107 #[.pointer (some ⟨w.heap.size, 0, none⟩)] enters_107 (fun x => !decide (x.length = t.length)) vl l W (hl.ext rints_lasts hW) hn
      (fun y hy W2 vs hW2 hR => sized1_calls vs y _ _ _ _ W2 hR (hW2.cl hc)))
  have HAL : Hid (l.all (fitsB t) = !l.any fun x => !decide (x.length = t.length)) := Lib.hid (all_any_not l _)
  have HX0 := Lib.hid (heap_alloc_new w (.cells #[.slice ta t.length tc] 24))
  have HE1 := Lib.hid ((Ext.rf w).al (.cells #[.slice ta t.length tc] 24))
  rw [HAL.out]
  generalize (l.any fun x => !decide (x.length = t.length)) = sc at *
  generalize validT t = vt at *
  generalize t.length = N at *
  clear h hs HAL htc hl
  cases vt with
  | false =>
    go_enter Try.func93, Try.ntmps93
    go_wp2_with fail
    refine (HVC.out _ HE1.out).mono ?_
    rintro e w2 ⟨rfl, hX⟩
    go_wp2
    go_ret
    exact ⟨rfl, HE1.out.trans' hX⟩
  | true =>
    go_enter Try.func93, Try.ntmps93
    go_wp2_with fail
    refine (HVC.out _ HE1.out).mono ?_
    rintro e w2 ⟨rfl, hX⟩
    have HY0 := Lib.hid (hX.hp HX0.out)
    have HE2 := Lib.hid (HE1.out.trans' hX)
    go_wp2_with fail
    refine (HCF.out _ HE2.out (by have := cellOf HY0.out 0; simpa using this)).mono ?_
    rintro e w3 ⟨rfl, hX3⟩
    go_wp2
    go_ret
    exact ⟨by simp, HE2.out.trans' hX3⟩

/-- A number of counts and its cell. -/
theorem ints_at {w : World} {a : Option Addr} {m c : Nat} {l : List Int} (h : Ints w (.slice a m c) l) (i : Nat) (hi : i < l.length) : ∃ b o, a = some ⟨b, o, none⟩ ∧ b < w.heap.size ∧ w.cell? ⟨b, o + i, none⟩ = some (.int .i64 l[i]!) := by
  obtain ⟨b, o, c2, he, _, hb, hc⟩ := h.at1 i hi
  simp only [Value.slice.injEq] at he
  exact ⟨b, o, he.1, hb, hc⟩

set_option maxHeartbeats 4000000 in
set_option maxRecDepth 100000 in
theorem inRangeP_calls (v vc : Value) (t : Tr) (c : List Int) (w : World) (h : TrAt w v t) (hs : SmallTr t) (hc : Ints w vc c) (hl : c.length = t.length) :
    Calls Try.prog 94 #[.agg #[v], vc] w fun e w' => e = .returned (.bool (rangeB t c)) ∧ Ext w w' := by
  have HT := Lib.hid h
  have HC := Lib.hid hc
  have HS := Lib.hid hs
  obtain ⟨ta, tc, rfl, htc⟩ := h.sh
  obtain ⟨ca, cc, rfl, hlc, _⟩ := hc
  have hn1 := hs.1
  rw [hl] at hlc ⊢
  have HCL := Lib.hid hl
  obtain ⟨rb, hrb⟩ : ∃ b, rangeB t c = b := ⟨_, rfl⟩
  rw [hrb]
  have HRB := Lib.hid hrb
  generalize hln : t.length = n at *
  have HL := Lib.hid hln
  have HX0 := Lib.hid (heap_alloc_new w (.cells #[.slice ta n tc] 24))
  have HE1 := Lib.hid ((Ext.rf w).al (.cells #[.slice ta n tc] 24))
  clear h hs hln hl hrb
  go_enter Try.func94, Try.ntmps94
  go_wp2
  generalize hw2 : w.alloc (.cells #[.slice ta n tc] 24) = w2 at *
  clear hw2
  go_loopg [9] n (fun g s9 wr => ∃ p : Nat, p ≤ n ∧ n - p ≤ g ∧ s9 = .int .i64 p ∧ Aside (∀ q, q < p → 0 ≤ c[q]! ∧ c[q]! ≤ (t[q]!.events.length : Int)) ∧ Aside (Ext w2 wr))
  case atStart => exact ⟨0, Nat.zero_le _, by omega, rfl, (fun j hj => absurd hj (Nat.not_lt_zero _)), Ext.rf _⟩
  case round =>
    obtain ⟨p, hp, hg, rfl, A, HEK⟩ := hrel
    have HEW := Lib.hid (HE1.out.trans' HEK.out)
    have HY0 := Lib.hid (HEK.out.hp HX0.out)
    have t0 := cellOf HY0.out 0
    simp only [List.getElem?_toArray, List.getElem?_cons_zero] at t0
    by_cases hlt : p < n
    · have hltz : (p : Int) < (n : Int) := by omega
      have hpz : (0 : Int) ≤ (p : Int) := by omega
      obtain ⟨B, O, C, vv, ve, hve, hlC, hB, hn0, hv0, he0, hV, hE0⟩ := proc_at HT.out p (by rw [HL.out]; exact hlt)
      simp only [Value.slice.injEq] at hve
      obtain ⟨rfl, hzz, rfl⟩ := hve
      obtain ⟨ea, ec, rfl, hec⟩ := hE0.sh
      obtain ⟨cb, co, rfl, hcb, hcp⟩ := ints_at HC.out p (by rw [HCL.out]; exact hlt)
      have he1 := HEW.out.cl he0
      have hc1 := HEW.out.cl hcp
      have hen := (HS.out.2 p (by rw [HL.out]; exact hlt)).2.1
      generalize hne : t[p]!.events.length = ne at *
      have HNE := Lib.hid hne
      generalize hk : c[p]! = k at *
      have HK := Lib.hid hk
      clear hn0 hv0 hV hE0 hzz hne he0 hk hcp
      have HNO : Hid (¬ (0 ≤ k ∧ k ≤ (ne : Int)) → rb = false) := Lib.hid (fun hno => by
        rw [← HRB.out, Bool.eq_false_iff]
        intro hr
        have := rangeB_iff.1 hr p (by rw [HCL.out]; exact hlt)
        rw [HNE.out, HK.out] at this
        exact hno this)
      by_cases h1 : k < 0
      · have d1 : decide (k < 0) = true := decide_eq_true h1
        have HF := Lib.hid (HNO.out (by omega))
        clear h1
        go_wp2
        go_ret
        exact ⟨by rw [HF.out]; rfl, HEW.out⟩
      · have d1 : decide (k < 0) = false := decide_eq_false h1
        by_cases h2 : (ne : Int) < k
        · have d2 : decide ((ne : Int) < k) = true := decide_eq_true h2
          have HF := Lib.hid (HNO.out (by omega))
          clear h1 h2
          go_wp2
          go_ret
          exact ⟨by rw [HF.out]; rfl, HEW.out⟩
        · have d2 : decide ((ne : Int) < k) = false := decide_eq_false h2
          have HOK := Lib.hid (show 0 ≤ k ∧ k ≤ (ne : Int) by omega)
          clear h1 h2
          go_wp2
          go_roundg (n - (p + 1))
          case measure => omega
          case rel =>
            refine ⟨p + 1, by omega, by omega, by go_num, (show Aside _ from fun j hj => ?_), HEK⟩
            by_cases e : j = p
            · subst e; rw [HNE.out, HK.out]; exact HOK.out
            · exact A.out j (by omega)
    · have hltz : ¬ (p : Int) < (n : Int) := by omega
      obtain rfl : n = p := by omega
      go_wp2
      go_ret
      refine ⟨?_, HEW.out⟩
      have e : rangeB t c = true := rangeB_iff.2 (fun q hq => A.out q (by rw [HCL.out] at hq; exact hq))
      rw [← HRB.out, e]; rfl

set_option maxHeartbeats 1000000 in
theorem processP_calls (v : Value) (t : Tr) (p : Int) (w : World) (h : TrAt w v t) (hs : LooseTr t) :
    Calls Try.prog 95 #[.agg #[v], .int .i64 p] w fun e w' => e = .returned (.bool (decide (0 ≤ p) && decide (p < (t.length : Int)))) ∧ Ext w w' := by
  obtain ⟨ta, tc, rfl, htc⟩ := h.sh
  have hn1 := hs.1
  generalize t.length = N at *
  have HE1 := Lib.hid ((Ext.rf w).al (.cells #[.slice ta N tc] 24))
  clear h hs
  by_cases h1 : 0 ≤ p
  · have d1 : decide (0 ≤ p) = true := decide_eq_true h1
    obtain ⟨r, hr⟩ : ∃ r, decide (p < (N : Int)) = r := ⟨_, rfl⟩
    rw [d1, hr]
    clear h1
    go_enter Try.func95, Try.ntmps95
    go_wp2
    go_ret
    exact ⟨by simp, HE1.out⟩
  · have d1 : decide (0 ≤ p) = false := decide_eq_false h1
    rw [d1]
    clear h1
    go_enter Try.func95, Try.ntmps95
    go_wp2
    go_ret
    exact ⟨by simp, HE1.out⟩

end Go.Proofs.Ytfcpnggdpaeldaa

/-
  What is missing in a cut: the program's missing and closed.
-/
namespace Go.Proofs.Ytfcpnggdpaeldaa
open Go.RowKit
set_option linter.unusedVariables false
attribute [local go_sem ↓] Go.wp_at_zero Go.wp_at_succ

/-- The send of what is missing. -/
def misS (t : Tr) (c : List Int) : Option Eid := (missE t c).bind fun x => findE t 2 (ev t x).msg
def MissOut (t : Tr) (c : List Int) (w w' : World) (e : Ending) : Prop :=
  e = .returned (.tuple #[.agg #[.int .i64 (eidA (misS t c)), .int .i64 (eidB (misS t c))], .agg #[.int .i64 (eidA (missE t c)), .int .i64 (eidB (missE t c))], .bool (missE t c).isSome]) ∧ Ext w w'
theorem shape_peer {t : Tr} (h : shapeB t = true) : ∀ x, Inn t x → (ev t x).kind ≠ 1 → 0 ≤ (ev t x).peer ∧ (ev t x).peer < t.length := fun x hx hk =>
  formed_peer (eventB_parts.1 ((shapeB_parts2.1 h).2.2.2 x.1 hx.1 x.2 hx.2)).1 hk
theorem valid_send {t : Tr} (h : validT t = true) {x : Eid} (hx : Inn t x) (hk : (ev t x).kind = 3) : ∃ s, findE t 2 (ev t x).msg = some s := by
  obtain ⟨h1, h2, _⟩ := validT_parts2.1 h
  exact send_of (shape_peer h1) h2 hx hk

theorem valid_small {t : Tr} (h : validT t = true) : SmallTr t := by
  obtain ⟨h1, h2, h3, h4⟩ := shapeB_parts2.1 (validT_parts2.1 h).1
  refine ⟨by omega, fun p hp => ?_⟩
  have hh := headB_parts.1 (h3 p hp)
  refine ⟨by have := hh.2.2.1; omega, by have := hh.2.2.2.2; omega, fun i hi => ?_⟩
  have := (eventB_parts.1 (h4 p hp i hi)).2.2.2.2.1
  omega


theorem id_keep {w : World} {K k : Nat} (h : k ≠ K) (a b : Value) : ((w.setCell ⟨K, 0, none⟩ a).setCell ⟨K, 1, none⟩ b).heap[k]? = w.heap[k]? := by
  rw [Below.heap_setCell _ ⟨K, 1, none⟩ _ _ h, Below.heap_setCell _ ⟨K, 0, none⟩ _ _ h]

set_option maxHeartbeats 8000000 in
set_option maxRecDepth 100000 in
theorem missingP_calls (v vc : Value) (t : Tr) (c : List Int) (w : World) (h : TrAt w v t) (hs : SmallTr t) (hv : validT t = true) (hc : Ints w vc c) (hr : RangeC t c) :
    Calls Try.prog 108 #[.agg #[v], vc] w fun e w' => MissOut t c w w' e := by
  have HT := Lib.hid h
  have HC := Lib.hid hc
  have HS := Lib.hid hs
  have HR := Lib.hid hr
  have HSD := Lib.hid (fun x (hx : Inn t x) (hk : (ev t x).kind = 3) => valid_send hv hx hk)
  have HSE : Hid (∀ W, Ext w W → ∀ m, Calls Try.prog 113 #[.agg #[v], .int .i64 m] W fun e w' => FndOut t 2 m W w' e) := Lib.hid (fun W hW m => senderP_calls v t m W (h.ext hW) hs)
  have HFV : Hid (∀ m, fndO t 2 m = findE t 2 m) := Lib.hid (fun m => by unfold fndO; rw [if_pos hv])
  obtain ⟨ta, tc, rfl, htc⟩ := h.sh
  obtain ⟨ca, cc, rfl, hlc, _⟩ := hc
  have hn1 := hs.1
  rw [hr.1] at hlc ⊢
  have HCL := Lib.hid hr.1
  generalize hln : t.length = n at *
  have HL := Lib.hid hln
  have HB := Lib.hid (fun i o => allocs_at [.cells #[.slice ta n tc] 24, idO 0 0, idO 0 0] w i o)
  have HE3 : Hid (Ext w (((w.alloc (.cells #[.slice ta n tc] 24)).alloc (idO 0 0)).alloc (idO 0 0))) := Lib.hid (by repeat (first | refine Ext.st ?_ (by first | exact Nat.le_refl _ | exact Nat.le_succ _ | assumption | omega) _ | refine Ext.al ?_ _ | refine Ext.dr ?_ | refine Ext.drN ?_ _ | exact Ext.rf _))
  clear h hs hln hr hv
  go_enter Try.func108, Try.ntmps108
  go_wp2
  generalize hw3 : ((w.alloc (.cells #[.slice ta n tc] 24)).alloc (idO 0 0)).alloc (idO 0 0) = w3 at *
  have HX0 : Hid (w3.heap[w.heap.size]? = some (.cells #[.slice ta n tc] 24)) := Lib.hid (hw3 ▸ HB.out 0 _ rfl)
  have HX1 : Hid (w3.heap[w.heap.size + 1]? = some (idO 0 0)) := Lib.hid (hw3 ▸ HB.out 1 _ rfl)
  have HX2 : Hid (w3.heap[w.heap.size + 1 + 1]? = some (idO 0 0)) := Lib.hid (hw3 ▸ HB.out 2 _ rfl)
  clear hw3 HB
  go_loopg [15] n (fun g s15 wr => ∃ p : Nat, p ≤ n ∧ n - p ≤ g ∧ s15 = .int .i64 p ∧ Aside (missTo t c p 0 = none) ∧ Aside (Ext w3 wr))
  case atStart => exact ⟨0, Nat.zero_le _, by omega, rfl, (show Aside _ from missTo_zero t c), Ext.rf _⟩
  case round =>
    obtain ⟨p, hp, hg, rfl, A, HEK⟩ := hrel
    have HEW := Lib.hid (HE3.out.trans' HEK.out)
    have HY0 := Lib.hid (HEK.out.hp HX0.out)
    have HY1 := Lib.hid (HEK.out.hp HX1.out)
    have HY2 := Lib.hid (HEK.out.hp HX2.out)
    have t0 := cellOf HY0.out 0
    simp only [List.getElem?_toArray, List.getElem?_cons_zero] at t0
    by_cases hlt : p < n
    · have hltz : (p : Int) < (n : Int) := by omega
      have hpz : (0 : Int) ≤ (p : Int) := by omega
      obtain ⟨B, O, C, vv, ve, hve, hlC, hB, hn0, hv0, he0, hV, hE0⟩ := proc_at HT.out p (by rw [HL.out]; exact hlt)
      simp only [Value.slice.injEq] at hve
      obtain ⟨rfl, hzz, rfl⟩ := hve
      have HEV := Lib.hid hE0
      obtain ⟨ea, ec, rfl, hec⟩ := hE0.sh
      obtain ⟨cb, co, rfl, hcb, hcp⟩ := ints_at HC.out p (by rw [HCL.out]; exact hlt)
      have he1 := HEW.out.cl he0
      have hc1 := HEW.out.cl hcp
      have hkr := HR.out.at (by rw [HL.out]; exact hlt)
      have hen := (HS.out.2 p (by rw [HL.out]; exact hlt)).2.1
      generalize hne : t[p]!.events.length = ne at *
      have HNE := Lib.hid hne
      obtain ⟨k, hk⟩ : ∃ k : Nat, c[p]! = (k : Int) := ⟨c[p]!.toNat, by omega⟩
      rw [hk] at hc1 hkr
      have HK := Lib.hid hk
      have hkz : (0 : Int) ≤ (k : Int) := by omega
      have hkc : (k : Int) ≤ (ec : Int) := by omega
      have hkm : k ≤ 1000000 := by omega
      have HKN := Lib.hid (show k ≤ ne from by omega)
      clear hn0 hv0 hV hE0 hzz hne he0 hk hcp hkr
      go_wp2
      clear t0 he1 hc1
      obtain ⟨wo, rfl⟩ : ∃ x, x = wr := ⟨_, rfl⟩
      go_loopg [29] k (fun g2 s29 wr => ∃ i : Nat, i ≤ k ∧ k - i ≤ g2 ∧ s29 = .int .i64 i ∧ Aside (missTo t c p i = none) ∧ Aside (Ext wo wr))
      case atStart => exact ⟨0, Nat.zero_le _, by omega, rfl, A, Ext.rf _⟩
      case round =>
        obtain ⟨i, hi, hg2, rfl, A2, HEK2⟩ := hrel
        have HEW2 := Lib.hid (HEW.out.trans' HEK2.out)
        by_cases hli : i < k
        · have hliz : (i : Int) < (k : Int) := by omega
          have hiz : (0 : Int) ≤ (i : Int) := by omega
          have HIN : Hid (Inn t (p, i)) := Lib.hid ⟨by show p < t.length; rw [HL.out]; exact hlt, by show i < t[p]!.events.length; rw [HNE.out]; have := HKN.out; omega⟩
          obtain ⟨EB, EO, EC, va, hee, hlE, hEB, k0, k1, k2, k3, k4, ha⟩ := event_at HEV.out i (by rw [HNE.out]; have := HKN.out; omega)
          simp only [Value.slice.injEq] at hee
          obtain ⟨rfl, hzz, rfl⟩ := hee
          obtain ⟨va1, va2, rfl, _⟩ := ha.sh
          have m0 := HEW2.out.cl k0
          have m1 := HEW2.out.cl k1
          have m2 := HEW2.out.cl k2
          have m3 := HEW2.out.cl k3
          have m4 := HEW2.out.cl k4
          have HEVE : Hid (ev t (p, i) = t[p]!.events[i]!) := Lib.hid rfl
          generalize t[p]!.events[i]! = y at *
          generalize y.asg.length = nb at *
          clear k0 k1 k2 k3 k4 hzz ha
          have HB6 := Lib.hid (heap_alloc_new wr (e5 (.int .i64 y.kind) (.int .i64 y.peer) (.int .i64 y.msg) (.int .i64 y.time) (.slice va1 nb va2)))
          have HXT := Lib.hid ((Ext.rf wr).al (e5 (.int .i64 y.kind) (.int .i64 y.peer) (.int .i64 y.msg) (.int .i64 y.time) (.slice va1 nb va2)))
          obtain ⟨ck, hck⟩ : ∃ b, (y.kind != 3) = b := ⟨_, rfl⟩
          have HCK := Lib.hid hck
          cases ck with
          | true =>
            have HSB : Hid (sentB t c (p, i) = true) := Lib.hid (sentB_other (by rw [HEVE.out]; have := HCK.out; simpa using this))
            go_wp2
            go_roundg (k - (i + 1))
            case measure => omega
            case rel => exact ⟨i + 1, by omega, by omega, by go_num, (show Aside _ from missTo_succ A2.out HSB.out), HEK2.out.trans' HXT.out⟩
          | false =>
            have HK3 := Lib.hid (show y.kind = 3 from by have := HCK.out; simpa using this)
            obtain ⟨s, hs⟩ := HSD.out (p, i) HIN.out (by rw [HEVE.out]; exact HK3.out)
            have HFS := Lib.hid hs
            rw [HEVE.out] at hs
            have HSN := Lib.hid (findE_some hs).1
            have HFW := Lib.hid (HSE.out _ (HEW2.out.trans' HXT.out) y.msg)
            unfold FndOut at HFW
            rw [HFV.out, hs] at HFW
            simp only [eidA, eidB, Option.isSome_some] at HFW
            clear hs
            have HZ0 := Lib.hid (HXT.out.hp (HEK2.out.hp HY0.out))
            have HZ1 := Lib.hid (HXT.out.hp (HEK2.out.hp HY1.out))
            have HZ2 := Lib.hid (HXT.out.hp (HEK2.out.hp HY2.out))
            have hw2s := HEW2.out.sz
            have t6 := cellOf (HEK2.out.hp HY0.out) 0
            simp only [List.getElem?_toArray, List.getElem?_cons_zero] at t6
            obtain ⟨s1, s2⟩ := s
            simp only at HFW HFS HSN
            have l1 : w.heap.size < wr.heap.size := World.block_lt_of_cell? wr _ t6
            have l2 : w.heap.size ≠ wr.heap.size := by omega
            have hs1 : s1 < n := by have := HSN.out.1; rw [HL.out] at this; exact this
            obtain ⟨cb', co', hcc, _, hcs⟩ := ints_at HC.out s1 (by rw [HCL.out]; exact hs1)
            simp only [Option.some.injEq, Addr.mk.injEq, and_true] at hcc
            obtain ⟨rfl, rfl⟩ := hcc
            have HCS := Lib.hid hcs
            clear hcs
            go_wp2_with fail
            clear t6 l1 l2 m0 m1 m2 m3 m4
            refine HFW.out.mono ?_
            rintro e w7 ⟨rfl, hE7⟩
            have HX7 := Lib.hid (HXT.out.trans' hE7)
            have HB8 := Lib.hid (heap_alloc_new w7 (idO (s1 : Int) ((s2 : Int) + 1)))
            have HX8 := Lib.hid (HX7.out.al (idO (s1 : Int) ((s2 : Int) + 1)))
            have HE8 := Lib.hid (HEW2.out.trans' HX8.out)
            have HZ1 := Lib.hid (HX8.out.hp (HEK2.out.hp HY1.out))
            have HZ2 := Lib.hid (HX8.out.hp (HEK2.out.hp HY2.out))
            have dsp := HE8.out.cl HCS.out
            have s0 := cellOf HB8.out 0
            have s1c := cellOf HB8.out 1
            simp only [List.getElem?_toArray, List.getElem?_cons_zero, List.getElem?_cons_succ] at s0 s1c
            have hspz : (0 : Int) ≤ (s1 : Int) := by omega
            have hspi : (s1 : Int) < (n : Int) := by omega
            generalize hdg : c[s1]! = dg at *
            have HDG := Lib.hid hdg
            have hl8 : w7.heap.size < (w7.alloc (idO (s1 : Int) ((s2 : Int) + 1))).heap.size := by simp
            clear hdg hE7 HX7 HB6
            go_wp2
            generalize hw8 : w7.alloc (idO (s1 : Int) ((s2 : Int) + 1)) = w8 at *
            clear hw8
            have HSR := Lib.hid (sentB_recv (c := c) (by rw [HEVE.out]; exact HK3.out) HFS.out)
            simp only at HSR
            rw [HDG.out] at HSR
            by_cases hcmp : dg < (s2 : Int) + 1
            · have d1 : decide (dg < (s2 : Int) + 1) = true := decide_eq_true hcmp
              have HSB : Hid (sentB t c (p, i) = false) := Lib.hid (by rw [HSR.out]; exact decide_eq_false (by omega))
              have HM0 := Lib.hid (missTo_hit A2.out HSB.out (by rw [HCL.out]; exact hlt) (by rw [HK.out]; exact hliz))
              have HM1 := Lib.hid (show misS t c = some (s1, s2) from by unfold misS; rw [HM0.out]; exact HFS.out)
              clear hcmp
              go_quiet (fail)
              clear d1 dsp
              have HZ1 := Lib.hid (((Ext.rf w8).drN nq).hp HZ1.out)
              have HZ2 := Lib.hid (((Ext.rf w8).drN nq).hp HZ2.out)
              have HE9 := Lib.hid (HE8.out.drN nq)
              have s0 : (w8.drewN nq).cell? ⟨w7.heap.size, 0, none⟩ = some (.int .i64 (s1 : Int)) := s0
              have s1c : (w8.drewN nq).cell? ⟨w7.heap.size, 1, none⟩ = some (.int .i64 ((s2 : Int) + 1)) := s1c
              generalize w8.drewN nq = w9 at *
              have q0 := cellOf HZ1.out 0
              have q1 := cellOf HZ1.out 1
              have g0 := freeOf HZ1.out 0
              have g1 := freeOf HZ1.out 1
              have o0 := cellOf HZ2.out 0
              have o1 := cellOf HZ2.out 1
              have p0 := freeOf HZ2.out 0
              have p1 := freeOf HZ2.out 1
              simp only [List.getElem?_toArray, List.getElem?_cons_zero, List.getElem?_cons_succ] at q0 q1 o0 o1
              go_wp2
              clear q0 q1 g0 g1 o0 o1 p0 p1
              have hS1 := id_set HZ1.out (.int .i64 ((s1 : Int))) (.int .i64 ((s2 : Int) + 1))
              have hS2 := id_set (a := Value.int .i64 ((p : Int))) (b := Value.int .i64 ((i : Int) + 1)) (show _ = _ from ((id_keep (K := w.heap.size + 1) (k := w.heap.size + 1 + 1) (by omega) (.int .i64 ((s1 : Int))) (.int .i64 ((s2 : Int) + 1))).trans HZ2.out))
              have hS3 := (id_keep (K := w.heap.size + 1 + 1) (k := w.heap.size + 1) (by omega) (.int .i64 ((p : Int))) (.int .i64 ((i : Int) + 1))).trans hS1
              have r0 := cellOf hS3 0
              have r1 := cellOf hS3 1
              have r2 := cellOf hS2 0
              have r3 := cellOf hS2 1
              simp only [List.getElem?_toArray, List.getElem?_cons_zero, List.getElem?_cons_succ] at r0 r1 r2 r3
              refine bodyPost_ret (v := .tuple #[.agg #[.int .i64 ((s1 : Int)), .int .i64 ((s2 : Int) + 1)], .agg #[.int .i64 ((p : Int)), .int .i64 ((i : Int) + 1)], .bool true]) (by simp [results, Try.results108, go_sem, r0, r1, r2, r3]) rfl ?_
              exact ⟨by rw [HM0.out, HM1.out]; rfl, id_ext (id_ext HE9.out (by omega) _ _) (by omega) _ _⟩
            · have d1 : decide (dg < (s2 : Int) + 1) = false := decide_eq_false hcmp
              have HSB : Hid (sentB t c (p, i) = true) := Lib.hid (by rw [HSR.out]; exact decide_eq_true (by omega))
              clear hcmp
              go_quiet (fail)
              go_wp2
              go_roundg (k - (i + 1))
              case measure => omega
              case rel => exact ⟨i + 1, by omega, by omega, by go_num, (show Aside _ from missTo_succ A2.out HSB.out), (HEK2.out.trans' HX8.out).drN _⟩
        · have hliz : ¬ (i : Int) < (k : Int) := by omega
          obtain rfl : k = i := by omega
          go_wp2
          go_roundg (n - (p + 1))
          case measure => omega
          case rel =>
            exact ⟨p + 1, by omega, by omega, by go_num, (show Aside _ from missTo_next A2.out (by rw [HK.out]; simp)), (show Ext _ _ from HEK.out.trans' HEK2.out)⟩
    · have hltz : ¬ (p : Int) < (n : Int) := by omega
      obtain rfl : n = p := by omega
      have HM0 := Lib.hid (show missE t c = none from by unfold missE; rw [HCL.out]; exact A.out)
      have HM1 := Lib.hid (show misS t c = none from by unfold misS; rw [HM0.out]; rfl)
      have HZ1 := HY1
      have HZ2 := HY2
      have q0 := cellOf HZ1.out 0
      have q1 := cellOf HZ1.out 1
      have g0 := freeOf HZ1.out 0
      have g1 := freeOf HZ1.out 1
      have o0 := cellOf HZ2.out 0
      have o1 := cellOf HZ2.out 1
      have p0 := freeOf HZ2.out 0
      have p1 := freeOf HZ2.out 1
      simp only [List.getElem?_toArray, List.getElem?_cons_zero, List.getElem?_cons_succ] at q0 q1 o0 o1
      go_wp2
      clear q0 q1 g0 g1 o0 o1 p0 p1
      have hS1 := id_set HZ1.out (.int .i64 (0)) (.int .i64 (0))
      have hS2 := id_set (a := Value.int .i64 (0)) (b := Value.int .i64 (0)) (show _ = _ from ((id_keep (K := w.heap.size + 1) (k := w.heap.size + 1 + 1) (by omega) (.int .i64 (0)) (.int .i64 (0))).trans HZ2.out))
      have hS3 := (id_keep (K := w.heap.size + 1 + 1) (k := w.heap.size + 1) (by omega) (.int .i64 (0)) (.int .i64 (0))).trans hS1
      have r0 := cellOf hS3 0
      have r1 := cellOf hS3 1
      have r2 := cellOf hS2 0
      have r3 := cellOf hS2 1
      simp only [List.getElem?_toArray, List.getElem?_cons_zero, List.getElem?_cons_succ] at r0 r1 r2 r3
      refine bodyPost_ret (v := .tuple #[.agg #[.int .i64 (0), .int .i64 (0)], .agg #[.int .i64 (0), .int .i64 (0)], .bool false]) (by simp [results, Try.results108, go_sem, r0, r1, r2, r3]) rfl ?_
      exact ⟨by rw [HM0.out, HM1.out]; rfl, id_ext (id_ext HEW.out (by omega) _ _) (by omega) _ _⟩

end Go.Proofs.Ytfcpnggdpaeldaa

/-
  Whether cuts are consistent: the program's closed, given and Consistent.
-/
namespace Go.Proofs.Ytfcpnggdpaeldaa
open Go.RowKit
set_option linter.unusedVariables false
attribute [local go_sem ↓] Go.wp_at_zero Go.wp_at_succ

set_option maxHeartbeats 4000000 in
set_option maxRecDepth 100000 in
theorem closedP_calls (v vc : Value) (t : Tr) (c : List Int) (w : World) (h : TrAt w v t) (hs : SmallTr t) (hv : validT t = true) (hc : Ints w vc c) (hr : RangeC t c) :
    Calls Try.prog 96 #[.agg #[v], vc] w fun e w' => e = .returned (.bool (missE t c).isNone) ∧ Ext w w' := by
  have HM := Lib.hid (fun W (hW : Ext w W) => missingP_calls v vc t c W (h.ext hW) hs hv (hc.ext hW) hr)
  obtain ⟨ta, tc, rfl, htc⟩ := h.sh
  obtain ⟨ca, cc, rfl, hlc, _⟩ := hc
  generalize t.length = N at *
  generalize c.length = M at *
  have HE1 := Lib.hid ((Ext.rf w).al (.cells #[.slice ta N tc] 24))
  have HN : Hid ((missE t c).isNone = !(missE t c).isSome) := Lib.hid (by cases missE t c <;> rfl)
  rw [HN.out]
  obtain ⟨f, hf⟩ : ∃ f, (missE t c).isSome = f := ⟨_, rfl⟩
  rw [hf]
  have HF := Lib.hid hf
  clear h hs hv hr HN hf
  go_enter Try.func96, Try.ntmps96
  go_wp2_with fail
  refine (HM.out _ HE1.out).mono ?_
  rintro e w2 ⟨rfl, hX⟩
  have HX := Lib.hid (HE1.out.trans' hX)
  rw [HF.out]
  generalize eidA (misS t c) = a1 at *
  generalize eidB (misS t c) = b1 at *
  generalize eidA (missE t c) = a2 at *
  generalize eidB (missE t c) = b2 at *
  clear hX
  go_wp2
  go_ret
  exact ⟨rfl, (HX.out.al _).al _⟩

/-- A list of a list of lists, and its cell. -/
theorem stamp_at' {w : World} {a : Option Addr} {m c : Nat} {q : List (List Int)} (h : Sl RInts 1 w (.slice a m c) q) (i : Nat) (hi : i < q.length) :
    ∃ b o sv, a = some ⟨b, o, none⟩ ∧ w.cell? ⟨b, o + i, none⟩ = some sv ∧ Ints w sv q[i]! := by
  obtain ⟨b, o, c2, cv, he, _, _, hc, ⟨u, hu, hi2⟩⟩ := h.at1 i hi
  simp only [List.cons.injEq, and_true] at hu
  subst hu
  simp only [Value.slice.injEq] at he
  exact ⟨b, o, _, he.1, hc, hi2⟩

/-- The error of a trace, of cuts, and of processes. -/
noncomputable def givenE (t : Tr) (l : List (List Int)) (ps : List Int) : Int :=
  if (validT t && l.all (fitsB t)) = true then
    if l.all (rangeB t) = true then
      if (ps.all fun p => decide (0 ≤ p) && decide (p < (t.length : Int))) = true then
        if (l.all fun c => (missE t c).isNone) = true then 0 else 18
      else 2
    else 2
  else 1
theorem all_of {α : Type} [Inhabited α] {l : List α} {f : α → Bool} (h : ∀ i, i < l.length → f l[i]! = true) : l.all f = true := by
  rw [List.all_eq_true]
  intro x hx
  obtain ⟨i, hi, rfl⟩ := List.getElem_of_mem hx
  have := h i hi
  rwa [getElem!_pos l i hi] at this
theorem all_at {α : Type} [Inhabited α] {l : List α} {f : α → Bool} (h : l.all f = true) {i : Nat} (hi : i < l.length) : f l[i]! = true := by
  rw [List.all_eq_true] at h
  rw [getElem!_pos l i hi]
  exact h _ (List.getElem_mem hi)
theorem all_not {α : Type} [Inhabited α] {l : List α} {f : α → Bool} {i : Nat} (hi : i < l.length) (h : f l[i]! = false) : l.all f = false := by
  rw [Bool.eq_false_iff]; intro e; have := all_at e hi; rw [h] at this; cases this

set_option maxHeartbeats 8000000 in
set_option maxRecDepth 100000 in
theorem givenP_calls (v vl vp : Value) (t : Tr) (l : List (List Int)) (ps : List Int) (w : World) (h : TrAt w v t) (hs : LooseTr t) (hl : Sl RInts 1 w vl l) (hn : l.length ≤ 1000000) (hp : Ints w vp ps) (hm : ps.length ≤ 1000000) :
    Calls Try.prog 81 #[.agg #[v], vl, vp] w fun e w' => e = .returned (.int .i64 (givenE t l ps)) ∧ Ext w w' := by
  have HSZ := Lib.hid (fun W (hW : Ext w W) => sizedP_calls v vl t l W (h.ext hW) hs (hl.ext rints_lasts hW) hn)
  have HRG := Lib.hid (fun W (hW : Ext w W) (hv : validT t = true) vc c (hc : Ints W vc c) (hf : c.length = t.length) => inRangeP_calls v vc t c W (h.ext hW) (valid_small hv) hc hf)
  have HPR := Lib.hid (fun W (hW : Ext w W) p => processP_calls v t p W (h.ext hW) hs)
  have HCL := Lib.hid (fun W (hW : Ext w W) vc c (hc : Ints W vc c) (hv : validT t = true) (hf : RangeC t c) => closedP_calls v vc t c W (h.ext hW) (valid_small hv) hv hc hf)
  have HT := Lib.hid h
  have HLL := Lib.hid hl
  have HPP := Lib.hid hp
  obtain ⟨ta, tc, rfl, htc⟩ := h.sh
  obtain ⟨la, lc, rfl, hlc⟩ := hl.shape
  obtain ⟨pa, pc, rfl, hpc, _⟩ := hp
  obtain ⟨tn, htn⟩ : ∃ n, t.length = n := ⟨_, rfl⟩
  obtain ⟨n, hln⟩ : ∃ n, l.length = n := ⟨_, rfl⟩
  obtain ⟨m, hpn⟩ : ∃ n, ps.length = n := ⟨_, rfl⟩
  obtain ⟨ge, hge⟩ : ∃ E, givenE t l ps = E := ⟨_, rfl⟩
  have HG := Lib.hid hge
  have HN := Lib.hid hln
  have HM := Lib.hid hpn
  rw [hge]
  rw [hln] at HSZ hlc hn ⊢
  rw [hpn] at hpc hm ⊢
  rw [htn] at HPR HRG HSZ HCL ⊢
  have HX0 := Lib.hid (heap_alloc_new w (.cells #[.slice ta tn tc] 24))
  have HE1 := Lib.hid ((Ext.rf w).al (.cells #[.slice ta tn tc] 24))
  obtain ⟨sz, hsz⟩ : ∃ b, (validT t && l.all (fitsB t)) = b := ⟨_, rfl⟩
  rw [hsz] at HSZ
  have HSB := Lib.hid hsz
  clear h hs hl hge hln hpn htc hsz
  go_enter Try.func81, Try.ntmps81
  go_wp2_with fail
  refine (HSZ.out _ HE1.out).mono ?_
  rintro e w2 ⟨rfl, hX⟩
  have HY0 := Lib.hid (hX.hp HX0.out)
  have HE2 := Lib.hid (HE1.out.trans' hX)
  clear hX
  cases sz with
  | false =>
    have HF : Hid (ge = 1) := Lib.hid (by rw [← HG.out]; unfold givenE; rw [HSB.out]; rfl)
    go_wp2
    go_ret
    exact ⟨by rw [HF.out]; rfl, HE2.out⟩
  | true =>
  have HVF := Lib.hid (Bool.and_eq_true _ _ ▸ HSB.out : validT t = true ∧ l.all (fitsB t) = true)
  go_wp2
  go_loopg [19] n (fun g s19 wr => ∃ i : Nat, i ≤ n ∧ n - i ≤ g ∧ s19 = .int .i64 i ∧ Aside (∀ j, j < i → rangeB t l[j]! = true) ∧ Aside (Ext w2 wr))
  case atStart => exact ⟨0, Nat.zero_le _, by omega, rfl, (fun j hj => absurd hj (Nat.not_lt_zero _)), Ext.rf _⟩
  case round =>
    obtain ⟨i, hi, hg, rfl, A, HEK⟩ := hrel
    have HEW := Lib.hid (HE2.out.trans' HEK.out)
    have HZ0 := Lib.hid (HEK.out.hp HY0.out)
    have t0 := cellOf HZ0.out 0
    simp only [List.getElem?_toArray, List.getElem?_cons_zero] at t0
    by_cases hlt : i < n
    · have hltz : (i : Int) < (n : Int) := by omega
      have hiz : (0 : Int) ≤ (i : Int) := by omega
      have HIL := Lib.hid (show i < l.length from by rw [HN.out]; exact hlt)
      obtain ⟨b, o, cv, rfl, hcell, hci⟩ := stamp_at' HLL.out i HIL.out
      have hc1 := HEW.out.cl hcell
      have HCI := Lib.hid (hci.ext HEW.out)
      obtain ⟨ca, cc, rfl, hcc, _⟩ := hci
      have HCR := Lib.hid (HRG.out wr HEW.out HVF.out.1 _ _ HCI.out (by have := all_at HVF.out.2 HIL.out; unfold fitsB at this; rw [← htn]; exact of_decide_eq_true this))
      generalize l[i]!.length = ci at *
      obtain ⟨rb, hrb⟩ : ∃ b, rangeB t l[i]! = b := ⟨_, rfl⟩
      rw [hrb] at HCR
      have HRB := Lib.hid hrb
      clear hrb hcell
      go_wp2_with fail
      refine HCR.out.mono ?_
      rintro e w5 ⟨rfl, hX5⟩
      cases rb with
      | true =>
        go_wp2
        go_roundg (n - (i + 1))
        case measure => omega
        case rel =>
          refine ⟨i + 1, by omega, by omega, by go_num, (show Aside _ from fun j hj => ?_), (show Ext _ _ from HEK.out.trans' hX5)⟩
          by_cases e : j = i
          · subst e; exact HRB.out
          · exact A.out j (by omega)
      | false =>
        have HF : Hid (ge = 2) := Lib.hid (by rw [← HG.out]; unfold givenE; rw [HSB.out, all_not HIL.out HRB.out]; rfl)
        go_wp2
        go_ret
        exact ⟨by rw [HF.out]; rfl, HEW.out.trans' hX5⟩
    · have hltz : ¬ (i : Int) < (n : Int) := by omega
      obtain rfl : n = i := by omega
      have HALR := Lib.hid (show l.all (rangeB t) = true from all_of (fun j hj => A.out j (by rw [HN.out] at hj; exact hj)))
      clear A
      go_wp2
      obtain ⟨wA, rfl⟩ : ∃ x, x = wr := ⟨_, rfl⟩
      clear t0
      go_loopg [30] m (fun g s30 wr => ∃ i : Nat, i ≤ m ∧ m - i ≤ g ∧ s30 = .int .i64 i ∧ Aside (∀ j, j < i → (decide (0 ≤ ps[j]!) && decide (ps[j]! < (tn : Int))) = true) ∧ Aside (Ext wA wr))
      case atStart => exact ⟨0, Nat.zero_le _, by omega, rfl, (fun j hj => absurd hj (Nat.not_lt_zero _)), Ext.rf _⟩
      case round =>
        obtain ⟨i, hi, hg2, rfl, A, HEK2⟩ := hrel
        have HEW2 := Lib.hid (HEW.out.trans' HEK2.out)
        have HZ2 := Lib.hid (HEK2.out.hp HZ0.out)
        have t0 := cellOf HZ2.out 0
        simp only [List.getElem?_toArray, List.getElem?_cons_zero] at t0
        by_cases hlt : i < m
        · have hltz : (i : Int) < (m : Int) := by omega
          have hiz : (0 : Int) ≤ (i : Int) := by omega
          have HIL := Lib.hid (show i < ps.length from by rw [HM.out]; exact hlt)
          obtain ⟨b, o, rfl, hb, hcell⟩ := ints_at HPP.out i HIL.out
          have hc1 := HEW2.out.cl hcell
          have HCR := Lib.hid (HPR.out wr HEW2.out ps[i]!)
          obtain ⟨rb, hrb⟩ : ∃ b, (decide (0 ≤ ps[i]!) && decide (ps[i]! < (tn : Int))) = b := ⟨_, rfl⟩
          rw [hrb] at HCR
          have HRB := Lib.hid hrb
          generalize hpi : ps[i]! = pi at *
          have HPI := Lib.hid hpi
          clear hrb hcell hpi hb
          go_wp2_with fail
          refine HCR.out.mono ?_
          rintro e w5 ⟨rfl, hX5⟩
          cases rb with
          | true =>
            go_wp2
            go_roundg (m - (i + 1))
            case measure => omega
            case rel =>
              refine ⟨i + 1, by omega, by omega, by go_num, (show Aside _ from fun j hj => ?_), (show Ext _ _ from HEK2.out.trans' hX5)⟩
              by_cases e : j = i
              · subst e; rw [HPI.out]; exact HRB.out
              · exact A.out j (by omega)
          | false =>
            have HF : Hid (ge = 2) := Lib.hid (by rw [← HG.out]; unfold givenE; rw [HSB.out, HALR.out, htn, all_not HIL.out (by rw [HPI.out]; exact HRB.out)]; rfl)
            go_wp2
            go_ret
            exact ⟨by rw [HF.out]; rfl, HEW2.out.trans' hX5⟩
        · have hltz : ¬ (i : Int) < (m : Int) := by omega
          obtain rfl : m = i := by omega
          have HALP := Lib.hid (show (ps.all fun p => decide (0 ≤ p) && decide (p < (tn : Int))) = true from all_of (fun j hj => A.out j (by rw [HM.out] at hj; exact hj)))
          clear A
          go_wp2
          obtain ⟨wB, rfl⟩ : ∃ x, x = wr := ⟨_, rfl⟩
          clear t0
          go_loopg [41] n (fun g s41 wr => ∃ i : Nat, i ≤ n ∧ n - i ≤ g ∧ s41 = .int .i64 i ∧ Aside (∀ j, j < i → (missE t l[j]!).isNone = true) ∧ Aside (Ext wB wr))
          case atStart => exact ⟨0, Nat.zero_le _, by omega, rfl, (fun j hj => absurd hj (Nat.not_lt_zero _)), Ext.rf _⟩
          case round =>
            obtain ⟨i, hi, hg3, rfl, A, HEK3⟩ := hrel
            have HEW3 := Lib.hid (HEW2.out.trans' HEK3.out)
            have HZ3 := Lib.hid (HEK3.out.hp HZ2.out)
            have t0 := cellOf HZ3.out 0
            simp only [List.getElem?_toArray, List.getElem?_cons_zero] at t0
            by_cases hlt : i < n
            · have hltz : (i : Int) < (n : Int) := by omega
              have hiz : (0 : Int) ≤ (i : Int) := by omega
              have HIL := Lib.hid (show i < l.length from by rw [HN.out]; exact hlt)
              obtain ⟨b, o, cv, rfl, hcell, hci⟩ := stamp_at' HLL.out i HIL.out
              have hc1 := HEW3.out.cl hcell
              have HCI := Lib.hid (hci.ext HEW3.out)
              obtain ⟨ca, cc, rfl, hcc, _⟩ := hci
              have HCR := Lib.hid (HCL.out wr HEW3.out _ _ HCI.out HVF.out.1 ⟨(by have := all_at HVF.out.2 HIL.out; unfold fitsB at this; exact of_decide_eq_true this), all_at HALR.out HIL.out⟩)
              generalize l[i]!.length = ci at *
              obtain ⟨rb, hrb⟩ : ∃ b, (missE t l[i]!).isNone = b := ⟨_, rfl⟩
              rw [hrb] at HCR
              have HRB := Lib.hid hrb
              clear hrb hcell
              go_wp2_with fail
              refine HCR.out.mono ?_
              rintro e w5 ⟨rfl, hX5⟩
              cases rb with
              | true =>
                go_wp2
                go_roundg (n - (i + 1))
                case measure => omega
                case rel =>
                  refine ⟨i + 1, by omega, by omega, by go_num, (show Aside _ from fun j hj => ?_), (show Ext _ _ from HEK3.out.trans' hX5)⟩
                  by_cases e : j = i
                  · subst e; exact HRB.out
                  · exact A.out j (by omega)
              | false =>
                have HF : Hid (ge = 18) := Lib.hid (by rw [← HG.out]; unfold givenE; rw [HSB.out, HALR.out, htn, HALP.out, all_not HIL.out HRB.out]; rfl)
                go_wp2
                go_ret
                exact ⟨by rw [HF.out]; rfl, HEW3.out.trans' hX5⟩
            · have hltz : ¬ (i : Int) < (n : Int) := by omega
              obtain rfl : n = i := by omega
              have HF : Hid (ge = 0) := Lib.hid (by rw [← HG.out]; unfold givenE; rw [HSB.out, HALR.out, htn, HALP.out, show (l.all fun c => (missE t c).isNone) = true from all_of (fun j hj => A.out j (by rw [HN.out] at hj; exact hj))]; rfl)
              go_wp2
              go_ret
              exact ⟨by rw [HF.out]; rfl, HEW3.out⟩

/-- One list of counts, as the call lays it. -/
theorem rows_one {w : World} {b : Nat} {ty : TypeId} {vc : Value} {c : List Int} {fr : Nat × Nat} (hb : w.heap[b]? = some (.cells #[vc] ty fr)) (hc : Ints w vc c) : Sl RInts 1 w (.slice (some ⟨b, 0, none⟩) 1 1) [c] := by
  refine ⟨_, _, rfl, Nat.le_refl _, fun _ => ⟨b, 0, rfl, (Array.getElem?_eq_some_iff.1 hb).1, fun i hi => ?_⟩⟩
  obtain rfl : i = 0 := by simpa using hi
  refine ⟨[vc], rfl, ⟨vc, rfl, hc⟩, fun j hj => ?_⟩
  obtain rfl : j = 0 := by omega
  have := cellOf hb 0
  simpa using this
theorem rows_two {w : World} {b : Nat} {ty : TypeId} {va vc : Value} {a c : List Int} {fr : Nat × Nat} (hb : w.heap[b]? = some (.cells #[va, vc] ty fr)) (ha : Ints w va a) (hc : Ints w vc c) : Sl RInts 1 w (.slice (some ⟨b, 0, none⟩) 2 2) [a, c] := by
  refine ⟨_, _, rfl, Nat.le_refl _, fun _ => ⟨b, 0, rfl, (Array.getElem?_eq_some_iff.1 hb).1, fun i hi => ?_⟩⟩
  have h0 := cellOf hb 0
  have h1 := cellOf hb 1
  have hi : i < 2 := hi
  rcases Nat.lt_or_ge i 1 with h | h
  · obtain rfl : i = 0 := by omega
    refine ⟨[va], rfl, ⟨va, rfl, ha⟩, fun j hj => ?_⟩
    obtain rfl : j = 0 := by omega
    simpa using h0
  · obtain rfl : i = 1 := by omega
    refine ⟨[vc], rfl, ⟨vc, rfl, hc⟩, fun j hj => ?_⟩
    obtain rfl : j = 0 := by omega
    simpa using h1
theorem ints_none (w : World) : Ints w (.slice none 0 0) [] := ⟨none, 0, rfl, Nat.le_refl _, fun h => absurd rfl h⟩
theorem givenE_one (t : Tr) (c : List Int) : (givenE t [c] [] = 0) ↔ consB t c = true := by
  unfold givenE consB
  simp only [List.all_cons, List.all_nil, Bool.and_true]
  generalize (missE t c).isNone = q
  cases validT t <;> cases fitsB t c <;> cases rangeB t c <;> cases q <;> simp

end Go.Proofs.Ytfcpnggdpaeldaa

/-
  What follows where given finds no error. No function is named here.
-/
namespace Go.Proofs.Ytfcpnggdpaeldaa
open Go.RowKit
set_option linter.unusedVariables false

theorem givenE_ps {t : Tr} {c : List Int} {ps : List Int} (h : givenE t [c] ps = 0) : validT t = true ∧ ConsC t c ∧ ∀ p, p ∈ ps → 0 ≤ p ∧ p < (t.length : Int) := by
  unfold givenE at h
  simp only [List.all_cons, List.all_nil, Bool.and_true] at h
  split at h
  · rename_i h1
    split at h
    · rename_i h2
      split at h
      · rename_i h3
        split at h
        · rename_i h4
          simp only [Bool.and_eq_true] at h1
          refine ⟨h1.1, ⟨⟨of_decide_eq_true h1.2, h2⟩, Option.isNone_iff_eq_none.1 h4⟩, fun p hp => ?_⟩
          have := List.all_eq_true.1 h3 p hp
          simpa using this
        · simp at h
      · simp at h
    · simp at h
  · simp at h

end Go.Proofs.Ytfcpnggdpaeldaa

/-
  The frontier of a cut: the program's Frontier.
-/
namespace Go.Proofs.Ytfcpnggdpaeldaa
open Go.RowKit
set_option linter.unusedVariables false
attribute [local go_sem ↓] Go.wp_at_zero Go.wp_at_succ

/-- The last events of counts. -/
def frTo (c : List Int) (p : Nat) : List (Int × Int) := ((List.range p).filter fun (q : Nat) => decide (0 < c[q]!)).map fun (q : Nat) => ((q : Int), c[q]!)
def frontC (c : List Int) : List (Int × Int) := frTo c c.length
def prC (x : Int × Int) : List Value := [.int .i64 x.1, .int .i64 x.2]
theorem frTo_yes {c : List Int} {p : Nat} (h : 0 < c[p]!) : frTo c (p + 1) = frTo c p ++ [((p : Int), c[p]!)] := by
  unfold frTo; rw [List.range_succ, List.filter_append, List.filter_cons_of_pos (p := fun (q : Nat) => decide (0 < c[q]!)) (a := p) (decide_eq_true h), List.map_append]; rfl
theorem frTo_no {c : List Int} {p : Nat} (h : ¬ 0 < c[p]!) : frTo c (p + 1) = frTo c p := by
  unfold frTo; rw [List.range_succ, List.filter_append, List.filter_cons_of_neg (p := fun (q : Nat) => decide (0 < c[q]!)) (a := p) (by rw [decide_eq_false h]; decide)]; simp
theorem frTo_len (c : List Int) (p : Nat) : (frTo c p).length ≤ p := by
  unfold frTo; rw [List.length_map]; exact Nat.le_trans (List.length_filter_le _ _) (by simp)
def PairsRes (w w' : World) (e : Ending) (E : Int) (l : List (Int × Int)) : Prop := ∃ v, e = .returned (.tuple #[v, .int .i64 E]) ∧ Row w' w.heap.size 87 2 v l.length (l.flatMap prC) ∧ Ext w w'
theorem PairsRes.none {w w' : World} {E : Int} (h : Ext w w') : PairsRes w w' (.returned (.tuple #[.slice none 0 0, .int .i64 E])) E [] := ⟨_, rfl, Row.mkNil _ _ _ _, h⟩

set_option maxHeartbeats 8000000 in
set_option maxRecDepth 100000 in
theorem frontierP_calls (v vc : Value) (t : Tr) (c : List Int) (w : World) (h : TrAt w v t) (hs : LooseTr t) (hc : Ints w vc c) :
    Calls Try.prog 65 #[.agg #[v], vc] w fun e w' => PairsRes w w' e (givenE t [c] []) (if givenE t [c] [] = 0 then frontC c else []) := by
  have HCC := Lib.hid hc
  obtain ⟨ie, hie, iz0, iz1, iz2⟩ := info_parts info_eid
  obtain ⟨ta, tc, rfl, htc⟩ := h.sh
  obtain ⟨ca, cc, rfl, hlc, _⟩ := hc
  have HX2 : Hid (Ext w ((w.alloc (.cells #[.slice ta t.length tc] 24)).alloc (.cells #[.slice ca c.length cc] 30))) := Lib.hid (by repeat (first | refine Ext.st ?_ (by first | exact Nat.le_refl _ | exact Nat.le_succ _ | assumption | omega) _ | refine Ext.al ?_ _ | refine Ext.dr ?_ | refine Ext.drN ?_ _ | exact Ext.rf _))
  have HG := Lib.hid (givenP_calls (.slice ta t.length tc) (.slice (some ⟨w.heap.size + 1, 0, none⟩) 1 1) (.slice none 0 0) t [c] [] _ (h.ext HX2.out) hs (rows_one (heap_new_eq (by simp)) (HCC.out.ext HX2.out)) (by simp) (ints_none _) (by simp))
  obtain ⟨ge, hge⟩ : ∃ E, givenE t [c] [] = E := ⟨_, rfl⟩
  rw [hge] at HG ⊢
  have HOK : Hid (ge = 0 → c.length ≤ 1000000) := Lib.hid (fun h0 => by have := (consB_iff.1 ((givenE_one t c).1 (hge.trans h0))).2.1.1; rw [this]; exact hs.1)
  obtain ⟨R, hR⟩ : ∃ R, (if ge = 0 then frontC c else []) = R := ⟨_, rfl⟩
  rw [hR]
  have HR0 := Lib.hid hR
  generalize t.length = N at *
  generalize hM : c.length = M at *
  have HM := Lib.hid hM
  clear h hs hge hR hM
  go_enter Try.func65, Try.ntmps65
  go_wp2_with fail
  refine HG.out.mono ?_
  rintro e w2 ⟨rfl, hX⟩
  have HE2 := Lib.hid (HX2.out.trans' hX)
  clear hX
  by_cases h0 : ge = 0
  case neg =>
    have c9 : (ge != 0) = true := by simp [h0]
    obtain rfl := HR0.out.symm.trans (if_neg h0)
    clear h0
    go_wp2
    go_ret2
    exact PairsRes.none HE2.out
  subst h0
  have HRZ := Lib.hid (HR0.out.symm.trans (if_pos rfl))
  have hmm := HOK.out rfl
  go_wp2
  go_loopg [7, 19] M (fun g s7 s19 wr => ∃ p : Nat, p ≤ M ∧ M - p ≤ g ∧ s19 = .int .i64 p ∧ Aside (Row wr w2.heap.size 87 2 s7 (frTo c p).length ((frTo c p).flatMap prC)) ∧ Aside (Ext w2 wr))
  case atStart => exact ⟨0, Nat.zero_le _, by omega, rfl, (show Row _ _ _ _ _ _ _ from Row.mkNil _ _ _ _), Ext.rf _⟩
  case round =>
    obtain ⟨p, hp, hg, rfl, HR, HEK⟩ := hrel
    have HEW := Lib.hid (HE2.out.trans' HEK.out)
    by_cases hlt : p < M
    · have hltz : (p : Int) < (M : Int) := by omega
      have hpz : (0 : Int) ≤ (p : Int) := by omega
      obtain ⟨cb, co, rfl, hcb, hcp⟩ := ints_at HCC.out p (by rw [HM.out]; exact hlt)
      have hc1 := HEW.out.cl hcp
      have hel := frTo_len c p
      have hsz := HEK.out.sz
      generalize hk : c[p]! = k at *
      have HK := Lib.hid hk
      clear hcp hk
      by_cases hkp : 0 < k
      · have d1 : decide (0 < k) = true := decide_eq_true hkp
        have HY := Lib.hid (frTo_yes (c := c) (p := p) (by rw [HK.out]; exact hkp))
        rw [HK.out] at HY
        clear hkp
        generalize hell : (frTo c p).length = ell at *
        have HELL := Lib.hid hell
        clear hell
        go_wp2_with ((at_builtin; go_loud (refine wpList_append_one rfl _ _ 101 rfl w2.heap.size 87 ie (.agg #[.int .i64 0, .int .i64 0]) 2 16 Try.underlying101 hie iz0 iz1 iz2 rfl (by decide) _ ell _ rfl (HR.out.al _) wr.heap.size 1 [.int .i64 p, .int .i64 k] rfl rfl ⟨_, heap_alloc_new _ _⟩ (by simp [Value.oneCell']) (by unfold maxLen; omega) (by omega) (by simp; omega) ?_; intro v8 w8 hown8 hgrow8 hblk8; have HOWN := Lib.hid hown8; have HX8 := Lib.hid ((HEK.out.al _).gr hgrow8 (fun q hq => (HR.out.lt q hq).1)); clear hown8 hgrow8 hblk8)))
        go_roundg (M - (p + 1))
        case measure => omega
        case rel =>
          refine ⟨p + 1, by omega, by omega, by go_num, (show Row _ _ _ _ _ _ _ from ?_), (show Ext _ _ from HX8.out)⟩
          rw [HY.out, List.length_append, List.flatMap_append, HELL.out]
          exact HOWN.out
      · have d1 : decide (0 < k) = false := decide_eq_false hkp
        have HY := Lib.hid (frTo_no (c := c) (p := p) (by rw [HK.out]; exact hkp))
        clear hkp
        go_wp2
        go_roundg (M - (p + 1))
        case measure => omega
        case rel => exact ⟨p + 1, by omega, by omega, by go_num, (show Row _ _ _ _ _ _ _ from by rw [HY.out]; exact HR.out), (show Ext _ _ from HEK.out)⟩
    · have hltz : ¬ (p : Int) < (M : Int) := by omega
      obtain rfl : M = p := by omega
      go_wp2
      go_ret2
      refine ⟨_, rfl, ?_, HEW.out⟩
      rw [HRZ.out]
      unfold frontC
      rw [HM.out]
      exact HR.out.mono HE2.out.sz

end Go.Proofs.Ytfcpnggdpaeldaa
