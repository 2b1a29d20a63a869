import Derived.Test.YtfcpnggdpaeldaaGreatJa
import Derived.Test.YtfcpnggdpaeldaaGreatProg
import Derived.Test.YtfcpnggdpaeldaaGreatGo
import Derived.Test.YtfcpnggdpaeldaaGreatGi
import Derived.Test.YtfcpnggdpaeldaaGreatGe
import Derived.Test.YtfcpnggdpaeldaaGreatGf
import Derived.BigQuiet
import Derived.Deep.QuietTactic
import Derived.Deep.LoopGhost
import Derived.Shelf.Abstract
import Derived.BigRegion
import Derived.Laws.EntriesVeiled
import Derived.Deep.DeepCutAuto
import Derived.Deep.DrawnRows
/-
  slices.ContainsFunc and IndexFunc over lists of lists of numbers.
-/
namespace Go.Proofs.YtfcpnggdpaeldaaGreat
open Go.RowKit
set_option linter.unusedVariables false

set_option maxHeartbeats 400000 in
theorem indexFunc_rows {α : Type} [Inhabited α] (R : World → List Value → α → Prop) (hLasts : Lasts R) (g : Nat) (cb : Array Value) (eg : ∀ args w, (callFunc g args).run Tryz.prog w = .ok (.enter g args) w) (p : α → Bool) (v : Value) (l : List α) (w : World)
    (hv : Sl R 1 w v l) (hn : l.length ≤ 1000000) (hp : SaysOf Tryz.prog R encOne g cb p l w) :
    Calls Tryz.prog 63 #[v, .func (.func g) #[] cb] w fun e w' => e = .returned (.int .i64 (firstAt p l)) ∧ Ext w w' := by
  obtain ⟨a, c, rfl, hlc, hv⟩ := hv
  have HLC := Lib.hid hlc; clear hlc
  have HV := Lib.hid hv; clear hv
  have HP := Lib.hid hp; clear hp
  have HT := Lib.hid hLasts; clear hLasts
  generalize hln : l.length = n at hn
  have HL := Lib.hid hln; clear hln
  go_enter Tryz.func63, Tryz.ntmps63
  go_wp2
  go_loopg [5, 8] n (fun m _ s8 wr => ∃ k : Nat, k ≤ n ∧ n - k ≤ m ∧ s8 = .int .i64 k ∧ Ext w wr ∧ Aside (∀ j, j < k → p l[j]! = false))
  case atStart => exact ⟨0, Nat.zero_le _, by omega, rfl, Below.refl _ _, (fun j hj => absurd hj (Nat.not_lt_zero _))⟩
  case round =>
    obtain ⟨k, hk, hm, rfl, he, A⟩ := hrel
    have HE := Lib.hid he; clear he
    by_cases hlt : k < n
    · obtain ⟨b, off, rfl, hb, hc⟩ := HV.out (by intro e; have := HL.out; simp [e] at this; omega)
      obtain ⟨vs, hvs, hR, hcell⟩ := hc k (by rw [HL.out]; exact hlt)
      obtain ⟨c0, rfl⟩ : ∃ c0, vs = [c0] := by match vs, hvs with | [c0], _ => exact ⟨c0, rfl⟩
      have d0 : wr.cell? ⟨b, off + k * 1, none⟩ = some c0 := (HE.out.cell hb).trans (hcell 0 (by omega))
      rw [Nat.mul_one] at d0
      have hltz : (k : Int) < (n : Int) := by omega
      clear hc hcell
      have hcall := HP.out _ (mem_at l k (by rw [HL.out]; exact hlt)) wr _ HE.out (HT.out _ _ _ _ hR HE.out)
      unfold encOne at hcall
      generalize hy : l[k]! = y at hcall hR
      have B := Lib.hid hy
      clear hy hR hvs HV HT HP
      cases hq : p y with
      | true =>
        rw [hq] at hcall
        have HQ := Lib.hid hq; clear hq
        go_wp2_with (go_at_fn g; refine hcall.mono ?_; rintro e w' ⟨rfl, he'⟩)
        go_ret
        exact ⟨by rw [firstAt_hit p l k (by rw [HL.out]; omega) (by rw [B.out]; exact HQ.out) A.out]; rfl, HE.out.trans' he'⟩
      | false =>
        rw [hq] at hcall
        have HQ := Lib.hid hq; clear hq
        go_wp2_with (go_at_fn g; refine hcall.mono ?_; rintro e w' ⟨rfl, he'⟩)
        go_roundg (n - (k + 1))
        case measure => omega
        case rel =>
          refine ⟨k + 1, by omega, by omega, by go_num, HE.out.trans' he', (show Aside _ from fun j hj => ?_)⟩
          by_cases e : j = k
          · subst e
            rw [B.out]; exact HQ.out
          · exact A.out j (by omega)
    · have hltz : ¬ (k : Int) < (n : Int) := by omega
      go_wp2
      go_ret
      exact ⟨by rw [firstAt_miss p l (fun j hj => A.out j (by rw [HL.out] at hj; omega))]; rfl, HE.out⟩

theorem enters_63 : ∀ args w, (callFunc 63 args).run Tryz.prog w = .ok (.enter 63 args) w := enters_of Tryz.func63 (by kernel_rfl) rfl

set_option maxHeartbeats 400000 in
theorem containsFunc_rows {α : Type} [Inhabited α] (R : World → List Value → α → Prop) (hLasts : Lasts R) (g : Nat) (cb : Array Value) (eg : ∀ args w, (callFunc g args).run Tryz.prog w = .ok (.enter g args) w) (p : α → Bool) (v : Value) (l : List α) (w : World)
    (hv : Sl R 1 w v l) (hn : l.length ≤ 1000000) (hp : SaysOf Tryz.prog R encOne g cb p l w) :
    Calls Tryz.prog 31 #[v, .func (.func g) #[] cb] w fun e w' => e = .returned (.bool (l.any p)) ∧ Ext w w' := by
  have HI := Lib.hid (indexFunc_rows R hLasts g cb eg p v l w hv hn hp)
  clear hv hp eg hLasts
  rw [← firstAt_any]
  go_enter Tryz.func31, Tryz.ntmps31
  go_wp2_with (go_at_call 63; refine HI.out.mono ?_; rintro e w' ⟨rfl, he'⟩)
  go_ret
  exact ⟨rfl, he'⟩

end Go.Proofs.YtfcpnggdpaeldaaGreat

/-
  The sizes and the range of counts: the program's sized, inRange and process.
-/
namespace Go.Proofs.YtfcpnggdpaeldaaGreat
open Go.RowKit
set_option linter.unusedVariables false
attribute [local go_sem ↓] Go.wp_at_zero Go.wp_at_succ

theorem enters_97 : ∀ args w, (callFunc 97 args).run Tryz.prog w = .ok (.enter 97 args) w := enters_of Tryz.func97 (by kernel_rfl) rfl

set_option maxHeartbeats 1000000 in
theorem sized1_calls (vs : List Value) (x : List Int) (b n tc : Nat) (ta : Option Addr) (w : World) (hx : RInts w vs x) (hc : w.cell? ⟨b, 0, none⟩ = some (.slice ta n tc)) :
    Calls Tryz.prog 97 #[encOne vs, .pointer (some ⟨b, 0, none⟩)] w fun e w' => e = .returned (.bool (!decide (x.length = n))) ∧ Ext w w' := by
  obtain ⟨u, rfl, hi⟩ := hx
  obtain ⟨a, c, rfl, hlc, _⟩ := hi
  unfold encOne
  simp only [List.headD_cons]
  obtain ⟨r, hr⟩ : ∃ r, ((x.length : Int) != (n : Int)) = r := ⟨_, rfl⟩
  have HR : Hid ((!decide (x.length = n)) = r) := Lib.hid (by rw [← hr]; by_cases h : x.length = n <;> simp [h]; omega)
  rw [HR.out]
  generalize x.length = m at *
  go_enter Tryz.func97, Tryz.ntmps97
  go_wp2
  go_ret
  exact ⟨rfl, Ext.rf _⟩

theorem all_any_not {α : Type} (l : List α) (f : α → Bool) : l.all f = !l.any fun x => !f x := by
  induction l with
  | nil => rfl
  | cons a l ih => simp [ih]

set_option maxHeartbeats 2000000 in
theorem sizedP_calls (v vl : Value) (t : Tr) (l : List (List Int)) (w : World) (h : TrAt w v t) (hs : LooseTr t) (hl : Sl RInts 1 w vl l) (hn : l.length ≤ 1000000) :
    Calls Tryz.prog 76 #[.agg #[v], vl] w fun e w' => e = .returned (.bool (validT t && l.all (fitsB t))) ∧ Ext w w' := by
  have HVC := Lib.hid (fun W (hW : Ext w W) => validP_calls v t W (h.ext hW) hs)
  obtain ⟨ta, tc, rfl, htc⟩ := h.sh
  have HCF := Lib.hid (fun W (hW : Ext w W) (hc : W.cell? ⟨w.heap.size, 0, none⟩ = some (.slice ta t.length tc)) =>
    containsFunc_rows RInts rints_lasts 97 #[.pointer (some ⟨w.heap.size, 0, none⟩)] enters_97 (fun x => !decide (x.length = t.length)) vl l W (hl.ext rints_lasts hW) hn
      (fun y hy W2 vs hW2 hR => sized1_calls vs y _ _ _ _ W2 hR (hW2.cl hc)))
  have HAL : Hid (l.all (fitsB t) = !l.any fun x => !decide (x.length = t.length)) := Lib.hid (all_any_not l _)
  have HX0 := Lib.hid (heap_alloc_new w (.cells #[.slice ta t.length tc] 24))
  have HE1 := Lib.hid ((Ext.rf w).al (.cells #[.slice ta t.length tc] 24))
  rw [HAL.out]
  generalize (l.any fun x => !decide (x.length = t.length)) = sc at *
  generalize validT t = vt at *
  generalize t.length = N at *
  clear h hs HAL htc hl
  cases vt with
  | false =>
    go_enter Tryz.func76, Tryz.ntmps76
    go_wp2_with fail
    refine (HVC.out _ HE1.out).mono ?_
    rintro e w2 ⟨rfl, hX⟩
    go_wp2
    go_ret
    exact ⟨rfl, HE1.out.trans' hX⟩
  | true =>
    go_enter Tryz.func76, Tryz.ntmps76
    go_wp2_with fail
    refine (HVC.out _ HE1.out).mono ?_
    rintro e w2 ⟨rfl, hX⟩
    have HY0 := Lib.hid (hX.hp HX0.out)
    have HE2 := Lib.hid (HE1.out.trans' hX)
    go_wp2_with fail
    refine (HCF.out _ HE2.out (by have := cellOf HY0.out 0; simpa using this)).mono ?_
    rintro e w3 ⟨rfl, hX3⟩
    go_wp2
    go_ret
    exact ⟨by simp, HE2.out.trans' hX3⟩

/-- A number of counts and its cell. -/
theorem ints_at {w : World} {a : Option Addr} {m c : Nat} {l : List Int} (h : Ints w (.slice a m c) l) (i : Nat) (hi : i < l.length) : ∃ b o, a = some ⟨b, o, none⟩ ∧ b < w.heap.size ∧ w.cell? ⟨b, o + i, none⟩ = some (.int .i64 l[i]!) := by
  obtain ⟨b, o, c2, he, _, hb, hc⟩ := h.at1 i hi
  simp only [Value.slice.injEq] at he
  exact ⟨b, o, he.1, hb, hc⟩

set_option maxHeartbeats 4000000 in
set_option maxRecDepth 100000 in
theorem inRangeP_calls (v vc : Value) (t : Tr) (c : List Int) (w : World) (h : TrAt w v t) (hs : SmallTr t) (hc : Ints w vc c) (hl : c.length = t.length) :
    Calls Tryz.prog 77 #[.agg #[v], vc] w fun e w' => e = .returned (.bool (rangeB t c)) ∧ Ext w w' := by
  have HT := Lib.hid h
  have HC := Lib.hid hc
  have HS := Lib.hid hs
  obtain ⟨ta, tc, rfl, htc⟩ := h.sh
  obtain ⟨ca, cc, rfl, hlc, _⟩ := hc
  have hn1 := hs.1
  rw [hl] at hlc ⊢
  have HCL := Lib.hid hl
  obtain ⟨rb, hrb⟩ : ∃ b, rangeB t c = b := ⟨_, rfl⟩
  rw [hrb]
  have HRB := Lib.hid hrb
  generalize hln : t.length = n at *
  have HL := Lib.hid hln
  have HX0 := Lib.hid (heap_alloc_new w (.cells #[.slice ta n tc] 24))
  have HE1 := Lib.hid ((Ext.rf w).al (.cells #[.slice ta n tc] 24))
  clear h hs hln hl hrb
  go_enter Tryz.func77, Tryz.ntmps77
  go_wp2
  generalize hw2 : w.alloc (.cells #[.slice ta n tc] 24) = w2 at *
  clear hw2
  go_loopg [9] n (fun g s9 wr => ∃ p : Nat, p ≤ n ∧ n - p ≤ g ∧ s9 = .int .i64 p ∧ Aside (∀ q, q < p → 0 ≤ c[q]! ∧ c[q]! ≤ (t[q]!.events.length : Int)) ∧ Aside (Ext w2 wr))
  case atStart => exact ⟨0, Nat.zero_le _, by omega, rfl, (fun j hj => absurd hj (Nat.not_lt_zero _)), Ext.rf _⟩
  case round =>
    obtain ⟨p, hp, hg, rfl, A, HEK⟩ := hrel
    have HEW := Lib.hid (HE1.out.trans' HEK.out)
    have HY0 := Lib.hid (HEK.out.hp HX0.out)
    have t0 := cellOf HY0.out 0
    simp only [List.getElem?_toArray, List.getElem?_cons_zero] at t0
    by_cases hlt : p < n
    · have hltz : (p : Int) < (n : Int) := by omega
      have hpz : (0 : Int) ≤ (p : Int) := by omega
      obtain ⟨B, O, C, vv, ve, hve, hlC, hB, hn0, hv0, he0, hV, hE0⟩ := proc_at HT.out p (by rw [HL.out]; exact hlt)
      simp only [Value.slice.injEq] at hve
      obtain ⟨rfl, hzz, rfl⟩ := hve
      obtain ⟨ea, ec, rfl, hec⟩ := hE0.sh
      obtain ⟨cb, co, rfl, hcb, hcp⟩ := ints_at HC.out p (by rw [HCL.out]; exact hlt)
      have he1 := HEW.out.cl he0
      have hc1 := HEW.out.cl hcp
      have hen := (HS.out.2 p (by rw [HL.out]; exact hlt)).2.1
      generalize hne : t[p]!.events.length = ne at *
      have HNE := Lib.hid hne
      generalize hk : c[p]! = k at *
      have HK := Lib.hid hk
      clear hn0 hv0 hV hE0 hzz hne he0 hk hcp
      have HNO : Hid (¬ (0 ≤ k ∧ k ≤ (ne : Int)) → rb = false) := Lib.hid (fun hno => by
        rw [← HRB.out, Bool.eq_false_iff]
        intro hr
        have := rangeB_iff.1 hr p (by rw [HCL.out]; exact hlt)
        rw [HNE.out, HK.out] at this
        exact hno this)
      by_cases h1 : k < 0
      · have d1 : decide (k < 0) = true := decide_eq_true h1
        have HF := Lib.hid (HNO.out (by omega))
        clear h1
        go_wp2
        go_ret
        exact ⟨by rw [HF.out]; rfl, HEW.out⟩
      · have d1 : decide (k < 0) = false := decide_eq_false h1
        by_cases h2 : (ne : Int) < k
        · have d2 : decide ((ne : Int) < k) = true := decide_eq_true h2
          have HF := Lib.hid (HNO.out (by omega))
          clear h1 h2
          go_wp2
          go_ret
          exact ⟨by rw [HF.out]; rfl, HEW.out⟩
        · have d2 : decide ((ne : Int) < k) = false := decide_eq_false h2
          have HOK := Lib.hid (show 0 ≤ k ∧ k ≤ (ne : Int) by omega)
          clear h1 h2
          go_wp2
          go_roundg (n - (p + 1))
          case measure => omega
          case rel =>
            refine ⟨p + 1, by omega, by omega, by go_num, (show Aside _ from fun j hj => ?_), HEK⟩
            by_cases e : j = p
            · subst e; rw [HNE.out, HK.out]; exact HOK.out
            · exact A.out j (by omega)
    · have hltz : ¬ (p : Int) < (n : Int) := by omega
      obtain rfl : n = p := by omega
      go_wp2
      go_ret
      refine ⟨?_, HEW.out⟩
      have e : rangeB t c = true := rangeB_iff.2 (fun q hq => A.out q (by rw [HCL.out] at hq; exact hq))
      rw [← HRB.out, e]; rfl

set_option maxHeartbeats 1000000 in
theorem processP_calls (v : Value) (t : Tr) (p : Int) (w : World) (h : TrAt w v t) (hs : LooseTr t) :
    Calls Tryz.prog 78 #[.agg #[v], .int .i64 p] w fun e w' => e = .returned (.bool (decide (0 ≤ p) && decide (p < (t.length : Int)))) ∧ Ext w w' := by
  obtain ⟨ta, tc, rfl, htc⟩ := h.sh
  have hn1 := hs.1
  generalize t.length = N at *
  have HE1 := Lib.hid ((Ext.rf w).al (.cells #[.slice ta N tc] 24))
  clear h hs
  by_cases h1 : 0 ≤ p
  · have d1 : decide (0 ≤ p) = true := decide_eq_true h1
    obtain ⟨r, hr⟩ : ∃ r, decide (p < (N : Int)) = r := ⟨_, rfl⟩
    rw [d1, hr]
    clear h1
    go_enter Tryz.func78, Tryz.ntmps78
    go_wp2
    go_ret
    exact ⟨by simp, HE1.out⟩
  · have d1 : decide (0 ≤ p) = false := decide_eq_false h1
    rw [d1]
    clear h1
    go_enter Tryz.func78, Tryz.ntmps78
    go_wp2
    go_ret
    exact ⟨by simp, HE1.out⟩

end Go.Proofs.YtfcpnggdpaeldaaGreat

/-
  What a process must be, without its events: the reference's head.
-/
namespace Go.Proofs.YtfcpnggdpaeldaaGreat
open Go.RowKit
set_option linter.unusedVariables false
attribute [local go_sem ↓] Go.wp_at_zero Go.wp_at_succ

theorem valueR_calls (x : Int) (w : World) : Calls Tryz.prog 94 #[.int .i64 x] w fun e w' => e = .returned (.bool (valueB x)) ∧ w' = w := by
  have hb : valueB x = (decide (-1073741824 ≤ x) && decide (x ≤ 1073741824)) := rfl
  have HB := Lib.hid hb
  generalize valueB x = b at *
  clear hb
  by_cases h1 : -1073741824 ≤ x <;> by_cases h2 : x ≤ 1073741824
  all_goals
    go_enter Tryz.func94, Tryz.ntmps94
    go_wp2
    go_ret
    refine ⟨?_, rfl⟩
    rw [HB.out]
    simp [h1, h2]

set_option maxHeartbeats 4000000 in
set_option maxRecDepth 100000 in
theorem headR_calls (v : Value) (t : Tr) (p : Nat) (w : World) (h : TrAt w v t) (hs : LooseTr t) (hp : p < t.length) :
    Calls Tryz.prog 69 #[.agg #[v], .int .i64 p] w fun e w' => ErrIff w w' e (headB t p) := by
  have HT := Lib.hid h
  obtain ⟨B, O, C, vv, ve, rfl, hlC, hB, hn0, hv0, he0, hV, hE0⟩ := proc_at h p hp
  obtain ⟨va, vc, rfl, hvc⟩ := hV.sh
  obtain ⟨ea, ec, rfl, hec⟩ := hE0.sh
  have hn := hs.1
  have hvn := (hs.2 p hp).1
  have HB := Lib.hid (@headB_parts t p)
  generalize hhb : headB t p = hb at *
  generalize hx : t[p]! = x at *
  generalize hln : t.length = n at *
  generalize hnv : x.vars.length = nv at *
  generalize hne : x.events.length = ne at *
  have HN := Lib.hid hln
  have HNV := Lib.hid hnv
  have HV := Lib.hid hV
  have HNM := Lib.hid (nameR_calls x.name)
  have HP := Lib.hid hp
  have hpz : (0 : Int) ≤ (p : Int) := by omega
  have hpi : (p : Int) < (n : Int) := by omega
  have hE1 : Ext w (w.alloc (.cells #[.slice (some ⟨B, O, none⟩) n C] 24)) := (Ext.rf w).al _
  have HX1 := Lib.hid (heap_new_eq (w := w.alloc (.cells #[.slice (some ⟨B, O, none⟩) n C] 24)) (o := .cells #[.string x.name, .slice va nv vc, .slice ea ne ec] 58) (b := w.heap.size + 1) (by simp))
  have HX0 := Lib.hid (((Ext.rf _).al (.cells #[.string x.name, .slice va nv vc, .slice ea ne ec] 58)).hp (heap_alloc_new w (.cells #[.slice (some ⟨B, O, none⟩) n C] 24)))
  have HE2 : Hid (Ext w ((w.alloc (.cells #[.slice (some ⟨B, O, none⟩) n C] 24)).alloc (.cells #[.string x.name, .slice va nv vc, .slice ea ne ec] 58))) := Lib.hid (((Ext.rf w).al _).al _)
  have hn1 := hE1.cl hn0
  have hv1 := hE1.cl hv0
  have he1 := hE1.cl he0
  have hT0 := cell_new w #[.slice (some ⟨B, O, none⟩) n C] 24 0 _ rfl
  clear hn0 hv0 he0 hV hE0 h hs hhb hE1 hx hln hnv hne
  cases hnm : nameB x.name with
  | false =>
    rw [hnm] at HNM
    obtain rfl : hb = false := by
      rw [Bool.eq_false_iff]; intro hbt; have := (HB.out.1 hbt).1; rw [hnm] at this; exact absurd this (by decide)
    clear hnm
    go_enter Tryz.func69, Tryz.ntmps69
    go_wp2_with fail
    refine (HNM.out _).mono ?_
    rintro e w2 ⟨rfl, rfl⟩
    go_wp2
    go_ret
    exact ⟨13, rfl, ⟨fun h => absurd h (by decide), fun h => absurd h (by decide)⟩, (by repeat (first | refine Ext.st ?_ (by first | exact Nat.le_refl _ | exact Nat.le_succ _ | assumption | omega) _ | refine Ext.al ?_ _ | refine Ext.dr ?_ | refine Ext.drN ?_ _ | exact Ext.rf _))⟩
  | true =>
    rw [hnm] at HNM
    have HNB := Lib.hid hnm
    clear hnm
    go_enter Tryz.func69, Tryz.ntmps69
    go_wp2_with fail
    generalize hw2 : (w.alloc (.cells #[.slice (some ⟨B, O, none⟩) n C] 24)).alloc (.cells #[.string x.name, .slice va nv vc, .slice ea ne ec] 58) = w2 at *
    clear hw2 hn1 hv1 he1 hT0
    refine (HNM.out _).mono ?_
    rintro e w2' ⟨rfl, rfl⟩
    go_wp2
    go_loopg [6] p (fun g s6 wr => ∃ q : Nat, q ≤ p ∧ p - q ≤ g ∧ s6 = .int .i64 q ∧ Aside (∀ j, j < q → (t[j]!.name.toList == x.name.toList) = false) ∧ Aside (Ext w2' wr))
    case atStart => exact ⟨0, Nat.zero_le _, by omega, rfl, (fun j hj => absurd hj (Nat.not_lt_zero _)), Ext.rf _⟩
    case round =>
      obtain ⟨q, hq, hg, rfl, A, HEK⟩ := hrel
      have HEW := Lib.hid (HE2.out.trans' HEK.out)
      have HXA := Lib.hid (HEK.out.hp HX0.out)
      have HXB := Lib.hid (HEK.out.hp HX1.out)
      by_cases hlt : q < p
      · have hltz : (q : Int) < (p : Int) := by omega
        have hqz : (0 : Int) ≤ (q : Int) := by omega
        have hqi : (q : Int) < (n : Int) := by omega
        obtain ⟨_, _, _, _, _, hve, _, _, hqn0, _, _, _, _⟩ := proc_at HT.out q (by rw [HN.out]; omega)
        simp only [Value.slice.injEq, Option.some.injEq, Addr.mk.injEq, and_true] at hve
        obtain ⟨⟨rfl, rfl⟩, hzz, rfl⟩ := hve
        have hqn1 := HEW.out.cl hqn0
        have a0 := cellOf HXA.out 0
        have b0 := cellOf HXB.out 0
        simp only [List.getElem?_toArray, List.getElem?_cons_zero] at a0 b0
        have HALL := Lib.hid (fun hbt : hb = true => (HB.out.1 hbt).2.1 q hlt)
        generalize hy : t[q]! = y at *
        have HY := Lib.hid hy
        clear hqn0 hzz hy
        obtain ⟨bq, hbq⟩ : ∃ b, (y.name.toList == x.name.toList) = b := ⟨_, rfl⟩
        cases bq with
        | true =>
          obtain rfl : hb = false := by
            rw [Bool.eq_false_iff]; intro hbt; have := HALL.out hbt; rw [hbq] at this; exact absurd this (by decide)
          go_wp2
          go_quiet (fail)
          go_wp2
          go_ret
          exact ⟨13, rfl, ⟨fun h => absurd h (by decide), fun h => absurd h (by decide)⟩, HEW.out.drN _⟩
        | false =>
          have HBQ := Lib.hid hbq
          go_wp2
          go_quiet (fail)
          go_wp2
          go_roundg (p - (q + 1))
          case measure => omega
          case rel =>
            refine ⟨q + 1, by omega, by omega, by go_num, (show Aside _ from fun j hj => ?_), (show Ext _ _ from HEK.out.drN _)⟩
            by_cases e : j = q
            · subst e; rw [HY.out]; exact HBQ.out
            · exact A.out j (by omega)
      · have hltz : ¬ (q : Int) < (p : Int) := by omega
        obtain rfl : q = p := by omega
        have HNO := Lib.hid A.out
        have b0 := cellOf HXB.out 0
        have b1 := cellOf HXB.out 1
        have b2 := cellOf HXB.out 2
        simp only [List.getElem?_toArray, List.getElem?_cons_zero, List.getElem?_cons_succ] at b0 b1 b2
        clear A
        by_cases h8 : 8 < nv
        · have c8 : decide (8 < (nv : Int)) = true := by simp; omega
          have c8n : decide (8 < nv) = true := by simp; omega
          obtain rfl : hb = false := by
            rw [Bool.eq_false_iff]; intro hbt; have := (HB.out.1 hbt).2.2.1; omega
          go_wp2
          go_ret
          exact ⟨5, rfl, ⟨fun h => absurd h (by decide), fun h => absurd h (by decide)⟩, HEW.out⟩
        have c8 : decide (8 < (nv : Int)) = false := by simp; omega
        have c8n : decide (8 < nv) = false := by simp; omega
        go_wp2
        clear b0 b1 b2
        obtain ⟨wo, rfl⟩ : ∃ x, x = wr := ⟨_, rfl⟩
        go_loopg [7] nv (fun g s7 wr => ∃ k : Nat, k ≤ nv ∧ nv - k ≤ g ∧ s7 = .int .i64 k ∧ Aside (∀ j, j < k → varB x.vars j = true) ∧ Aside (Ext wo wr))
        case atStart => exact ⟨0, Nat.zero_le _, by omega, rfl, (fun j hj => absurd hj (Nat.not_lt_zero _)), Ext.rf _⟩
        case round =>
          obtain ⟨k, hk, hg2, rfl, A, HEL⟩ := hrel
          have HEX := Lib.hid (HEW.out.trans' HEL.out)
          have HXC := Lib.hid (HEL.out.hp HXB.out)
          have b0 := cellOf HXC.out 0
          have b1 := cellOf HXC.out 1
          have b2 := cellOf HXC.out 2
          simp only [List.getElem?_toArray, List.getElem?_cons_zero, List.getElem?_cons_succ] at b0 b1 b2
          by_cases hltk : k < nv
          · have hltz : (k : Int) < (nv : Int) := by omega
            have hkz : (0 : Int) ≤ (k : Int) := by omega
            obtain ⟨VB, VO, VC, hve, _, hVB, hvn0, hvi0⟩ := var_at HV.out k (by rw [HNV.out]; exact hltk)
            simp only [Value.slice.injEq] at hve
            obtain ⟨rfl, hzz, rfl⟩ := hve
            have hvn1 := HEX.out.cl hvn0
            have HVP := Lib.hid (@varB_parts x.vars k)
            have HALL := Lib.hid (fun hbt : hb = true => (HB.out.1 hbt).2.2.2.1 k hltk)
            have HVI0 := Lib.hid hvi0
            generalize hy : x.vars[k]! = y at *
            have HY := Lib.hid hy
            have HNY := Lib.hid (nameR_calls y.name)
            have HVN0 := Lib.hid hvn0
            clear hvn0 hvi0 hzz hy
            obtain ⟨bn, hbn⟩ : ∃ b, nameB y.name = b := ⟨_, rfl⟩
            rw [hbn] at HNY
            have HBN := Lib.hid hbn
            clear hbn
            cases bn with
            | false =>
              obtain rfl : hb = false := by
                rw [Bool.eq_false_iff]; intro hbt; have := (HVP.out.1 (HALL.out hbt)).1.1; rw [HBN.out] at this; exact absurd this (by decide)
              go_wp2_with fail
              refine (HNY.out _).mono ?_
              rintro e w4 ⟨rfl, rfl⟩
              go_wp2
              go_ret
              exact ⟨13, rfl, ⟨fun h => absurd h (by decide), fun h => absurd h (by decide)⟩, HEX.out⟩
            | true =>
            go_wp2_with fail
            refine (HNY.out _).mono ?_
            rintro e w4 ⟨rfl, rfl⟩
            go_wp2
            clear b0 b1 b2 hvn1
            obtain ⟨wp, rfl⟩ : ∃ x, x = w4 := ⟨_, rfl⟩
            go_loopg [8] k (fun g s8 wr => ∃ j : Nat, j ≤ k ∧ k - j ≤ g ∧ s8 = .int .i64 j ∧ Aside (∀ i, i < j → (x.vars[i]!.name.toList == y.name.toList) = false) ∧ Aside (Ext wp wr))
            case atStart => exact ⟨0, Nat.zero_le _, by omega, rfl, (fun j hj => absurd hj (Nat.not_lt_zero _)), Ext.rf _⟩
            case round =>
              obtain ⟨j, hj, hg3, rfl, A2, HEM⟩ := hrel
              have HEY := Lib.hid (HEX.out.trans' HEM.out)
              have HXD := Lib.hid (HEM.out.hp HXC.out)
              have HVN1 := HEY.out.cl HVN0.out
              have HVI1 := HEY.out.cl HVI0.out
              have b0 := cellOf HXD.out 0
              have b1 := cellOf HXD.out 1
              have b2 := cellOf HXD.out 2
              simp only [List.getElem?_toArray, List.getElem?_cons_zero, List.getElem?_cons_succ] at b0 b1 b2
              by_cases hltj : j < k
              · have hltz2 : (j : Int) < (k : Int) := by omega
                have hjz : (0 : Int) ≤ (j : Int) := by omega
                have hji : (j : Int) < (nv : Int) := by omega
                obtain ⟨_, _, _, hve, _, _, hjn0, _⟩ := var_at HV.out j (by rw [HNV.out]; omega)
                simp only [Value.slice.injEq, Option.some.injEq, Addr.mk.injEq, and_true] at hve
                obtain ⟨⟨rfl, rfl⟩, hzz, rfl⟩ := hve
                have hjn1 := HEY.out.cl hjn0
                have HALJ := Lib.hid (fun hbt : hb = true => (HVP.out.1 (HALL.out hbt)).1.2 j hltj)
                generalize hz : x.vars[j]! = z at *
                have HZ := Lib.hid hz
                clear hjn0 hzz hz HVI1
                obtain ⟨bq, hbq⟩ : ∃ b, (z.name.toList == y.name.toList) = b := ⟨_, rfl⟩
                cases bq with
                | true =>
                  obtain rfl : hb = false := by
                    rw [Bool.eq_false_iff]; intro hbt; have := HALJ.out hbt; rw [hbq] at this; exact absurd this (by decide)
                  go_wp2
                  go_quiet (fail)
                  go_wp2
                  go_ret
                  exact ⟨13, rfl, ⟨fun h => absurd h (by decide), fun h => absurd h (by decide)⟩, HEY.out.drN _⟩
                | false =>
                  have HBQ := Lib.hid hbq
                  go_wp2
                  go_quiet (fail)
                  go_wp2
                  go_roundg (k - (j + 1))
                  case measure => omega
                  case rel =>
                    refine ⟨j + 1, by omega, by omega, by go_num, (show Aside _ from fun i hi => ?_), (show Ext _ _ from HEM.out.drN _)⟩
                    by_cases e : i = j
                    · subst e; rw [HZ.out]; exact HBQ.out
                    · exact A2.out i (by omega)
              · have hltz2 : ¬ (j : Int) < (k : Int) := by omega
                obtain rfl : j = k := by omega
                have HIB := Lib.hid (valueR_calls y.init)
                obtain ⟨bv, hbv⟩ : ∃ b, valueB y.init = b := ⟨_, rfl⟩
                rw [hbv] at HIB
                have HBV := Lib.hid hbv
                clear hbv
                cases bv with
                | false =>
                  obtain rfl : hb = false := by
                    rw [Bool.eq_false_iff]; intro hbt; have := (HVP.out.1 (HALL.out hbt)).2; rw [HBV.out] at this; exact absurd this (by decide)
                  go_wp2_with fail
                  refine (HIB.out _).mono ?_
                  rintro e w5 ⟨rfl, rfl⟩
                  go_wp2
                  go_ret
                  exact ⟨2, rfl, ⟨fun h => absurd h (by decide), fun h => absurd h (by decide)⟩, HEY.out⟩
                | true =>
                  have HVB := Lib.hid (HVP.out.2 ⟨⟨HBN.out, A2.out⟩, HBV.out⟩)
                  go_wp2_with fail
                  refine (HIB.out _).mono ?_
                  rintro e w5 ⟨rfl, rfl⟩
                  go_wp2
                  go_roundg (nv - (j + 1))
                  case measure => omega
                  case rel =>
                    refine ⟨j + 1, by omega, by omega, by go_num, (show Aside _ from fun i hi => ?_), (show Ext _ _ from HEL.out.trans' HEM.out)⟩
                    by_cases e : i = j
                    · subst e; exact HVB.out
                    · exact A.out i (by omega)
          · have hltz : ¬ (k : Int) < (nv : Int) := by omega
            obtain rfl : k = nv := by omega
            by_cases h64 : 64 < ne
            · have c64 : decide (64 < (ne : Int)) = true := by simp; omega
              have c64n : decide (64 < ne) = true := by simp; omega
              obtain rfl : hb = false := by
                rw [Bool.eq_false_iff]; intro hbt; have := (HB.out.1 hbt).2.2.2.2; omega
              go_wp2
              go_ret
              exact ⟨5, rfl, ⟨fun h => absurd h (by decide), fun h => absurd h (by decide)⟩, HEX.out⟩
            · have c64 : decide (64 < (ne : Int)) = false := by simp; omega
              have c64n : decide (64 < ne) = false := by simp; omega
              obtain rfl : hb = true := HB.out.2 ⟨HNB.out, HNO.out, by omega, A.out, by omega⟩
              go_wp2
              go_ret
              exact ⟨0, rfl, ⟨fun _ => rfl, fun _ => rfl⟩, HEX.out⟩

end Go.Proofs.YtfcpnggdpaeldaaGreat
