/-
  The reference's further variable: shaped, inRange.
-/
import Derived.Test.YtfcpnggdpaeldaaGa
import Derived.Test.YtfcpnggdpaeldaaProg
import Derived.BigQuiet
import Derived.Deep.QuietTactic
import Derived.Deep.LoopGhost
import Derived.Shelf.Abstract
import Derived.Test.YtfcpnggdpaeldaaGq
import Derived.BigRegion
import Derived.Laws.EntriesVeiled
import Derived.Deep.DeepCutAuto
namespace Go.Proofs.Ytfcpnggdpaeldaa
open Go.RowKit
set_option linter.unusedVariables false
attribute [local go_sem ↓] Go.wp_at_zero Go.wp_at_succ

set_option maxHeartbeats 4000000 in
set_option maxRecDepth 100000 in
theorem shapedR_calls (v vl : Value) (t : Tr) (l : List (List Int)) (w : World) (h : TrAt w v t) (hs : SmallTr t) (hl : Sl RInts 1 w vl l) :
    Calls Try.prog 59 #[.agg #[v], vl] w fun e w' => e = .returned (.bool (fitsW t l)) ∧ Ext w w' := by
  have HT := Lib.hid h
  have HW := Lib.hid hl
  have HS := Lib.hid hs
  obtain ⟨ta, tc, rfl, htc⟩ := h.sh
  obtain ⟨wa, wc, rfl, hwc⟩ := hl.shape
  have hn1 := hs.1
  obtain ⟨R, hR⟩ : ∃ R, fitsW t l = R := ⟨_, rfl⟩
  rw [hR]
  have HN0 : Hid (l.length ≠ t.length → R = false) := Lib.hid (fun h => by rw [← hR, Bool.eq_false_iff]; intro e; exact h (fitsW_iff.1 e).1)
  have HNO : Hid (∀ p, p < l.length → l[p]!.length ≠ t[p]!.events.length + 1 → R = false) := Lib.hid (fun p hp h => by rw [← hR, Bool.eq_false_iff]; intro e; exact h ((fitsW_iff.1 e).2 p hp))
  have HYES : Hid (l.length = t.length → (∀ p, p < l.length → l[p]!.length = t[p]!.events.length + 1) → R = true) := Lib.hid (fun h h2 => hR.symm.trans (fitsW_iff.2 ⟨h, h2⟩))
  generalize hwl : l.length = m at *
  have HWL := Lib.hid hwl
  generalize htn : t.length = n at *
  have HTN := Lib.hid htn
  have HX0 := Lib.hid (heap_alloc_new w (.cells #[.slice ta n tc] 24))
  have HE1 := Lib.hid ((Ext.rf w).al (.cells #[.slice ta n tc] 24))
  clear h hs hl hR htn hwl
  by_cases hmn : m = n
  case neg =>
    have d0 : ((m : Int) != (n : Int)) = true := by simp; omega
    obtain rfl : R = false := HN0.out hmn
    clear hmn
    go_enter Try.func59, Try.ntmps59
    go_wp2
    go_ret
    exact ⟨rfl, HE1.out⟩
  case pos =>
  subst hmn
  have d0 : ((m : Int) != (m : Int)) = false := by simp
  go_enter Try.func59, Try.ntmps59
  go_wp2
  generalize hw2 : w.alloc (.cells #[.slice ta m tc] 24) = w2 at *
  clear hw2 d0
  go_loopg [5] m (fun g s5 wr => ∃ p : Nat, p ≤ m ∧ m - p ≤ g ∧ s5 = .int .i64 p ∧ Aside (∀ q, q < p → l[q]!.length = t[q]!.events.length + 1) ∧ Aside (Ext w2 wr))
  case atStart => exact ⟨0, Nat.zero_le _, by omega, rfl, (fun j hj => absurd hj (Nat.not_lt_zero _)), Ext.rf _⟩
  case round =>
    obtain ⟨p, hp, hg, rfl, A, HEK⟩ := hrel
    have HEW := Lib.hid (HE1.out.trans' HEK.out)
    have HY0 := Lib.hid (HEK.out.hp HX0.out)
    have t0 := cellOf HY0.out 0
    simp only [List.getElem?_toArray, List.getElem?_cons_zero] at t0
    by_cases hlt : p < m
    · have hltz : (p : Int) < (m : Int) := by omega
      have hpz : (0 : Int) ≤ (p : Int) := by omega
      obtain ⟨B, O, C, vv, ve, hve, hlC, hB, hn0, hv0, he0, hV, hE0⟩ := proc_at HT.out p (by rw [HTN.out]; exact hlt)
      simp only [Value.slice.injEq] at hve
      obtain ⟨rfl, hzz, rfl⟩ := hve
      obtain ⟨ea, ec, rfl, hec⟩ := hE0.sh
      obtain ⟨rb, ro, sv, sc, rfl, hr0, hi0⟩ := rowl_at HW.out p (by rw [HWL.out]; exact hlt)
      have he1 := HEW.out.cl he0
      have r1 := HEW.out.cl hr0
      have hen := (HS.out.2 p (by rw [HTN.out]; exact hlt)).2.1
      have HNP := Lib.hid (HNO.out p hlt)
      have HP : Hid (l[p]!.length = t[p]!.events.length + 1 → ∀ q, q < p + 1 → l[q]!.length = t[q]!.events.length + 1) := Lib.hid (fun h q hq => by
        by_cases e : q = p
        · subst e; exact h
        · exact A.out q (by omega))
      generalize t[p]!.events.length = ne at *
      generalize l[p]!.length = k at *
      clear hn0 hv0 hV hE0 hzz he0 hr0 hi0
      by_cases hk : k = ne + 1
      · have d1 : ((k : Int) != (ne : Int) + 1) = false := by rw [bne_eq_false_iff_eq]; omega
        have HPP := Lib.hid (HP.out hk)
        clear hk
        go_wp2
        go_region
        go_wp2
        go_roundg (m - (p + 1))
        case measure => omega
        case rel => exact ⟨p + 1, by omega, by omega, by go_num, (show Aside _ from HPP.out), (show Ext _ _ from HEK.out.dr)⟩
      · have d1 : ((k : Int) != (ne : Int) + 1) = true := by rw [bne_iff_ne]; omega
        obtain rfl : R = false := HNP.out hk
        clear hk
        go_wp2
        go_region
        go_wp2
        go_ret
        exact ⟨rfl, HEW.out.dr⟩
    · have hltz : ¬ (p : Int) < (m : Int) := by omega
      obtain rfl : m = p := by omega
      obtain rfl : R = true := HYES.out (by trivial) A.out
      go_wp2
      go_ret
      exact ⟨rfl, HEW.out⟩

theorem rangW_no {l : List (List Int)} {p k : Nat} (hp : p < l.length) (hk : k < l[p]!.length) (h : valueB (l[p]!)[k]! = false) : rangW l = false := by
  rw [Bool.eq_false_iff]
  intro e
  have h1 := List.all_eq_true.1 e l[p]! (mem_at l p hp)
  have h2 := List.all_eq_true.1 h1 (l[p]!)[k]! (mem_at _ k hk)
  rw [h] at h2; cases h2
theorem rangW_yes {l : List (List Int)} (h : ∀ p, p < l.length → ∀ k, k < l[p]!.length → valueB (l[p]!)[k]! = true) : rangW l = true := by
  refine List.all_eq_true.2 fun x hx => List.all_eq_true.2 fun y hy => ?_
  obtain ⟨p, hp, rfl⟩ := List.getElem_of_mem hx
  obtain ⟨k, hk, rfl⟩ := List.getElem_of_mem hy
  have := h p hp k (by rw [getElem!_pos l p hp]; exact hk)
  rw [getElem!_pos l p hp, getElem!_pos _ k hk] at this
  exact this

set_option maxHeartbeats 4000000 in
set_option maxRecDepth 100000 in
theorem inRangeR_calls (vl : Value) (l : List (List Int)) (w : World) (hl : Sl RInts 1 w vl l) (hm : l.length ≤ 1000000) (hb : ∀ p, p < l.length → l[p]!.length ≤ 1000000) :
    Calls Try.prog 60 #[vl] w fun e w' => e = .returned (.bool (rangW l)) ∧ Ext w w' := by
  have HW := Lib.hid hl
  have HB := Lib.hid hb
  obtain ⟨wa, wc, rfl, hwc⟩ := hl.shape
  obtain ⟨R, hR⟩ : ∃ R, rangW l = R := ⟨_, rfl⟩
  rw [hR]
  have HNO : Hid (∀ p, p < l.length → ∀ k, k < l[p]!.length → valueB (l[p]!)[k]! = false → R = false) := Lib.hid (fun p hp k hk h => hR.symm.trans (rangW_no hp hk h))
  have HYES : Hid ((∀ p, p < l.length → ∀ k, k < l[p]!.length → valueB (l[p]!)[k]! = true) → R = true) := Lib.hid (fun h => hR.symm.trans (rangW_yes h))
  generalize hwl : l.length = m at *
  have HWL := Lib.hid hwl
  clear hl hb hR hwl
  go_enter Try.func60, Try.ntmps60
  go_wp2
  go_loopg [3] m (fun g s3 wr => ∃ p : Nat, p ≤ m ∧ m - p ≤ g ∧ s3 = .int .i64 p ∧ Aside (∀ q, q < p → ∀ k, k < l[q]!.length → valueB (l[q]!)[k]! = true) ∧ Aside (Ext w wr))
  case atStart => exact ⟨0, Nat.zero_le _, by omega, rfl, (fun j hj => absurd hj (Nat.not_lt_zero _)), Ext.rf _⟩
  case round =>
    obtain ⟨p, hp, hg, rfl, A, HEK⟩ := hrel
    by_cases hlt : p < m
    · have hltz : (p : Int) < (m : Int) := by omega
      have hpz : (0 : Int) ≤ (p : Int) := by omega
      obtain ⟨rb, ro, sv, sc, rfl, hr0, hi0⟩ := rowl_at HW.out p (by rw [HWL.out]; exact hlt)
      have HR0 := Lib.hid hr0
      have HI0 := Lib.hid hi0
      have HNP := Lib.hid (HNO.out p hlt)
      have hbn := HB.out p hlt
      have HAP : Hid ((∀ k, k < l[p]!.length → valueB (l[p]!)[k]! = true) → ∀ q, q < p + 1 → ∀ k, k < l[q]!.length → valueB (l[q]!)[k]! = true) := Lib.hid (fun h q hq => by
        by_cases e : q = p
        · subst e; exact h
        · exact A.out q (by omega))
      generalize hx : l[p]! = x at *
      generalize hn : x.length = n at *
      have HN := Lib.hid hn
      clear hr0 hi0 hx hn
      go_wp2
      go_loopg [4] n (fun g2 s4 w2 => ∃ k : Nat, k ≤ n ∧ n - k ≤ g2 ∧ s4 = .int .i64 k ∧ Aside (∀ j, j < k → valueB x[j]! = true) ∧ Aside (Ext w w2))
      case atStart => exact ⟨0, Nat.zero_le _, by omega, rfl, (fun j hj => absurd hj (Nat.not_lt_zero _)), (show Ext _ _ from HEK.out)⟩
      case round =>
        obtain ⟨k, hk, hg2, rfl, A2, HE2⟩ := hrel
        have r1 := HE2.out.cl HR0.out
        by_cases hlk : k < n
        · have hlkz : (k : Int) < (n : Int) := by omega
          have hkz : (0 : Int) ≤ (k : Int) := by omega
          obtain ⟨cb, co, rfl, hcb, hcp⟩ := ints_at HI0.out k (by rw [HN.out]; exact hlk)
          have c1 := HE2.out.cl hcp
          have HVF := Lib.hid (HNP.out k hlk)
          have HAK : Hid (valueB x[k]! = true → ∀ j, j < k + 1 → valueB x[j]! = true) := Lib.hid (fun h j hj => by
            by_cases e : j = k
            · subst e; exact h
            · exact A2.out j (by omega))
          generalize x[k]! = y at *
          clear hcp hcb
          by_cases hy1 : y < -1073741824
          · have d1 : decide (y < -1073741824) = true := decide_eq_true hy1
            obtain rfl : R = false := HVF.out (by unfold valueB; simp; omega)
            clear hy1
            go_wp2
            go_ret
            exact ⟨rfl, HE2.out⟩
          · have d1 : decide (y < -1073741824) = false := decide_eq_false hy1
            by_cases hy2 : 1073741824 < y
            · have d2 : decide (1073741824 < y) = true := decide_eq_true hy2
              obtain rfl : R = false := HVF.out (by unfold valueB; simp; omega)
              clear hy1 hy2
              go_wp2
              go_ret
              exact ⟨rfl, HE2.out⟩
            · have d2 : decide (1073741824 < y) = false := decide_eq_false hy2
              have HA3 := Lib.hid (HAK.out (by unfold valueB; simp; omega))
              clear hy1 hy2
              go_wp2
              go_roundg (n - (k + 1))
              case measure => omega
              case rel => exact ⟨k + 1, by omega, by omega, by go_num, (show Aside _ from HA3.out), (show Ext _ _ from HE2.out)⟩
        · have hlkz : ¬ (k : Int) < (n : Int) := by omega
          obtain rfl : n = k := by omega
          have HA4 := Lib.hid (HAP.out (fun j hj => A2.out j hj))
          go_wp2
          go_roundg (m - (p + 1))
          case measure => omega
          case rel => exact ⟨p + 1, by omega, by omega, by go_num, (show Aside _ from HA4.out), (show Ext _ _ from HE2.out)⟩
    · have hltz : ¬ (p : Int) < (m : Int) := by omega
      obtain rfl : m = p := by omega
      obtain rfl : R = true := HYES.out A.out
      go_wp2
      go_ret
      exact ⟨rfl, HEK.out⟩

end Go.Proofs.Ytfcpnggdpaeldaa
