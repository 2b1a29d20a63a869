/-
  Same of the reference, of equal ones.
-/
import Derived.Test.YtggofkaakccoeaaBase
import Derived.Test.YtggofkaakccoeaaProg
import Derived.BigQuiet
import Derived.Deep.QuietTactic
import Derived.Deep.LoopGhost
import Derived.Shelf.Abstract
import Derived.Test.YtggofkaakccoeaaCkE
import Derived.Test.YtggofkaakccoeaaBoxG
namespace Go.Proofs.Ytggofkaakccoeaa
open Go.RowKit
set_option linter.unusedVariables false


set_option maxHeartbeats 2000000 in
theorem sameRows_eq (u v : Value) (q : List (List Int)) (w : World) (hu : Sl RInts 1 w u q) (hv : Sl RInts 1 w v q) (hn : q.length ≤ 1000000) (hl : ∀ i, i < q.length → q[i]!.length ≤ 1000000) :
    Calls Try.prog 82 #[u, v] w fun e w' => e = .returned (.bool true) ∧ Drawn w w' := by
  have HU := Lib.hid hu
  have HV := Lib.hid hv
  have HLL := Lib.hid hl
  obtain ⟨a, c, rfl, _⟩ := hu.shape
  obtain ⟨a2, c2, rfl, _⟩ := hv.shape
  clear hu hv hl
  generalize hln : q.length = n at *
  have HL := Lib.hid hln; clear hln
  have b1 : ((n : Int) != (n : Int)) = false := by simp
  go_enter Try.func82, Try.ntmps82
  go_wp2
  go_loopg [5] n (fun g s5 wr => ∃ k : Nat, k ≤ n ∧ n - k ≤ g ∧ s5 = .int .i64 k ∧ Aside (Drawn w wr))
  case atStart => exact ⟨0, Nat.zero_le _, by omega, rfl, Drawn.rf _⟩
  case round =>
    obtain ⟨k, hk, hg, rfl, HD⟩ := hrel
    by_cases hlt : k < n
    · have hkq : k < q.length := by rw [HL.out]; exact hlt
      obtain ⟨b, o, sv, rfl, hc0, hi⟩ := stamp_at HU.out k hkq
      obtain ⟨b2, o2, sv2, rfl, hc2, hi2⟩ := stamp_at HV.out k hkq
      have hcell := HD.out.ext.cl hc0
      have hcell2 := HD.out.ext.cl hc2
      have hltz : (k : Int) < (n : Int) := by omega
      have hkz : (0 : Int) ≤ (k : Int) := by omega
      have HS := Lib.hid (fun W (hW : Ext w W) => sameList_calls sv sv2 q[k]! q[k]! W (hi.ext hW) (hi2.ext hW) (HLL.out k hlt) (HLL.out k hlt))
      rw [beq_self_eq_true] at HS
      clear hc0 hc2 hi hi2
      go_wp2
      go_quiet ((go_at_call 64; exact drawn_quiet (HS.out _ (HD.out.ext.drN _))))
      go_wp2
      go_roundg (n - (k + 1))
      case measure => omega
      case rel => exact ⟨k + 1, by omega, by omega, by go_num, (show Drawn _ _ from HD.out.drN _)⟩
    · have hltz : ¬ (k : Int) < (n : Int) := by omega
      go_wp2
      go_ret
      exact ⟨rfl, HD.out⟩

set_option maxHeartbeats 2000000 in
theorem same15_eq (u v : Value) (qs : List (List (List Int))) (w : World) (hu : Sl RQueue 1 w u qs) (hv : Sl RQueue 1 w v qs) (hn : qs.length ≤ 1000000) (hl : ∀ p, p < qs.length → qs[p]!.length ≤ 1000000 ∧ ∀ i, i < qs[p]!.length → qs[p]![i]!.length ≤ 1000000) :
    Calls Try.prog 65 #[u, v] w fun e w' => e = .returned (.bool true) ∧ Drawn w w' := by
  have HU := Lib.hid hu
  have HV := Lib.hid hv
  have HLL := Lib.hid hl
  obtain ⟨a, c, rfl, _⟩ := hu.shape
  obtain ⟨a2, c2, rfl, _⟩ := hv.shape
  clear hu hv hl
  generalize hln : qs.length = n at *
  have HL := Lib.hid hln; clear hln
  have b1 : ((n : Int) != (n : Int)) = false := by simp
  go_enter Try.func65, Try.ntmps65
  go_wp2
  go_loopg [5] n (fun g s5 wr => ∃ k : Nat, k ≤ n ∧ n - k ≤ g ∧ s5 = .int .i64 k ∧ Aside (Drawn w wr))
  case atStart => exact ⟨0, Nat.zero_le _, by omega, rfl, Drawn.rf _⟩
  case round =>
    obtain ⟨k, hk, hg, rfl, HD⟩ := hrel
    by_cases hlt : k < n
    · have hkq : k < qs.length := by rw [HL.out]; exact hlt
      obtain ⟨B, O, C, a1, m1, c1, hue, hc0, hm1, _, hi⟩ := queue_at HU.out k hkq
      obtain ⟨B2, O2, C2, a3, m3, c3, hue2, hc2, hm3, _, hi2⟩ := queue_at HV.out k hkq
      simp only [Value.slice.injEq] at hue hue2
      obtain ⟨rfl, hnn, rfl⟩ := hue
      obtain ⟨rfl, hnn2, rfl⟩ := hue2
      have hcell := HD.out.ext.cl hc0
      have hcell2 := HD.out.ext.cl hc2
      have hltz : (k : Int) < (n : Int) := by omega
      have hkz : (0 : Int) ≤ (k : Int) := by omega
      have HS := Lib.hid (fun W (hW : Ext w W) => sameRows_eq (.slice a1 m1 c1) (.slice a3 m3 c3) qs[k]! W (hi.ext rints_lasts hW) (hi2.ext rints_lasts hW) (HLL.out k hlt).1 (HLL.out k hlt).2)
      clear hc0 hc2 hi hi2 hnn hnn2 hm1 hm3
      go_wp2
      go_quiet ((go_at_call 82; exact drawn_quiet (HS.out _ (HD.out.ext.drN _))))
      go_wp2
      go_roundg (n - (k + 1))
      case measure => omega
      case rel => exact ⟨k + 1, by omega, by omega, by go_num, (show Drawn _ _ from HD.out.drN _)⟩
    · have hltz : ¬ (k : Int) < (n : Int) := by omega
      go_wp2
      go_ret
      exact ⟨rfl, HD.out⟩

set_option maxHeartbeats 4000000 in
theorem same47_eq (uq ue uc vq ve vc : Value) (s : Ck) (w : World) (hu : CkAt w uq ue uc s) (hv : CkAt w vq ve vc s) (hs : SmallC s) :
    Calls Try.prog 34 #[.agg #[uq, ue, .bool s.done, uc], .agg #[vq, ve, .bool s.done, vc]] w fun e w' => e = .returned (.bool true) ∧ Ext w w' := by
  have HU := Lib.hid hu
  have HV := Lib.hid hv
  have HSM := Lib.hid hs
  have hs1 := hs.1
  have hs2 := hs.2.1
  obtain ⟨a, c, rfl, _⟩ := hu.1.shape
  obtain ⟨ea, ec, rfl, _⟩ := hu.2.1.shape
  obtain ⟨a2, c2, rfl, _⟩ := hv.1.shape
  obtain ⟨ea2, ec2, rfl, _⟩ := hv.2.1.shape
  have HS1 := Lib.hid (fun W (hW : Ext w W) => sameList_calls uc vc s.cut s.cut W (hu.2.2.ext hW) (hv.2.2.ext hW) hs.2.2.1 hs.2.2.1)
  rw [beq_self_eq_true] at HS1
  have HS2 := Lib.hid (fun W (hW : Ext w W) => same15_eq (.slice a s.qs.length c) (.slice a2 s.qs.length c2) s.qs W (hu.1.ext rqueue_lasts hW) (hv.1.ext rqueue_lasts hW) hs1 hs.2.2.2)
  clear hu hv hs
  generalize hd : s.done = d at *
  have HD := Lib.hid hd
  clear hd
  generalize hn : s.qs.length = n at *
  generalize hl : s.ended.length = l at *
  have HN := Lib.hid hn
  have HL := Lib.hid hl
  clear hn hl
  have b1 : ((n : Int) != (n : Int)) = false := by simp
  have b2 : ((l : Int) != (l : Int)) = false := by simp
  have b3 : (d != d) = false := by simp
  have HX0 := Lib.hid (((Ext.rf (w.alloc (ckT (.slice a n c) (.slice ea l ec) (.bool d) uc))).al (ckT (.slice a2 n c2) (.slice ea2 l ec2) (.bool d) vc)).hp (heap_alloc_new w (ckT (.slice a n c) (.slice ea l ec) (.bool d) uc)))
  have HX1 := Lib.hid (heap_new_eq (w := w.alloc (ckT (.slice a n c) (.slice ea l ec) (.bool d) uc)) (o := ckT (.slice a2 n c2) (.slice ea2 l ec2) (.bool d) vc) (b := w.heap.size + 1) (by simp))
  have HE0 : Hid (Ext w ((w.alloc (ckT (.slice a n c) (.slice ea l ec) (.bool d) uc)).alloc (ckT (.slice a2 n c2) (.slice ea2 l ec2) (.bool d) vc))) := Lib.hid (((Ext.rf w).al _).al _)
  go_enter Try.func34, Try.ntmps34
  go_wp2_with fail
  generalize hw0 : (w.alloc (ckT (.slice a n c) (.slice ea l ec) (.bool d) uc)).alloc (ckT (.slice a2 n c2) (.slice ea2 l ec2) (.bool d) vc) = w0 at *
  clear hw0
  refine (HS1.out w0 HE0.out).mono ?_
  rintro e w1 ⟨rfl, hD1⟩
  have HE1 := Lib.hid (HE0.out.trans' hD1.ext)
  have HA1 := Lib.hid (hD1.ext.hp HX0.out)
  have HB1 := Lib.hid (hD1.ext.hp HX1.out)
  clear hD1
  have x1 := cellOf HA1.out 1
  simp only [List.getElem?_toArray, List.getElem?_cons_zero, List.getElem?_cons_succ] at x1
  go_wp2
  clear x1
  go_loopg [5] l (fun g s5 wr => ∃ k : Nat, k ≤ l ∧ l - k ≤ g ∧ s5 = .int .i64 k ∧ Aside (Drawn w1 wr))
  case atStart => exact ⟨0, Nat.zero_le _, by omega, rfl, Drawn.rf _⟩
  case round =>
    obtain ⟨k, hk, hg, rfl, HD1⟩ := hrel
    have HA2 := Lib.hid (HD1.out.ext.hp HA1.out)
    have HB2 := Lib.hid (HD1.out.ext.hp HB1.out)
    have HE2 := Lib.hid (HE1.out.trans' HD1.out.ext)
    have x0 := cellOf HA2.out 0
    have x1 := cellOf HA2.out 1
    have x2 := cellOf HA2.out 2
    have x3 := cellOf HA2.out 3
    simp only [List.getElem?_toArray, List.getElem?_cons_zero, List.getElem?_cons_succ] at x0 x1 x2 x3
    have y0 := cellOf HB2.out 0
    have y1 := cellOf HB2.out 1
    have y2 := cellOf HB2.out 2
    have y3 := cellOf HB2.out 3
    simp only [List.getElem?_toArray, List.getElem?_cons_zero, List.getElem?_cons_succ] at y0 y1 y2 y3
    by_cases hlt : k < l
    · have hkl : k < s.ended.length := by rw [HL.out]; exact hlt
      obtain ⟨EB, EO, EC, ev, hee, _, _, hec0, hev⟩ := HU.out.2.1.at1 k hkl
      obtain ⟨EB2, EO2, EC2, ev2, hee2, _, _, hec2, hev2⟩ := HV.out.2.1.at1 k hkl
      simp only [Value.slice.injEq] at hee hee2
      obtain ⟨rfl, hnn, rfl⟩ := hee
      obtain ⟨rfl, hnn2, rfl⟩ := hee2
      obtain rfl : ev = .bool s.ended[k]! := by simpa [RBool] using hev
      obtain rfl : ev2 = .bool s.ended[k]! := by simpa [RBool] using hev2
      have hcell := HE2.out.cl hec0
      have hcell2 := HE2.out.cl hec2
      clear hnn hnn2 hev hev2 hec0 hec2
      generalize s.ended[k]! = eb at hcell hcell2
      have b4 : (eb != eb) = false := by simp
      have hltz : (k : Int) < (l : Int) := by omega
      have hkz : (0 : Int) ≤ (k : Int) := by omega
      go_wp2
      go_quiet (fail)
      go_wp2
      go_roundg (l - (k + 1))
      case measure => omega
      case rel => exact ⟨k + 1, by omega, by omega, by go_num, (show Drawn _ _ from HD1.out.drN _)⟩
    · have hltz : ¬ (k : Int) < (l : Int) := by omega
      go_wp2_with fail
      refine (HS2.out wr HE2.out).mono ?_
      rintro e w3 ⟨rfl, hD3⟩
      have HE3 := Lib.hid (HE2.out.trans' hD3.ext)
      clear hD3
      go_wp2
      go_ret
      exact ⟨rfl, HE3.out⟩

end Go.Proofs.Ytggofkaakccoeaa
