/-
  The reference's Same and SameAgents, of equal ones.
-/
import Derived.Test.YtpjnppkhhbnfoaaBase
import Derived.Test.YtpjnppkhhbnfoaaProg
import Derived.BigQuiet
import Derived.Deep.QuietTactic
import Derived.Deep.LoopGhost
import Derived.Shelf.Abstract
import Derived.Test.YtpjnppkhhbnfoaaRq
import Derived.Test.YtpjnppkhhbnfoaaBoxG
import Derived.Test.YtpjnppkhhbnfoaaDrawn
namespace Go.Proofs.Ytpjnppkhhbnfoaa
open Go.RowKit
set_option linter.unusedVariables false

set_option maxHeartbeats 4000000 in
theorem sameList_calls (u v : Value) (l : List Int) (w : World) (hu : Ints w u l) (hv : Ints w v l) (hn : l.length ≤ 1000000) :
    Calls Try.prog 22 #[u, v] w fun e w' => e = .returned (.bool true) ∧ Drawn w w' := by
  obtain ⟨a, c, rfl, _, hu⟩ := hu
  obtain ⟨a2, c2, rfl, _, hv⟩ := hv
  have HU := Lib.hid hu
  have HV := Lib.hid hv
  clear hu hv
  generalize hln : l.length = n at *
  have HL := Lib.hid hln; clear hln
  have b3 : ((n : Int) != (n : Int)) = false := by simp
  go_enter Try.func22, Try.ntmps22
  go_wp2
  go_loopg [5] n (fun g s5 wr => ∃ k : Nat, k ≤ n ∧ n - k ≤ g ∧ s5 = .int .i64 k ∧ Aside (Drawn w wr))
  case atStart => exact ⟨0, Nat.zero_le _, by omega, rfl, Drawn.rf _⟩
  case round =>
    obtain ⟨k, hk, hg, rfl, HE⟩ := hrel
    by_cases hlt : k < n
    · obtain ⟨b, off, rfl, hb, hc⟩ := HU.out (by intro e; have := HL.out; simp [e] at this; omega)
      obtain ⟨b2, off2, rfl, hb2, hc2⟩ := HV.out (by intro e; have := HL.out; simp [e] at this; omega)
      have hcell : wr.cell? ⟨b, off + k, none⟩ = some (.int .i64 l[k]!) := HE.out.ext.cl (hc k hlt)
      have hcell2 : wr.cell? ⟨b2, off2 + k, none⟩ = some (.int .i64 l[k]!) := HE.out.ext.cl (hc2 k hlt)
      have hltz : (k : Int) < (n : Int) := by omega
      have hkz : (0 : Int) ≤ (k : Int) := by omega
      clear hc hc2
      generalize l[k]! = y at hcell hcell2
      have b4 : (y != y) = false := by simp
      go_wp2
      go_quiet (fail)
      go_wp2
      go_roundg (n - (k + 1))
      case measure => omega
      case rel => exact ⟨k + 1, by omega, by omega, by go_num, HE.out.drN _⟩
    · have hltz : ¬ (k : Int) < (n : Int) := by omega
      go_wp2
      go_ret
      exact ⟨rfl, HE.out⟩

set_option maxHeartbeats 8000000 in
set_option maxRecDepth 100000 in
theorem sameAgents_calls (u v : Value) (l : List Ag) (w : World) (hu : Sl RAgent 3 w u l) (hv : Sl RAgent 3 w v l) (hs : SmallT l) :
    Calls Try.prog 9 #[u, v] w fun e w' => e = .returned (.bool true) ∧ Drawn w w' := by
  have HU := Lib.hid hu
  have HV := Lib.hid hv
  have hn := hs.1
  have HSM := Lib.hid hs.2
  obtain ⟨a, c, rfl, hlc⟩ := hu.shape
  obtain ⟨a2, c2, rfl, hlc2⟩ := hv.shape
  clear hu hv hs
  generalize hln : l.length = n at *
  have HN := Lib.hid hln; clear hln
  have b3 : ((n : Int) != (n : Int)) = false := by simp
  go_enter Try.func9, Try.ntmps9
  go_wp2
  go_loopg [5, 6] n (fun g s5 _ wr => ∃ k : Nat, k ≤ n ∧ n - k ≤ g ∧ s5 = .int .i64 k ∧ Aside (Drawn w wr))
  case atStart => exact ⟨0, Nat.zero_le _, by omega, rfl, Drawn.rf _⟩
  case round =>
    obtain ⟨k, hk, hg, rfl, HE⟩ := hrel
    by_cases hlt : k < n
    · have hltz : (k : Int) < (n : Int) := by omega
      have hkz : (0 : Int) ≤ (k : Int) := by omega
      have hkq : k < l.length := by rw [HN.out]; exact hlt
      obtain ⟨B, O, C, a1, m, c1, hue, _, hq0, hd0, he0, M1, hmc1, HS1⟩ := agent_at HU.out k hkq
      simp only [Value.slice.injEq] at hue
      obtain ⟨rfl, hnn, rfl⟩ := hue
      obtain ⟨B', O', C', a1', m', c1', hue', _, hq0', hd0', he0', M1', hmc1', HS1'⟩ := agent_at HV.out k hkq
      simp only [Value.slice.injEq] at hue'
      obtain ⟨rfl, hnn', rfl⟩ := hue'
      obtain rfl : m' = m := by rw [M1', M1]
      have hq1 := HE.out.ext.cl hq0
      have hd1 := HE.out.ext.cl hd0
      have he1 := HE.out.ext.cl he0
      have hq1' := HE.out.ext.cl hq0'
      have hd1' := HE.out.ext.cl hd0'
      have he1' := HE.out.ext.cl he0'
      have HQ := Lib.hid hq0
      have HQ' := Lib.hid hq0'
      have HM := Lib.hid M1
      have HS := Lib.hid HS1
      have HS' := Lib.hid HS1'
      have hm := (HSM.out k hlt).1
      rw [← M1] at hm
      generalize l[k]!.dropped = dd at *
      generalize l[k]!.ended = ee at *
      have b4 : (dd != dd) = false := by simp
      have b5 : (ee != ee) = false := by simp
      have b6 : ((m' : Int) != (m' : Int)) = false := by simp
      clear hq0 hd0 he0 hq0' hd0' he0' M1 M1' HS1 HS1' hnn hnn'
      go_wp2
      go_quiet (fail)
      go_wp2
      clear hq1 hd1 he1 hq1' hd1' he1'
      obtain ⟨wo, rfl⟩ : ∃ x, x = wr := ⟨_, rfl⟩
      go_loopg [6] m' (fun g s6 wr => ∃ i : Nat, i ≤ m' ∧ m' - i ≤ g ∧ s6 = .int .i64 i ∧ Aside (Drawn wo wr))
      case atStart => exact ⟨0, Nat.zero_le _, by omega, rfl, (Drawn.rf _).drN _⟩
      case round =>
        obtain ⟨i, hi, hg2, rfl, HE2⟩ := hrel
        have HEW := Lib.hid (HE.out.trans HE2.out)
        have hq1 := HEW.out.ext.cl HQ.out
        have hq1' := HEW.out.ext.cl HQ'.out
        by_cases hlt2 : i < m'
        · have hltz2 : (i : Int) < (m' : Int) := by omega
          have hiz : (0 : Int) ≤ (i : Int) := by omega
          have hiq : i < l[k]!.queue.length := by rw [← HM.out]; exact hlt2
          obtain ⟨b, o, sv, rfl, hci0, hsv⟩ := stamp_at HS.out i hiq
          obtain ⟨b', o', sv', rfl, hci0', hsv'⟩ := stamp_at HS'.out i hiq
          have hci := HEW.out.ext.cl hci0
          have hci' := HEW.out.ext.cl hci0'
          have HC := Lib.hid (fun W (hW : Ext w W) => sameList_calls sv sv' l[k]!.queue[i]! W (hsv.ext hW) (hsv'.ext hW) ((HSM.out k hlt).2 i hiq))
          clear hci0 hci0' hsv hsv'
          go_wp2
          go_quiet ((go_at_call 22; exact drawn_quiet (HC.out _ (HEW.out.ext.drN _))))
          go_wp2
          go_roundg (m' - (i + 1))
          case measure => omega
          case rel => exact ⟨i + 1, by omega, by omega, by go_num, HE2.out.drN _⟩
        · have hltz2 : ¬ (i : Int) < (m' : Int) := by omega
          obtain rfl : i = m' := by omega
          go_wp2
          go_roundg (n - (k + 1))
          case measure => omega
          case rel => exact ⟨k + 1, by omega, by omega, by go_num, HEW.out⟩
    · have hltz : ¬ (k : Int) < (n : Int) := by omega
      go_wp2
      go_ret
      exact ⟨rfl, HE.out⟩

set_option maxHeartbeats 4000000 in
theorem same_calls (uc ug vc vg : Value) (b : Ba) (w : World) (hc : Ints w uc b.cut) (hg : Sl RBool 1 w ug b.good) (hc' : Ints w vc b.cut) (hg' : Sl RBool 1 w vg b.good) (hcl : b.cut.length ≤ 1000000) (hgl : b.good.length ≤ 1000000) :
    Calls Try.prog 7 #[.agg #[.int .i64 b.at_, uc, ug, .int .i64 b.state], .agg #[.int .i64 b.at_, vc, vg, .int .i64 b.state]] w fun e w' => e = .returned (.bool true) ∧ Ext w w' := by
  have HC := Lib.hid (fun W (hW : Ext w W) => sameList_calls uc vc b.cut W (hc.ext hW) (hc'.ext hW) hcl)
  have HG := Lib.hid hg
  have HG' := Lib.hid hg'
  obtain ⟨ga, gc, rfl, hgc⟩ := hg.shape
  obtain ⟨ga', gc', rfl, hgc'⟩ := hg'.shape
  obtain ⟨ca, cc, rfl, hcc, _⟩ := hc
  obtain ⟨ca', cc', rfl, hcc', _⟩ := hc'
  clear hg hg'
  generalize b.at_ = x at *
  generalize b.state = y at *
  generalize b.cut.length = n at *
  generalize hml : b.good.length = m at *
  have HM := Lib.hid hml
  clear hml
  have b1 : (x != x) = false := by simp
  have b2 : (y != y) = false := by simp
  have b3 : ((m : Int) != (m : Int)) = false := by simp
  have HB1 := Lib.hid (((Ext.rf _).al (.cells #[.int .i64 x, .slice ca' n cc', .slice ga' m gc', .int .i64 y] 25)).hp (heap_alloc_new w (.cells #[.int .i64 x, .slice ca n cc, .slice ga m gc, .int .i64 y] 25)))
  have HB2 := Lib.hid (heap_new_eq (w := w.alloc (.cells #[.int .i64 x, .slice ca n cc, .slice ga m gc, .int .i64 y] 25)) (o := .cells #[.int .i64 x, .slice ca' n cc', .slice ga' m gc', .int .i64 y] 25) (b := w.heap.size + 1) (by simp))
  have HE0 : Hid (Ext w ((w.alloc (.cells #[.int .i64 x, .slice ca n cc, .slice ga m gc, .int .i64 y] 25)).alloc (.cells #[.int .i64 x, .slice ca' n cc', .slice ga' m gc', .int .i64 y] 25))) := Lib.hid (((Ext.rf w).al _).al _)
  go_enter Try.func7, Try.ntmps7
  go_wp2_with fail
  refine (HC.out _ (by repeat (first | refine Ext.st ?_ (by first | exact Nat.le_refl _ | exact Nat.le_succ _ | assumption | omega) _ | refine Ext.al ?_ _ | refine Ext.dr ?_ | refine Ext.drN ?_ _ | exact Ext.rf _))).mono ?_
  rintro e w2 ⟨rfl, hD⟩
  have HE2 := Lib.hid (HE0.out.trans' hD.ext)
  have HB1' := Lib.hid (hD.ext.hp HB1.out)
  have HB2' := Lib.hid (hD.ext.hp HB2.out)
  clear hD
  have x0 := cellOf HB1'.out 0
  have x1 := cellOf HB1'.out 1
  have x2 := cellOf HB1'.out 2
  have x3 := cellOf HB1'.out 3
  simp only [List.getElem?_toArray, List.getElem?_cons_zero, List.getElem?_cons_succ] at x0 x1 x2 x3
  have y0 := cellOf HB2'.out 0
  have y1 := cellOf HB2'.out 1
  have y2 := cellOf HB2'.out 2
  have y3 := cellOf HB2'.out 3
  simp only [List.getElem?_toArray, List.getElem?_cons_zero, List.getElem?_cons_succ] at y0 y1 y2 y3
  go_wp2
  clear x0 x1 x2 x3 y0 y1 y2 y3
  go_loopg [5] m (fun g s5 wr => ∃ k : Nat, k ≤ m ∧ m - k ≤ g ∧ s5 = .int .i64 k ∧ Aside (Drawn w2 wr))
  case atStart => exact ⟨0, Nat.zero_le _, by omega, rfl, Drawn.rf _⟩
  case round =>
    obtain ⟨k, hk, hg, rfl, HD⟩ := hrel
    have HBX := Lib.hid (HD.out.ext.hp HB1'.out)
    have HBY := Lib.hid (HD.out.ext.hp HB2'.out)
    have HEW := Lib.hid (HE2.out.trans' HD.out.ext)
    have x2 := cellOf HBX.out 2
    have y2 := cellOf HBY.out 2
    simp only [List.getElem?_toArray, List.getElem?_cons_zero, List.getElem?_cons_succ] at x2 y2
    by_cases hlt : k < m
    · have hltz : (k : Int) < (m : Int) := by omega
      have hkz : (0 : Int) ≤ (k : Int) := by omega
      obtain ⟨p1, o1, q1, v1, hv1, _, _, hc1, hr1⟩ := HG.out.at1 k (by rw [HM.out]; exact hlt)
      obtain ⟨p2, o2, q2, v2, hv2, _, _, hc2, hr2⟩ := HG'.out.at1 k (by rw [HM.out]; exact hlt)
      simp only [Value.slice.injEq] at hv1 hv2
      obtain ⟨rfl, hnn, rfl⟩ := hv1
      obtain ⟨rfl, hnn', rfl⟩ := hv2
      obtain rfl : v1 = .bool b.good[k]! := by simpa [RBool] using hr1
      obtain rfl : v2 = .bool b.good[k]! := by simpa [RBool] using hr2
      have hcell := HEW.out.cl hc1
      have hcell2 := HEW.out.cl hc2
      clear hc1 hc2 hr1 hr2 hnn hnn'
      generalize b.good[k]! = z at hcell hcell2
      have b4 : (z != z) = false := by simp
      go_wp2
      go_quiet (fail)
      go_wp2
      go_roundg (m - (k + 1))
      case measure => omega
      case rel => exact ⟨k + 1, by omega, by omega, by go_num, HD.out.drN _⟩
    · have hltz : ¬ (k : Int) < (m : Int) := by omega
      go_wp2
      go_ret
      exact ⟨rfl, HEW.out⟩

end Go.Proofs.Ytpjnppkhhbnfoaa
