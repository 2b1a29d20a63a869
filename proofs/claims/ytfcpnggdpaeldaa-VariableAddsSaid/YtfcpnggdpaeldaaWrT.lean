/-
  The reference's Same of equal traces.
-/
import Derived.Test.YtfcpnggdpaeldaaGa
import Derived.Test.YtfcpnggdpaeldaaProg
import Derived.BigQuiet
import Derived.Deep.QuietTactic
import Derived.Deep.LoopGhost
import Derived.Shelf.Abstract
import Derived.Test.YtfcpnggdpaeldaaWrS
namespace Go.Proofs.Ytfcpnggdpaeldaa
open Go.RowKit
set_option linter.unusedVariables false
attribute [local go_sem ↓] Go.wp_at_zero Go.wp_at_succ

theorem new_0 (w : World) (a b : Obj) : ((w.alloc a).alloc b).drew.heap[w.heap.size]? = some a := allocs_at [a, b] w 0 _ rfl
theorem new_1 (w : World) (a b : Obj) : ((w.alloc a).alloc b).drew.heap[w.heap.size + 1]? = some b := allocs_at [a, b] w 1 _ rfl
set_option maxHeartbeats 4000000 in
set_option maxRecDepth 100000 in
theorem sameT_calls (u1 u2 : Value) (t : Tr) (w : World) (h1 : TrAt w u1 t) (h2 : TrAt w u2 t) (hs : t.length ≤ 1000000 ∧ ∀ p, p < t.length → t[p]!.vars.length ≤ 1000000 ∧ t[p]!.events.length ≤ 1000000 ∧ ∀ k, k < t[p]!.events.length → t[p]!.events[k]!.asg.length ≤ 1000000) :
    Calls Try.prog 27 #[.agg #[u1], .agg #[u2]] w fun e w' => e = .returned (.bool true) ∧ Ext w w' := by
  have HA := Lib.hid h1
  have HB := Lib.hid h2
  have HS := Lib.hid hs
  obtain ⟨a1, c1, rfl, hc1⟩ := h1.sh
  obtain ⟨a2, c2, rfl, hc2⟩ := h2.sh
  have hn := hs.1
  obtain ⟨n, hln⟩ : ∃ n, t.length = n := ⟨_, rfl⟩
  have HL := Lib.hid hln
  rw [hln] at hn HA HB ⊢
  clear h1 h2 hs hc1 hc2 hln
  have HX0 := Lib.hid (heap_alloc_new w (.cells #[.slice a1 n c1] 24))
  have HW1 := Lib.hid ((Ext.rf (w.alloc (.cells #[.slice a1 n c1] 24))).al (.cells #[.slice a2 n c2] 24))
  have HX1 := Lib.hid (heap_alloc_new (w.alloc (.cells #[.slice a1 n c1] 24)) (.cells #[.slice a2 n c2] 24))
  have HX0b := Lib.hid (HW1.out.hp HX0.out)
  have HE1 := Lib.hid (((Ext.rf w).al (.cells #[.slice a1 n c1] 24)).al (.cells #[.slice a2 n c2] 24))
  have hsz : (w.alloc (.cells #[.slice a1 n c1] 24)).heap.size = w.heap.size + 1 := by simp
  rw [hsz] at HX1
  have s0 := cellOf HX0b.out 0
  have q0 := cellOf HX1.out 0
  simp only [List.getElem?_toArray, List.getElem?_cons_zero] at s0 q0
  clear hsz HW1 HX0
  go_enter Try.func27, Try.ntmps27
  go_wp2
  generalize hw2 : (w.alloc (.cells #[.slice a1 n c1] 24)).alloc (.cells #[.slice a2 n c2] 24) = w2 at *
  clear hw2 s0 q0
  go_loopg [5] n (fun g s5 wr => ∃ i : Nat, i ≤ n ∧ n - i ≤ g ∧ s5 = .int .i64 i ∧ Aside (Ext w2 wr))
  case atStart => exact ⟨0, Nat.zero_le _, by omega, rfl, Ext.rf _⟩
  case round =>
    obtain ⟨p, hp, hg, rfl, HEK⟩ := hrel
    have HEW := Lib.hid (HE1.out.trans' HEK.out)
    have s0 := cellOf (HEK.out.hp HX0b.out) 0
    have q0 := cellOf (HEK.out.hp HX1.out) 0
    simp only [List.getElem?_toArray, List.getElem?_cons_zero] at s0 q0
    by_cases hlt : p < n
    · have hltz : (p : Int) < (n : Int) := by omega
      have hpz : (0 : Int) ≤ (p : Int) := by omega
      obtain ⟨B1, O1, C1, vv1, ve1, he1, hl1, hb1, f0, f1, f2, hV1, hE1⟩ := proc_at HA.out p (by rw [HL.out]; exact hlt)
      obtain ⟨B2, O2, C2, vv2, ve2, he2, hl2, hb2, g0, g1, g2, hV2, hE2⟩ := proc_at HB.out p (by rw [HL.out]; exact hlt)
      simp only [Value.slice.injEq] at he1 he2
      obtain ⟨rfl, hz1, rfl⟩ := he1
      obtain ⟨rfl, hz2, rfl⟩ := he2
      have f0 := HEW.out.cl f0
      have f1 := HEW.out.cl f1
      have f2 := HEW.out.cl f2
      have g0 := HEW.out.cl g0
      have g1 := HEW.out.cl g1
      have g2 := HEW.out.cl g2
      have HV1 := Lib.hid hV1
      have HV2 := Lib.hid hV2
      have HE3 := Lib.hid hE1
      have HE4 := Lib.hid hE2
      obtain ⟨hbv, hbe, hba⟩ := HS.out.2 p (by rw [HL.out]; exact hlt)
      have HBA := Lib.hid hba
      clear hba
      obtain ⟨va1, vc1, rfl, hvc1⟩ := hV1.sh
      obtain ⟨va2, vc2, rfl, hvc2⟩ := hV2.sh
      obtain ⟨ea1, ec1, rfl, hec1⟩ := hE1.sh
      obtain ⟨ea2, ec2, rfl, hec2⟩ := hE2.sh
      have hl0 : w.heap.size < wr.heap.size := (Array.getElem?_eq_some_iff.1 (HEK.out.hp HX0b.out)).1
      have hl3 : w.heap.size + 1 < wr.heap.size := (Array.getElem?_eq_some_iff.1 (HEK.out.hp HX1.out)).1
      have hl1 : B1 < wr.heap.size := Nat.lt_of_lt_of_le hb1 HEW.out.sz
      have hl2 : B2 < wr.heap.size := Nat.lt_of_lt_of_le hb2 HEW.out.sz
      have n0 : w.heap.size ≠ wr.heap.size := by omega
      have n1 : w.heap.size + 1 ≠ wr.heap.size := by omega
      have n2 : B1 ≠ wr.heap.size := by omega
      have n3 : B2 ≠ wr.heap.size := by omega
      have m0 : w.heap.size ≠ wr.heap.size + 1 := by omega
      have m1 : w.heap.size + 1 ≠ wr.heap.size + 1 := by omega
      have m2 : B1 ≠ wr.heap.size + 1 := by omega
      have m3 : B2 ≠ wr.heap.size + 1 := by omega
      clear hz1 hz2 hb1 hb2 hV1 hV2 hE1 hE2 hvc1 hvc2 hec1 hec2
      generalize t[p]!.name = nm at *
      generalize hnv : t[p]!.vars.length = nv at *
      generalize hne : t[p]!.events.length = ne at *
      have HNV := Lib.hid hnv
      have HNE := Lib.hid hne
      clear hnv hne
      go_upto_region 6 with (fail)
      go_cut [6, 7] (fun s6 s7 wx => ∃ b d : Nat, s6 = .pointer (some ⟨b, 0, none⟩) ∧ s7 = .pointer (some ⟨d, 0, none⟩) ∧ Aside (Ext wr wx) ∧ Aside (wx.heap[b]? = some (.cells #[.string nm, .slice va1 nv vc1, .slice ea1 ne ec1] 47)) ∧ Aside (wx.heap[d]? = some (.cells #[.string nm, .slice va2 nv vc2, .slice ea2 ne ec2] 47)))
      case first =>
        go_region
        all_goals (go_wp2; go_meet)
        · exact ⟨_, _, rfl, rfl, (show Ext _ _ from (((Ext.rf _).al _).al _).dr), (show _ = _ from new_0 _ _ _), (show _ = _ from new_1 _ _ _)⟩
        · exact ⟨_, _, rfl, rfl, (show Ext _ _ from (((Ext.rf _).al _).al _).dr), (show _ = _ from new_1 _ _ _), (show _ = _ from new_0 _ _ _)⟩
      case rest =>
        obtain ⟨b, d, rfl, rfl, HXC, HP1, HP2⟩ := hcut
        have HEC := Lib.hid (HEW.out.trans' HXC.out)
        have HEK2 := Lib.hid (HEK.out.trans' HXC.out)
        have x0 := cellOf HP1.out 0
        have x1 := cellOf HP1.out 1
        have x2 := cellOf HP1.out 2
        have y0 := cellOf HP2.out 0
        have y1 := cellOf HP2.out 1
        have y2 := cellOf HP2.out 2
        simp only [List.getElem?_toArray, List.getElem?_cons_zero, List.getElem?_cons_succ] at x0 x1 x2 y0 y1 y2
        clear n0 n1 n2 n3 m0 m1 m2 m3 hl0 hl1 hl2 hl3 s0 q0 f0 f1 f2 g0 g1 g2
        go_wp2
        clear x0 x1 x2 y0 y1 y2
        go_loopg [8] nv (fun g2 s8 wv => ∃ k : Nat, k ≤ nv ∧ nv - k ≤ g2 ∧ s8 = .int .i64 k ∧ Aside (Ext wc wv))
        case atStart => exact ⟨0, Nat.zero_le _, by omega, rfl, Ext.rf _⟩
        case round =>
          obtain ⟨k, hk, hg2, rfl, HE5⟩ := hrel
          have HE6 := Lib.hid (HEC.out.trans' HE5.out)
          have x1 := cellOf (HE5.out.hp HP1.out) 1
          have y1 := cellOf (HE5.out.hp HP2.out) 1
          simp only [List.getElem?_toArray, List.getElem?_cons_zero, List.getElem?_cons_succ] at x1 y1
          by_cases hlk : k < nv
          · have hlkz : (k : Int) < (nv : Int) := by omega
            have hkz : (0 : Int) ≤ (k : Int) := by omega
            obtain ⟨V1, P1, D1, he1, _, _, vf0, vf1⟩ := var_at HV1.out k (by rw [HNV.out]; exact hlk)
            obtain ⟨V2, P2, D2, he2, _, _, vg0, vg1⟩ := var_at HV2.out k (by rw [HNV.out]; exact hlk)
            simp only [Value.slice.injEq] at he1 he2
            obtain ⟨rfl, hz1, rfl⟩ := he1
            obtain ⟨rfl, hz2, rfl⟩ := he2
            have kf0 := HE6.out.cl vf0
            have kf1 := HE6.out.cl vf1
            have kg0 := HE6.out.cl vg0
            have kg1 := HE6.out.cl vg1
            clear vf0 vf1 vg0 vg1
            generalize (t[p]!.vars[k]!).name = kn at *
            generalize (t[p]!.vars[k]!).init = ki at *
            clear hz1 hz2
            go_wp2
            go_region
            go_wp2
            go_roundg (nv - (k + 1))
            case measure => omega
            case rel => exact ⟨k + 1, by omega, by omega, by go_num, (show Ext _ _ from HE5.out.dr)⟩
          · have hlkz : ¬ (k : Int) < (nv : Int) := by omega
            obtain rfl : nv = k := by omega
            have x2 := cellOf (HE5.out.hp HP1.out) 2
            have y2 := cellOf (HE5.out.hp HP2.out) 2
            simp only [List.getElem?_toArray, List.getElem?_cons_zero, List.getElem?_cons_succ] at x2 y2
            go_wp2
            clear x1 y1 x2 y2
            obtain ⟨wv, rfl⟩ : ∃ x, x = wr := ⟨_, rfl⟩
            go_loopg [9] ne (fun g3 s9 wu => ∃ j : Nat, j ≤ ne ∧ ne - j ≤ g3 ∧ s9 = .int .i64 j ∧ Aside (Ext wv wu))
            case atStart => exact ⟨0, Nat.zero_le _, by omega, rfl, Ext.rf _⟩
            case round =>
              obtain ⟨j, hj, hg3, rfl, HEJ⟩ := hrel
              have HEV := Lib.hid (HE5.out.trans' HEJ.out)
              have HE7 := Lib.hid (HEC.out.trans' HEV.out)
              have x2 := cellOf (HEV.out.hp HP1.out) 2
              have y2 := cellOf (HEV.out.hp HP2.out) 2
              simp only [List.getElem?_toArray, List.getElem?_cons_zero, List.getElem?_cons_succ] at x2 y2
              by_cases hlj : j < ne
              · have hljz : (j : Int) < (ne : Int) := by omega
                have hjz : (0 : Int) ≤ (j : Int) := by omega
                obtain ⟨V1, P1, D1, ua1, he1, _, _, ef0, ef1, ef2, ef3, ef4, hA1⟩ := event_at HE3.out j (by rw [HNE.out]; exact hlj)
                obtain ⟨V2, P2, D2, ua2, he2, _, _, eg0, eg1, eg2, eg3, eg4, hA2⟩ := event_at HE4.out j (by rw [HNE.out]; exact hlj)
                simp only [Value.slice.injEq] at he1 he2
                obtain ⟨rfl, hz1, rfl⟩ := he1
                obtain ⟨rfl, hz2, rfl⟩ := he2
                have kf0 := HE7.out.cl ef0
                have kf1 := HE7.out.cl ef1
                have kf2 := HE7.out.cl ef2
                have kf3 := HE7.out.cl ef3
                have kf4 := HE7.out.cl ef4
                have kg0 := HE7.out.cl eg0
                have kg1 := HE7.out.cl eg1
                have kg2 := HE7.out.cl eg2
                have kg3 := HE7.out.cl eg3
                have kg4 := HE7.out.cl eg4
                have HSE := Lib.hid (fun W (hW : Ext w W) => sameE_calls ua1 ua2 (t[p]!.events[j]!) W (hA1.ext rasg_lasts hW) (hA2.ext rasg_lasts hW) (HBA.out j (by first | exact hlj | (rw [HNE.out]; exact hlj))))
                obtain ⟨xa1, xc1, rfl, _⟩ := hA1.sh
                obtain ⟨xa2, xc2, rfl, _⟩ := hA2.sh
                generalize t[p]!.events[j]!.asg.length = na at *
                generalize t[p]!.events[j]!.kind = e1 at *
                generalize t[p]!.events[j]!.peer = e2 at *
                generalize t[p]!.events[j]!.msg = e3 at *
                generalize t[p]!.events[j]!.time = e4 at *
                clear ef0 ef1 ef2 ef3 ef4 eg0 eg1 eg2 eg3 eg4 hA1 hA2 hz1 hz2
                go_wp2
                go_region_with (refine (HSE.out _ (HE7.out.dr)).mono ?_; rintro e w9 ⟨rfl, hX9⟩; have HX9 := Lib.hid hX9; clear hX9)
                all_goals (go_wp2; go_roundg (ne - (j + 1)))
                all_goals (first | omega | exact ⟨j + 1, by omega, by omega, by go_num, (show Ext _ _ from HEJ.out.dr.trans' HX9.out)⟩)
              · have hljz : ¬ (j : Int) < (ne : Int) := by omega
                obtain rfl : ne = j := by omega
                go_wp2
                go_roundg (n - (p + 1))
                case measure => omega
                case rel => exact ⟨p + 1, by omega, by omega, by go_num, (show Ext _ _ from HEK2.out.trans' HEV.out)⟩
    · have hltz : ¬ (p : Int) < (n : Int) := by omega
      obtain rfl : n = p := by omega
      go_wp2
      go_ret
      exact ⟨rfl, HEW.out⟩

end Go.Proofs.Ytfcpnggdpaeldaa
