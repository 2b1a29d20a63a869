import Derived.Test.YtijncboddmjdcaaGa
import Derived.Test.YtijncboddmjdcaaProg
import Derived.Test.YtijncboddmjdcaaGn
import Derived.BigQuiet
import Derived.Deep.QuietTactic
import Derived.Deep.LoopGhost
import Derived.Shelf.Abstract
/-
  Closing counts in the reference.
-/
namespace Go.Proofs.Ytijncboddmjdcaa
open Go.RowKit
set_option linter.unusedVariables false
attribute [local go_sem ↓] Go.wp_at_zero Go.wp_at_succ

set_option maxHeartbeats 8000000 in
set_option maxRecDepth 100000 in
theorem closeR_of (t : Tr) (hv : validT t = true) (hs : SmallTr t) (N : Nat) : ∀ (v vc : Value) (c d : List Int) (w : World), TrAt w v t → Ints w vc c → RangeC t c → FixN t (upS t) N c d →
    Calls Try.prog 40 #[.agg #[v], vc] w fun e w' => IntsOut w w' e d := by
  induction N using Nat.strongRecOn with
  | ind N ih =>
  intro v vc c d w h hc hr hfix
  have HIH := Lib.hid ih
  have HT := Lib.hid h
  have HCC := Lib.hid hc
  have HS := Lib.hid hs
  have HR0 := Lib.hid hr
  have HFX := Lib.hid hfix
  have HVV := Lib.hid hv
  obtain ⟨ii, hii, iz0, iz1, iz2⟩ := info_parts info_int3
  have HSE := Lib.hid (fun W (hW : Ext w W) u p i (hu : Ints W u c) (hx : Inn t (p, i)) => sentR_calls v u t c p i W (h.ext hW) hs hv hu hr.1 hx)
  have HFI := Lib.hid (fun W (hW : Ext w W) m => findR_calls v t 2 m W (h.ext hW) hs)
  obtain ⟨ta, tc, rfl, htc⟩ := h.sh
  obtain ⟨ca, cc, rfl, hlc, _⟩ := hc
  have hn1 := hs.1
  have hnp : 1 ≤ t.length := ((shapeB_parts2.1 (validT_parts2.1 hv).1)).1
  rw [hr.1] at hlc ⊢
  have HCL := Lib.hid hr.1
  generalize hln : t.length = n at *
  have HL := Lib.hid hln
  have HX0 := Lib.hid (heap_alloc_new w (.cells #[.slice ta n tc] 24))
  have HE1 := Lib.hid ((Ext.rf w).al (.cells #[.slice ta n tc] 24))
  have HNW := Lib.hid (fun (hm : 0 < n) => ints_news HCC.out (HE1.out.al (.cells #[] 3)) (by rw [HCL.out]; exact hm))
  clear h hs hln hr hv ih hfix
  go_enter Try.func40, Try.ntmps40
  generalize hw1 : w.alloc (.cells #[.slice ta n tc] 24) = w1 at *
  go_wp2_with ((at_builtin; go_loud (refine wpList_append_row rfl _ _ 25 rfl w1.heap.size 3 ii (.int .i64 0) 1 8 Try.underlying25 hii iz0 iz1 iz2 rfl (by decide) _ 0 [] rfl (row_empty w1 _ _) _ n cc (c.map (Value.int .i64)) rfl (by simp [HCL.out]) HNW.out (by simp [Value.oneCell']) (by unfold maxLen; omega) (by omega) (by simp) ?_; intro v5 w5 hown5 hgrow5 hblk5; rw [Nat.zero_add, List.nil_append] at hown5; obtain ⟨G, O9, cap, rfl, hG, hG2, _⟩ := hown5.shape (by omega); have HOWN := Lib.hid hown5; have HX5 := Lib.hid (((Ext.rf w1).al _).gr hgrow5 (fun q hq => ((row_empty w1 3 1).lt q hq).1)); have HG := Lib.hid (And.intro hG hG2); clear hown5 hgrow5 hblk5 hG hG2)))
  have HY0 := Lib.hid (HX5.out.hp HX0.out)
  have HE5 := Lib.hid (HE1.out.trans' HX5.out)
  have HCI := Lib.hid (show Ints w5 (.slice (some ⟨G, O9, none⟩) n cap) c from HOWN.out.ints)
  go_loopg [6] n (fun g s6 wr => ∃ p : Nat, p ≤ n ∧ n - p ≤ g ∧ s6 = .int .i64 p ∧ Aside (missTo t c p 0 = none) ∧ Aside (Ext w5 wr))
  case atStart => exact ⟨0, Nat.zero_le _, by omega, rfl, (show Aside _ from missTo_zero t c), Ext.rf _⟩
  case round =>
    obtain ⟨p, hp, hg, rfl, A, HEK⟩ := hrel
    have HEW := Lib.hid (HE5.out.trans' HEK.out)
    by_cases hlt : p < n
    · have hltz : (p : Int) < (n : Int) := by omega
      have hpz : (0 : Int) ≤ (p : Int) := by omega
      have hkr := HR0.out.at (p := p) (by rw [HL.out]; exact hlt)
      have HKN : Hid (∀ i : Nat, (i : Int) < c[p]! → Inn t (p, i)) := Lib.hid (fun i hi => ⟨by show p < t.length; rw [HL.out]; exact hlt, by show i < t[p]!.events.length; omega⟩)
      have hen := (HS.out.2 p (by rw [HL.out]; exact hlt)).2.1
      obtain ⟨k, hk⟩ : ∃ k : Nat, c[p]! = (k : Int) := ⟨c[p]!.toNat, by omega⟩
      have hcp := HOWN.out.cell p (by omega)
      rw [List.getElem?_map, List.getElem?_eq_getElem (by rw [HCL.out]; exact hlt), Option.map_some, ← getElem!_pos c p (by rw [HCL.out]; exact hlt), hk] at hcp
      rw [hk] at HKN
      have HK := Lib.hid hk
      have hkm : k ≤ 1000000 := by omega
      have HCP := Lib.hid hcp
      clear hcp hkr hk hen
      go_wp2
      obtain ⟨wo, rfl⟩ : ∃ x, x = wr := ⟨_, rfl⟩
      go_loopg [7] k (fun g2 s7 wr => ∃ i : Nat, i ≤ k ∧ k - i ≤ g2 ∧ s7 = .int .i64 i ∧ Aside (missTo t c p i = none) ∧ Aside (Ext wo wr))
      case atStart => exact ⟨0, Nat.zero_le _, by omega, rfl, A, Ext.rf _⟩
      case round =>
        obtain ⟨i, hi, hg2, rfl, A2, HEK2⟩ := hrel
        have HEW2 := Lib.hid (HEW.out.trans' HEK2.out)
        have HEK5 := Lib.hid (HEK.out.trans' HEK2.out)
        have hc1 := HEK5.out.cl HCP.out
        have HZ0 := Lib.hid (HEK5.out.hp HY0.out)
        have t0 := cellOf HZ0.out 0
        simp only [List.getElem?_toArray, List.getElem?_cons_zero] at t0
        by_cases hli : i < k
        · have hliz : (i : Int) < (k : Int) := by omega
          have hiz : (0 : Int) ≤ (i : Int) := by omega
          have HIP := Lib.hid (HKN.out i hliz)
          have HSW := Lib.hid (HSE.out wr HEW2.out _ p i (HCI.out.ext HEK5.out) HIP.out)
          obtain ⟨sb, hsb⟩ : ∃ b, sentB t c (p, i) = b := ⟨_, rfl⟩
          rw [hsb] at HSW
          have HSB2 := Lib.hid hsb
          clear hsb
          go_wp2_with fail
          refine HSW.out.mono ?_
          rintro e w7 ⟨rfl, hE7⟩
          cases sb with
          | true =>
            go_wp2
            go_roundg (k - (i + 1))
            case measure => omega
            case rel => exact ⟨i + 1, by omega, by omega, by go_num, (show Aside _ from missTo_succ A2.out HSB2.out), (HEK2.out.trans' hE7 : Ext wo w7)⟩
          | false =>
            have HMX := Lib.hid (missTo_hit A2.out HSB2.out (by rw [HCL.out]; exact hlt) (by rw [HK.out]; exact hliz))
            have HFY : Hid (∃ M, M < N ∧ FixN t (upS t) M (upS t c (p, i)) d) := Lib.hid (by
              have hf := HFX.out
              cases N with
              | zero => have := hf.1; rw [HMX.out] at this; cases this
              | succ M => obtain ⟨y, hy, hz⟩ := hf; rw [HMX.out] at hy; cases hy; exact ⟨M, Nat.lt_succ_self _, hz⟩)
            obtain ⟨hin, hk, s, hss, hlt0, hsi⟩ := miss_parts HMX.out
            have HSS := Lib.hid hss
            have HSI := Lib.hid hsi
            have HRU := Lib.hid (upS_range HR0.out HMX.out)
            clear hin hk hss hlt0 hsi
            have HEW7 := Lib.hid (HEW2.out.trans' hE7)
            have HEK7 := Lib.hid (HEK5.out.trans' hE7)
            clear hc1 t0 hE7
            obtain ⟨B, O, C, vv, ve, hve, hlC, hB, hn0, hv0, he0, hV, hE0⟩ := proc_at HT.out p (by rw [HL.out]; exact hlt)
            simp only [Value.slice.injEq] at hve
            obtain ⟨rfl, hzz, rfl⟩ := hve
            obtain ⟨EB, EO, EC, va, rfl, hlE, hEB, k0, k1, k2, k3, k4, ha⟩ := event_at hE0 i HIP.out.2
            have hen := (HS.out.2 p (by rw [HL.out]; exact hlt)).2.1
            have hie : i < t[p]!.events.length := HIP.out.2
            have HUP := Lib.hid (upS_eq (c := c) HSS.out)
            have HFS := HSS.out
            have HEVE : ev t (p, i) = t[p]!.events[i]! := rfl
            rw [HEVE] at HFS
            have he7 := HEW7.out.cl he0
            have m7 := HEW7.out.cl k2
            generalize t[p]!.events[i]!.msg = ms at *
            generalize t[p]!.events.length = ne at *
            have HFW := Lib.hid (fun W (hW : Ext w W) => HFI.out W hW ms)
            rw [HFS] at HFW
            simp only [eidA, eidB] at HFW
            have HFS := Lib.hid HFS
            obtain ⟨s1, s2⟩ := s
            simp only at HFW
            have HX7 := Lib.hid (HEK7.out.hp HY0.out)
            have t7 := cellOf HX7.out 0
            simp only [List.getElem?_toArray, List.getElem?_cons_zero] at t7
            have hiz2 : (i : Int) < (ne : Int) := by omega
            have l1 : w.heap.size < w7.heap.size := World.block_lt_of_cell? w7 _ t7
            have l2 : w.heap.size ≠ w7.heap.size := by omega
            have l3 : B < w7.heap.size := World.block_lt_of_cell? w7 _ he7
            have l4 : B ≠ w7.heap.size := by omega
            have l5 : EB < w7.heap.size := World.block_lt_of_cell? w7 _ m7
            have l6 : EB ≠ w7.heap.size := by omega
            clear hn0 hv0 hV hE0 hzz he0 k0 k1 k2 k3 k4 ha HEVE
            go_upto_region 9 with (fail)
            go_cut [8] (fun s8 wx => ∃ K : Nat, s8 = .pointer (some ⟨K, 0, none⟩) ∧ Aside (wx.heap[K]? = some (idO (s1 : Int) ((s2 : Int) + 1))) ∧ Aside (Ext w7 wx) ∧ Aside (w7.heap.size ≤ K))
            case first =>
              go_wp2
              go_region_with (refine (HFW.out _ (by first | exact HEW7.out | exact HEW7.out.dr | exact HEW7.out.al _ | exact (HEW7.out.al _).dr | exact (HEW7.out.dr.al _) | exact (HEW7.out.dr.al _).dr)).mono ?_; rintro e w8 ⟨rfl, hX8⟩; have HX8 := Lib.hid (show Ext w7 w8 from by first | exact hX8 | exact (Ext.rf w7).dr.trans' hX8 | exact ((Ext.rf w7).dr.al _).trans' hX8 | exact (((Ext.rf w7).dr.al _).dr).trans' hX8); first | (have hb8 : w8.heap[w7.heap.size]? = some (idO 0 0) := hX8.hp (heap_new_eq (w := w7.drew) (o := idO 0 0) (b := w7.heap.size) rfl); have z0 := cellOf hb8 0; have z1 := cellOf hb8 1; have f0 := freeOf hb8 0; have f1 := freeOf hb8 1; simp only [List.getElem?_toArray, List.getElem?_cons_zero, List.getElem?_cons_succ] at z0 z1; have HB8 := Lib.hid hb8; clear hb8) | skip; clear hX8)
              all_goals
                go_wp2
                go_meet
                first
                  | exact ⟨w8.heap.size, rfl, (show _ = _ from heap_alloc_new w8 _), (show Ext _ _ from HX8.out.al _), (show _ ≤ _ from HX8.out.sz)⟩
                  | exact ⟨w7.heap.size, rfl, (show _ = _ from id_set HB8.out _ _), (show Ext _ _ from id_ext HX8.out (Nat.le_refl _) _ _), (show _ ≤ _ from Nat.le_refl _)⟩
            case rest =>
              obtain ⟨K, rfl, HBX, HXW, HKK⟩ := hcut
              have HEW9 := Lib.hid (HEW7.out.trans' HXW.out)
              have HEK9 := Lib.hid (HEK7.out.trans' HXW.out)
              have HR9 := Lib.hid (HOWN.out.ext HEK9.out)
              have HX9 := Lib.hid (HEK9.out.hp HY0.out)
              clear t7 he7 m7 l1 l2 l3 l4 l5 l6
              have t9 := cellOf HX9.out 0
              have b0 := cellOf HBX.out 0
              have b1 := cellOf HBX.out 1
              simp only [List.getElem?_toArray, List.getElem?_cons_zero, List.getElem?_cons_succ] at t9 b0 b1
              have hs1 : s1 < n := by have := HSI.out.1; rw [HL.out] at this; exact this
              have hs1z : (0 : Int) ≤ (s1 : Int) := by omega
              have hs1i : (s1 : Int) < (n : Int) := by omega
              have hcell := HR9.out.cell s1 (by omega)
              have hfree := HR9.out.free (O9 + s1)
              obtain ⟨old, hold⟩ : ∃ u, (c.map (Value.int .i64))[s1]? = some u := ⟨_, List.getElem?_eq_getElem (by rw [List.length_map, HCL.out]; exact hs1)⟩
              rw [hold] at hcell
              have hGt : G ≠ w.heap.size := by
                have h1 := HG.out.1
                have h2 := (Array.getElem?_eq_some_iff.1 HX0.out).1
                omega
              clear hold
              obtain ⟨M, hMN, hfm⟩ := HFY.out
              have HX10 := Lib.hid (HEW9.out.st (p := ⟨G, O9 + s1, none⟩) (Nat.le_trans HE1.out.sz HG.out.1) (.int .i64 ((s2 : Int) + 1)))
              have HR10 := Lib.hid (HR9.out.set s1 (.int .i64 ((s2 : Int) + 1)) (by omega))
              rw [← List.map_set] at HR10
              have HCI10 := Lib.hid (show Ints (wc.setCell ⟨G, O9 + s1, none⟩ (.int .i64 ((s2 : Int) + 1))) (.slice (some ⟨G, O9, none⟩) n cap) (upS t c (p, i)) from by rw [HUP.out]; exact HR10.out.ints)
              have HCW := Lib.hid (HIH.out M hMN _ _ _ d _ (HT.out.ext HX10.out) HCI10.out HRU.out hfm)
              clear hMN hfm
              go_wp2_with fail
              refine HCW.out.mono ?_
              rintro e w11 ⟨u, rfl, hRu, hXu⟩
              have HRu := Lib.hid hRu
              have HXu := Lib.hid hXu
              clear hRu hXu t9 b0 b1 hcell hfree
              obtain ⟨ra, rc, rfl, _⟩ := HRu.out.any
              go_wp2
              go_ret
              exact ⟨_, rfl, HRu.out.mono HX10.out.sz, HX10.out.trans' HXu.out⟩
        · have hliz : ¬ (i : Int) < (k : Int) := by omega
          obtain rfl : k = i := by omega
          go_wp2
          go_roundg (n - (p + 1))
          case measure => omega
          case rel =>
            exact ⟨p + 1, by omega, by omega, by go_num, (show Aside _ from missTo_next A2.out (by rw [HK.out]; simp)), (show Ext _ _ from HEK.out.trans' HEK2.out)⟩
    · have hltz : ¬ (p : Int) < (n : Int) := by omega
      obtain rfl : n = p := by omega
      have HD : Hid (d = c) := Lib.hid (by
        have hm : missE t c = none := by unfold missE; rw [HCL.out]; exact A.out
        have hf := HFX.out
        cases N with
        | zero => exact hf.2
        | succ M => obtain ⟨y, hy, _⟩ := hf; rw [hm] at hy; cases hy)
      go_wp2
      go_ret
      refine ⟨_, rfl, ?_, HEW.out⟩
      rw [HD.out, HCL.out]
      exact (HOWN.out.ext HEK.out).mono HE1.out.sz

end Go.Proofs.Ytijncboddmjdcaa
