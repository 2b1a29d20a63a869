import Derived.Test.YtfcpnggdpaeldaaGreatJa
import Derived.Test.YtfcpnggdpaeldaaGreatProg
import Derived.Test.YtfcpnggdpaeldaaGreatHc
import Derived.Test.YtfcpnggdpaeldaaGreatGf
import Derived.Test.YtfcpnggdpaeldaaGreatGh
import Derived.BigQuiet
import Derived.Deep.QuietTactic
import Derived.Deep.LoopGhost
import Derived.Shelf.Abstract
/-
  Termination in the reference: Count and Closed.
-/
namespace Go.Proofs.YtfcpnggdpaeldaaGreat
open Go.RowKit
set_option linter.unusedVariables false
attribute [local go_sem ↓] Go.wp_at_zero Go.wp_at_succ

set_option maxHeartbeats 4000000 in
set_option maxRecDepth 100000 in
theorem countT_calls (v : Value) (t : Tr) (w : World) (h : TrAt w v t) (hv : validT t = true) :
    Calls Tryz.prog 91 #[.agg #[v]] w fun e w' => e = .returned (.int .i64 ((sumTo (fun p => t[p]!.events.length) t.length : Nat) : Int)) ∧ Ext w w' := by
  have HT := Lib.hid h
  have hs := valid_small hv
  have HVC := Lib.hid (fun W (hW : Ext w W) => validR_calls v t W (h.ext hW) hs.loose)
  rw [hv] at HVC
  have hn8 := ((shapeB_parts2.1 (validT_parts2.1 hv).1).2.1)
  have HE64 : Hid (∀ p, p < t.length → t[p]!.events.length ≤ 64) := Lib.hid (fun p hp => (headB_parts.1 ((shapeB_parts2.1 (validT_parts2.1 hv).1).2.2.1 p hp)).2.2.2.2)
  have HSU : Hid (∀ p, sumTo (fun p => t[p]!.events.length) (p + 1) = sumTo (fun p => t[p]!.events.length) p + t[p]!.events.length) := Lib.hid (fun p => rfl)
  have HS0 : Hid (sumTo (fun p => t[p]!.events.length) 0 = 0) := Lib.hid rfl
  generalize (sumTo fun p => t[p]!.events.length) = f at *
  obtain ⟨ta, tc, rfl, htc⟩ := h.sh
  generalize hln : t.length = n at *
  have HL := Lib.hid hln
  have HY1 := Lib.hid (heap_alloc_new w (.cells #[.slice ta n tc] 24))
  have HE1 := Lib.hid ((Ext.rf w).al (.cells #[.slice ta n tc] 24))
  clear h hs hln hv
  go_enter Tryz.func91, Tryz.ntmps91
  go_wp2_with fail
  refine (HVC.out _ HE1.out).mono ?_
  rintro e w2 ⟨rfl, hX⟩
  have HE2 := Lib.hid (HE1.out.trans' hX)
  have HY2 := Lib.hid (hX.hp HY1.out)
  have t2 := cellOf HY2.out 0
  simp only [List.getElem?_toArray, List.getElem?_cons_zero] at t2
  clear hX
  go_wp2
  clear t2
  go_loopg [3, 4] n (fun g s3 s4 wr => ∃ p : Nat, p ≤ n ∧ n - p ≤ g ∧ s4 = .int .i64 p ∧ (∃ q : Nat, s3 = .int .i64 q ∧ q ≤ 64 * p ∧ Aside (f p = q)) ∧ wr = w2)
  case atStart => exact ⟨0, Nat.zero_le _, by omega, rfl, ⟨0, rfl, by omega, (show Aside _ from HS0.out)⟩, rfl⟩
  case round =>
    obtain ⟨p, hp, hg, rfl, ⟨q, rfl, hq, A⟩, rfl⟩ := hrel
    have t0 := cellOf HY2.out 0
    simp only [List.getElem?_toArray, List.getElem?_cons_zero] at t0
    by_cases hlt : p < n
    · have hltz : (p : Int) < (n : Int) := by omega
      have hpz : (0 : Int) ≤ (p : Int) := by omega
      obtain ⟨B, O, C, vv, ve, hve, hlC, hB, hn0, hv0, he0, hV, hE0⟩ := proc_at HT.out p (by rw [HL.out]; exact hlt)
      simp only [Value.slice.injEq] at hve
      obtain ⟨rfl, hzz, rfl⟩ := hve
      obtain ⟨ea, ec, rfl, hec⟩ := hE0.sh
      have he1 := HE2.out.cl he0
      have hen := HE64.out p hlt
      have HSP := Lib.hid (HSU.out p)
      generalize t[p]!.events.length = ne at *
      clear hn0 hv0 hV hE0 hzz he0
      go_wp2
      go_roundg (n - (p + 1))
      case measure => omega
      case rel => exact ⟨p + 1, by omega, by omega, by go_num, ⟨q + ne, by go_num, by omega, (show Aside _ from HSP.out.trans (congrArg (· + ne) A.out))⟩, rfl⟩
    · have hltz : ¬ (p : Int) < (n : Int) := by omega
      obtain rfl : n = p := by omega
      have HA := Lib.hid A.out
      go_wp2
      go_ret
      exact ⟨by rw [HA.out]; rfl, HE2.out⟩

theorem up_len {t : Tr} {k c : List Int} (h : Up t k c) : c.length = t.length := h.rng.1

set_option maxHeartbeats 8000000 in
set_option maxRecDepth 100000 in
theorem closed51_calls (v vc : Value) (t : Tr) (k : List Int) (w : World) (h : TrAt w v t) (hv : validT t = true) (hc : Ints w vc k) (hr : RangeC t k) :
    Calls Tryz.prog 68 #[.agg #[v], vc] w fun e w' => IntsOut w w' e (closeC t k) := by
  have HT := Lib.hid h
  have HCC := Lib.hid hc
  have hs := valid_small hv
  have HS := Lib.hid hs
  obtain ⟨ii, hii, iz0, iz1, iz2⟩ := info_parts info_cints
  have HCN := Lib.hid (fun W (hW : Ext w W) => countT_calls v t W (h.ext hW) hv)
  have HFI := Lib.hid (fun W (hW : Ext w W) m => findR_calls v t 2 m W (h.ext hW) hs)
  have HPB := Lib.hid (validT_parts.1 hv).2.1
  have HCE := Lib.hid (fun c r (h : OInv t k c r) (hu : Up t k c) hn => closed_eq hr h hu hn)
  have HU0 := Lib.hid (Up.start hr)
  have HO0 := Lib.hid (OInv.start t k)
  have HE64 : Hid (∀ p, p < t.length → t[p]!.events.length ≤ 64) := Lib.hid (fun p hp => (headB_parts.1 ((shapeB_parts2.1 (validT_parts2.1 hv).1).2.2.1 p hp)).2.2.2.2)
  have hN : sumTo (fun p => t[p]!.events.length) t.length ≤ t.length * 64 := sumTo_bound _ HE64.out
  have hn8 := ((shapeB_parts2.1 (validT_parts2.1 hv).1).2.1)
  have hn0 := ((shapeB_parts2.1 (validT_parts2.1 hv).1).1)
  obtain ⟨ta, tc, rfl, htc⟩ := h.sh
  obtain ⟨ca, cc, rfl, hlc, _⟩ := hc
  obtain ⟨N, hNN⟩ : ∃ N, sumTo (fun p => t[p]!.events.length) t.length = N := ⟨_, rfl⟩
  rw [hNN] at HCN HCE hN
  rw [hr.1] at hlc ⊢
  have HCL := Lib.hid hr.1
  have HUL := Lib.hid (fun c (h : Up t k c) => up_len h)
  generalize hln : t.length = n at *
  have HL := Lib.hid hln
  have hN5 : N ≤ 1000000 := by omega
  have HX0 := Lib.hid (heap_alloc_new w (.cells #[.slice ta n tc] 24))
  have HE1 := Lib.hid ((Ext.rf w).al (.cells #[.slice ta n tc] 24))
  have HNW := Lib.hid (fun (hm : 0 < n) => ints_news HCC.out (HE1.out.al (.cells #[] 3)) (by rw [HCL.out]; exact hm))
  clear h hs hln hr hv hNN hN
  go_enter Tryz.func68, Tryz.ntmps68
  generalize hw1 : w.alloc (.cells #[.slice ta n tc] 24) = w1 at *
  go_wp2_with ((at_builtin; go_loud (refine wpList_append_row rfl _ _ 25 rfl w1.heap.size 3 ii (.int .i64 0) 1 8 Tryz.underlying25 hii iz0 iz1 iz2 rfl (by decide) _ 0 [] rfl (row_empty w1 _ _) _ n cc (k.map (Value.int .i64)) rfl (by simp [HCL.out]) HNW.out (by simp [Value.oneCell']) (by unfold maxLen; omega) (by omega) (by simp) ?_; intro v5 w5 hown5 hgrow5 hblk5; rw [Nat.zero_add, List.nil_append] at hown5; obtain ⟨G, O9, cap, rfl, hG, hG2, _⟩ := hown5.shape (by omega); have HOWN := Lib.hid hown5; have HX5 := Lib.hid (((Ext.rf w1).al _).gr hgrow5 (fun q hq => ((row_empty w1 3 1).lt q hq).1)); have HG := Lib.hid hG; clear hown5 hgrow5 hblk5 hG hG2)))
  clear hw1
  go_loopg [6] (N + 1) (fun g s6 wr => ∃ r : Nat, r ≤ N + 1 ∧ N + 1 - r ≤ g ∧ s6 = .int .i64 r ∧ ∃ c, Aside (Up t k c) ∧ Aside (OInv t k c r) ∧ Aside (Row wr w1.heap.size 3 1 (.slice (some ⟨G, O9, none⟩) n cap) n (c.map (Value.int .i64))) ∧ Aside (Ext w1 wr))
  case atStart => exact ⟨0, Nat.zero_le _, by omega, rfl, k, HU0.out, HO0.out, HOWN.out, HX5.out⟩
  case round =>
    obtain ⟨r, hr, hg, rfl, c0, HU, HO, HROW, HEK⟩ := hrel
    have HEW := Lib.hid (HE1.out.trans' HEK.out)
    have HY0 := Lib.hid (HEK.out.hp HX0.out)
    have t0 := cellOf HY0.out 0
    simp only [List.getElem?_toArray, List.getElem?_cons_zero] at t0
    go_wp2_with fail
    refine (HCN.out _ HEW.out).mono ?_
    rintro e w6 ⟨rfl, hX6⟩
    have HEK6 := Lib.hid (HEK.out.trans' hX6)
    have HEW6 := Lib.hid (HEW.out.trans' hX6)
    have HROW6 := Lib.hid (HROW.out.ext hX6)
    clear hX6 t0
    by_cases hlt : r ≤ N
    case neg =>
      have d0 : ¬ (r : Int) ≤ (N : Int) := by omega
      have d1 : decide ((r : Int) ≤ (N : Int)) = false := decide_eq_false d0
      obtain rfl : r = N + 1 := by omega
      have HFE := Lib.hid (HCE.out c0 _ HO.out HU.out (Nat.lt_succ_self _))
      have HUC := Lib.hid (HUL.out c0 HU.out)
      clear hlt
      go_wp2
      go_ret
      refine ⟨_, rfl, ?_, HEW6.out⟩
      rw [← HFE.out, HUC.out]
      exact HROW6.out.mono HE1.out.sz
    case pos =>
      have d0 : (r : Int) ≤ (N : Int) := by omega
      have d1 : decide ((r : Int) ≤ (N : Int)) = true := decide_eq_true d0
      have hr5 : r ≤ 1000000 := by omega
      go_wp2
      clear d1
      go_loopg [7] n (fun g2 s7 wx => ∃ p : Nat, p ≤ n ∧ n - p ≤ g2 ∧ s7 = .int .i64 p ∧ ∃ c, Aside (Up t k c) ∧ Aside (RInv t c0 c p 0) ∧ Aside (Row wx w1.heap.size 3 1 (.slice (some ⟨G, O9, none⟩) n cap) n (c.map (Value.int .i64))) ∧ Aside (Ext w1 wx))
      case atStart => exact ⟨0, Nat.zero_le _, by omega, rfl, c0, HU, (show RInv _ _ _ _ _ from RInv.start t c0), HROW6.out, HEK6.out⟩
      case round =>
        obtain ⟨p, hp, hg2, rfl, c1, HU1, HI1, HROW1, HEK1⟩ := hrel
        have HEW1 := Lib.hid (HE1.out.trans' HEK1.out)
        by_cases hltp : p < n
        case neg =>
          have hltz : ¬ (p : Int) < (n : Int) := by omega
          obtain rfl : n = p := by omega
          have HOR := Lib.hid (HO.out.round (by rw [HUL.out c1 HU1.out]; exact HI1.out))
          go_wp2
          go_roundg (N + 1 - (r + 1))
          case measure => omega
          case rel => exact ⟨r + 1, by omega, by omega, by go_num, c1, HU1, (show OInv _ _ _ _ from HOR.out), HROW1, HEK1⟩
        case pos =>
          have hltz : (p : Int) < (n : Int) := by omega
          have hpz : (0 : Int) ≤ (p : Int) := by omega
          have HQ := Lib.hid (show p < t.length from by rw [HL.out]; exact hltp)
          obtain ⟨B, O, C, vv, ve, hve, hlC, hB, hn0', hv0, he0, hV, hE0⟩ := proc_at HT.out p HQ.out
          simp only [Value.slice.injEq] at hve
          obtain ⟨rfl, hzz, rfl⟩ := hve
          have HEV := Lib.hid hE0
          obtain ⟨ea, ec, rfl, hec⟩ := hE0.sh
          have HE0 := Lib.hid he0
          have hen := HE64.out p hltp
          generalize hne : t[p]!.events.length = ne at *
          have HNE := Lib.hid hne
          clear hn0' hv0 hV hE0 hzz hne he0
          go_wp2
          go_loopg [8] ne (fun g3 s8 wy => ∃ i : Nat, i ≤ ne ∧ ne - i ≤ g3 ∧ s8 = .int .i64 i ∧ ∃ c, Aside ((i : Int) ≤ c[p]!) ∧ Aside (Up t k c) ∧ Aside (RInv t c0 c p i) ∧ Aside (Row wy w1.heap.size 3 1 (.slice (some ⟨G, O9, none⟩) n cap) n (c.map (Value.int .i64))) ∧ Aside (Ext w1 wy))
          case atStart => exact ⟨0, Nat.zero_le _, by omega, rfl, c1, (show _ ≤ _ from by have := (HU1.out.rng.at HQ.out).1; omega), HU1, HI1, HROW1, HEK1⟩
          case round =>
            obtain ⟨i, hi, hg3, rfl, c, HIC, HU2, HI2, HROW2, HEK2⟩ := hrel
            have HEW2 := Lib.hid (HE1.out.trans' HEK2.out)
            have HCLN := Lib.hid (HUL.out c HU2.out)
            have hcr := HU2.out.rng.at HQ.out
            rw [HNE.out] at hcr
            have hic := HIC.out
            have hcp := HROW2.out.cell p (by omega)
            rw [List.getElem?_map, List.getElem?_eq_getElem (by rw [HCLN.out]; exact hltp), Option.map_some, ← getElem!_pos c p (by rw [HCLN.out]; exact hltp)] at hcp
            generalize hcq : c[p]! = cq at *
            have HCQ := Lib.hid hcq
            clear hcq
            by_cases hli : (i : Int) < cq
            case neg =>
              have HNX := Lib.hid (HI2.out.next (show i = c[p]!.toNat from by rw [HCQ.out]; omega))
              go_wp2
              go_roundg (n - (p + 1))
              case measure => omega
              case rel => exact ⟨p + 1, by omega, by omega, by go_num, c, HU2, (show RInv _ _ _ _ _ from HNX.out), HROW2, HEK2⟩
            case pos =>
              have hine : (i : Int) < (ne : Int) := by omega
              have hiz : (0 : Int) ≤ (i : Int) := by omega
              have HINN : Hid (Inn t (p, i)) := Lib.hid ⟨HQ.out, by show i < t[p]!.events.length; rw [HNE.out]; omega⟩
              have HINC : Hid (InC c (p, i)) := Lib.hid ⟨by show p < c.length; rw [HCLN.out]; exact hltp, by show (i : Int) < c[p]!; rw [HCQ.out]; exact hli⟩
              obtain ⟨EB, EO, EC, va, hee, hlE, hEB, k0, k1, k2, k3, k4, hA⟩ := event_at HEV.out i (by rw [HNE.out]; omega)
              simp only [Value.slice.injEq] at hee
              obtain ⟨rfl, hzz, rfl⟩ := hee
              obtain ⟨ua, uc, rfl, huc⟩ := hA.sh
              have m0 := HEW2.out.cl k0
              have m1 := HEW2.out.cl k1
              have m2 := HEW2.out.cl k2
              have m3 := HEW2.out.cl k3
              have m4 := HEW2.out.cl k4
              have e1 := HEW2.out.cl HE0.out
              have HY2 := Lib.hid (HEK2.out.hp HX0.out)
              have t0 := cellOf HY2.out 0
              simp only [List.getElem?_toArray, List.getElem?_cons_zero] at t0
              have HEVI : Hid (ev t (p, i) = t[p]!.events[i]!) := Lib.hid rfl
              generalize hev : t[p]!.events[i]! = y at *
              generalize y.asg.length = na at *
              have hw0 : w.heap.size < wr.heap.size := (Array.getElem?_eq_some_iff.1 HY2.out).1
              have hw1 : w.heap.size ≠ wr.heap.size := by omega
              have HEA := Lib.hid ((Ext.rf wr).al (evO y.kind y.peer y.msg y.time (.slice ua na uc)))
              clear k0 k1 k2 k3 k4 hA hzz hev
              by_cases hk3 : y.kind = 3
              case neg =>
                have d1 : (y.kind == 3) = false := by simp [hk3]
                have HNX := Lib.hid (HI2.out.keep (sentB_other (t := t) (c := c) (x := (p, i)) (by rw [HEVI.out]; exact hk3)))
                have HIC2 := Lib.hid (show ((i + 1 : Nat) : Int) ≤ c[p]! from by rw [HCQ.out]; omega)
                clear hk3
                go_wp2
                go_roundg (ne - (i + 1))
                case measure => omega
                case rel => exact ⟨i + 1, by omega, by omega, by go_num, c, HIC2.out, HU2, (show RInv _ _ _ _ _ from HNX.out), (show Row _ _ _ _ _ _ _ from HROW2.out.ext HEA.out), (show Ext _ _ from HEK2.out.trans' HEA.out)⟩
              case pos =>
                have d1 : (y.kind == 3) = true := by simp [hk3]
                have HK3 := Lib.hid (show (ev t (p, i)).kind = 3 from by rw [HEVI.out]; exact hk3)
                have HMS : Hid ((ev t (p, i)).msg = y.msg) := Lib.hid (by rw [HEVI.out])
                obtain ⟨sd, hsd⟩ := send_some HPB.out (x := (p, i)) HINN.out HK3.out
                have hin := (findE_some hsd).1
                have HU3 := Lib.hid (HU2.out.step HINC.out HK3.out hsd)
                have HI3 := Lib.hid (HI2.out.step HU2.out.rng HINC.out HK3.out hsd)
                rw [HMS.out] at hsd
                have HFC := Lib.hid (HFI.out _ (HEW2.out.trans' HEA.out) y.msg)
                rw [hsd] at HFC
                simp only [eidA, eidB] at HFC
                obtain ⟨s1, s2⟩ := sd
                simp only at HFC hin
                have hs1 : s1 < n := by have := hin.1; rw [HL.out] at this; exact this
                have hs2 : s2 ≤ 64 := by have h1 := HE64.out s1 hs1; have h2 := hin.2; simp only at h2; omega
                have hs1z : (0 : Int) ≤ (s1 : Int) := by omega
                have hs1n : (s1 : Int) < (n : Int) := by omega
                have HCS := Lib.hid (show c[s1]! = c[s1]! from rfl)
                have HSL := Lib.hid (show s1 < c.length from by rw [HCLN.out]; exact hs1)
                have HIC3 : Hid (((i + 1 : Nat) : Int) ≤ (stepC c (s1, s2))[p]!) := Lib.hid (by
                  by_cases e : p = s1
                  · subst e; rw [stepC_at HSL.out, HCQ.out]; omega
                  · rw [stepC_ne e, HCQ.out]; omega)
                have HST : Hid (stepC c (s1, s2) = c.set s1 (max c[s1]! ((s2 : Int) + 1))) := Lib.hid rfl
                clear hin hsd hk3
                go_wp2_with fail
                refine HFC.out.mono ?_
                rintro e w7 ⟨rfl, hX7⟩
                have HX7 := Lib.hid (HEA.out.trans' hX7)
                have HB8 := Lib.hid (heap_alloc_new w7 (idO (s1 : Int) ((s2 : Int) + 1)))
                have HX8 := Lib.hid (HX7.out.al (idO (s1 : Int) ((s2 : Int) + 1)))
                clear hX7 t0 e1 m0 m1 m2 m3 m4 hcp hw0 hw1
                go_wp2
                generalize hw8 : w7.alloc (idO (s1 : Int) ((s2 : Int) + 1)) = w8 at *
                have HET := Lib.hid (show Ext w8 w8.drew from (Ext.rf w8).dr)
                have hb8 := HET.out.hp HB8.out
                have z0 := cellOf hb8 0
                have z1 := cellOf hb8 1
                simp only [List.getElem?_toArray, List.getElem?_cons_zero, List.getElem?_cons_succ] at z0 z1
                have HR8 := Lib.hid ((HROW2.out.ext HX8.out).ext HET.out)
                have z2 := HR8.out.cell s1 (by omega)
                rw [List.getElem?_map, List.getElem?_eq_getElem HSL.out, Option.map_some, ← getElem!_pos c s1 HSL.out] at z2
                have z3 := HR8.out.free (O9 + s1)
                have HX9 := Lib.hid ((HEK2.out.trans' HX8.out).trans' HET.out)
                generalize c[s1]! = cs at *
                clear hw8 hb8
                by_cases hm : cs < (s2 : Int) + 1
                · have HMX : Hid (max cs ((s2 : Int) + 1) = (s2 : Int) + 1) := Lib.hid (by omega)
                  refine wp_region_tail (fun w' => w'.cell? ⟨w7.heap.size, 0, none⟩ = some (.int .i64 (s1 : Int)) ∧ w'.cell? ⟨w7.heap.size, 1, none⟩ = some (.int .i64 ((s2 : Int) + 1)) ∧ w'.cell? ⟨G, O9 + s1, none⟩ = some (.int .i64 cs)) 12 (by kernel_rfl) ⟨z0, z1, z2⟩ (fun hHeld => ?_)
                  generalize w8.drew = wT at *
                  refine wpAnyT_take (i := 0) (d := some 50) (v := ?_) rfl rfl (by kernel_rfl) (by kernel_rfl) (by kernel_rfl) (by kernel_rfl) (fun _ _ _ h => h) (Or.inl ⟨by rfl, ?_⟩) (by assumption) ?_
                  rotate_left
                  · (intro w hSw; (try dsimp only at hSw); go_simp; try (with_reducible rfl))
                  try simp only [Act.put]
                  try simp only [List.setIfInBounds_toArray]
                  try simp only [List.set_cons_zero, List.set_cons_succ]
                  refine wpAnyT_take (i := 1) (d := some 51) (v := ?_) rfl rfl (by kernel_rfl) (by kernel_rfl) (by kernel_rfl) (by kernel_rfl) (fun _ _ _ h => h) (Or.inl ⟨by rfl, ?_⟩) (by assumption) ?_
                  rotate_left
                  · (intro w hSw; (try dsimp only at hSw); go_simp; try (with_reducible rfl))
                  try simp only [Act.put]
                  try simp only [List.setIfInBounds_toArray]
                  try simp only [List.set_cons_zero, List.set_cons_succ]
                  refine wpAnyT_take (i := 2) (d := some 52) (v := ?_) rfl rfl (by kernel_rfl) (by kernel_rfl) (by kernel_rfl) (by kernel_rfl) (fun _ _ _ h => h) (Or.inl ⟨by rfl, ?_⟩) (by assumption) ?_
                  rotate_left
                  · (intro w hSw; (try dsimp only at hSw); go_simp; try (with_reducible rfl))
                  try simp only [Act.put]
                  try simp only [List.setIfInBounds_toArray]
                  try simp only [List.set_cons_zero, List.set_cons_succ]
                  refine wpAnyT_take (i := 3) (d := some 53) (v := ?_) rfl rfl (by kernel_rfl) (by kernel_rfl) (by kernel_rfl) (by kernel_rfl) (fun _ _ _ h => h) (Or.inl ⟨by rfl, ?_⟩) (by assumption) ?_
                  rotate_left
                  · (intro w hSw; (try dsimp only at hSw); go_simp; try (with_reducible rfl))
                  try simp only [Act.put]
                  try simp only [List.setIfInBounds_toArray]
                  try simp only [List.set_cons_zero, List.set_cons_succ]
                  refine wpAnyT_take (i := 4) (d := some 54) (v := ?_) rfl rfl (by kernel_rfl) (by kernel_rfl) (by kernel_rfl) (by kernel_rfl) (fun _ _ _ h => h) (Or.inl ⟨by rfl, ?_⟩) (by assumption) ?_
                  rotate_left
                  · (intro w hSw; (try dsimp only at hSw); go_simp; try (with_reducible rfl))
                  try simp only [Act.put]
                  try simp only [List.setIfInBounds_toArray]
                  try simp only [List.set_cons_zero, List.set_cons_succ]
                  refine wpAnyT_take (i := 5) (d := some 55) (v := ?_) rfl rfl (by kernel_rfl) (by kernel_rfl) (by kernel_rfl) (by kernel_rfl) (fun _ _ _ h => h) (Or.inl ⟨by rfl, ?_⟩) (by assumption) ?_
                  rotate_left
                  · (intro w hSw; (try dsimp only at hSw); go_simp; try (with_reducible rfl))
                  try simp only [Act.put]
                  try simp only [List.setIfInBounds_toArray]
                  try simp only [List.set_cons_zero, List.set_cons_succ]
                  refine wpAnyT_take (i := 6) (d := some 56) (v := ?_) rfl rfl (by kernel_rfl) (by kernel_rfl) (by kernel_rfl) (by kernel_rfl) (fun _ _ _ h => h) (Or.inl ⟨by rfl, ?_⟩) (by assumption) ?_
                  rotate_left
                  · (intro w hSw; (try dsimp only at hSw); go_simp; try (with_reducible rfl))
                  try simp only [Act.put]
                  try simp only [List.setIfInBounds_toArray]
                  try simp only [List.set_cons_zero, List.set_cons_succ]
                  refine wpAnyT_take (i := 7) (d := some 57) (v := ?_) rfl rfl (by kernel_rfl) (by kernel_rfl) (by kernel_rfl) (by kernel_rfl) (fun _ _ _ h => h) (Or.inl ⟨by rfl, ?_⟩) (by assumption) ?_
                  rotate_left
                  · (intro w hSw; (try dsimp only at hSw); go_simp; try (with_reducible rfl))
                  try simp only [Act.put]
                  try simp only [List.setIfInBounds_toArray]
                  try simp only [List.set_cons_zero, List.set_cons_succ]
                  refine wpAnyT_take (i := 8) (d := some 58) (v := ?_) rfl rfl (by kernel_rfl) (by kernel_rfl) (by kernel_rfl) (by kernel_rfl) (fun _ _ _ h => h) (Or.inl ⟨by rfl, ?_⟩) (by assumption) ?_
                  rotate_left
                  · (intro w hSw; (try dsimp only at hSw); go_simp; try (with_reducible rfl))
                  try simp only [Act.put]
                  try simp only [List.setIfInBounds_toArray]
                  try simp only [List.set_cons_zero, List.set_cons_succ]
                  refine wpAnyT_take (i := 9) (d := some 59) (v := ?_) rfl rfl (by kernel_rfl) (by kernel_rfl) (by kernel_rfl) (by kernel_rfl) (fun _ _ _ h => h) (Or.inl ⟨by rfl, ?_⟩) (by assumption) ?_
                  rotate_left
                  · (intro w hSw; (try dsimp only at hSw); go_simp; try (with_reducible rfl))
                  try simp only [Act.put]
                  try simp only [List.setIfInBounds_toArray]
                  try simp only [List.set_cons_zero, List.set_cons_succ]
                  refine wpAnyT_take (i := 10) (d := some 60) (v := ?_) rfl rfl (by kernel_rfl) (by kernel_rfl) (by kernel_rfl) (by kernel_rfl) (fun _ _ _ h => h) (Or.inl ⟨by rfl, ?_⟩) (by assumption) ?_
                  rotate_left
                  · (intro w hSw; (try dsimp only at hSw); go_simp; try (with_reducible rfl))
                  try simp only [Act.put]
                  try simp only [List.setIfInBounds_toArray]
                  try simp only [List.set_cons_zero, List.set_cons_succ]
                  refine wpAnyT_take (i := 11) (d := some 61) (v := ?_) rfl rfl (by kernel_rfl) (by kernel_rfl) (by kernel_rfl) (by kernel_rfl) (fun _ _ _ h => h) (Or.inl ⟨by rfl, ?_⟩) (by assumption) ?_
                  rotate_left
                  · (intro w hSw; (try dsimp only at hSw); go_simp; try (with_reducible rfl))
                  try simp only [Act.put]
                  try simp only [List.setIfInBounds_toArray]
                  try simp only [List.set_cons_zero, List.set_cons_succ]
                  refine wpAnyT_last (by kernel_rfl) rfl (by kernel_rfl) (fun K hK => ?_)
                  go_simp
                  refine hK.out _ _ ?_
                  go_wp2_with fail
                  go_roundg (ne - (i + 1))
                  case measure => omega
                  case rel =>
                    refine ⟨i + 1, by omega, by omega, by go_num, stepC c (s1, s2), HIC3.out, HU3.out, HI3.out, ?_, ?_⟩
                    · show Row _ _ _ _ _ _ _
                      rw [HST.out, List.map_set, HMX.out]
                      exact HR8.out.set s1 (.int .i64 ((s2 : Int) + 1)) (by omega)
                    · exact (show Ext _ _ from HX9.out.st HG.out _)
                · have HMX : Hid (max cs ((s2 : Int) + 1) = cs) := Lib.hid (by omega)
                  refine wp_region_tail (fun w' => w'.cell? ⟨w7.heap.size, 0, none⟩ = some (.int .i64 (s1 : Int)) ∧ w'.cell? ⟨w7.heap.size, 1, none⟩ = some (.int .i64 ((s2 : Int) + 1)) ∧ w'.cell? ⟨G, O9 + s1, none⟩ = some (.int .i64 cs)) 12 (by kernel_rfl) ⟨z0, z1, z2⟩ (fun hHeld => ?_)
                  generalize w8.drew = wT at *
                  refine wpAnyT_take (i := 0) (d := some 50) (v := ?_) rfl rfl (by kernel_rfl) (by kernel_rfl) (by kernel_rfl) (by kernel_rfl) (fun _ _ _ h => h) (Or.inl ⟨by rfl, ?_⟩) (by assumption) ?_
                  rotate_left
                  · (intro w hSw; (try dsimp only at hSw); go_simp; try (with_reducible rfl))
                  try simp only [Act.put]
                  try simp only [List.setIfInBounds_toArray]
                  try simp only [List.set_cons_zero, List.set_cons_succ]
                  refine wpAnyT_take (i := 1) (d := some 51) (v := ?_) rfl rfl (by kernel_rfl) (by kernel_rfl) (by kernel_rfl) (by kernel_rfl) (fun _ _ _ h => h) (Or.inl ⟨by rfl, ?_⟩) (by assumption) ?_
                  rotate_left
                  · (intro w hSw; (try dsimp only at hSw); go_simp; try (with_reducible rfl))
                  try simp only [Act.put]
                  try simp only [List.setIfInBounds_toArray]
                  try simp only [List.set_cons_zero, List.set_cons_succ]
                  refine wpAnyT_take (i := 2) (d := some 52) (v := ?_) rfl rfl (by kernel_rfl) (by kernel_rfl) (by kernel_rfl) (by kernel_rfl) (fun _ _ _ h => h) (Or.inl ⟨by rfl, ?_⟩) (by assumption) ?_
                  rotate_left
                  · (intro w hSw; (try dsimp only at hSw); go_simp; try (with_reducible rfl))
                  try simp only [Act.put]
                  try simp only [List.setIfInBounds_toArray]
                  try simp only [List.set_cons_zero, List.set_cons_succ]
                  refine wpAnyT_take (i := 3) (d := some 53) (v := ?_) rfl rfl (by kernel_rfl) (by kernel_rfl) (by kernel_rfl) (by kernel_rfl) (fun _ _ _ h => h) (Or.inl ⟨by rfl, ?_⟩) (by assumption) ?_
                  rotate_left
                  · (intro w hSw; (try dsimp only at hSw); go_simp; try (with_reducible rfl))
                  try simp only [Act.put]
                  try simp only [List.setIfInBounds_toArray]
                  try simp only [List.set_cons_zero, List.set_cons_succ]
                  refine wpAnyT_take (i := 4) (d := some 54) (v := ?_) rfl rfl (by kernel_rfl) (by kernel_rfl) (by kernel_rfl) (by kernel_rfl) (fun _ _ _ h => h) (Or.inl ⟨by rfl, ?_⟩) (by assumption) ?_
                  rotate_left
                  · (intro w hSw; (try dsimp only at hSw); go_simp; try (with_reducible rfl))
                  try simp only [Act.put]
                  try simp only [List.setIfInBounds_toArray]
                  try simp only [List.set_cons_zero, List.set_cons_succ]
                  refine wpAnyT_take (i := 5) (d := some 55) (v := ?_) rfl rfl (by kernel_rfl) (by kernel_rfl) (by kernel_rfl) (by kernel_rfl) (fun _ _ _ h => h) (Or.inl ⟨by rfl, ?_⟩) (by assumption) ?_
                  rotate_left
                  · (intro w hSw; (try dsimp only at hSw); go_simp; try (with_reducible rfl))
                  try simp only [Act.put]
                  try simp only [List.setIfInBounds_toArray]
                  try simp only [List.set_cons_zero, List.set_cons_succ]
                  refine wpAnyT_take (i := 6) (d := some 56) (v := ?_) rfl rfl (by kernel_rfl) (by kernel_rfl) (by kernel_rfl) (by kernel_rfl) (fun _ _ _ h => h) (Or.inl ⟨by rfl, ?_⟩) (by assumption) ?_
                  rotate_left
                  · (intro w hSw; (try dsimp only at hSw); go_simp; try (with_reducible rfl))
                  try simp only [Act.put]
                  try simp only [List.setIfInBounds_toArray]
                  try simp only [List.set_cons_zero, List.set_cons_succ]
                  refine wpAnyT_take (i := 7) (d := some 57) (v := ?_) rfl rfl (by kernel_rfl) (by kernel_rfl) (by kernel_rfl) (by kernel_rfl) (fun _ _ _ h => h) (Or.inl ⟨by rfl, ?_⟩) (by assumption) ?_
                  rotate_left
                  · (intro w hSw; (try dsimp only at hSw); go_simp; try (with_reducible rfl))
                  try simp only [Act.put]
                  try simp only [List.setIfInBounds_toArray]
                  try simp only [List.set_cons_zero, List.set_cons_succ]
                  refine wpAnyT_take (i := 8) (d := some 58) (v := ?_) rfl rfl (by kernel_rfl) (by kernel_rfl) (by kernel_rfl) (by kernel_rfl) (fun _ _ _ h => h) (Or.inl ⟨by rfl, ?_⟩) (by assumption) ?_
                  rotate_left
                  · (intro w hSw; (try dsimp only at hSw); go_simp; try (with_reducible rfl))
                  try simp only [Act.put]
                  try simp only [List.setIfInBounds_toArray]
                  try simp only [List.set_cons_zero, List.set_cons_succ]
                  refine wpAnyT_take (i := 9) (d := some 59) (v := ?_) rfl rfl (by kernel_rfl) (by kernel_rfl) (by kernel_rfl) (by kernel_rfl) (fun _ _ _ h => h) (Or.inl ⟨by rfl, ?_⟩) (by assumption) ?_
                  rotate_left
                  · (intro w hSw; (try dsimp only at hSw); go_simp; try (with_reducible rfl))
                  try simp only [Act.put]
                  try simp only [List.setIfInBounds_toArray]
                  try simp only [List.set_cons_zero, List.set_cons_succ]
                  refine wpAnyT_take (i := 10) (d := some 60) (v := ?_) rfl rfl (by kernel_rfl) (by kernel_rfl) (by kernel_rfl) (by kernel_rfl) (fun _ _ _ h => h) (Or.inl ⟨by rfl, ?_⟩) (by assumption) ?_
                  rotate_left
                  · (intro w hSw; (try dsimp only at hSw); go_simp; try (with_reducible rfl))
                  try simp only [Act.put]
                  try simp only [List.setIfInBounds_toArray]
                  try simp only [List.set_cons_zero, List.set_cons_succ]
                  refine wpAnyT_take (i := 11) (d := some 61) (v := ?_) rfl rfl (by kernel_rfl) (by kernel_rfl) (by kernel_rfl) (by kernel_rfl) (fun _ _ _ h => h) (Or.inl ⟨by rfl, ?_⟩) (by assumption) ?_
                  rotate_left
                  · (intro w hSw; (try dsimp only at hSw); go_simp; try (with_reducible rfl))
                  try simp only [Act.put]
                  try simp only [List.setIfInBounds_toArray]
                  try simp only [List.set_cons_zero, List.set_cons_succ]
                  refine wpAnyT_last (by kernel_rfl) rfl (by kernel_rfl) (fun K hK => ?_)
                  go_simp
                  refine hK.out _ _ ?_
                  go_wp2_with fail
                  go_roundg (ne - (i + 1))
                  case measure => omega
                  case rel =>
                    refine ⟨i + 1, by omega, by omega, by go_num, stepC c (s1, s2), HIC3.out, HU3.out, HI3.out, ?_, ?_⟩
                    · show Row _ _ _ _ _ _ _
                      rw [HST.out, List.map_set, HMX.out]
                      exact HR8.out.set s1 (.int .i64 (cs)) (by omega)
                    · exact (show Ext _ _ from HX9.out.st HG.out _)

end Go.Proofs.YtfcpnggdpaeldaaGreat
