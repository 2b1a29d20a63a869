import Derived.Test.YtijncboddmjdcaaGa
import Derived.Test.YtijncboddmjdcaaProg
import Derived.Test.YtijncboddmjdcaaGn
import Derived.BigQuiet
import Derived.Deep.QuietTactic
import Derived.Deep.LoopGhost
import Derived.Shelf.Abstract
/-
  Opening counts, and the messages under way, in the reference.
-/
namespace Go.Proofs.Ytijncboddmjdcaa
open Go.RowKit
set_option linter.unusedVariables false
attribute [local go_sem ↓] Go.wp_at_zero Go.wp_at_succ

set_option maxHeartbeats 8000000 in
set_option maxRecDepth 100000 in
theorem openR_of (t : Tr) (hv : validT t = true) (hs : SmallTr t) (N : Nat) : ∀ (v vc : Value) (c d : List Int) (w : World), TrAt w v t → Ints w vc c → RangeC t c → FixN t (dnS t) N c d →
    Calls Try.prog 41 #[.agg #[v], vc] w fun e w' => IntsOut w w' e d := by
  induction N using Nat.strongRecOn with
  | ind N ih =>
  intro v vc c d w h hc hr hfix
  have HIH := Lib.hid ih
  have HT := Lib.hid h
  have HCC := Lib.hid hc
  have HS := Lib.hid hs
  have HR0 := Lib.hid hr
  have HFX := Lib.hid hfix
  have HVV := Lib.hid hv
  obtain ⟨ii, hii, iz0, iz1, iz2⟩ := info_parts info_int3
  have HSE := Lib.hid (fun W (hW : Ext w W) u p i (hu : Ints W u c) (hx : Inn t (p, i)) => sentR_calls v u t c p i W (h.ext hW) hs hv hu hr.1 hx)
  obtain ⟨ta, tc, rfl, htc⟩ := h.sh
  obtain ⟨ca, cc, rfl, hlc, _⟩ := hc
  have hn1 := hs.1
  have hnp : 1 ≤ t.length := ((shapeB_parts2.1 (validT_parts2.1 hv).1)).1
  rw [hr.1] at hlc ⊢
  have HCL := Lib.hid hr.1
  generalize hln : t.length = n at *
  have HL := Lib.hid hln
  have HX0 := Lib.hid (heap_alloc_new w (.cells #[.slice ta n tc] 24))
  have HE1 := Lib.hid ((Ext.rf w).al (.cells #[.slice ta n tc] 24))
  have HNW := Lib.hid (fun (hm : 0 < n) => ints_news HCC.out (HE1.out.al (.cells #[] 3)) (by rw [HCL.out]; exact hm))
  clear h hs hln hr hv ih hfix
  go_enter Try.func41, Try.ntmps41
  generalize hw1 : w.alloc (.cells #[.slice ta n tc] 24) = w1 at *
  go_wp2_with ((at_builtin; go_loud (refine wpList_append_row rfl _ _ 25 rfl w1.heap.size 3 ii (.int .i64 0) 1 8 Try.underlying25 hii iz0 iz1 iz2 rfl (by decide) _ 0 [] rfl (row_empty w1 _ _) _ n cc (c.map (Value.int .i64)) rfl (by simp [HCL.out]) HNW.out (by simp [Value.oneCell']) (by unfold maxLen; omega) (by omega) (by simp) ?_; intro v5 w5 hown5 hgrow5 hblk5; rw [Nat.zero_add, List.nil_append] at hown5; obtain ⟨G, O9, cap, rfl, hG, hG2, _⟩ := hown5.shape (by omega); have HOWN := Lib.hid hown5; have HX5 := Lib.hid (((Ext.rf w1).al _).gr hgrow5 (fun q hq => ((row_empty w1 3 1).lt q hq).1)); have HG := Lib.hid (And.intro hG hG2); clear hown5 hgrow5 hblk5 hG hG2)))
  have HY0 := Lib.hid (HX5.out.hp HX0.out)
  have HE5 := Lib.hid (HE1.out.trans' HX5.out)
  have HCI := Lib.hid (show Ints w5 (.slice (some ⟨G, O9, none⟩) n cap) c from HOWN.out.ints)
  go_loopg [6] n (fun g s6 wr => ∃ p : Nat, p ≤ n ∧ n - p ≤ g ∧ s6 = .int .i64 p ∧ Aside (missTo t c p 0 = none) ∧ Aside (Ext w5 wr))
  case atStart => exact ⟨0, Nat.zero_le _, by omega, rfl, (show Aside _ from missTo_zero t c), Ext.rf _⟩
  case round =>
    obtain ⟨p, hp, hg, rfl, A, HEK⟩ := hrel
    have HEW := Lib.hid (HE5.out.trans' HEK.out)
    by_cases hlt : p < n
    · have hltz : (p : Int) < (n : Int) := by omega
      have hpz : (0 : Int) ≤ (p : Int) := by omega
      have hkr := HR0.out.at (p := p) (by rw [HL.out]; exact hlt)
      have HKN : Hid (∀ i : Nat, (i : Int) < c[p]! → Inn t (p, i)) := Lib.hid (fun i hi => ⟨by show p < t.length; rw [HL.out]; exact hlt, by show i < t[p]!.events.length; omega⟩)
      have hen := (HS.out.2 p (by rw [HL.out]; exact hlt)).2.1
      obtain ⟨k, hk⟩ : ∃ k : Nat, c[p]! = (k : Int) := ⟨c[p]!.toNat, by omega⟩
      have hcp := HOWN.out.cell p (by omega)
      rw [List.getElem?_map, List.getElem?_eq_getElem (by rw [HCL.out]; exact hlt), Option.map_some, ← getElem!_pos c p (by rw [HCL.out]; exact hlt), hk] at hcp
      rw [hk] at HKN
      have HK := Lib.hid hk
      have hkm : k ≤ 1000000 := by omega
      have HCP := Lib.hid hcp
      clear hcp hkr hk hen
      go_wp2
      obtain ⟨wo, rfl⟩ : ∃ x, x = wr := ⟨_, rfl⟩
      go_loopg [7] k (fun g2 s7 wr => ∃ i : Nat, i ≤ k ∧ k - i ≤ g2 ∧ s7 = .int .i64 i ∧ Aside (missTo t c p i = none) ∧ Aside (Ext wo wr))
      case atStart => exact ⟨0, Nat.zero_le _, by omega, rfl, A, Ext.rf _⟩
      case round =>
        obtain ⟨i, hi, hg2, rfl, A2, HEK2⟩ := hrel
        have HEW2 := Lib.hid (HEW.out.trans' HEK2.out)
        have HEK5 := Lib.hid (HEK.out.trans' HEK2.out)
        have hc1 := HEK5.out.cl HCP.out
        have HZ0 := Lib.hid (HEK5.out.hp HY0.out)
        have t0 := cellOf HZ0.out 0
        simp only [List.getElem?_toArray, List.getElem?_cons_zero] at t0
        by_cases hli : i < k
        · have hliz : (i : Int) < (k : Int) := by omega
          have hiz : (0 : Int) ≤ (i : Int) := by omega
          have HIP := Lib.hid (HKN.out i hliz)
          have HSW := Lib.hid (HSE.out wr HEW2.out _ p i (HCI.out.ext HEK5.out) HIP.out)
          obtain ⟨sb, hsb⟩ : ∃ b, sentB t c (p, i) = b := ⟨_, rfl⟩
          rw [hsb] at HSW
          have HSB2 := Lib.hid hsb
          clear hsb
          go_wp2_with fail
          refine HSW.out.mono ?_
          rintro e w7 ⟨rfl, hE7⟩
          cases sb with
          | true =>
            go_wp2
            go_roundg (k - (i + 1))
            case measure => omega
            case rel => exact ⟨i + 1, by omega, by omega, by go_num, (show Aside _ from missTo_succ A2.out HSB2.out), (HEK2.out.trans' hE7 : Ext wo w7)⟩
          | false =>
            have HMX := Lib.hid (missTo_hit A2.out HSB2.out (by rw [HCL.out]; exact hlt) (by rw [HK.out]; exact hliz))
            have HFY : Hid (∃ M, M < N ∧ FixN t (dnS t) M (dnS t c (p, i)) d) := Lib.hid (by
              have hf := HFX.out
              cases N with
              | zero => have := hf.1; rw [HMX.out] at this; cases this
              | succ M => obtain ⟨y, hy, hz⟩ := hf; rw [HMX.out] at hy; cases hy; exact ⟨M, Nat.lt_succ_self _, hz⟩)
            have HRU := Lib.hid (dnS_range HR0.out HMX.out)
            have HUP : Hid (dnS t c (p, i) = c.set p (i : Int)) := Lib.hid rfl
            have HEW7 := Lib.hid (HEW2.out.trans' hE7)
            have HEK7 := Lib.hid (HEK5.out.trans' hE7)
            have HR7 := Lib.hid (HOWN.out.ext HEK7.out)
            have HX7 := Lib.hid (HEK7.out.hp HY0.out)
            clear hc1 t0 hE7
            have t7 := cellOf HX7.out 0
            simp only [List.getElem?_toArray, List.getElem?_cons_zero] at t7
            have hcell := HR7.out.cell p (by omega)
            have hfree := HR7.out.free (O9 + p)
            obtain ⟨old, hold⟩ : ∃ u, (c.map (Value.int .i64))[p]? = some u := ⟨_, List.getElem?_eq_getElem (by rw [List.length_map, HCL.out]; exact hlt)⟩
            rw [hold] at hcell
            have hGt : G ≠ w.heap.size := by
              have h1 := HG.out.1
              have h2 := (Array.getElem?_eq_some_iff.1 HX0.out).1
              omega
            clear hold
            obtain ⟨M, hMN, hfm⟩ := HFY.out
            have HX10 := Lib.hid (HEW7.out.st (p := ⟨G, O9 + p, none⟩) (Nat.le_trans HE1.out.sz HG.out.1) (.int .i64 (i : Int)))
            have HR10 := Lib.hid (HR7.out.set p (.int .i64 (i : Int)) (by omega))
            rw [← List.map_set] at HR10
            have HCI10 := Lib.hid (show Ints (w7.setCell ⟨G, O9 + p, none⟩ (.int .i64 (i : Int))) (.slice (some ⟨G, O9, none⟩) n cap) (dnS t c (p, i)) from by rw [HUP.out]; exact HR10.out.ints)
            have HCW := Lib.hid (HIH.out M hMN _ _ _ d _ (HT.out.ext HX10.out) HCI10.out HRU.out hfm)
            clear hMN hfm
            go_wp2_with fail
            refine HCW.out.mono ?_
            rintro e w11 ⟨u, rfl, hRu, hXu⟩
            have HRu := Lib.hid hRu
            have HXu := Lib.hid hXu
            clear hRu hXu t7 hcell hfree
            obtain ⟨ra, rc, rfl, _⟩ := HRu.out.any
            go_wp2
            go_ret
            exact ⟨_, rfl, HRu.out.mono HX10.out.sz, HX10.out.trans' HXu.out⟩
        · have hliz : ¬ (i : Int) < (k : Int) := by omega
          obtain rfl : k = i := by omega
          go_wp2
          go_roundg (n - (p + 1))
          case measure => omega
          case rel =>
            exact ⟨p + 1, by omega, by omega, by go_num, (show Aside _ from missTo_next A2.out (by rw [HK.out]; simp)), (show Ext _ _ from HEK.out.trans' HEK2.out)⟩
    · have hltz : ¬ (p : Int) < (n : Int) := by omega
      obtain rfl : n = p := by omega
      have HD : Hid (d = c) := Lib.hid (by
        have hm : missE t c = none := by unfold missE; rw [HCL.out]; exact A.out
        have hf := HFX.out
        cases N with
        | zero => exact hf.2
        | succ M => obtain ⟨y, hy, _⟩ := hf; rw [hm] at hy; cases hy)
      go_wp2
      go_ret
      refine ⟨_, rfl, ?_, HEW.out⟩
      rw [HD.out, HCL.out]
      exact (HOWN.out.ext HEK.out).mono HE1.out.sz

set_option maxHeartbeats 8000000 in
set_option maxRecDepth 100000 in
theorem underWayR_calls (v vc : Value) (t : Tr) (c : List Int) (P : Nat) (q : Int) (w : World) (h : TrAt w v t) (hs : SmallTr t) (hc : Ints w vc c) (hr : RangeC t c) (hp : P < t.length) :
    Calls Try.prog 34 #[.agg #[v], vc, .int .i64 P, .int .i64 q] w fun e w' => IntsOut w w' e (underC t c P q) := by
  have HCC := Lib.hid hc
  have HT := Lib.hid h
  have HS := Lib.hid hs
  obtain ⟨ii, hii, iz0, iz1, iz2⟩ := info_parts info_int3
  have HRE := Lib.hid (fun W (hW : Ext w W) m => findR_calls v t 3 m W (h.ext hW) hs)
  obtain ⟨ta, tc, rfl, htc⟩ := h.sh
  obtain ⟨ca, cc, rfl, hlc, _⟩ := hc
  have hsm := hs.1
  have HX0 := Lib.hid (heap_alloc_new w (.cells #[.slice ta t.length tc] 24))
  have HE2 := Lib.hid ((Ext.rf w).al (.cells #[.slice ta t.length tc] 24))
  rw [hr.1] at hlc ⊢
  have HM := Lib.hid hr.1
  have HPL := Lib.hid hp
  have hkr := hr.at hp
  generalize hN : t.length = M at *
  have HN := Lib.hid hN
  obtain ⟨B, O, C, vv, ve, hve, hlC, hB, hn0, hv0, he0, hV, hE0⟩ := proc_at HT.out P (by first | exact HPL.out | (rw [HN.out]; exact hp))
  simp only [Value.slice.injEq] at hve
  obtain ⟨rfl, hzz, rfl⟩ := hve
  have HEV := Lib.hid hE0
  obtain ⟨ea, ec, rfl, hec⟩ := hE0.sh
  obtain ⟨cb, co, rfl, hcb, hcp⟩ := ints_at HCC.out P (by rw [HM.out]; first | exact hp | (rw [HN.out]; exact hp))
  have he1 := HE2.out.cl he0
  have hc1 := HE2.out.cl hcp
  have hen := (HS.out.2 P (by rw [HN.out]; exact hp)).2.1
  generalize hne : t[P]!.events.length = ne at *
  have HNE := Lib.hid hne
  obtain ⟨k, hk⟩ : ∃ k : Nat, c[P]! = (k : Int) := ⟨c[P]!.toNat, by omega⟩
  rw [hk] at hc1 hkr
  have HK := Lib.hid hk
  have hkz : (0 : Int) ≤ (k : Int) := by omega
  have hkm : k ≤ 1000000 := by omega
  have HKN := Lib.hid (show k ≤ ne from by omega)
  have hPz : (0 : Int) ≤ (P : Int) := by omega
  have hPi : (P : Int) < (M : Int) := by omega
  have HU : Hid (underC t c P q = uwTo t c q P k) := Lib.hid (by unfold underC; rw [hk, Int.toNat_natCast])
  rw [HU.out]
  have HE00 := Lib.hid he1
  have HC00 := Lib.hid hc1
  clear h hs hr hp hN hn0 hv0 hV hE0 hzz hne he0 hk hcp hkr
  go_enter Try.func34, Try.ntmps34
  go_wp2
  generalize hw2 : w.alloc (.cells #[.slice (some ⟨B, O, none⟩) M tc] 24) = w2 at *
  clear hw2 he1 hc1
  go_loopg [9, 10] k (fun g s9 s10 wr => ∃ i : Nat, i ≤ k ∧ k - i ≤ g ∧ s10 = .int .i64 i ∧ Aside (Row wr w2.heap.size 3 1 s9 (uwTo t c q P i).length ((uwTo t c q P i).map (Value.int .i64))) ∧ Aside (Ext w2 wr))
  case atStart => exact ⟨0, Nat.zero_le _, by omega, rfl, (show Row _ _ _ _ _ _ _ from Row.mkNil _ _ _ _), Ext.rf _⟩
  case round =>
    obtain ⟨i, hi, hg, rfl, HR, HEK⟩ := hrel
    have HEW := Lib.hid (HE2.out.trans' HEK.out)
    have HY0 := HX0
    have c1 := HEK.out.cl HC00.out
    have e1 := HEK.out.cl HE00.out
    have HXT0 := Lib.hid (HEK.out.hp HX0.out)
    have t0 := cellOf HXT0.out 0
    simp only [List.getElem?_toArray, List.getElem?_cons_zero] at t0
    have l1 : w.heap.size < wr.heap.size := World.block_lt_of_cell? wr _ t0
    have l2 : w.heap.size ≠ wr.heap.size := by omega
    by_cases hli : i < k
    · have hliz : (i : Int) < (k : Int) := by omega
      have hiz : (0 : Int) ≤ (i : Int) := by omega
      have hine : (i : Int) < (ne : Int) := by have := HKN.out; omega
      obtain ⟨EB, EO, EC, va, hee, hlE, hEB, k0, k1, k2, k3, k4, ha⟩ := event_at HEV.out i (by rw [HNE.out]; have := HKN.out; omega)
      simp only [Value.slice.injEq] at hee
      obtain ⟨rfl, hzz, rfl⟩ := hee
      obtain ⟨va1, va2, rfl, _⟩ := ha.sh
      have m0 := HEW.out.cl k0
      have m1 := HEW.out.cl k1
      have m2 := HEW.out.cl k2
      have m3 := HEW.out.cl k3
      have m4 := HEW.out.cl k4
      have HEVE : Hid (ev t (P, i) = t[P]!.events[i]!) := Lib.hid rfl
      generalize t[P]!.events[i]! = y at *
      generalize y.asg.length = nb at *
      have hel := uwTo_len t c q P i
      have hsz := HEK.out.sz
      clear k0 k1 k2 k3 k4 hzz ha
      have HB6 := Lib.hid (heap_alloc_new wr (e5 (.int .i64 y.kind) (.int .i64 y.peer) (.int .i64 y.msg) (.int .i64 y.time) (.slice va1 nb va2)))
      have HXT := Lib.hid ((Ext.rf wr).al (e5 (.int .i64 y.kind) (.int .i64 y.peer) (.int .i64 y.msg) (.int .i64 y.time) (.slice va1 nb va2)))
      have HT6 := Lib.hid (HXT.out.hp (HEK.out.hp HY0.out))
      obtain ⟨ck, hck⟩ : ∃ b, (y.kind != 2) = b := ⟨_, rfl⟩
      obtain ⟨cp, hcp⟩ : ∃ b, (y.peer != q) = b := ⟨_, rfl⟩
      have HCK := Lib.hid hck
      have HCP := Lib.hid hcp
      cases ck with
      | true =>
        have HUB : Hid (uwB t c q (P, i) = false) := Lib.hid (uwB_kind (by rw [HEVE.out]; have := HCK.out; simpa using this))
        go_wp2
        go_roundg (k - (i + 1))
        case measure => omega
        case rel => exact ⟨i + 1, by omega, by omega, by go_num, (show Row _ _ _ _ _ _ _ from by rw [uwTo_no HUB.out]; exact HR.out.ext HXT.out), HEK.out.trans' HXT.out⟩
      | false =>
        cases cp with
        | true =>
          have HUB : Hid (uwB t c q (P, i) = false) := Lib.hid (uwB_peer (by rw [HEVE.out]; have := HCP.out; simpa using this))
          go_wp2
          go_roundg (k - (i + 1))
          case measure => omega
          case rel => exact ⟨i + 1, by omega, by omega, by go_num, (show Row _ _ _ _ _ _ _ from by rw [uwTo_no HUB.out]; exact HR.out.ext HXT.out), HEK.out.trans' HXT.out⟩
        | false =>
          have HU2 : Hid ((ev t (P, i)).kind = 2 ∧ (ev t (P, i)).peer = q) := Lib.hid (by rw [HEVE.out]; exact ⟨by have := HCK.out; simpa using this, by have := HCP.out; simpa using this⟩)
          have HFW := Lib.hid (HRE.out _ (HEW.out.trans' HXT.out) y.msg)
          obtain ⟨fe, hfe⟩ : ∃ f, findE t 3 y.msg = f := ⟨_, rfl⟩
          rw [hfe] at HFW
          have HFE := Lib.hid hfe
          clear hfe
          cases fe with
          | none =>
            have HUB : Hid (uwB t c q (P, i) = true) := Lib.hid (uwB_none HU2.out.1 HU2.out.2 (by rw [HEVE.out]; exact HFE.out))
            simp only [eidA, eidB] at HFW
            go_wp2_with fail
            clear t0 l1 l2 m0 m1 m2 m3 m4 c1 e1
            refine HFW.out.mono ?_
            rintro e w7 ⟨rfl, hE7⟩
            have HX8 := Lib.hid ((HXT.out.trans' hE7).al (idO 0 0))
            have HB8 := Lib.hid (((Ext.rf w7).al (idO 0 0)).hp (hE7.hp HB6.out))
            have HR8 := Lib.hid (HR.out.ext HX8.out)
            have HEK8 := Lib.hid (HEK.out.trans' HX8.out)
            clear hE7 HXT
            go_wp2
            go_quiet (fail)
            have HBA := Lib.hid (((Ext.rf _).drN nq).hp HB8.out)
            have HRA := Lib.hid (HR8.out.ext ((Ext.rf _).drN nq))
            have HEA := Lib.hid (HEK8.out.drN nq)
            generalize World.drewN _ nq = wA at *
            have hszA := HEA.out.sz
            have y2 := cellOf HBA.out 2
            simp only [List.getElem?_toArray, List.getElem?_cons_zero, List.getElem?_cons_succ] at y2
            generalize hell : (uwTo t c q P i).length = ell at *
            have HELL := Lib.hid hell
            clear hell
            go_wp2_with ((at_builtin; go_loud (refine wpList_append_one rfl _ _ 25 rfl w2.heap.size 3 ii (.int .i64 0) 1 8 Try.underlying25 hii iz0 iz1 iz2 rfl (by decide) _ ell _ rfl (HRA.out.al _) wA.heap.size 1 [.int .i64 y.msg] rfl rfl ⟨_, heap_alloc_new _ _⟩ (by simp [Value.oneCell']) (by unfold maxLen; omega) (by omega) (by simp; omega) ?_; intro v8 w8 hown8 hgrow8 hblk8; have HOWN := Lib.hid hown8; have HX9 := Lib.hid ((HEA.out.al _).gr hgrow8 (fun z hz => (HRA.out.lt z hz).1)); clear hown8 hgrow8 hblk8)))
            go_roundg (k - (i + 1))
            case measure => omega
            case rel =>
              refine ⟨i + 1, by omega, by omega, by go_num, (show Row _ _ _ _ _ _ _ from ?_), (show Ext _ _ from HX9.out)⟩
              rw [uwTo_yes HUB.out, List.length_append, List.map_append, HELL.out, HEVE.out]
              exact HOWN.out
          | some r =>
            simp only [eidA, eidB] at HFW
            go_wp2_with fail
            clear t0 l1 l2 m0 m1 m2 m3 m4 c1 e1
            refine HFW.out.mono ?_
            rintro e w7 ⟨rfl, hE7⟩
            have HX8 := Lib.hid ((HXT.out.trans' hE7).al (idO (r.1 : Int) ((r.2 : Int) + 1)))
            have HB8 := Lib.hid (((Ext.rf w7).al (idO (r.1 : Int) ((r.2 : Int) + 1))).hp (hE7.hp HB6.out))
            have HI8 := Lib.hid (heap_alloc_new w7 (idO (r.1 : Int) ((r.2 : Int) + 1)))
            have HR8 := Lib.hid (HR.out.ext HX8.out)
            have HEK8 := Lib.hid (HEK.out.trans' HX8.out)
            have HRN := Lib.hid (findE_some HFE.out).1
            have HUS := Lib.hid (uwB_some (c := c) HU2.out.1 HU2.out.2 (by rw [HEVE.out]; exact HFE.out))
            clear hE7 HXT
            obtain ⟨r1, r2⟩ := r
            simp only at *
            have hr1 : r1 < M := by have := HRN.out.1; rw [HN.out] at this; exact this
            obtain ⟨cb', co', hcc, _, hcs⟩ := ints_at HCC.out r1 (by rw [HM.out]; exact hr1)
            simp only [Option.some.injEq, Addr.mk.injEq, and_true] at hcc
            obtain ⟨rfl, rfl⟩ := hcc
            have dsp := (HE2.out.trans' HEK8.out).cl hcs
            have s0 := cellOf HI8.out 0
            have s1c := cellOf HI8.out 1
            simp only [List.getElem?_toArray, List.getElem?_cons_zero, List.getElem?_cons_succ] at s0 s1c
            have hspz : (0 : Int) ≤ (r1 : Int) := by omega
            have hspi : (r1 : Int) < (M : Int) := by omega
            generalize hdg : c[r1]! = dg at *
            clear hdg hcs
            go_wp2
            by_cases hcmp : dg < (r2 : Int) + 1
            · have d1 : decide (dg < (r2 : Int) + 1) = true := decide_eq_true hcmp
              have HUB : Hid (uwB t c q (P, i) = true) := Lib.hid (by rw [HUS.out]; exact d1)
              clear hcmp
              go_quiet (fail)
              clear d1 dsp s0 s1c
              have HBA := Lib.hid (((Ext.rf _).drN nq).hp HB8.out)
              have HRA := Lib.hid (HR8.out.ext ((Ext.rf _).drN nq))
              have HEA := Lib.hid (HEK8.out.drN nq)
              generalize World.drewN _ nq = wA at *
              have hszA := HEA.out.sz
              have y2 := cellOf HBA.out 2
              simp only [List.getElem?_toArray, List.getElem?_cons_zero, List.getElem?_cons_succ] at y2
              generalize hell : (uwTo t c q P i).length = ell at *
              have HELL := Lib.hid hell
              clear hell
              go_wp2_with ((at_builtin; go_loud (refine wpList_append_one rfl _ _ 25 rfl w2.heap.size 3 ii (.int .i64 0) 1 8 Try.underlying25 hii iz0 iz1 iz2 rfl (by decide) _ ell _ rfl (HRA.out.al _) wA.heap.size 1 [.int .i64 y.msg] rfl rfl ⟨_, heap_alloc_new _ _⟩ (by simp [Value.oneCell']) (by unfold maxLen; omega) (by omega) (by simp; omega) ?_; intro v8 w8 hown8 hgrow8 hblk8; have HOWN := Lib.hid hown8; have HX9 := Lib.hid ((HEA.out.al _).gr hgrow8 (fun z hz => (HRA.out.lt z hz).1)); clear hown8 hgrow8 hblk8)))
              go_roundg (k - (i + 1))
              case measure => omega
              case rel =>
                refine ⟨i + 1, by omega, by omega, by go_num, (show Row _ _ _ _ _ _ _ from ?_), (show Ext _ _ from HX9.out)⟩
                rw [uwTo_yes HUB.out, List.length_append, List.map_append, HELL.out, HEVE.out]
                exact HOWN.out
            · have d1 : decide (dg < (r2 : Int) + 1) = false := decide_eq_false hcmp
              have HUB : Hid (uwB t c q (P, i) = false) := Lib.hid (by rw [HUS.out]; exact d1)
              clear hcmp
              go_quiet (fail)
              go_wp2
              go_roundg (k - (i + 1))
              case measure => omega
              case rel => exact ⟨i + 1, by omega, by omega, by go_num, (show Row _ _ _ _ _ _ _ from by rw [uwTo_no HUB.out]; exact HR8.out.ext ((Ext.rf _).drN _)), HEK8.out.drN _⟩
    · have hliz : ¬ (i : Int) < (k : Int) := by omega
      obtain rfl : k = i := by omega
      go_wp2
      go_ret
      exact ⟨_, rfl, HR.out.mono HE2.out.sz, HEW.out⟩

end Go.Proofs.Ytijncboddmjdcaa
