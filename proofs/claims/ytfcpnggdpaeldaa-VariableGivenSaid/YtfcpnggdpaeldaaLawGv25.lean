/-
  The statement VariableGiven, walked.
-/
import Derived.Test.YtfcpnggdpaeldaaGa
import Derived.Test.YtfcpnggdpaeldaaProg
import Derived.BigQuiet
import Derived.Deep.QuietTactic
import Derived.Deep.LoopGhost
import Derived.Shelf.Abstract
import Derived.Test.YtfcpnggdpaeldaaGm
import Derived.Test.YtfcpnggdpaeldaaWiB
import Derived.Test.YtfcpnggdpaeldaaGr
import Derived.Test.YtfcpnggdpaeldaaGl
import Derived.Test.YtfcpnggdpaeldaaGi
import Derived.Laws.EntriesVeiled
namespace Go.Proofs.Ytfcpnggdpaeldaa
open Go.RowKit
set_option linter.unusedVariables false

def longB (x : List Int) : Bool := decide (100 < x.length)
theorem enters_28 : ∀ args w, (callFunc 28 args).run Try.prog w = .ok (.enter 28 args) w := enters_of Try.func28 (by kernel_rfl) rfl
set_option maxHeartbeats 1000000 in
theorem given1_calls (vs : List Value) (x : List Int) (w : World) (hv : RInts w vs x) : Calls Try.prog 28 #[encOne vs] w fun e w' => e = .returned (.bool (longB x)) ∧ Ext w w' := by
  obtain ⟨u, rfl, hi⟩ := hv
  obtain ⟨a, c, rfl, hlc, _⟩ := hi
  unfold encOne
  simp only [List.headD_cons]
  obtain ⟨r, hr⟩ : ∃ r, decide (100 < (x.length : Int)) = r := ⟨_, rfl⟩
  have HR : Hid (longB x = r) := Lib.hid (by unfold longB; rw [← hr]; simp; omega)
  rw [HR.out]
  generalize x.length = n at *
  go_enter Try.func28, Try.ntmps28
  go_wp2
  go_ret
  exact ⟨rfl, Ext.rf _⟩

set_option maxHeartbeats 2000000 in
set_option maxRecDepth 100000 in
theorem same_none (ua : Option Addr) (uc : Nat) (w : World) : Calls Try.prog 27 #[.agg #[.slice ua 0 uc], .agg #[.slice none 0 0]] w fun e w' => e = .returned (.bool true) ∧ Ext w w' := by
  have HE1 : Hid (Ext w ((w.alloc (.cells #[.slice ua 0 uc] 24)).alloc (.cells #[.slice none 0 0] 24))) := Lib.hid (by repeat (first | refine Ext.st ?_ (by first | exact Nat.le_refl _ | exact Nat.le_succ _ | assumption | omega) _ | refine Ext.al ?_ _ | refine Ext.dr ?_ | refine Ext.drN ?_ _ | exact Ext.rf _))
  go_enter Try.func27, Try.ntmps27
  go_wp2
  go_loopg [5] 0 (fun g s5 wr => s5 = .int .i64 0 ∧ Aside (Ext w wr) ∧ Aside (wr.heap[w.heap.size]? = some (.cells #[.slice ua 0 uc] 24)))
  case atStart => exact ⟨rfl, HE1.out, (show _ = _ from allocs_at [.cells #[.slice ua 0 uc] 24, .cells #[.slice none 0 0] 24] w 0 _ rfl)⟩
  case round =>
    obtain ⟨rfl, HX, HB⟩ := hrel
    have t0 := cellOf HB.out 0
    simp only [List.getElem?_toArray, List.getElem?_cons_zero] at t0
    go_wp2
    go_ret
    exact ⟨rfl, HX.out⟩


set_option maxHeartbeats 16000000 in
set_option maxRecDepth 100000 in
theorem variableGiven_calls (v vl : Value) (t : Tr) (s : ByteArray) (l : List (List Int)) (w : World) (h : TrAt w v t) (hl : Sl RInts 1 w vl l) :
    Calls Try.prog 6 #[.agg #[v], .string s, vl] w fun e w' => e = .returned (.bool true) ∧ Ext w w' := by
  have HLR := Lib.hid (fun W (hW : Ext w W) (hb : l.length ≤ 20) => containsFunc_rows RInts rints_lasts 28 #[] enters_28 longB vl l W (hl.ext rints_lasts hW) (by omega) (fun y _ W vs _ hR => given1_calls vs y W hR))
  have HLB : Hid (l.any longB = false → ∀ p, p < l.length → l[p]!.length ≤ 100) := Lib.hid (fun h p hp => by
    have := List.any_eq_false.1 h _ (mem_at l p hp)
    unfold longB at this
    rw [decide_eq_true_eq] at this; omega)
  have HW := Lib.hid hl
  obtain ⟨la, lc, rfl, hlc⟩ := hl.shape
  obtain ⟨m, hlm⟩ : ∃ n, l.length = n := ⟨_, rfl⟩
  have HM := Lib.hid hlm
  rw [hlm] at HLR HW HLB ⊢
  generalize l.any longB = lb at *
  clear hl hlc hlm
  have HT := Lib.hid h
  have HGC := Lib.hid (fun W (hW : Ext w W) => great_calls v t W (h.ext hW))
  obtain ⟨ta, tc, rfl, htc⟩ := h.sh
  obtain ⟨tn, htn⟩ : ∃ n, t.length = n := ⟨_, rfl⟩
  rw [htn] at HGC HT ⊢
  have HTN := Lib.hid htn
  have HX0 := Lib.hid (heap_alloc_new w (.cells #[.slice ta tn tc] 24))
  have HE1 := Lib.hid ((Ext.rf w).al (.cells #[.slice ta tn tc] 24))
  obtain ⟨gw, hgw⟩ : ∃ b, greatT t = b := ⟨_, rfl⟩
  rw [hgw] at HGC
  have HGW := Lib.hid hgw
  clear h hgw htc htn
  go_enter Try.func6, Try.ntmps6
  go_wp2_with fail
  refine (awake25_calls _).mono ?_
  rintro e w2 ⟨rfl, hX2⟩
  have HE2 := Lib.hid (HE1.out.trans' hX2)
  have HY2 := Lib.hid (hX2.hp HX0.out)
  have t2 := cellOf HY2.out 0
  simp only [List.getElem?_toArray, List.getElem?_cons_zero] at t2
  clear hX2
  go_wp2_with fail
  refine (HGC.out _ HE2.out).mono ?_
  rintro e w3 ⟨rfl, hX3⟩
  have HE3 := Lib.hid (HE2.out.trans' hX3)
  have HY3 := Lib.hid (hX3.hp HY2.out)
  have t3 := cellOf HY3.out 0
  simp only [List.getElem?_toArray, List.getElem?_cons_zero] at t3
  clear hX3 t2
  cases gw with
  | true =>
    go_wp2
    go_ret
    exact ⟨rfl, HE3.out⟩
  | false =>
  have HLO := Lib.hid (great_loose HGW.out).1
  have HTL := Lib.hid (great_loose HGW.out).2
  by_cases hm20 : 20 < m
  case pos =>
    have d1 : decide (20 < (m : Int)) = true := decide_eq_true (by omega)
    clear hm20
    go_wp2
    go_ret
    exact ⟨rfl, HE3.out⟩
  case neg =>
  have d1 : decide (20 < (m : Int)) = false := decide_eq_false (by omega)
  have hm : m ≤ 20 := by omega
  clear hm20
  go_wp2_with fail
  refine (HLR.out _ HE3.out hm).mono ?_
  rintro e w4 ⟨rfl, hX4⟩
  have HE4 := Lib.hid (HE3.out.trans' hX4)
  have HY4 := Lib.hid (hX4.hp HY3.out)
  have t4 := cellOf HY4.out 0
  simp only [List.getElem?_toArray, List.getElem?_cons_zero] at t4
  have HXX4 := Lib.hid hX4
  clear hX4 t3
  cases lb with
  | true =>
    go_wp2
    go_ret
    exact ⟨rfl, HE4.out⟩
  | false =>
  have HLL := Lib.hid (HLB.out (by trivial))
  clear d1
  have HST := Lib.hid (fun W (hW : Ext w W) hs (p k : Nat) => stateV_calls _ t (p : Int) (k : Int) W (HT.out.ext hW) hs)
  obtain ⟨ii, hii, iz0, iz1, iz2⟩ := info_parts info_cints
  have HWC := Lib.hid (withP_calls _ _ t s l w4 (HT.out.ext HE4.out) HLO.out (HW.out.ext rints_lasts HE4.out) (by rw [HM.out]; omega) (fun p hp => by have := HLL.out p (by rw [← HM.out]; exact hp); omega))
  have HUN : Hid (wiE t s l ≠ 0 → wiT t s l = []) := Lib.hid (fun h => by unfold wiT; rw [if_neg h])
  have HUW : Hid (wiE t s l = 0 → wiT t s l = withT s l t) := Lib.hid (fun h => by unfold wiT; rw [if_pos h])
  generalize hU : wiT t s l = U at *
  go_wp2_with fail
  refine HWC.out.mono ?_
  rintro e w5 ⟨u, rfl, hTu, hX5⟩
  have HTU := Lib.hid hTu
  obtain ⟨ua, uc, rfl, _⟩ := hTu.sh
  have HX5 := Lib.hid hX5
  have HY5 := Lib.hid (hX5.hp HY4.out)
  clear hTu hX5 hU t4
  obtain ⟨E, hE⟩ : ∃ E, wiE t s l = E := ⟨_, rfl⟩
  rw [hE] at HUN HUW
  have HEE := Lib.hid hE
  rw [hE]
  clear hE
  by_cases h0 : E = 0
  case neg =>
    obtain rfl : U = [] := HUN.out h0
    have d2 : (E != 0) = true := by simp [h0]
    have HSN := Lib.hid (fun W => same_none ua uc W)
    have HX6 := Lib.hid (HX5.out.al (.cells #[.slice ua 0 uc] 24))
    simp only [List.length_nil]
    clear h0
    go_wp2_with fail
    refine (HSN.out _).mono ?_
    rintro e w7 ⟨rfl, hX7⟩
    go_wp2
    go_ret
    exact ⟨rfl, HE4.out.trans' (HX6.out.trans' hX7)⟩
  case pos =>
  subst h0
  have hUU := HUW.out rfl
  subst hUU
  have HVU := Lib.hid (wi_valid HEE.out)
  have HF := Lib.hid (fitsW_iff.1 (wi_with HEE.out).2.1)
  have HUL := Lib.hid (withT_len (s := s) (l := l) (t := t))
  have HLU := Lib.hid (valid_small HVU.out).loose
  have hmt : m = tn := by rw [← HM.out, ← HTN.out]; exact HF.out.1
  obtain rfl := hmt
  have HULT : Hid ((withT s l t).length = m) := Lib.hid (by rw [HUL.out, HTN.out])
  rw [HULT.out] at HTU ⊢
  have HE6 := Lib.hid ((HE4.out.trans' HX5.out).al (.cells #[.slice ua m uc] 24))
  have HA6 := Lib.hid ((Ext.rf w5).al (.cells #[.slice ua m uc] 24))
  have HY6 := Lib.hid (HA6.out.hp HY5.out)
  have HB6 := Lib.hid (heap_alloc_new w5 (.cells #[.slice ua m uc] 24))
  have HTU6 := Lib.hid (HTU.out.ext HA6.out)
  have HVC := Lib.hid (fun W (hW : Ext (w5.alloc (.cells #[.slice ua m uc] 24)) W) => validR_calls _ _ W (HTU6.out.ext hW) HLU.out)
  rw [HVU.out] at HVC
  have HVV := Lib.hid (fun W (hW : Ext (w5.alloc (.cells #[.slice ua m uc] 24)) W) (p k : Nat) => valueV_calls _ (withT s l t) (p : Int) s (k : Int) W (HTU6.out.ext hW) HLU.out)
  have HSU := Lib.hid (fun W (hW : Ext (w5.alloc (.cells #[.slice ua m uc] 24)) W) (p k : Nat) => stateV_calls _ (withT s l t) (p : Int) (k : Int) W (HTU6.out.ext hW) HLU.out)
  have t5 := cellOf HY5.out 0
  simp only [List.getElem?_toArray, List.getElem?_cons_zero] at t5
  have hb51 := World.block_lt_of_cell? w5 _ t5
  have hb52 : w.heap.size ≠ w5.heap.size := Nat.ne_of_lt hb51
  generalize hw6 : w5.alloc (.cells #[.slice ua m uc] 24) = w6 at *
  have t6 := cellOf HY6.out 0
  have b6 := cellOf HB6.out 0
  simp only [List.getElem?_toArray, List.getElem?_cons_zero] at t6 b6
  have dm : ((m : Int) != (m : Int)) = false := by simp
  subst hw6
  go_wp2_with fail
  refine (HVC.out _ (Ext.rf _)).mono ?_
  rintro e w7 ⟨rfl, hX7⟩
  have HE7 := Lib.hid (HE6.out.trans' hX7)
  have HY7 := Lib.hid (hX7.hp HY6.out)
  have HB7 := Lib.hid (hX7.hp HB6.out)
  have t7 := cellOf HY7.out 0
  have b7 := cellOf HB7.out 0
  simp only [List.getElem?_toArray, List.getElem?_cons_zero] at t7 b7
  have HXX7 := Lib.hid hX7
  clear hX7 t6 b6
  clear hb51 hb52 t5
  go_wp2
  clear t7 b7 dm
  go_loopg [65] m (fun g s65 wr => ∃ p : Nat, p ≤ m ∧ m - p ≤ g ∧ s65 = .int .i64 p ∧ Aside (Ext w7 wr))
  case atStart => exact ⟨0, Nat.zero_le _, by omega, rfl, Ext.rf _⟩
  case round =>
    obtain ⟨p, hp, hg, rfl, HEK⟩ := hrel
    by_cases hlt : p < m
    case neg =>
      have hltz : ¬ (p : Int) < (m : Int) := by omega
      go_wp2
      go_ret
      exact ⟨rfl, HE7.out.trans' HEK.out⟩
    case pos =>
      have hltz : (p : Int) < (m : Int) := by omega
      have hpz : (0 : Int) ≤ (p : Int) := by omega
      have HEW := Lib.hid (HE7.out.trans' HEK.out)
      obtain ⟨rb, ro, sv, sc, rfl, hr0, hi0⟩ := rowl_at HW.out p (by rw [HM.out]; exact hlt)
      have r1 := HEW.out.cl hr0
      have HII := Lib.hid hi0
      have HQ := Lib.hid (show p < t.length from by rw [HTN.out]; exact hlt)
      have HLP := Lib.hid (HF.out.2 p (by rw [HM.out]; exact hlt))
      obtain ⟨ml, hml⟩ : ∃ n, l[p]!.length = n := ⟨_, rfl⟩
      have HML := Lib.hid hml
      have hml100 : ml ≤ 100 := by rw [← hml]; exact HLL.out p (by first | exact hlt | (rw [HM.out]; exact hlt))
      rw [hml] at r1
      clear hr0 hi0 hml
      go_wp2
      clear r1
      obtain ⟨wo, rfl⟩ : ∃ x, x = wr := ⟨_, rfl⟩
      go_loopg [73] ml (fun g2 s73 wr => ∃ k : Nat, k ≤ ml ∧ ml - k ≤ g2 ∧ s73 = .int .i64 k ∧ Aside (Ext wo wr))
      case atStart => exact ⟨0, Nat.zero_le _, by omega, rfl, Ext.rf _⟩
      case round =>
        obtain ⟨k, hk, hg2, rfl, HEK2⟩ := hrel
        by_cases hlk : k < ml
        case neg =>
          have hlkz : ¬ (k : Int) < (ml : Int) := by omega
          go_wp2
          go_roundg (m - (p + 1))
          case measure => exact Nat.lt_of_lt_of_le (Nat.sub_lt_sub_left hlt (Nat.lt_succ_self p)) hg
          case rel => exact ⟨p + 1, hlt, Nat.le_refl _, by go_num, (show Ext _ _ from HEK.out.trans' HEK2.out)⟩
        case pos =>
          have hlkz : (k : Int) < (ml : Int) := by omega
          have hkz : (0 : Int) ≤ (k : Int) := by omega
          have HX0 := Lib.hid (HEK.out.trans' HEK2.out)
          have HE10 := Lib.hid (HE7.out.trans' HX0.out)
          have HY10 := Lib.hid (HX0.out.hp HY7.out)
          have HB10 := Lib.hid (HX0.out.hp HB7.out)
          have t10 := cellOf HY10.out 0
          have b10 := cellOf HB10.out 0
          simp only [List.getElem?_toArray, List.getElem?_cons_zero] at t10 b10
          obtain ⟨cb, co, rfl, hcb, hcp⟩ := ints_at HII.out k (by rw [HML.out]; exact hlk)
          have c1 := HE10.out.cl hcp
          have hke : k ≤ t[p]!.events.length := by have := HLP.out; have := HML.out; omega
          have HPL := Lib.hid (wi_place HEE.out HQ.out hke)
          have HFL := Lib.hid (wi_fault HEE.out HQ.out hke)
          have HVL := Lib.hid (wi_value HEE.out HQ.out hke)
          have HSS := Lib.hid (wi_states HEE.out HQ.out hke)
          have HSL := Lib.hid (stV_len t p k hke)
          have HV6 := Lib.hid (fun W (hW : Ext _ W) => HVV.out W hW p k)
          have HT6 := Lib.hid (fun W (hW : Ext w W) => HST.out W hW HLO.out p k)
          have HU6 := Lib.hid (fun W (hW : Ext _ W) => HSU.out W hW p k)
          rw [HFL.out, if_pos rfl, Int.toNat_natCast, Int.toNat_natCast, HVL.out] at HV6
          rw [HPL.out.2, if_pos rfl, Int.toNat_natCast, Int.toNat_natCast] at HT6
          rw [HPL.out.1, if_pos rfl, Int.toNat_natCast, Int.toNat_natCast, HSS.out] at HU6
          have hnv := (stOk_valid (wi_with HEE.out).1 HQ.out).nv
          rw [← HSL.out] at hnv
          generalize l[p]![k]! = x at *
          generalize stV t p k = sv0 at *
          have dx : (x != x) = false := by simp
          clear hcp hcb hke
          go_wp2_with fail
          refine (HV6.out _ (HXX7.out.trans' HX0.out)).mono ?_
          rintro e w11 ⟨rfl, hX11⟩
          have HE11 := Lib.hid (HE10.out.trans' hX11)
          have HY11 := Lib.hid (hX11.hp HY10.out)
          have HB11 := Lib.hid (hX11.hp HB10.out)
          have t11 := cellOf HY11.out 0
          have b11 := cellOf HB11.out 0
          simp only [List.getElem?_toArray, List.getElem?_cons_zero] at t11 b11
          have HXX11 := Lib.hid hX11
          clear hX11 t10 b10
          clear c1
          go_wp2_with fail
          refine (HT6.out _ HE11.out).mono ?_
          rintro e w12 ⟨u12, rfl, hR12, hX12⟩
          obtain ⟨ua12, uc12, hu12, _⟩ := hR12.any
          subst hu12
          have HI12 := Lib.hid hR12.ints
          clear hR12
          have HE12 := Lib.hid (HE11.out.trans' hX12)
          have HY12 := Lib.hid (hX12.hp HY11.out)
          have HB12 := Lib.hid (hX12.hp HB11.out)
          have t12 := cellOf HY12.out 0
          have b12 := cellOf HB12.out 0
          simp only [List.getElem?_toArray, List.getElem?_cons_zero] at t12 b12
          have HXX12 := Lib.hid hX12
          clear hX12 t11 b11
          go_wp2_with fail
          refine (HU6.out _ ((HXX7.out.trans' HX0.out).trans' (HXX11.out.trans' HXX12.out))).mono ?_
          rintro e w13 ⟨u13, rfl, hR13, hX13⟩
          obtain ⟨ua13, uc13, hu13, _⟩ := hR13.any
          subst hu13
          have HI13 := Lib.hid hR13.ints
          clear hR13
          have HE13 := Lib.hid (HE12.out.trans' hX13)
          have HY13 := Lib.hid (hX13.hp HY12.out)
          have HB13 := Lib.hid (hX13.hp HB12.out)
          have t13 := cellOf HY13.out 0
          have b13 := cellOf HB13.out 0
          simp only [List.getElem?_toArray, List.getElem?_cons_zero] at t13 b13
          have HXX13 := Lib.hid hX13
          clear hX13 t12 b12
          have HI12b := Lib.hid (HI12.out.ext HXX13.out)
          have HCL := Lib.hid (clone_cints _ _ _ w13 HI12b.out.cells (by intro y hy; obtain ⟨z, _, rfl⟩ := List.mem_map.1 hy; rfl) (by omega))
          go_wp2_with fail
          refine HCL.out.mono ?_
          rintro e w14 ⟨v14, rfl, hR14, hX14⟩
          obtain ⟨a14, c14, rfl, _⟩ := hR14.any
          have HR14 := Lib.hid hR14
          have HX14 := Lib.hid hX14
          clear hR14 hX14
          have hsl : sv0.length = sv0.length := rfl
          go_wp2_with ((at_builtin; go_loud (refine wpList_append_oneG (by kernel_rfl) _ _ 30 rfl w13.heap.size 3 ii (.int .i64 0) 1 8 Try.underlying30 hii iz0 iz1 iz2 rfl (by decide) _ sv0.length (sv0.map (Value.int .i64)) rfl (HR14.out.al _) w14.heap.size 1 [.int .i64 x] rfl rfl ⟨_, heap_alloc_new _ _⟩ (by simp [Value.oneCell']) (by unfold maxLen; omega) (by omega) (Nat.le_trans HX14.out.sz ((Ext.rf w14).al _).sz) ?_; intro v15 w15 hown15 hgrow15 hblk15; obtain ⟨a15, c15, rfl, _⟩ := hown15.any; have HX15 := Lib.hid ((HX14.out.al (.cells #[.int .i64 x] 3)).gr hgrow15 (fun q hq => (HR14.out.lt q hq).1)); have HI15 := Lib.hid (show Ints w15 (.slice a15 (sv0.length + 1) c15) (sv0 ++ [x]) from by have h9 := hown15.cells; rw [show sv0.map (Value.int .i64) ++ [.int .i64 x] = (sv0 ++ [x]).map (Value.int .i64) by simp, show sv0.length + 1 = (sv0 ++ [x]).length by simp] at h9; have h8 := h9.ints; simpa using h8); clear hown15 hgrow15 hblk15)))
          have HEQ := Lib.hid (equal_int _ _ (sv0 ++ [x]) (sv0 ++ [x]) w15 (HI13.out.ext HX15.out) HI15.out (by rw [List.length_append, List.length_singleton]; omega) (by rw [List.length_append, List.length_singleton]; omega))
          have HEQT : Hid (((sv0 ++ [x]) == (sv0 ++ [x])) = true) := Lib.hid (by simp)
          rw [HEQT.out] at HEQ
          simp only [List.length_append, List.length_singleton] at HEQ
          refine HEQ.out.mono ?_
          rintro e w16 ⟨rfl, hX16⟩
          have HX16 := Lib.hid (HXX13.out.trans' (HX15.out.trans' hX16))
          clear hX16 t13 b13
          go_wp2
          go_roundg (ml - (k + 1))
          case measure => exact Nat.lt_of_lt_of_le (Nat.sub_lt_sub_left hlk (Nat.lt_succ_self k)) hg2
          case rel => exact ⟨k + 1, hlk, Nat.le_refl _, by go_num, (show Ext _ _ from HEK2.out.trans' (HXX11.out.trans' (HXX12.out.trans' HX16.out)))⟩

end Go.Proofs.Ytfcpnggdpaeldaa
