/-
  The statement VariableRanges, walked.
-/
import Derived.Test.YtfcpnggdpaeldaaGa
import Derived.Test.YtfcpnggdpaeldaaProg
import Derived.BigQuiet
import Derived.Deep.QuietTactic
import Derived.Deep.LoopGhost
import Derived.Shelf.Abstract
import Derived.Test.YtfcpnggdpaeldaaGm
namespace Go.Proofs.Ytfcpnggdpaeldaa
open Go.RowKit
set_option linter.unusedVariables false

theorem fault_zero (t : Tr) (p : Int) (s : ByteArray) : faultV t p 0 s = fndE t p s := by
  by_cases h1 : fndE t p s = 1
  · rw [h1, fault_one h1]
  · by_cases h2 : fndE t p s = 2
    · rw [h2, fault_two h2]
    · exact (fault_else h1 h2).2.2.1 0 ⟨by omega, by omega⟩
theorem fnd_ok {t : Tr} {p : Int} {s : ByteArray} (he : fndE t p s = 0) : validT t = true ∧ (0 ≤ p ∧ p < (t.length : Int)) ∧ 0 ≤ idxV t[p.toNat]! s ∧ fndI t p s = idxV t[p.toNat]! s := by
  have hi : fndI t p s = idxV t[p.toNat]! s := by unfold fndI; rw [if_pos he]
  unfold fndE at he
  split at he
  · rename_i h1
    split at he
    · rename_i h2
      split at he
      · cases he
      · exact ⟨h1, h2, by omega, hi⟩
    · cases he
  · cases he

set_option maxHeartbeats 8000000 in
set_option maxRecDepth 100000 in
theorem variableRanges_calls (v : Value) (t : Tr) (p : Int) (s : ByteArray) (w : World) (h : TrAt w v t) :
    Calls Try.prog 3 #[.agg #[v], .int .i64 p, .string s] w fun e w' => e = .returned (.bool true) ∧ Ext w w' := by
  have HT := Lib.hid h
  have HGC := Lib.hid (fun W (hW : Ext w W) => great_calls v t W (h.ext hW))
  obtain ⟨ta, tc, rfl, htc⟩ := h.sh
  obtain ⟨tn, htn⟩ : ∃ n, t.length = n := ⟨_, rfl⟩
  rw [htn] at HGC HT ⊢
  have HTN := Lib.hid htn
  have HX0 := Lib.hid (heap_alloc_new w (.cells #[.slice ta tn tc] 24))
  have HE1 := Lib.hid ((Ext.rf w).al (.cells #[.slice ta tn tc] 24))
  obtain ⟨gw, hgw⟩ : ∃ b, greatT t = b := ⟨_, rfl⟩
  rw [hgw] at HGC
  have HGW := Lib.hid hgw
  clear h hgw htc htn
  go_enter Try.func3, Try.ntmps3
  go_wp2_with fail
  refine (awake25_calls _).mono ?_
  rintro e w2 ⟨rfl, hX2⟩
  have HE2 := Lib.hid (HE1.out.trans' hX2)
  have HY2 := Lib.hid (hX2.hp HX0.out)
  have t2 := cellOf HY2.out 0
  simp only [List.getElem?_toArray, List.getElem?_cons_zero] at t2
  clear hX2
  go_wp2_with fail
  refine (HGC.out _ HE2.out).mono ?_
  rintro e w3 ⟨rfl, hX3⟩
  have HE3 := Lib.hid (HE2.out.trans' hX3)
  have HY3 := Lib.hid (hX3.hp HY2.out)
  have t3 := cellOf HY3.out 0
  simp only [List.getElem?_toArray, List.getElem?_cons_zero] at t3
  clear hX3 t2
  cases gw with
  | true =>
    go_wp2
    go_ret
    exact ⟨rfl, HE3.out⟩
  | false =>
  have HLO := Lib.hid (great_loose HGW.out).1
  have HTL := Lib.hid (great_loose HGW.out).2
  have HC1 := Lib.hid (fun W (hW : Ext w W) => rangeP_calls _ t p s W (HT.out.ext hW) HLO.out)
  have HC2 := Lib.hid (fun W (hW : Ext w W) => changesP_calls _ t p s W (HT.out.ext hW) HLO.out)
  have HC3 := Lib.hid (fun W (hW : Ext w W) => unitP_calls _ t p s W (HT.out.ext hW) HLO.out)
  have HC4 := Lib.hid (fun W (hW : Ext w W) => faultV_calls _ t p 0 s W (HT.out.ext hW) HLO.out)
  rw [fault_zero] at HC4
  have HOK := Lib.hid (fun h0 => fnd_ok (t := t) (p := p) (s := s) h0)
  obtain ⟨E, hE⟩ : ∃ E, fndE t p s = E := ⟨_, rfl⟩
  rw [hE] at HC1 HC2 HC3 HC4 HOK
  clear hE
  by_cases h0 : E = 0
  case neg =>
    rw [if_neg h0, if_neg h0] at HC1
    rw [if_neg h0] at HC2
    rw [if_neg h0] at HC3
    have d1 : (E != 0) = true := by simp [h0]
    have d2 : (E == E) = true := beq_self_eq_true E
    clear h0
    go_wp2_with fail
    refine (HC1.out _ HE3.out).mono ?_
    rintro e w4 ⟨rfl, hX4⟩
    have HE4 := Lib.hid (HE3.out.trans' hX4)
    have HY4 := Lib.hid (hX4.hp HY3.out)
    have t4 := cellOf HY4.out 0
    simp only [List.getElem?_toArray, List.getElem?_cons_zero] at t4
    have HXX4 := Lib.hid hX4
    clear hX4 t3
    go_wp2_with fail
    refine (HC2.out _ HE4.out).mono ?_
    rintro e w5 ⟨u5, rfl, hR5, hX5⟩
    obtain ⟨ua5, uc5, hu5, _⟩ := hR5.any
    subst hu5
    have HI5 := Lib.hid hR5.ints
    clear hR5
    have HE5 := Lib.hid (HE4.out.trans' hX5)
    have HY5 := Lib.hid (hX5.hp HY4.out)
    have t5 := cellOf HY5.out 0
    simp only [List.getElem?_toArray, List.getElem?_cons_zero] at t5
    have HXX5 := Lib.hid hX5
    clear hX5 t4
    go_wp2_with fail
    refine (HC3.out _ HE5.out).mono ?_
    rintro e w6 ⟨rfl, hX6⟩
    have HE6 := Lib.hid (HE5.out.trans' hX6)
    have HY6 := Lib.hid (hX6.hp HY5.out)
    have t6 := cellOf HY6.out 0
    simp only [List.getElem?_toArray, List.getElem?_cons_zero] at t6
    have HXX6 := Lib.hid hX6
    clear hX6 t5
    go_wp2_with fail
    refine (HC4.out _ HE6.out).mono ?_
    rintro e w7 ⟨rfl, hX7⟩
    have HE7 := Lib.hid (HE6.out.trans' hX7)
    have HY7 := Lib.hid (hX7.hp HY6.out)
    have t7 := cellOf HY7.out 0
    simp only [List.getElem?_toArray, List.getElem?_cons_zero] at t7
    have HXX7 := Lib.hid hX7
    clear hX7 t6
    go_wp2
    go_ret
    exact ⟨by simp, HE7.out⟩
  case pos =>
    subst h0
    obtain ⟨hv, ⟨hp0, hpn⟩, hi0, hI⟩ := HOK.out rfl
    rw [hI, if_pos rfl, if_pos rfl] at HC1
    rw [hI, if_pos rfl] at HC2
    rw [hI, if_pos rfl] at HC3
    obtain ⟨q, rfl⟩ : ∃ q : Nat, p = (q : Int) := ⟨p.toNat, by omega⟩
    simp only [Int.toNat_natCast] at HC1 HC2 HC3 hi0
    have hqn : q < t.length := by omega
    have hix := (idxV_range t[q]! s).2
    obtain ⟨i, hi⟩ : ∃ i : Nat, idxV t[q]! s = (i : Int) := ⟨(idxV t[q]! s).toNat, by omega⟩
    have hin : i < t[q]!.vars.length := by omega
    have HC5 := Lib.hid (fun W (hW : Ext w W) => indexR_calls _ t q s W (HT.out.ext hW) HLO.out hqn (HLO.out.2 q hqn).1)
    rw [hi] at HC1 HC2 HC3 HC5
    simp only [Int.toNat_natCast] at HC1 HC2 HC3
    have HC6 := Lib.hid (fun W (hW : Ext w W) => rangeF_calls _ t q i W (HT.out.ext hW) hv hqn hin)
    have HC7 := Lib.hid (fun W (hW : Ext w W) => changesF_calls _ t q i W (HT.out.ext hW) hv hqn hin)
    have HC8 := Lib.hid (fun W (hW : Ext w W) => unitF_calls _ t q i W (HT.out.ext hW) hv hqn hin)
    have HLC := Lib.hid (Nat.le_trans (chgF_len (valF t q i) t[q]!.events.length) ((valid_small hv).2 q hqn).2.1)
    generalize lowF (valF t q i) t[q]!.events.length = lo at *
    generalize highF (valF t q i) t[q]!.events.length = hh at *
    generalize hch : chgF (valF t q i) t[q]!.events.length = ch at *
    generalize unitF (valF t q i) t[q]!.events.length = un at *
    have dlo : (lo == lo) = true := beq_self_eq_true lo
    have dhh : (hh == hh) = true := beq_self_eq_true hh
    have dun : (un == un) = true := beq_self_eq_true un
    clear hp0 hpn hi0 hI hix hi hch hv hqn hin
    go_wp2_with fail
    refine (HC1.out _ HE3.out).mono ?_
    rintro e w4 ⟨rfl, hX4⟩
    have HE4 := Lib.hid (HE3.out.trans' hX4)
    have HY4 := Lib.hid (hX4.hp HY3.out)
    have t4 := cellOf HY4.out 0
    simp only [List.getElem?_toArray, List.getElem?_cons_zero] at t4
    have HXX4 := Lib.hid hX4
    clear hX4 t3
    go_wp2_with fail
    refine (HC2.out _ HE4.out).mono ?_
    rintro e w5 ⟨u5, rfl, hR5, hX5⟩
    obtain ⟨ua5, uc5, hu5, _⟩ := hR5.any
    subst hu5
    have HI5 := Lib.hid hR5.ints
    clear hR5
    have HE5 := Lib.hid (HE4.out.trans' hX5)
    have HY5 := Lib.hid (hX5.hp HY4.out)
    have t5 := cellOf HY5.out 0
    simp only [List.getElem?_toArray, List.getElem?_cons_zero] at t5
    have HXX5 := Lib.hid hX5
    clear hX5 t4
    go_wp2_with fail
    refine (HC3.out _ HE5.out).mono ?_
    rintro e w6 ⟨rfl, hX6⟩
    have HE6 := Lib.hid (HE5.out.trans' hX6)
    have HY6 := Lib.hid (hX6.hp HY5.out)
    have t6 := cellOf HY6.out 0
    simp only [List.getElem?_toArray, List.getElem?_cons_zero] at t6
    have HXX6 := Lib.hid hX6
    clear hX6 t5
    go_wp2_with fail
    refine (HC4.out _ HE6.out).mono ?_
    rintro e w7 ⟨rfl, hX7⟩
    have HE7 := Lib.hid (HE6.out.trans' hX7)
    have HY7 := Lib.hid (hX7.hp HY6.out)
    have t7 := cellOf HY7.out 0
    simp only [List.getElem?_toArray, List.getElem?_cons_zero] at t7
    have HXX7 := Lib.hid hX7
    clear hX7 t6
    go_wp2_with fail
    refine (HC5.out _ HE7.out).mono ?_
    rintro e w8 ⟨rfl, hX8⟩
    have HE8 := Lib.hid (HE7.out.trans' hX8)
    have HY8 := Lib.hid (hX8.hp HY7.out)
    have t8 := cellOf HY8.out 0
    simp only [List.getElem?_toArray, List.getElem?_cons_zero] at t8
    have HXX8 := Lib.hid hX8
    clear hX8 t7
    go_wp2_with fail
    refine (HC6.out _ HE8.out).mono ?_
    rintro e w9 ⟨rfl, hX9⟩
    have HE9 := Lib.hid (HE8.out.trans' hX9)
    have HY9 := Lib.hid (hX9.hp HY8.out)
    have t9 := cellOf HY9.out 0
    simp only [List.getElem?_toArray, List.getElem?_cons_zero] at t9
    have HXX9 := Lib.hid hX9
    clear hX9 t8
    have HA5 := Lib.hid (HI5.out.ext (HXX6.out.trans' (HXX7.out.trans' (HXX8.out.trans' HXX9.out))))
    go_wp2_with fail
    refine (HC7.out _ HE9.out).mono ?_
    rintro e w10 ⟨u10, rfl, hR10, hX10⟩
    obtain ⟨ua10, uc10, hu10, _⟩ := hR10.any
    subst hu10
    have HI10 := Lib.hid hR10.ints
    clear hR10
    have HE10 := Lib.hid (HE9.out.trans' hX10)
    have HY10 := Lib.hid (hX10.hp HY9.out)
    have t10 := cellOf HY10.out 0
    simp only [List.getElem?_toArray, List.getElem?_cons_zero] at t10
    have HXX10 := Lib.hid hX10
    clear hX10 t9
    go_wp2_with fail
    refine (equal_int _ _ ch ch _ (HA5.out.ext HXX10.out) HI10.out HLC.out HLC.out).mono ?_
    rintro e w11 ⟨rfl, hX11⟩
    have HE11 := Lib.hid (HE10.out.trans' hX11)
    have HY11 := Lib.hid (hX11.hp HY10.out)
    have t11 := cellOf HY11.out 0
    simp only [List.getElem?_toArray, List.getElem?_cons_zero] at t11
    have HXX11 := Lib.hid hX11
    clear hX11 t10
    go_wp2_with fail
    refine (HC8.out _ HE11.out).mono ?_
    rintro e w12 ⟨rfl, hX12⟩
    have HE12 := Lib.hid (HE11.out.trans' hX12)
    have HY12 := Lib.hid (hX12.hp HY11.out)
    have t12 := cellOf HY12.out 0
    simp only [List.getElem?_toArray, List.getElem?_cons_zero] at t12
    have HXX12 := Lib.hid hX12
    clear hX12 t11
    go_wp2
    go_ret
    exact ⟨by simp, HE12.out⟩

end Go.Proofs.Ytfcpnggdpaeldaa
