/-
  The statement VariableAdds, walked.
-/
import Derived.Test.YtfcpnggdpaeldaaGa
import Derived.Test.YtfcpnggdpaeldaaProg
import Derived.BigQuiet
import Derived.Deep.QuietTactic
import Derived.Deep.LoopGhost
import Derived.Shelf.Abstract
import Derived.Test.YtfcpnggdpaeldaaGm
import Derived.Test.YtfcpnggdpaeldaaWiB
import Derived.Test.YtfcpnggdpaeldaaGr
import Derived.Test.YtfcpnggdpaeldaaWrT
import Derived.Test.YtfcpnggdpaeldaaWrW
import Derived.Laws.EntriesVeiled
namespace Go.Proofs.Ytfcpnggdpaeldaa
open Go.RowKit
set_option linter.unusedVariables false

def longA (x : List Int) : Bool := decide (100 < x.length)
theorem enters_24 : ∀ args w, (callFunc 24 args).run Try.prog w = .ok (.enter 24 args) w := enters_of Try.func24 (by kernel_rfl) rfl
set_option maxHeartbeats 1000000 in
theorem adds1_calls (vs : List Value) (x : List Int) (w : World) (hv : RInts w vs x) : Calls Try.prog 24 #[encOne vs] w fun e w' => e = .returned (.bool (longA x)) ∧ Ext w w' := by
  obtain ⟨u, rfl, hi⟩ := hv
  obtain ⟨a, c, rfl, hlc, _⟩ := hi
  unfold encOne
  simp only [List.headD_cons]
  obtain ⟨r, hr⟩ : ∃ r, decide (100 < (x.length : Int)) = r := ⟨_, rfl⟩
  have HR : Hid (longA x = r) := Lib.hid (by unfold longA; rw [← hr]; simp; omega)
  rw [HR.out]
  generalize x.length = n at *
  go_enter Try.func24, Try.ntmps24
  go_wp2
  go_ret
  exact ⟨rfl, Ext.rf _⟩

theorem wiT_small (t : Tr) (s : ByteArray) (l : List (List Int)) : SmallTr (wiT t s l) := by
  by_cases h : wiE t s l = 0
  · unfold wiT; rw [if_pos h]
    exact valid_small (wi_valid h)
  · unfold wiT; rw [if_neg h]
    exact ⟨Nat.zero_le _, fun p hp => absurd hp (by simp)⟩

set_option maxHeartbeats 16000000 in
set_option maxRecDepth 100000 in
theorem variableAdds_calls (v vl : Value) (t : Tr) (s : ByteArray) (l : List (List Int)) (w : World) (h : TrAt w v t) (hl : Sl RInts 1 w vl l) :
    Calls Try.prog 5 #[.agg #[v], .string s, vl] w fun e w' => e = .returned (.bool true) ∧ Ext w w' := by
  have HLR := Lib.hid (fun W (hW : Ext w W) (hb : l.length ≤ 20) => containsFunc_rows RInts rints_lasts 24 #[] enters_24 longA vl l W (hl.ext rints_lasts hW) (by omega) (fun y _ W vs _ hR => adds1_calls vs y W hR))
  have HLB : Hid (l.any longA = false → ∀ p, p < l.length → l[p]!.length ≤ 100) := Lib.hid (fun h p hp => by
    have := List.any_eq_false.1 h _ (mem_at l p hp)
    unfold longA at this
    rw [decide_eq_true_eq] at this; omega)
  have HW := Lib.hid hl
  obtain ⟨la, lc, rfl, hlc⟩ := hl.shape
  obtain ⟨m, hlm⟩ : ∃ n, l.length = n := ⟨_, rfl⟩
  have HM := Lib.hid hlm
  rw [hlm] at HLR HW HLB ⊢
  generalize l.any longA = lb at *
  clear hl hlc hlm
  have HT := Lib.hid h
  have HGC := Lib.hid (fun W (hW : Ext w W) => great_calls v t W (h.ext hW))
  obtain ⟨ta, tc, rfl, htc⟩ := h.sh
  obtain ⟨tn, htn⟩ : ∃ n, t.length = n := ⟨_, rfl⟩
  rw [htn] at HGC HT ⊢
  have HTN := Lib.hid htn
  have HX0 := Lib.hid (heap_alloc_new w (.cells #[.slice ta tn tc] 24))
  have HE1 := Lib.hid ((Ext.rf w).al (.cells #[.slice ta tn tc] 24))
  obtain ⟨gw, hgw⟩ : ∃ b, greatT t = b := ⟨_, rfl⟩
  rw [hgw] at HGC
  have HGW := Lib.hid hgw
  clear h hgw htc htn
  go_enter Try.func5, Try.ntmps5
  go_wp2_with fail
  refine (awake25_calls _).mono ?_
  rintro e w2 ⟨rfl, hX2⟩
  have HE2 := Lib.hid (HE1.out.trans' hX2)
  have HY2 := Lib.hid (hX2.hp HX0.out)
  have t2 := cellOf HY2.out 0
  simp only [List.getElem?_toArray, List.getElem?_cons_zero] at t2
  clear hX2
  go_wp2_with fail
  refine (HGC.out _ HE2.out).mono ?_
  rintro e w3 ⟨rfl, hX3⟩
  have HE3 := Lib.hid (HE2.out.trans' hX3)
  have HY3 := Lib.hid (hX3.hp HY2.out)
  have t3 := cellOf HY3.out 0
  simp only [List.getElem?_toArray, List.getElem?_cons_zero] at t3
  clear hX3 t2
  cases gw with
  | true =>
    go_wp2
    go_ret
    exact ⟨rfl, HE3.out⟩
  | false =>
  have HLO := Lib.hid (great_loose HGW.out).1
  have HTL := Lib.hid (great_loose HGW.out).2
  by_cases hm20 : 20 < m
  case pos =>
    have d1 : decide (20 < (m : Int)) = true := decide_eq_true (by omega)
    clear hm20
    go_wp2
    go_ret
    exact ⟨rfl, HE3.out⟩
  case neg =>
  have d1 : decide (20 < (m : Int)) = false := decide_eq_false (by omega)
  have hm : m ≤ 20 := by omega
  clear hm20
  go_wp2_with fail
  refine (HLR.out _ HE3.out hm).mono ?_
  rintro e w4 ⟨rfl, hX4⟩
  have HE4 := Lib.hid (HE3.out.trans' hX4)
  have HY4 := Lib.hid (hX4.hp HY3.out)
  have t4 := cellOf HY4.out 0
  simp only [List.getElem?_toArray, List.getElem?_cons_zero] at t4
  have HXX4 := Lib.hid hX4
  clear hX4 t3
  cases lb with
  | true =>
    go_wp2
    go_ret
    exact ⟨rfl, HE4.out⟩
  | false =>
  have HLL := Lib.hid (HLB.out (by trivial))
  clear d1
  have HWC := Lib.hid (fun W (hW : Ext w W) => withP_calls _ _ t s l W (HT.out.ext hW) HLO.out (HW.out.ext rints_lasts hW) (by rw [HM.out]; omega) (fun p hp => by have := HLL.out p (by rw [← HM.out]; exact hp); omega))
  have HWR := Lib.hid (fun W (hW : Ext w W) => withR_calls _ _ t s l W (HT.out.ext hW) HLO.out (HW.out.ext rints_lasts hW) (by rw [HM.out]; omega) (fun p hp => by have := HLL.out p (by rw [← HM.out]; exact hp); omega))
  have HSM := Lib.hid (wiT_small t s l)
  generalize wiT t s l = U at *
  generalize wiE t s l = E at *
  by_cases hs100 : 100 < s.size
  case pos =>
    have d2 : decide (100 < (s.size : Int)) = true := decide_eq_true (by omega)
    clear hs100
    go_wp2
    go_ret
    exact ⟨rfl, HE4.out⟩
  case neg =>
  have d2 : decide (100 < (s.size : Int)) = false := decide_eq_false (by omega)
  clear hs100
  go_wp2_with fail
  refine (HWC.out _ HE4.out).mono ?_
  rintro e w5 ⟨u, rfl, hTu, hX5⟩
  have HTU := Lib.hid hTu
  obtain ⟨ua, uc, rfl, _⟩ := hTu.sh
  have HX5 := Lib.hid hX5
  have HY5 := Lib.hid (hX5.hp HY4.out)
  have HE5 := Lib.hid (HE4.out.trans' hX5)
  have HX6 := Lib.hid ((Ext.rf w5).al (.cells #[.slice ua U.length uc] 24))
  have HB6 := Lib.hid (heap_alloc_new w5 (.cells #[.slice ua U.length uc] 24))
  have HY6 := Lib.hid (HX6.out.hp HY5.out)
  have HE6 := Lib.hid (HE5.out.trans' HX6.out)
  have HTU6 := Lib.hid (HTU.out.ext HX6.out)
  clear hTu hX5 t4 d2
  have t5 := cellOf HY5.out 0
  simp only [List.getElem?_toArray, List.getElem?_cons_zero] at t5
  have hb51 := World.block_lt_of_cell? w5 _ t5
  have hb52 : w.heap.size ≠ w5.heap.size := Nat.ne_of_lt hb51
  go_wp2_with fail
  refine (HWR.out _ HE6.out).mono ?_
  rintro e w7 ⟨u7, rfl, hTv, hX7⟩
  have HTV := Lib.hid hTv
  obtain ⟨vb, vc, rfl, _⟩ := hTv.sh
  have HB7 := Lib.hid (hX7.hp HB6.out)
  have HE7 := Lib.hid (HE6.out.trans' hX7)
  have HX8 := Lib.hid ((Ext.rf w7).al (.cells #[.slice vb U.length vc] 24))
  have HE8 := Lib.hid (HE7.out.trans' HX8.out)
  have HTU8 := Lib.hid ((HTU6.out.ext hX7).ext HX8.out)
  have HTV8 := Lib.hid (HTV.out.ext HX8.out)
  have b7 := cellOf HB7.out 0
  simp only [List.getElem?_toArray, List.getElem?_cons_zero] at b7
  have hb71 := World.block_lt_of_cell? w7 _ b7
  have hb72 : w5.heap.size ≠ w7.heap.size := Nat.ne_of_lt hb71
  have hEE : (E == E) = true := by simp
  clear hTv hX7 t5 hb51 hb52
  go_wp2_with fail
  refine (sameT_calls _ _ U _ HTU8.out HTV8.out HSM.out).mono ?_
  rintro e w9 ⟨rfl, hX9⟩
  go_wp2
  go_ret
  exact ⟨rfl, HE8.out.trans' hX9⟩

end Go.Proofs.Ytfcpnggdpaeldaa
