/-
  The statement TerminateCuts, walked.
-/
import Derived.Test.YtfcpnggdpaeldaaGreatJa
import Derived.Test.YtfcpnggdpaeldaaGreatProg
import Derived.BigQuiet
import Derived.Deep.QuietTactic
import Derived.Deep.LoopGhost
import Derived.Shelf.Abstract
import Derived.Test.YtfcpnggdpaeldaaGreatGd
import Derived.Test.YtfcpnggdpaeldaaGreatGy
import Derived.Test.YtfcpnggdpaeldaaGreatHa
import Derived.Test.YtfcpnggdpaeldaaGreatHf
namespace Go.Proofs.YtfcpnggdpaeldaaGreat
open Go.RowKit
set_option linter.unusedVariables false

set_option maxHeartbeats 16000000 in
set_option maxRecDepth 100000 in
theorem terminateCuts_calls (v vc vw : Value) (t : Tr) (s : ByteArray) (c : List Int) (ws : List (List Int)) (w : World) (h : TrAt w v t) (hc : Ints w vc c) (hw : Sl RInts 1 w vw ws) :
    Calls Tryz.prog 3 #[.agg #[v], .string s, vc, vw] w fun e w' => e = .returned (.bool true) ∧ Ext w w' := by
  have HFC := Lib.hid (fun W (hW : Ext w W) => few51_calls v t W (h.ext hW))
  have HLG := Lib.hid (fun W (hW : Ext w W) => long51_calls vw ws W (hw.ext rints_lasts hW))
  have HPC := Lib.hid (fun W (hW : Ext w W) hs => passP_calls v vc t s c W (h.ext hW) hs (hc.ext hW))
  have HTC := Lib.hid (fun W (hW : Ext w W) hs => termP_calls v vc t s c W (h.ext hW) hs (hc.ext hW))
  have HCP := Lib.hid (fun W (hW : Ext w W) hs hn => countingP_calls v vw t s ws W (h.ext hW) hs (hw.ext rints_lasts hW) hn)
  have HCR := Lib.hid (fun W (hW : Ext w W) hs hn => countingR_calls v vw t s ws W (h.ext hW) hs (hw.ext rints_lasts hW) hn)
  have HVR := Lib.hid (fun W (hW : Ext w W) hs => validR_calls v t W (h.ext hW) hs)
  have HHR := Lib.hid (fun W (hW : Ext w W) (hv : validT t = true) => hasR_calls v t s W (h.ext hW) hv)
  have HIR := Lib.hid (fun W (hW : Ext w W) (hv : validT t = true) => is51_calls v vc t c W (h.ext hW) hv (hc.ext hW))
  have HPR := Lib.hid (fun W (hW : Ext w W) (hv : validT t = true) (hh : hasT t s = true) (hb : consB t c = true) => passR_calls v vc t s c W (h.ext hW) hv hh (hc.ext hW) (consB_iff.1 hb).2.1)
  have HTR := Lib.hid (fun W (hW : Ext w W) (hv : validT t = true) (hh : hasT t s = true) (hb : consB t c = true) => termR_calls v vc t s c W (h.ext hW) hv hh (hc.ext hW) (consB_iff.1 hb).2.1)
  have HFL : Hid (few51T t = true → LooseTr t) := Lib.hid (fun h => (few51_loose h).1)
  have HLL : Hid (long51 ws = false → ws.length ≤ 1000000) := Lib.hid (fun h => by have := long51_len h; omega)
  have hbad : ∀ x, x ≠ 0 → pasE t s c = x → pasB t s c = false ∧ trmB t s c = false := fun x hx he => by
    unfold pasB trmB; rw [he, if_neg hx, if_neg hx]; exact ⟨rfl, rfl⟩
  have e1 : validT t = false → pasE t s c = 1 := fun h => by unfold pasE chkE; rw [h]; rfl
  have e2 : validT t = true → hasT t s = false → pasE t s c = 13 := fun h h2 => by unfold pasE chkE; rw [if_pos h, h2]; rfl
  have e3 : validT t = true → hasT t s = true → consB t c = false → pasE t s c = 18 := fun h h2 h3 => by unfold pasE chkE; rw [if_pos h, if_pos h2, h3]; rfl
  have e4 : validT t = true → hasT t s = true → consB t c = true → pasE t s c = 0 := fun h h2 h3 => by unfold pasE chkE; rw [if_pos h, if_pos h2, h3]; rfl
  have H1 : Hid (validT t = false → pasE t s c = 1 ∧ pasB t s c = false ∧ trmB t s c = false) := Lib.hid (fun h => ⟨e1 h, hbad 1 (by decide) (e1 h)⟩)
  have H2 : Hid (validT t = true → hasT t s = false → pasE t s c = 13 ∧ pasB t s c = false ∧ trmB t s c = false) := Lib.hid (fun h h2 => ⟨e2 h h2, hbad 13 (by decide) (e2 h h2)⟩)
  have H3 : Hid (validT t = true → hasT t s = true → consB t c = false → pasE t s c = 18 ∧ pasB t s c = false ∧ trmB t s c = false) := Lib.hid (fun h h2 h3 => ⟨e3 h h2 h3, hbad 18 (by decide) (e3 h h2 h3)⟩)
  have H4 : Hid (validT t = true → hasT t s = true → consB t c = true → pasE t s c = 0 ∧ pasB t s c = passB t s c ∧ trmB t s c = termB t s c) := Lib.hid (fun h h2 h3 => ⟨e4 h h2 h3, by unfold pasB; rw [if_pos (e4 h h2 h3)], by unfold trmB; rw [if_pos (e4 h h2 h3)]⟩)
  obtain ⟨ta, tc, rfl, htc⟩ := h.sh
  obtain ⟨ca, cc, rfl, hlc, _⟩ := hc
  obtain ⟨wa, wc, rfl, hwc⟩ := hw.shape
  clear h hw hbad e1 e2 e3 e4 hlc hwc htc
  generalize few51T t = fb at *
  generalize long51 ws = lb at *
  generalize pasE t s c = PE at *
  generalize pasB t s c = PB at *
  generalize trmB t s c = TB at *
  generalize passB t s c = PQ at *
  generalize termB t s c = TQ at *
  generalize cgK t s ws = K at *
  generalize cgE t s ws = E at *
  generalize validT t = vb at *
  generalize hasT t s = hb at *
  generalize consB t c = cb at *
  generalize t.length = tn at *
  generalize c.length = cl at *
  generalize ws.length = wl at *
  have HY1 := Lib.hid (heap_alloc_new w (.cells #[.slice ta tn tc] 24))
  have HE1 := Lib.hid ((Ext.rf w).al (.cells #[.slice ta tn tc] 24))
  have t1 := cellOf HY1.out 0
  simp only [List.getElem?_toArray, List.getElem?_cons_zero] at t1
  go_enter Tryz.func3, Tryz.ntmps3
  go_wp2_with fail
  refine (awake_calls _).mono ?_
  rintro e w2 ⟨rfl, hX2⟩
  have HE2 := Lib.hid (HE1.out.trans' hX2)
  have HY2 := Lib.hid (hX2.hp HY1.out)
  have t2 := cellOf HY2.out 0
  simp only [List.getElem?_toArray, List.getElem?_cons_zero] at t2
  have HXX2 := Lib.hid hX2
  clear hX2 t1
  go_wp2_with fail
  refine (HFC.out _ HE2.out).mono ?_
  rintro e w3 ⟨rfl, hX3⟩
  have HE3 := Lib.hid (HE2.out.trans' hX3)
  have HY3 := Lib.hid (hX3.hp HY2.out)
  have t3 := cellOf HY3.out 0
  simp only [List.getElem?_toArray, List.getElem?_cons_zero] at t3
  have HXX3 := Lib.hid hX3
  clear hX3 t2
  cases fb with
  | false =>
    go_wp2
    go_ret
    exact ⟨rfl, HE3.out⟩
  | true =>
  have HLO := Lib.hid (HFL.out (by trivial))
  by_cases hcl : 20 < cl
  case pos =>
    have d1 : decide (20 < (cl : Int)) = true := decide_eq_true (by omega)
    clear hcl
    go_wp2
    go_ret
    exact ⟨rfl, HE3.out⟩
  case neg =>
  have d1 : decide (20 < (cl : Int)) = false := decide_eq_false (by omega)
  clear hcl
  go_wp2_with fail
  refine (HLG.out _ HE3.out).mono ?_
  rintro e w4 ⟨rfl, hX4⟩
  have HE4 := Lib.hid (HE3.out.trans' hX4)
  have HY4 := Lib.hid (hX4.hp HY3.out)
  have t4 := cellOf HY4.out 0
  simp only [List.getElem?_toArray, List.getElem?_cons_zero] at t4
  have HXX4 := Lib.hid hX4
  clear hX4 t3
  cases lb with
  | true =>
    go_wp2
    go_ret
    exact ⟨rfl, HE4.out⟩
  | false =>
  have HLN := Lib.hid (HLL.out (by trivial))
  clear d1
  go_wp2_with fail
  refine (HPC.out _ HE4.out HLO.out).mono ?_
  rintro e w5 ⟨rfl, hX5⟩
  have HE5 := Lib.hid (HE4.out.trans' hX5)
  have HY5 := Lib.hid (hX5.hp HY4.out)
  have t5 := cellOf HY5.out 0
  simp only [List.getElem?_toArray, List.getElem?_cons_zero] at t5
  have HXX5 := Lib.hid hX5
  clear hX5 t4
  go_wp2_with fail
  refine (HTC.out _ HE5.out HLO.out).mono ?_
  rintro e w6 ⟨rfl, hX6⟩
  have HE6 := Lib.hid (HE5.out.trans' hX6)
  have HY6 := Lib.hid (hX6.hp HY5.out)
  have t6 := cellOf HY6.out 0
  simp only [List.getElem?_toArray, List.getElem?_cons_zero] at t6
  have HXX6 := Lib.hid hX6
  clear hX6 t5
  go_wp2_with fail
  refine (HCP.out _ HE6.out HLO.out HLN.out).mono ?_
  rintro e w7 ⟨rfl, hX7⟩
  have HE7 := Lib.hid (HE6.out.trans' hX7)
  have HY7 := Lib.hid (hX7.hp HY6.out)
  have t7 := cellOf HY7.out 0
  simp only [List.getElem?_toArray, List.getElem?_cons_zero] at t7
  have HXX7 := Lib.hid hX7
  clear hX7 t6
  go_wp2_with fail
  refine (HCR.out _ HE7.out HLO.out HLN.out).mono ?_
  rintro e w8 ⟨rfl, hX8⟩
  have HE8 := Lib.hid (HE7.out.trans' hX8)
  have HY8 := Lib.hid (hX8.hp HY7.out)
  have t8 := cellOf HY8.out 0
  simp only [List.getElem?_toArray, List.getElem?_cons_zero] at t8
  have HXX8 := Lib.hid hX8
  clear hX8 t7
  have dK : (K != K) = false := by simp
  have dE : (E != E) = false := by simp
  go_wp2_with fail
  refine (HVR.out _ HE8.out HLO.out).mono ?_
  rintro e w9 ⟨rfl, hX9⟩
  have HE9 := Lib.hid (HE8.out.trans' hX9)
  have HY9 := Lib.hid (hX9.hp HY8.out)
  have t9 := cellOf HY9.out 0
  simp only [List.getElem?_toArray, List.getElem?_cons_zero] at t9
  have HXX9 := Lib.hid hX9
  clear hX9 t8
  cases vb with
  | false =>
    obtain ⟨rfl, rfl, rfl⟩ := H1.out (by trivial)
    go_wp2
    go_ret
    exact ⟨rfl, HE9.out⟩
  | true =>
  go_wp2_with fail
  refine (HHR.out _ HE9.out (by trivial)).mono ?_
  rintro e w10 ⟨rfl, hX10⟩
  have HE10 := Lib.hid (HE9.out.trans' hX10)
  have HY10 := Lib.hid (hX10.hp HY9.out)
  have t10 := cellOf HY10.out 0
  simp only [List.getElem?_toArray, List.getElem?_cons_zero] at t10
  have HXX10 := Lib.hid hX10
  clear hX10 t9
  cases hb with
  | false =>
    obtain ⟨rfl, rfl, rfl⟩ := H2.out (by trivial) (by trivial)
    go_wp2
    go_ret
    exact ⟨rfl, HE10.out⟩
  | true =>
  go_wp2_with fail
  refine (HIR.out _ HE10.out (by trivial)).mono ?_
  rintro e w11 ⟨rfl, hX11⟩
  have HE11 := Lib.hid (HE10.out.trans' hX11)
  have HY11 := Lib.hid (hX11.hp HY10.out)
  have t11 := cellOf HY11.out 0
  simp only [List.getElem?_toArray, List.getElem?_cons_zero] at t11
  have HXX11 := Lib.hid hX11
  clear hX11 t10
  cases cb with
  | false =>
    obtain ⟨rfl, rfl, rfl⟩ := H3.out (by trivial) (by trivial) (by trivial)
    go_wp2
    go_ret
    exact ⟨rfl, HE11.out⟩
  | true =>
  obtain ⟨rfl, rfl, rfl⟩ := H4.out (by trivial) (by trivial) (by trivial)
  go_wp2_with fail
  refine (HPR.out _ HE11.out (by trivial) (by trivial) (by trivial)).mono ?_
  rintro e w12 ⟨rfl, hX12⟩
  have HE12 := Lib.hid (HE11.out.trans' hX12)
  have HY12 := Lib.hid (hX12.hp HY11.out)
  have t12 := cellOf HY12.out 0
  simp only [List.getElem?_toArray, List.getElem?_cons_zero] at t12
  have HXX12 := Lib.hid hX12
  clear hX12 t11
  have d2 : (PB == PB) = true := by simp
  have d3 : (TB == TB) = true := by simp
  go_wp2_with fail
  refine (HTR.out _ HE12.out (by trivial) (by trivial) (by trivial)).mono ?_
  rintro e w13 ⟨rfl, hX13⟩
  have HE13 := Lib.hid (HE12.out.trans' hX13)
  have HY13 := Lib.hid (hX13.hp HY12.out)
  have t13 := cellOf HY13.out 0
  simp only [List.getElem?_toArray, List.getElem?_cons_zero] at t13
  have HXX13 := Lib.hid hX13
  clear hX13 t12
  go_wp2
  go_ret
  exact ⟨rfl, HE13.out⟩

end Go.Proofs.YtfcpnggdpaeldaaGreat
