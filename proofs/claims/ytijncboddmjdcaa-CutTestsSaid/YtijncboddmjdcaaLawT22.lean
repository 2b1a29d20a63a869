/-
  The statement CutTests, walked.
-/
import Derived.Test.YtijncboddmjdcaaGa
import Derived.Test.YtijncboddmjdcaaProg
import Derived.BigQuiet
import Derived.Deep.QuietTactic
import Derived.Deep.LoopGhost
import Derived.Shelf.Abstract
import Derived.Test.YtijncboddmjdcaaGl
import Derived.Test.YtijncboddmjdcaaGm
import Derived.Test.YtijncboddmjdcaaGj
namespace Go.Proofs.Ytijncboddmjdcaa
open Go.RowKit
set_option linter.unusedVariables false

set_option maxHeartbeats 8000000 in
set_option maxRecDepth 100000 in
theorem cutTests_calls (v va vb : Value) (t : Tr) (a b : List Int) (w : World) (h : TrAt w v t) (htop : TopTr t) (ha : Ints w va a) (hb : Ints w vb b) :
    Calls Try.prog 3 #[.agg #[v], va, vb] w fun e w' => e = .returned (.bool true) ∧ Ext w w' := by
  have HA := Lib.hid ha
  have HB := Lib.hid hb
  obtain ⟨aa, ac, rfl, hac, _⟩ := ha
  obtain ⟨ba, bc, rfl, hbc, _⟩ := hb
  obtain ⟨n, hna⟩ : ∃ n, a.length = n := ⟨_, rfl⟩
  obtain ⟨m, hnb⟩ : ∃ n, b.length = n := ⟨_, rfl⟩
  rw [hna, hnb]
  rw [hna] at HA
  rw [hnb] at HB
  have HNA := Lib.hid hna
  have HNB := Lib.hid hnb
  clear hac hbc hna hnb
  have HT := Lib.hid h
  have HFC := Lib.hid (fun W (hW : Ext w W) => few22_calls v t W (h.ext hW) htop)
  obtain ⟨ta, tc, rfl, htc⟩ := h.sh
  obtain ⟨tn, htn⟩ : ∃ n, t.length = n := ⟨_, rfl⟩
  rw [htn] at HFC HT ⊢
  have HTN := Lib.hid htn
  have HX0 := Lib.hid (heap_alloc_new w (.cells #[.slice ta tn tc] 24))
  have HE1 := Lib.hid ((Ext.rf w).al (.cells #[.slice ta tn tc] 24))
  obtain ⟨fw, hfw⟩ : ∃ b, few22 t = b := ⟨_, rfl⟩
  rw [hfw] at HFC
  have HFW := Lib.hid hfw
  clear h htop hfw htc htn
  go_enter Try.func3, Try.ntmps3
  go_wp2_with fail
  refine (awake22_calls _).mono ?_
  rintro e w2 ⟨rfl, hX2⟩
  have HE2 := Lib.hid (HE1.out.trans' hX2)
  have HY2 := Lib.hid (hX2.hp HX0.out)
  have t2 := cellOf HY2.out 0
  simp only [List.getElem?_toArray, List.getElem?_cons_zero] at t2
  clear hX2
  go_wp2_with fail
  refine (HFC.out _ HE2.out).mono ?_
  rintro e w3 ⟨rfl, hX3⟩
  have HE3 := Lib.hid (HE2.out.trans' hX3)
  have HY3 := Lib.hid (hX3.hp HY2.out)
  have t3 := cellOf HY3.out 0
  simp only [List.getElem?_toArray, List.getElem?_cons_zero] at t3
  clear hX3 t2
  cases fw with
  | false =>
    go_wp2_with fail
    refine (awake22_calls _).mono ?_
    rintro e w4 ⟨rfl, hX4⟩
    go_wp2
    go_ret
    exact ⟨rfl, HE3.out.trans' hX4⟩
  | true =>
  by_cases h1 : 20 < n
  · have d1 : decide (20 < (n : Int)) = true := decide_eq_true (by omega)
    have d1n : decide (20 < n) = true := decide_eq_true h1
    clear h1
    go_wp2_with fail
    refine (awake22_calls _).mono ?_
    rintro e w4 ⟨rfl, hX4⟩
    go_wp2
    go_ret
    exact ⟨rfl, HE3.out.trans' hX4⟩
  have d1 : decide (20 < (n : Int)) = false := decide_eq_false (by omega)
  have d1n : decide (20 < n) = false := decide_eq_false h1
  by_cases h2 : 20 < m
  · have d2 : decide (20 < (m : Int)) = true := decide_eq_true (by omega)
    have d2n : decide (20 < m) = true := decide_eq_true h2
    clear h1 h2
    go_wp2_with fail
    refine (awake22_calls _).mono ?_
    rintro e w4 ⟨rfl, hX4⟩
    go_wp2
    go_ret
    exact ⟨rfl, HE3.out.trans' hX4⟩
  have d2 : decide (20 < (m : Int)) = false := decide_eq_false (by omega)
  have d2n : decide (20 < m) = false := decide_eq_false h2
  have HLO := Lib.hid (few22_loose HFW.out).1
  have HC1 := Lib.hid (fun W (hW : Ext w W) => consistentP_calls _ _ t a W (HT.out.ext hW) HLO.out (HA.out.ext hW))
  have HC2 := Lib.hid (fun W (hW : Ext w W) => consistentR_calls _ _ t a W (HT.out.ext hW) HLO.out (HA.out.ext hW))
  have HC3 := Lib.hid (fun W (hW : Ext w W) => leqP_calls _ _ a b W (HA.out.ext hW) (HB.out.ext hW) (by rw [HNA.out]; omega) (by rw [HNB.out]; omega))
  have HC4 := Lib.hid (fun W (hW : Ext w W) => leqR_calls _ _ a b W (HA.out.ext hW) (HB.out.ext hW) (by rw [HNA.out]; omega) (by rw [HNB.out]; omega))
  generalize consB t a = cb at *
  generalize leCB a b = lb at *
  clear h1 h2
  go_wp2
  go_region_with (first | (go_at_call 14; refine (HC1.out _ (by first | exact HE3.out | exact HE3.out.dr | exact HE3.out.dr.dr)).mono ?_; rintro e w4 ⟨rfl, hX4⟩; have t4 : w4.cell? ⟨w.heap.size, 0, none⟩ = some (.slice ta tn tc) := hX4.cl t3; have HE4 := Lib.hid (show Ext w w4 from by first | exact HE3.out.trans' hX4 | exact HE3.out.dr.trans' hX4 | exact HE3.out.dr.dr.trans' hX4); clear hX4) | (go_at_call 15; refine (HC2.out _ (by first | exact HE4.out | exact HE4.out.dr)).mono ?_; rintro e w5 ⟨rfl, hX5⟩; have HE5 := Lib.hid (show Ext w w5 from by first | exact HE4.out.trans' hX5 | exact HE4.out.dr.trans' hX5); clear hX5) | (go_at_call 16; refine (HC3.out _ (by first | exact HE5.out | exact HE5.out.dr)).mono ?_; rintro e w6 ⟨rfl, hX6⟩; have HE6 := Lib.hid (show Ext w w6 from by first | exact HE5.out.trans' hX6 | exact HE5.out.dr.trans' hX6); clear hX6) | (go_at_call 17; refine (HC4.out _ (by first | exact HE6.out | exact HE6.out.dr)).mono ?_; rintro e w7 ⟨rfl, hX7⟩; have HE7 := Lib.hid (show Ext w w7 from by first | exact HE6.out.trans' hX7 | exact HE6.out.dr.trans' hX7); clear hX7))
  all_goals
    go_wp2
    go_ret
    exact ⟨rfl, by first | exact HE7.out | exact HE7.out.dr⟩

end Go.Proofs.Ytijncboddmjdcaa
