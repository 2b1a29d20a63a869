/-
  The statement CutJoins, walked.
-/
import Derived.Test.YtijncboddmjdcaaGa
import Derived.Test.YtijncboddmjdcaaProg
import Derived.BigQuiet
import Derived.Deep.QuietTactic
import Derived.Deep.LoopGhost
import Derived.Shelf.Abstract
import Derived.Test.YtijncboddmjdcaaGl
import Derived.Test.YtijncboddmjdcaaGm
import Derived.Test.YtijncboddmjdcaaGn
namespace Go.Proofs.Ytijncboddmjdcaa
open Go.RowKit
set_option linter.unusedVariables false

theorem givenE_fits {t : Tr} {a b : List Int} (h : givenE t [a, b] [] = 0) : validT t = true ∧ ConsC t a ∧ ConsC t b := by
  unfold givenE at h
  simp only [List.all_cons, List.all_nil, Bool.and_true] at h
  split at h
  · rename_i h1
    split at h
    · rename_i h2
      simp only [if_true] at h
      split at h
      · rename_i h4
        simp only [Bool.and_eq_true, Option.isNone_iff_eq_none] at h1 h2 h4
        exact ⟨h1.1, ⟨⟨of_decide_eq_true h1.2.1, h2.1⟩, h4.1⟩, ⟨⟨of_decide_eq_true h1.2.2, h2.2⟩, h4.2⟩⟩
      · simp at h
    · simp at h
  · simp at h

set_option maxHeartbeats 8000000 in
set_option maxRecDepth 100000 in
theorem cutJoins_calls (v va vb : Value) (t : Tr) (a b : List Int) (w : World) (h : TrAt w v t) (htop : TopTr t) (ha : Ints w va a) (hb : Ints w vb b) :
    Calls Try.prog 4 #[.agg #[v], va, vb] w fun e w' => e = .returned (.bool true) ∧ Ext w w' := by
  have HA := Lib.hid ha
  obtain ⟨aa, ac, rfl, haca, _⟩ := ha
  obtain ⟨n, hna⟩ : ∃ n, a.length = n := ⟨_, rfl⟩
  rw [hna]
  rw [hna] at HA
  have HNA := Lib.hid hna
  clear haca hna
  have HB := Lib.hid hb
  obtain ⟨ba, bc, rfl, hacb, _⟩ := hb
  obtain ⟨m, hnb⟩ : ∃ n, b.length = n := ⟨_, rfl⟩
  rw [hnb]
  rw [hnb] at HB
  have HNB := Lib.hid hnb
  clear hacb hnb
  have HT := Lib.hid h
  have HFC := Lib.hid (fun W (hW : Ext w W) => few22_calls v t W (h.ext hW) htop)
  obtain ⟨ta, tc, rfl, htc⟩ := h.sh
  obtain ⟨tn, htn⟩ : ∃ n, t.length = n := ⟨_, rfl⟩
  rw [htn] at HFC HT ⊢
  have HTN := Lib.hid htn
  have HX0 := Lib.hid (heap_alloc_new w (.cells #[.slice ta tn tc] 24))
  have HE1 := Lib.hid ((Ext.rf w).al (.cells #[.slice ta tn tc] 24))
  obtain ⟨fw, hfw⟩ : ∃ b, few22 t = b := ⟨_, rfl⟩
  rw [hfw] at HFC
  have HFW := Lib.hid hfw
  clear h htop hfw htc htn
  go_enter Try.func4, Try.ntmps4
  go_wp2_with fail
  refine (awake22_calls _).mono ?_
  rintro e w2 ⟨rfl, hX2⟩
  have HE2 := Lib.hid (HE1.out.trans' hX2)
  have HY2 := Lib.hid (hX2.hp HX0.out)
  have t2 := cellOf HY2.out 0
  simp only [List.getElem?_toArray, List.getElem?_cons_zero] at t2
  clear hX2
  go_wp2_with fail
  refine (HFC.out _ HE2.out).mono ?_
  rintro e w3 ⟨rfl, hX3⟩
  have HE3 := Lib.hid (HE2.out.trans' hX3)
  have HY3 := Lib.hid (hX3.hp HY2.out)
  have t3 := cellOf HY3.out 0
  simp only [List.getElem?_toArray, List.getElem?_cons_zero] at t3
  clear hX3 t2
  cases fw with
  | false =>
    go_wp2_with fail
    refine (awake22_calls _).mono ?_
    rintro e w4 ⟨rfl, hX4⟩
    go_wp2
    go_ret
    exact ⟨rfl, HE3.out.trans' hX4⟩
  | true =>
  by_cases h1 : 20 < n
  · have d1 : decide (20 < (n : Int)) = true := decide_eq_true (by omega)
    have d1n : decide (20 < n) = true := decide_eq_true h1
    clear h1
    go_wp2_with fail
    refine (awake22_calls _).mono ?_
    rintro e w4 ⟨rfl, hX4⟩
    go_wp2
    go_ret
    exact ⟨rfl, HE3.out.trans' hX4⟩
  have d1 : decide (20 < (n : Int)) = false := decide_eq_false (by omega)
  have d1n : decide (20 < n) = false := decide_eq_false h1
  by_cases h2 : 20 < m
  · have d2 : decide (20 < (m : Int)) = true := decide_eq_true (by omega)
    have d2n : decide (20 < m) = true := decide_eq_true h2
    clear h1 h2
    go_wp2_with fail
    refine (awake22_calls _).mono ?_
    rintro e w4 ⟨rfl, hX4⟩
    go_wp2
    go_ret
    exact ⟨rfl, HE3.out.trans' hX4⟩
  have d2 : decide (20 < (m : Int)) = false := decide_eq_false (by omega)
  have d2n : decide (20 < m) = false := decide_eq_false h2
  have HLO := Lib.hid (few22_loose HFW.out).1
  have HC1 := Lib.hid (fun W (hW : Ext w W) => joinP_calls _ _ _ t a b W (HT.out.ext hW) HLO.out (HA.out.ext hW) (HB.out.ext hW))
  have HC2 := Lib.hid (fun W (hW : Ext w W) => meetP_calls _ _ _ t a b W (HT.out.ext hW) HLO.out (HA.out.ext hW) (HB.out.ext hW))
  have HC3 := Lib.hid (fun W (hW : Ext w W) => faultC_calls _ _ _ t a b W (HT.out.ext hW) HLO.out (HA.out.ext hW) (HB.out.ext hW))
  obtain ⟨ge, hge⟩ : ∃ E, givenE t [a, b] [] = E := ⟨_, rfl⟩
  rw [hge] at HC1 HC2 HC3
  have HGE := Lib.hid hge
  by_cases h0 : ge = 0
  case neg =>
    rw [if_neg h0] at HC1 HC2
    have c9 : (ge != 0) = true := by simp [h0]
    clear h0 h1 h2 hge
    go_wp2_with fail
    refine (HC1.out _ HE3.out).mono ?_
    rintro e w4 ⟨u4, rfl, hR4, hX4⟩
    obtain ⟨ua4, uc4, hu4, _⟩ := hR4.any
    subst hu4
    have HI4 := Lib.hid hR4.ints
    clear hR4
    have HE4 := Lib.hid (HE3.out.trans' hX4)
    have HY4 := Lib.hid (hX4.hp HY3.out)
    have t4 := cellOf HY4.out 0
    simp only [List.getElem?_toArray, List.getElem?_cons_zero] at t4
    have HXX4 := Lib.hid hX4
    clear hX4 t3
    go_wp2_with fail
    refine (HC2.out _ HE4.out).mono ?_
    rintro e w5 ⟨u5, rfl, hR5, hX5⟩
    obtain ⟨ua5, uc5, hu5, _⟩ := hR5.any
    subst hu5
    have HI5 := Lib.hid hR5.ints
    clear hR5
    have HE5 := Lib.hid (HE4.out.trans' hX5)
    have HY5 := Lib.hid (hX5.hp HY4.out)
    have t5 := cellOf HY5.out 0
    simp only [List.getElem?_toArray, List.getElem?_cons_zero] at t5
    have HXX5 := Lib.hid hX5
    clear hX5 t4
    go_wp2_with fail
    refine (HC3.out _ HE5.out).mono ?_
    rintro e w6 ⟨rfl, hX6⟩
    have HE6 := Lib.hid (HE5.out.trans' hX6)
    have HY6 := Lib.hid (hX6.hp HY5.out)
    have t6 := cellOf HY6.out 0
    simp only [List.getElem?_toArray, List.getElem?_cons_zero] at t6
    have HXX6 := Lib.hid hX6
    clear hX6 t5
    go_wp2
    go_ret
    exact ⟨by simp, HE6.out⟩
  case pos =>
    subst h0
    rw [if_pos rfl] at HC1 HC2
    have HGF := Lib.hid (givenE_fits hge)
    have HLL := Lib.hid (show a.length = b.length from by rw [HGF.out.2.1.1.1, HGF.out.2.2.1.1])
    have HC4 := Lib.hid (fun W (hW : Ext w W) => joinR_calls _ _ a b W (HA.out.ext hW) (HB.out.ext hW) HLL.out (by rw [HNA.out]; omega))
    have HC5 := Lib.hid (fun W (hW : Ext w W) => meetR_calls _ _ a b W (HA.out.ext hW) (HB.out.ext hW) HLL.out (by rw [HNA.out]; omega))
    have HZ1 : Hid ((joinC a b).length ≤ 1000000) := Lib.hid (by rw [joinC, zipC_len, HNA.out]; omega)
    have HZ2 : Hid ((meetC a b).length ≤ 1000000) := Lib.hid (by rw [meetC, zipC_len, HNA.out]; omega)
    generalize joinC a b = J at *
    generalize meetC a b = K at *
    clear h1 h2 hge
    go_wp2_with fail
    refine (HC1.out _ HE3.out).mono ?_
    rintro e w4 ⟨u4, rfl, hR4, hX4⟩
    obtain ⟨ua4, uc4, hu4, _⟩ := hR4.any
    subst hu4
    have HI4 := Lib.hid hR4.ints
    clear hR4
    have HE4 := Lib.hid (HE3.out.trans' hX4)
    have HY4 := Lib.hid (hX4.hp HY3.out)
    have t4 := cellOf HY4.out 0
    simp only [List.getElem?_toArray, List.getElem?_cons_zero] at t4
    have HXX4 := Lib.hid hX4
    clear hX4 t3
    go_wp2_with fail
    refine (HC2.out _ HE4.out).mono ?_
    rintro e w5 ⟨u5, rfl, hR5, hX5⟩
    obtain ⟨ua5, uc5, hu5, _⟩ := hR5.any
    subst hu5
    have HI5 := Lib.hid hR5.ints
    clear hR5
    have HE5 := Lib.hid (HE4.out.trans' hX5)
    have HY5 := Lib.hid (hX5.hp HY4.out)
    have t5 := cellOf HY5.out 0
    simp only [List.getElem?_toArray, List.getElem?_cons_zero] at t5
    have HXX5 := Lib.hid hX5
    clear hX5 t4
    go_wp2_with fail
    refine (HC3.out _ HE5.out).mono ?_
    rintro e w6 ⟨rfl, hX6⟩
    have HE6 := Lib.hid (HE5.out.trans' hX6)
    have HY6 := Lib.hid (hX6.hp HY5.out)
    have t6 := cellOf HY6.out 0
    simp only [List.getElem?_toArray, List.getElem?_cons_zero] at t6
    have HXX6 := Lib.hid hX6
    clear hX6 t5
    go_wp2_with fail
    refine (HC4.out _ HE6.out).mono ?_
    rintro e w7 ⟨u7, rfl, hR7, hX7⟩
    obtain ⟨ua7, uc7, hu7, _⟩ := hR7.any
    subst hu7
    have HI7 := Lib.hid hR7.ints
    have HE7 := Lib.hid (HE6.out.trans' hX7)
    have HQ4 := Lib.hid (HI4.out.ext (HXX5.out.trans' (HXX6.out.trans' hX7)))
    have HQ5 := Lib.hid (HI5.out.ext (HXX6.out.trans' hX7))
    clear hR7 hX7
    go_wp2_with fail
    refine (eqT _ _ J _ HQ4.out HI7.out HZ1.out).mono ?_
    rintro e w8 ⟨rfl, hX8⟩
    have HE8 := Lib.hid (HE7.out.trans' hX8)
    have HQ5 := Lib.hid (HQ5.out.ext hX8)
    clear hX8
    go_wp2_with fail
    refine (HC5.out _ HE8.out).mono ?_
    rintro e w9 ⟨u9, rfl, hR9, hX9⟩
    obtain ⟨ua9, uc9, hu9, _⟩ := hR9.any
    subst hu9
    have HI9 := Lib.hid hR9.ints
    have HE9 := Lib.hid (HE8.out.trans' hX9)
    have HQ5 := Lib.hid (HQ5.out.ext hX9)
    clear hR9 hX9
    go_wp2_with fail
    refine (eqT _ _ K _ HQ5.out HI9.out HZ2.out).mono ?_
    rintro e w10 ⟨rfl, hX10⟩
    go_wp2
    go_ret
    exact ⟨by simp, HE9.out.trans' hX10⟩

end Go.Proofs.Ytijncboddmjdcaa
