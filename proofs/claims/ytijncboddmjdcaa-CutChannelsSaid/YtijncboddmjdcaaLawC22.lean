/-
  The statement CutChannels, walked.
-/
import Derived.Test.YtijncboddmjdcaaGa
import Derived.Test.YtijncboddmjdcaaProg
import Derived.BigQuiet
import Derived.Deep.QuietTactic
import Derived.Deep.LoopGhost
import Derived.Shelf.Abstract
import Derived.Test.YtijncboddmjdcaaGl
import Derived.Test.YtijncboddmjdcaaGm
import Derived.Test.YtijncboddmjdcaaGn
import Derived.Test.YtijncboddmjdcaaGp
namespace Go.Proofs.Ytijncboddmjdcaa
open Go.RowKit
set_option linter.unusedVariables false

abbrev prB (t : Tr) (p : Int) : Bool := decide (0 ≤ p) && decide (p < (t.length : Int))
theorem given_ch {t : Tr} {c : List Int} {p q : Int} : (givenE t [c, c] [] = 1 → givenE t [c] [p, q] = 1) ∧ (givenE t [c, c] [] ≠ 1 → prB t p = false → givenE t [c] [p, q] = 2) ∧
    (givenE t [c, c] [] ≠ 1 → prB t p = true → prB t q = false → givenE t [c] [p, q] = 2) ∧ (prB t p = true → prB t q = true → givenE t [c] [p, q] = givenE t [c, c] []) := by
  unfold givenE
  simp only [List.all_cons, List.all_nil, Bool.and_true, Bool.and_self, prB]
  generalize (decide (0 ≤ p) && decide (p < (t.length : Int))) = pb
  generalize (decide (0 ≤ q) && decide (q < (t.length : Int))) = qb
  generalize (missE t c).isNone = mb
  generalize validT t = vb
  cases vb <;> cases fitsB t c <;> cases rangeB t c <;> cases pb <;> cases qb <;> cases mb <;> simp

set_option maxHeartbeats 8000000 in
set_option maxRecDepth 100000 in
theorem cutChannels_calls (v vc : Value) (t : Tr) (c : List Int) (p q : Int) (w : World) (h : TrAt w v t) (htop : TopTr t) (hc : Ints w vc c) :
    Calls Try.prog 6 #[.agg #[v], vc, .int .i64 p, .int .i64 q] w fun e w' => e = .returned (.bool true) ∧ Ext w w' := by
  have HC := Lib.hid hc
  obtain ⟨ca, cc, rfl, hacc, _⟩ := hc
  obtain ⟨n, hnc⟩ : ∃ n, c.length = n := ⟨_, rfl⟩
  rw [hnc]
  rw [hnc] at HC
  have HNC := Lib.hid hnc
  clear hacc hnc
  have HT := Lib.hid h
  have HFC := Lib.hid (fun W (hW : Ext w W) => few22_calls v t W (h.ext hW) htop)
  obtain ⟨ta, tc, rfl, htc⟩ := h.sh
  obtain ⟨tn, htn⟩ : ∃ n, t.length = n := ⟨_, rfl⟩
  rw [htn] at HFC HT ⊢
  have HTN := Lib.hid htn
  have HX0 := Lib.hid (heap_alloc_new w (.cells #[.slice ta tn tc] 24))
  have HE1 := Lib.hid ((Ext.rf w).al (.cells #[.slice ta tn tc] 24))
  obtain ⟨fw, hfw⟩ : ∃ b, few22 t = b := ⟨_, rfl⟩
  rw [hfw] at HFC
  have HFW := Lib.hid hfw
  clear h htop hfw htc htn
  go_enter Try.func6, Try.ntmps6
  go_wp2_with fail
  refine (awake22_calls _).mono ?_
  rintro e w2 ⟨rfl, hX2⟩
  have HE2 := Lib.hid (HE1.out.trans' hX2)
  have HY2 := Lib.hid (hX2.hp HX0.out)
  have t2 := cellOf HY2.out 0
  simp only [List.getElem?_toArray, List.getElem?_cons_zero] at t2
  clear hX2
  go_wp2_with fail
  refine (HFC.out _ HE2.out).mono ?_
  rintro e w3 ⟨rfl, hX3⟩
  have HE3 := Lib.hid (HE2.out.trans' hX3)
  have HY3 := Lib.hid (hX3.hp HY2.out)
  have t3 := cellOf HY3.out 0
  simp only [List.getElem?_toArray, List.getElem?_cons_zero] at t3
  clear hX3 t2
  cases fw with
  | false =>
    go_wp2_with fail
    refine (awake22_calls _).mono ?_
    rintro e w4 ⟨rfl, hX4⟩
    go_wp2
    go_ret
    exact ⟨rfl, HE3.out.trans' hX4⟩
  | true =>
  by_cases h1 : 20 < n
  · have d1 : decide (20 < (n : Int)) = true := decide_eq_true (by omega)
    have d1n : decide (20 < n) = true := decide_eq_true h1
    clear h1
    go_wp2_with fail
    refine (awake22_calls _).mono ?_
    rintro e w4 ⟨rfl, hX4⟩
    go_wp2
    go_ret
    exact ⟨rfl, HE3.out.trans' hX4⟩
  have d1 : decide (20 < (n : Int)) = false := decide_eq_false (by omega)
  have d1n : decide (20 < n) = false := decide_eq_false h1
  have HLO := Lib.hid (few22_loose HFW.out).1
  have HC1 := Lib.hid (fun W (hW : Ext w W) => underWayP_calls _ _ t c p q W (HT.out.ext hW) HLO.out (HC.out.ext hW))
  have HC3 := Lib.hid (fun W (hW : Ext w W) => faultC_calls _ _ _ t c c W (HT.out.ext hW) HLO.out (HC.out.ext hW) (HC.out.ext hW))
  have HPR : Hid (SmallTr t → ∀ W, Ext w W → ∀ x, Calls Try.prog 27 #[.agg #[.slice ta tn tc], .int .i64 x] W fun e w' => e = .returned (.bool (prB t x)) ∧ Ext W w') := Lib.hid (fun hs W hW x => procR_calls _ t x W (HT.out.ext hW) hs)
  obtain ⟨ge, hge⟩ : ∃ E, givenE t [c] [p, q] = E := ⟨_, rfl⟩
  obtain ⟨f0, hf0⟩ : ∃ E, givenE t [c, c] [] = E := ⟨_, rfl⟩
  rw [hge] at HC1
  rw [hf0] at HC3
  have HGE := Lib.hid hge
  have HCH := Lib.hid (@given_ch t c p q)
  rw [hge, hf0] at HCH
  have HRNG : Hid (prB t p = true → 0 ≤ p ∧ p < (t.length : Int)) := Lib.hid (fun hp => by simpa [prB] using hp)
  by_cases he1 : f0 = 1
  · obtain rfl : ge = 1 := HCH.out.1 he1
    rw [if_neg (by decide)] at HC1
    subst he1
    clear h1 hge hf0 HGE
    go_wp2_with fail
    refine (HC1.out _ HE3.out).mono ?_
    rintro e w4 ⟨u4, rfl, hR4, hX4⟩
    obtain ⟨ua4, uc4, hu4, _⟩ := hR4.any
    subst hu4
    have HI4 := Lib.hid hR4.ints
    clear hR4
    have HE4 := Lib.hid (HE3.out.trans' hX4)
    have HY4 := Lib.hid (hX4.hp HY3.out)
    have t4 := cellOf HY4.out 0
    simp only [List.getElem?_toArray, List.getElem?_cons_zero] at t4
    have HXX4 := Lib.hid hX4
    clear hX4 t3
    go_wp2_with fail
    refine (HC3.out _ HE4.out).mono ?_
    rintro e w5 ⟨rfl, hX5⟩
    have HE5 := Lib.hid (HE4.out.trans' hX5)
    have HY5 := Lib.hid (hX5.hp HY4.out)
    have t5 := cellOf HY5.out 0
    simp only [List.getElem?_toArray, List.getElem?_cons_zero] at t5
    have HXX5 := Lib.hid hX5
    clear hX5 t4
    go_wp2
    go_ret
    exact ⟨by simp, HE5.out⟩
  have c1 : (f0 != 1) = true := by simp [he1]
  have HSM := Lib.hid (show SmallTr t from by
    have h9 := he1
    rw [← hf0] at h9
    refine valid_small ?_
    cases hv : validT t with
    | true => rfl
    | false => exact absurd (by unfold givenE; rw [hv]; rfl) h9)
  have HPR := Lib.hid (HPR.out HSM.out)
  cases hp : prB t p with
  | false =>
    obtain rfl : ge = 2 := HCH.out.2.1 he1 hp
    rw [if_neg (by decide)] at HC1
    have HPP := Lib.hid (fun W (hW : Ext w W) => HPR.out W hW p)
    rw [hp] at HPP
    clear h1 hge hf0 HGE hp he1
    go_wp2_with fail
    refine (HC1.out _ HE3.out).mono ?_
    rintro e w4 ⟨u4, rfl, hR4, hX4⟩
    obtain ⟨ua4, uc4, hu4, _⟩ := hR4.any
    subst hu4
    have HI4 := Lib.hid hR4.ints
    clear hR4
    have HE4 := Lib.hid (HE3.out.trans' hX4)
    have HY4 := Lib.hid (hX4.hp HY3.out)
    have t4 := cellOf HY4.out 0
    simp only [List.getElem?_toArray, List.getElem?_cons_zero] at t4
    have HXX4 := Lib.hid hX4
    clear hX4 t3
    go_wp2_with fail
    refine (HC3.out _ HE4.out).mono ?_
    rintro e w5 ⟨rfl, hX5⟩
    have HE5 := Lib.hid (HE4.out.trans' hX5)
    have HY5 := Lib.hid (hX5.hp HY4.out)
    have t5 := cellOf HY5.out 0
    simp only [List.getElem?_toArray, List.getElem?_cons_zero] at t5
    have HXX5 := Lib.hid hX5
    clear hX5 t4
    go_wp2_with fail
    refine (HPP.out _ HE5.out).mono ?_
    rintro e w6 ⟨rfl, hX6⟩
    have HE6 := Lib.hid (HE5.out.trans' hX6)
    have HY6 := Lib.hid (hX6.hp HY5.out)
    have t6 := cellOf HY6.out 0
    simp only [List.getElem?_toArray, List.getElem?_cons_zero] at t6
    have HXX6 := Lib.hid hX6
    clear hX6 t5
    go_wp2
    go_ret
    exact ⟨by simp, HE6.out⟩
  | true =>
  have HPP := Lib.hid (fun W (hW : Ext w W) => HPR.out W hW p)
  rw [hp] at HPP
  have HPQ := Lib.hid (fun W (hW : Ext w W) => HPR.out W hW q)
  cases hq : prB t q with
  | false =>
    obtain rfl : ge = 2 := HCH.out.2.2.1 he1 hp hq
    rw [if_neg (by decide)] at HC1
    rw [hq] at HPQ
    clear h1 hge hf0 HGE hp hq he1
    go_wp2_with fail
    refine (HC1.out _ HE3.out).mono ?_
    rintro e w4 ⟨u4, rfl, hR4, hX4⟩
    obtain ⟨ua4, uc4, hu4, _⟩ := hR4.any
    subst hu4
    have HI4 := Lib.hid hR4.ints
    clear hR4
    have HE4 := Lib.hid (HE3.out.trans' hX4)
    have HY4 := Lib.hid (hX4.hp HY3.out)
    have t4 := cellOf HY4.out 0
    simp only [List.getElem?_toArray, List.getElem?_cons_zero] at t4
    have HXX4 := Lib.hid hX4
    clear hX4 t3
    go_wp2_with fail
    refine (HC3.out _ HE4.out).mono ?_
    rintro e w5 ⟨rfl, hX5⟩
    have HE5 := Lib.hid (HE4.out.trans' hX5)
    have HY5 := Lib.hid (hX5.hp HY4.out)
    have t5 := cellOf HY5.out 0
    simp only [List.getElem?_toArray, List.getElem?_cons_zero] at t5
    have HXX5 := Lib.hid hX5
    clear hX5 t4
    go_wp2_with fail
    refine (HPP.out _ HE5.out).mono ?_
    rintro e w6 ⟨rfl, hX6⟩
    have HE6 := Lib.hid (HE5.out.trans' hX6)
    have HY6 := Lib.hid (hX6.hp HY5.out)
    have t6 := cellOf HY6.out 0
    simp only [List.getElem?_toArray, List.getElem?_cons_zero] at t6
    have HXX6 := Lib.hid hX6
    clear hX6 t5
    go_wp2_with fail
    refine (HPQ.out _ HE6.out).mono ?_
    rintro e w7 ⟨rfl, hX7⟩
    have HE7 := Lib.hid (HE6.out.trans' hX7)
    have HY7 := Lib.hid (hX7.hp HY6.out)
    have t7 := cellOf HY7.out 0
    simp only [List.getElem?_toArray, List.getElem?_cons_zero] at t7
    have HXX7 := Lib.hid hX7
    clear hX7 t6
    go_wp2
    go_ret
    exact ⟨by simp, HE7.out⟩
  | true =>
  rw [hq] at HPQ
  obtain rfl : ge = f0 := HCH.out.2.2.2 hp hq
  by_cases h0 : ge = 0
  case neg =>
    rw [if_neg h0] at HC1
    have c9 : (ge != 0) = true := by simp [h0]
    clear h1 hge hf0 hp hq he1 h0
    go_wp2_with fail
    refine (HC1.out _ HE3.out).mono ?_
    rintro e w4 ⟨u4, rfl, hR4, hX4⟩
    obtain ⟨ua4, uc4, hu4, _⟩ := hR4.any
    subst hu4
    have HI4 := Lib.hid hR4.ints
    clear hR4
    have HE4 := Lib.hid (HE3.out.trans' hX4)
    have HY4 := Lib.hid (hX4.hp HY3.out)
    have t4 := cellOf HY4.out 0
    simp only [List.getElem?_toArray, List.getElem?_cons_zero] at t4
    have HXX4 := Lib.hid hX4
    clear hX4 t3
    go_wp2_with fail
    refine (HC3.out _ HE4.out).mono ?_
    rintro e w5 ⟨rfl, hX5⟩
    have HE5 := Lib.hid (HE4.out.trans' hX5)
    have HY5 := Lib.hid (hX5.hp HY4.out)
    have t5 := cellOf HY5.out 0
    simp only [List.getElem?_toArray, List.getElem?_cons_zero] at t5
    have HXX5 := Lib.hid hX5
    clear hX5 t4
    go_wp2_with fail
    refine (HPP.out _ HE5.out).mono ?_
    rintro e w6 ⟨rfl, hX6⟩
    have HE6 := Lib.hid (HE5.out.trans' hX6)
    have HY6 := Lib.hid (hX6.hp HY5.out)
    have t6 := cellOf HY6.out 0
    simp only [List.getElem?_toArray, List.getElem?_cons_zero] at t6
    have HXX6 := Lib.hid hX6
    clear hX6 t5
    go_wp2_with fail
    refine (HPQ.out _ HE6.out).mono ?_
    rintro e w7 ⟨rfl, hX7⟩
    have HE7 := Lib.hid (HE6.out.trans' hX7)
    have HY7 := Lib.hid (hX7.hp HY6.out)
    have t7 := cellOf HY7.out 0
    simp only [List.getElem?_toArray, List.getElem?_cons_zero] at t7
    have HXX7 := Lib.hid hX7
    clear hX7 t6
    go_wp2
    go_ret
    exact ⟨by simp, HE7.out⟩
  case pos =>
    subst h0
    rw [if_pos rfl] at HC1
    have hg := givenE_ps hge
    have hrn := HRNG.out hp
    obtain ⟨P, rfl⟩ : ∃ P : Nat, p = (P : Int) := ⟨p.toNat, by omega⟩
    rw [Int.toNat_natCast] at HC1
    have HC4 := Lib.hid (fun W (hW : Ext w W) => underWayR_calls _ _ t c P q W (HT.out.ext hW) HSM.out (HC.out.ext hW) hg.2.1.1 (by omega))
    have HZ1 : Hid ((underC t c P q).length ≤ 1000000) := Lib.hid (by
      unfold underC
      have h9 := uwTo_len t c q P c[P]!.toNat
      have h8 := hg.2.1.1.at (p := P) (by omega)
      have h7 := (HSM.out.2 P (by omega)).2.1
      omega)
    generalize underC t c P q = J at *
    clear h1 hge hf0 hp hq he1 hg hrn c1
    go_wp2_with fail
    refine (HC1.out _ HE3.out).mono ?_
    rintro e w4 ⟨u4, rfl, hR4, hX4⟩
    obtain ⟨ua4, uc4, hu4, _⟩ := hR4.any
    subst hu4
    have HI4 := Lib.hid hR4.ints
    clear hR4
    have HE4 := Lib.hid (HE3.out.trans' hX4)
    have HY4 := Lib.hid (hX4.hp HY3.out)
    have t4 := cellOf HY4.out 0
    simp only [List.getElem?_toArray, List.getElem?_cons_zero] at t4
    have HXX4 := Lib.hid hX4
    clear hX4 t3
    go_wp2_with fail
    refine (HC3.out _ HE4.out).mono ?_
    rintro e w5 ⟨rfl, hX5⟩
    have HE5 := Lib.hid (HE4.out.trans' hX5)
    have HY5 := Lib.hid (hX5.hp HY4.out)
    have t5 := cellOf HY5.out 0
    simp only [List.getElem?_toArray, List.getElem?_cons_zero] at t5
    have HXX5 := Lib.hid hX5
    clear hX5 t4
    go_wp2_with fail
    refine (HPP.out _ HE5.out).mono ?_
    rintro e w6 ⟨rfl, hX6⟩
    have HE6 := Lib.hid (HE5.out.trans' hX6)
    have HY6 := Lib.hid (hX6.hp HY5.out)
    have t6 := cellOf HY6.out 0
    simp only [List.getElem?_toArray, List.getElem?_cons_zero] at t6
    have HXX6 := Lib.hid hX6
    clear hX6 t5
    go_wp2_with fail
    refine (HPQ.out _ HE6.out).mono ?_
    rintro e w7 ⟨rfl, hX7⟩
    have HE7 := Lib.hid (HE6.out.trans' hX7)
    have HY7 := Lib.hid (hX7.hp HY6.out)
    have t7 := cellOf HY7.out 0
    simp only [List.getElem?_toArray, List.getElem?_cons_zero] at t7
    have HXX7 := Lib.hid hX7
    clear hX7 t6
    go_wp2_with fail
    refine (HC4.out _ HE7.out).mono ?_
    rintro e w8 ⟨u8, rfl, hR8, hX8⟩
    obtain ⟨ua8, uc8, hu8, _⟩ := hR8.any
    subst hu8
    have HI8 := Lib.hid hR8.ints
    have HE8 := Lib.hid (HE7.out.trans' hX8)
    have HQ4 := Lib.hid (HI4.out.ext (HXX5.out.trans' (HXX6.out.trans' (HXX7.out.trans' hX8))))
    clear hR8 hX8
    go_wp2_with fail
    refine (eqT _ _ J _ HQ4.out HI8.out HZ1.out).mono ?_
    rintro e w9 ⟨rfl, hX9⟩
    go_wp2
    go_ret
    exact ⟨by simp, HE8.out.trans' hX9⟩

end Go.Proofs.Ytijncboddmjdcaa
