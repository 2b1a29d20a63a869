/-
  The statement CutIdeals, walked.
-/
import Derived.Test.YtbpdbikphlhaiaaGreatDoorGa
import Derived.Test.YtbpdbikphlhaiaaGreatDoorProg
import Derived.BigQuiet
import Derived.Deep.QuietTactic
import Derived.Deep.LoopGhost
import Derived.Shelf.Abstract
import Derived.Test.YtbpdbikphlhaiaaGreatDoorGh
import Derived.Test.YtbpdbikphlhaiaaGreatDoorGo
import Derived.Test.YtbpdbikphlhaiaaGreatDoorGi
import Derived.Test.YtbpdbikphlhaiaaGreatDoorGm
import Derived.Test.YtbpdbikphlhaiaaGreatDoorGn
namespace Go.Proofs.YtbpdbikphlhaiaaGreatDoor
open Go.RowKit
set_option linter.unusedVariables false
set_option maxHeartbeats 2000000 in
theorem countF_calls (v : Value) (t : Tr) (w : World) (h : TrAt w v t) (hl : LooseTr t) (hv : validT t = false) :
  Calls Tryz.prog 6 #[.agg #[v]] w fun e w' => e = .returned (.int .i64 0) ∧ Ext w w' := by
 have HVC := Lib.hid (fun W (hW : Ext w W) => validR_calls v t W (h.ext hW) hl)
 rw [hv] at HVC
 obtain ⟨ta, tc, rfl, htc⟩ := h.sh
 generalize t.length = n at *
 have HY1 := Lib.hid (heap_alloc_new w (.cells #[.slice ta n tc] 24))
 have HE1 := Lib.hid ((Ext.rf w).al (.cells #[.slice ta n tc] 24))
 clear h hv hl
 go_enter Tryz.func6, Tryz.ntmps6
 go_wp2_with fail
 refine (HVC.out _ HE1.out).mono ?_
 rintro e w2 ⟨rfl, hX⟩
 have HE2 := Lib.hid (HE1.out.trans' hX)
 have HY2 := Lib.hid (hX.hp HY1.out)
 have t2 := cellOf HY2.out 0
 simp only [List.getElem?_toArray, List.getElem?_cons_zero] at t2
 clear hX
 go_wp2
 go_ret
 exact ⟨rfl, HE2.out⟩
def memTo (t : Tr) (c : List Int) (p i : Nat) : List Nat := (idsCTo c p i).map (numE t)
theorem memTo_succ (t : Tr) (c : List Int) (p i : Nat) : memTo t c p (i + 1) = memTo t c p i ++ [numE t (p, i)] := by unfold memTo; rw [idsCTo_succ, List.map_append]; rfl
theorem memTo_next (t : Tr) (c : List Int) (p : Nat) : memTo t c p c[p]!.toNat = memTo t c (p + 1) 0 := by unfold memTo; rw [idsCTo_next]
theorem memTo_len {t : Tr} {c : List Int} (hr : RangeC t c) (h64 : ∀ p, p < t.length → t[p]!.events.length ≤ 64) : ∀ p i, p ≤ t.length → i ≤ 64 → (memTo t c p i).length ≤ 64 * p + i := by
 intro p
 induction p with
 | zero => intro i _ _; simp [memTo, idsCTo]
 | succ p ih =>
   intro i hp hi
   have h2 : c[p]!.toNat ≤ 64 := by have := hr.at (p := p) (by omega); have := h64 p (by omega); omega
   have h1 := ih c[p]!.toNat (by omega) h2
   have e : (memTo t c (p + 1) i).length = (memTo t c (p + 1) 0).length + i := by simp [memTo, idsCTo]
   rw [e, ← memTo_next]; omega
theorem ideal_eq {t : Tr} {c : List Int} (hv : validT t = true) (hr : RangeC t c) : decide (orW (wordOf (membC t c)) (upTo (invM (ordM t) (ids t).length) (membW (wordOf (membC t c)) (ids t).length)) = wordOf (membC t c)) = consB t c := by
 have hs : wordOf (membC t c) < 2 ^ (ids t).length := wordOf_lt fun j hj => membC_lt hr hj
 rw [Bool.eq_iff_iff, decide_eq_true_iff, consB_iff]
 have h1 := down_iff (M := ordM t) (Q := invM (ordM t) (ids t).length) (s := wordOf (membC t c)) (l := membW (wordOf (membC t c)) (ids t).length) (fun i j => invM_has (ordM_len t) (ordM_bnd t) i j) (fun i => mem_membW hs)
 unfold orW
 rw [h1, cut_ideal hv hr]
 exact ⟨fun h => ⟨hv, h⟩, fun h => h.2⟩
set_option maxHeartbeats 16000000 in
set_option maxRecDepth 100000 in
theorem cutIdeals_calls (v vc : Value) (t : Tr) (c : List Int) (w : World) (h : TrAt w v t) (htop : TopTr t) (hc : Ints w vc c) (hTab : TabG w) :
  Calls Tryz.prog 3 #[.agg #[v], vc] w fun e w' => e = .returned (.bool true) ∧ Ext w w' := by
 have HTAB := Lib.hid hTab
 clear hTab
 have HC := Lib.hid hc
 obtain ⟨ca, cc, rfl, hacc, _⟩ := hc
 obtain ⟨n, hnc⟩ : ∃ n, c.length = n := ⟨_, rfl⟩
 rw [hnc]
 rw [hnc] at HC
 have HNC := Lib.hid hnc
 clear hacc hnc
 have HT := Lib.hid h
 have HFC := Lib.hid (fun W (hW : Ext w W) => few22_calls v t W (h.ext hW) htop)
 obtain ⟨ta, tc, rfl, htc⟩ := h.sh
 obtain ⟨tn, htn⟩ : ∃ n, t.length = n := ⟨_, rfl⟩
 rw [htn] at HFC HT ⊢
 have HTN := Lib.hid htn
 have HX0 := Lib.hid (heap_alloc_new w (.cells #[.slice ta tn tc] 24))
 have HE1 := Lib.hid ((Ext.rf w).al (.cells #[.slice ta tn tc] 24))
 obtain ⟨fw, hfw⟩ : ∃ b, few22 t = b := ⟨_, rfl⟩
 rw [hfw] at HFC
 have HFW := Lib.hid hfw
 clear h htop hfw htc htn
 go_enter Tryz.func3, Tryz.ntmps3
 go_wp2_with fail
 refine (awake22_calls _).mono ?_
 rintro e w2 ⟨rfl, hX2⟩
 have HE2 := Lib.hid (HE1.out.trans' hX2)
 have HY2 := Lib.hid (hX2.hp HX0.out)
 have t2 := cellOf HY2.out 0
 simp only [List.getElem?_toArray, List.getElem?_cons_zero] at t2
 clear hX2
 go_wp2_with fail
 refine (HFC.out _ HE2.out).mono ?_
 rintro e w3 ⟨rfl, hX3⟩
 have HE3 := Lib.hid (HE2.out.trans' hX3)
 have HY3 := Lib.hid (hX3.hp HY2.out)
 have t3 := cellOf HY3.out 0
 simp only [List.getElem?_toArray, List.getElem?_cons_zero] at t3
 clear hX3 t2
 cases fw with
 | false =>
   go_wp2_with fail
   refine (awake22_calls _).mono ?_
   rintro e w4 ⟨rfl, hX4⟩
   go_wp2
   go_ret
   exact ⟨rfl, HE3.out.trans' hX4⟩
 | true =>
 have HLO := Lib.hid (few22_loose HFW.out).1
 have HC3 := Lib.hid (fun W (hW : Ext w W) => validR_calls _ t W (HT.out.ext hW) HLO.out)
 have HC4 := Lib.hid (fun W (hW : Ext w W) => fitsR_calls _ _ t c W (HT.out.ext hW) (HC.out.ext hW))
 have HC5 := Lib.hid (fun (hv : validT t = true) (hf : fitsB t c = true) W (hW : Ext w W) => rangeR_calls _ _ t c W (HT.out.ext hW) (valid_small hv) (HC.out.ext hW) (of_decide_eq_true hf))
 obtain ⟨vb, hvb⟩ : ∃ b, validT t = b := ⟨_, rfl⟩
 obtain ⟨fb, hfb⟩ : ∃ b, fitsB t c = b := ⟨_, rfl⟩
 rw [hvb] at HC3
 rw [hfb] at HC4
 have HVB := Lib.hid hvb
 have HFB := Lib.hid hfb
 clear hvb hfb
 cases vb with
 | false =>
   have HC2 := Lib.hid (fun W (hW : Ext w W) => countF_calls _ t W (HT.out.ext hW) HLO.out HVB.out)
   go_wp2_with fail
   refine (HC2.out _ HE3.out).mono ?_
   rintro e w4 ⟨rfl, hX4⟩
   have HE4 := Lib.hid (HE3.out.trans' hX4)
   have HY4 := Lib.hid (hX4.hp HY3.out)
   have t4 := cellOf HY4.out 0
   simp only [List.getElem?_toArray, List.getElem?_cons_zero] at t4
   have HXX4 := Lib.hid hX4
   clear hX4 t3
   go_wp2_with fail
   refine (HC3.out _ HE4.out).mono ?_
   rintro e w5 ⟨rfl, hX5⟩
   have HE5 := Lib.hid (HE4.out.trans' hX5)
   have HY5 := Lib.hid (hX5.hp HY4.out)
   have t5 := cellOf HY5.out 0
   simp only [List.getElem?_toArray, List.getElem?_cons_zero] at t5
   have HXX5 := Lib.hid hX5
   clear hX5 t4
   go_wp2_with fail
   refine (awake22_calls _).mono ?_
   rintro e w99 ⟨rfl, hX99⟩
   go_wp2
   go_ret
   exact ⟨rfl, HE5.out.trans' hX99⟩
 | true =>
 have HC2 := Lib.hid (fun W (hW : Ext w W) => countT_calls _ t W (HT.out.ext hW) HVB.out)
 have HIL := Lib.hid (ids_len t)
 obtain ⟨N, hN⟩ : ∃ N, (ids t).length = N := ⟨_, rfl⟩
 rw [← HIL.out, hN] at HC2
 have HN := Lib.hid hN
 clear hN
 have hNb : N ≤ 1000 := by
  have h8 : t.length ≤ 8 := (shapeB_parts2.1 (validT_parts2.1 HVB.out).1).2.1
  have h9 := ids_len64 HVB.out t.length 0 (Nat.le_refl _) (by omega)
  have e : (ids t).length = (idsTo t t.length 0).length := rfl
  have := HN.out
  omega
 by_cases h60 : 60 < N
 ·have d6 : decide (60 < (N : Int)) = true := decide_eq_true (by omega)
  have d7 : decide (60 < N) = true := decide_eq_true h60
  clear h60
  go_wp2_with fail
  refine (HC2.out _ HE3.out).mono ?_
  rintro e w4 ⟨rfl, hX4⟩
  have HE4 := Lib.hid (HE3.out.trans' hX4)
  have HY4 := Lib.hid (hX4.hp HY3.out)
  have t4 := cellOf HY4.out 0
  simp only [List.getElem?_toArray, List.getElem?_cons_zero] at t4
  have HXX4 := Lib.hid hX4
  clear hX4 t3
  go_wp2_with fail
  refine (awake22_calls _).mono ?_
  rintro e w99 ⟨rfl, hX99⟩
  go_wp2
  go_ret
  exact ⟨rfl, HE4.out.trans' hX99⟩
 have d6 : decide (60 < (N : Int)) = false := decide_eq_false (by omega)
 have d7 : decide (60 < N) = false := decide_eq_false h60
 go_wp2_with fail
 refine (HC2.out _ HE3.out).mono ?_
 rintro e w4 ⟨rfl, hX4⟩
 have HE4 := Lib.hid (HE3.out.trans' hX4)
 have HY4 := Lib.hid (hX4.hp HY3.out)
 have t4 := cellOf HY4.out 0
 simp only [List.getElem?_toArray, List.getElem?_cons_zero] at t4
 have HXX4 := Lib.hid hX4
 clear hX4 t3
 go_wp2_with fail
 refine (HC3.out _ HE4.out).mono ?_
 rintro e w5 ⟨rfl, hX5⟩
 have HE5 := Lib.hid (HE4.out.trans' hX5)
 have HY5 := Lib.hid (hX5.hp HY4.out)
 have t5 := cellOf HY5.out 0
 simp only [List.getElem?_toArray, List.getElem?_cons_zero] at t5
 have HXX5 := Lib.hid hX5
 clear hX5 t4
 cases fb with
 | false =>
   go_wp2_with fail
   refine (HC4.out _ HE5.out).mono ?_
   rintro e w6 ⟨rfl, hX6⟩
   have HE6 := Lib.hid (HE5.out.trans' hX6)
   have HY6 := Lib.hid (hX6.hp HY5.out)
   have t6 := cellOf HY6.out 0
   simp only [List.getElem?_toArray, List.getElem?_cons_zero] at t6
   have HXX6 := Lib.hid hX6
   clear hX6 t5
   go_wp2_with fail
   refine (awake22_calls _).mono ?_
   rintro e w99 ⟨rfl, hX99⟩
   go_wp2
   go_ret
   exact ⟨rfl, HE6.out.trans' hX99⟩
 | true =>
 go_wp2_with fail
 refine (HC4.out _ HE5.out).mono ?_
 rintro e w6 ⟨rfl, hX6⟩
 have HE6 := Lib.hid (HE5.out.trans' hX6)
 have HY6 := Lib.hid (hX6.hp HY5.out)
 have t6 := cellOf HY6.out 0
 simp only [List.getElem?_toArray, List.getElem?_cons_zero] at t6
 have HXX6 := Lib.hid hX6
 clear hX6 t5
 have HC5 := Lib.hid (HC5.out HVB.out HFB.out)
 obtain ⟨rb, hrb⟩ : ∃ b, rangeB t c = b := ⟨_, rfl⟩
 rw [hrb] at HC5
 have HRB := Lib.hid hrb
 clear hrb
 cases rb with
 | false =>
   go_wp2_with fail
   refine (HC5.out _ HE6.out).mono ?_
   rintro e w7 ⟨rfl, hX7⟩
   have HE7 := Lib.hid (HE6.out.trans' hX7)
   have HY7 := Lib.hid (hX7.hp HY6.out)
   have t7 := cellOf HY7.out 0
   simp only [List.getElem?_toArray, List.getElem?_cons_zero] at t7
   have HXX7 := Lib.hid hX7
   clear hX7 t6
   go_wp2_with fail
   refine (awake22_calls _).mono ?_
   rintro e w99 ⟨rfl, hX99⟩
   go_wp2
   go_ret
   exact ⟨rfl, HE7.out.trans' hX99⟩
 | true =>
 go_wp2_with fail
 refine (HC5.out _ HE6.out).mono ?_
 rintro e w7 ⟨rfl, hX7⟩
 have HE7 := Lib.hid (HE6.out.trans' hX7)
 have HY7 := Lib.hid (hX7.hp HY6.out)
 have t7 := cellOf HY7.out 0
 simp only [List.getElem?_toArray, List.getElem?_cons_zero] at t7
 have HXX7 := Lib.hid hX7
 clear hX7 t6
 have HRC := Lib.hid (show RangeC t c from ⟨of_decide_eq_true HFB.out, HRB.out⟩)
 have HOC := Lib.hid (fun W (hW : Ext w W) => order_calls _ t W (HT.out.ext hW) HVB.out (by rw [HN.out]; omega))
 rw [HN.out] at HOC
 have HNU := Lib.hid (fun W (hW : Ext w W) (p i : Nat) (hx : Inn t (p, i)) => numberC_calls _ t p i W (HT.out.ext hW) HVB.out hx)
 have HCC := Lib.hid (fun W (hW : Ext w W) => consistentP_calls _ _ t c W (HT.out.ext hW) HLO.out (HC.out.ext hW))
 have HIE := Lib.hid (ideal_eq HVB.out HRC.out)
 have HML := Lib.hid (fun j (h : j ∈ membC t c) => membC_lt HRC.out h)
 have HPO := Lib.hid (ordM_pos (validT_parts2.1 HVB.out).2.2)
 have HE64 : Hid (∀ p, p < t.length → t[p]!.events.length ≤ 64) := Lib.hid (fun p hp => (headB_parts.1 ((shapeB_parts2.1 (validT_parts2.1 HVB.out).1).2.2.1 p hp)).2.2.2.2)
 have HMT := Lib.hid (memTo_len HRC.out HE64.out)
 have HMC : Hid (memTo t c c.length 0 = membC t c) := Lib.hid rfl
 have hlo : (ordM t).length = N := by rw [ordM_len, HN.out]
 rw [HN.out] at HIE HML HPO
 obtain rfl : n = tn := by have := HRC.out.1; rw [HTN.out, HNC.out] at this; exact this
 have hn8 : n ≤ 8 := by have := (shapeB_parts2.1 (validT_parts2.1 HVB.out).1).2.1; rw [HTN.out] at this; exact this
 go_wp2_with fail
 refine (HOC.out _ HE7.out).mono ?_
 rintro e w8 ⟨pv, vw, rfl, hO8, hX8⟩
 have hsl := hO8.sl
 obtain ⟨pa, pc, rfl, _⟩ := hsl.sh
 rw [hlo] at hsl ⊢
 have HX9 := Lib.hid ((HE7.out.trans' hX8).al (.cells #[.slice pa N pc] 32))
 have HSL := Lib.hid (hsl.ext (rset_lasts N) ((Ext.rf w8).al (.cells #[.slice pa N pc] 32)))
 have HY9 := Lib.hid (((Ext.rf w8).al (.cells #[.slice pa N pc] 32)).hp (hX8.hp HY7.out))
 have HPB := Lib.hid (heap_alloc_new w8 (.cells #[.slice pa N pc] 32))
 obtain ⟨ii, hii, jz0, jz1, jz2⟩ := info_parts info_intB
 clear hO8 hX8 hsl t7 HOC HXX4 HXX5 HXX6 HXX7
 go_wp2
 generalize w8.alloc (.cells #[.slice pa N pc] 32) = w9 at *
 generalize w8.heap.size = DP at *
 have hsz9 : w.heap.size ≤ w9.heap.size := HX9.out.sz
 go_loopg [7, 52] n (fun g s7 s52 wr => ∃ p : Nat, p ≤ n ∧ n - p ≤ g ∧ s52 = .int .i64 p ∧ Aside (Row wr w9.heap.size 3 1 s7 (memTo t c p 0).length ((intsN (memTo t c p 0)).map (Value.int .i64))) ∧ Aside (Ext w9 wr))
 case atStart => exact ⟨0, Nat.zero_le _, by omega, rfl, (show Row _ _ _ _ _ _ _ from Row.mkNil _ _ _ _), Ext.rf _⟩
 case round =>
  obtain ⟨p, hp, hg, rfl, HR, HEK⟩ := hrel
  have HEW := Lib.hid (HX9.out.trans' HEK.out)
  by_cases hlt : p < n
  ·have hltz : (p : Int) < (n : Int) := by omega
   have hpz : (0 : Int) ≤ (p : Int) := by omega
   obtain ⟨cb, co, rfl, hcb, hcp⟩ := ints_at HC.out p (by rw [HNC.out]; omega)
   have hkr := HRC.out.at (p := p) (by rw [HTN.out]; omega)
   have hen := HE64.out p (by rw [HTN.out]; exact hlt)
   generalize hne : t[p]!.events.length = ne at *
   have HNE := Lib.hid hne
   obtain ⟨k, hk⟩ : ∃ k : Nat, c[p]! = (k : Int) := ⟨c[p]!.toNat, by omega⟩
   rw [hk] at hcp hkr
   have HK := Lib.hid hk
   have hkb : k ≤ 64 := by omega
   have hkne : k ≤ ne := by omega
   have q0 := HEW.out.cl hcp
   clear hne hk hkr hcp hcb
   obtain ⟨wo, rfl⟩ : ∃ x, x = wr := ⟨_, rfl⟩
   go_wp2
   clear q0
   go_loopg [7, 58] k (fun g s7 s58 wr => ∃ i : Nat, i ≤ k ∧ k - i ≤ g ∧ s58 = .int .i64 i ∧ Aside (Row wr w9.heap.size 3 1 s7 (memTo t c p i).length ((intsN (memTo t c p i)).map (Value.int .i64))) ∧ Aside (Ext w9 wr))
   case atStart => exact ⟨0, Nat.zero_le _, by omega, rfl, HR, HEK⟩
   case round =>
    obtain ⟨i, hi, hgi, rfl, HR, HEK⟩ := hrel
    have HEW := Lib.hid (HX9.out.trans' HEK.out)
    by_cases hli : i < k
    ·have hliz : (i : Int) < (k : Int) := by omega
     have hiz : (0 : Int) ≤ (i : Int) := by omega
     have HNC2 := Lib.hid (HNU.out wr HEW.out p i ⟨by rw [HTN.out]; exact hlt, by simp only; rw [HNE.out]; omega⟩)
     have t9 := cellOf (HEK.out.hp HY9.out) 0
     simp only [List.getElem?_toArray, List.getElem?_cons_zero] at t9
     have hml : (memTo t c p i).length ≤ 1000 := by have := HMT.out p i (by rw [HTN.out]; omega) (by omega); omega
     have HSC : Hid ((memTo t c p (i + 1)).length = (memTo t c p i).length + 1 ∧ (intsN (memTo t c p (i + 1))).map (Value.int .i64) = (intsN (memTo t c p i)).map (Value.int .i64) ++ [.int .i64 (numE t (p, i) : Int)]) := Lib.hid ⟨by rw [memTo_succ]; simp, by rw [memTo_succ]; simp [intsN]⟩
     generalize (memTo t c p i).length = ml at *
     generalize numE t (p, i) = x at *
     go_wp2_with fail
     clear t9
     refine (HNC2.out).mono ?_
     rintro e w6 ⟨rfl, hX6⟩
     have HR6 := Lib.hid (HR.out.ext hX6)
     have HE6 := Lib.hid (HEK.out.trans' hX6)
     have hsz6 : w9.heap.size ≤ w6.heap.size := HE6.out.sz
     clear hX6
     go_wp2_with ((at_builtin; go_loud (refine wpList_append_one rfl _ _ 25 rfl w9.heap.size 3 ii (.int .i64 0) 1 8 Tryz.underlying25 hii jz0 jz1 jz2 rfl (by decide) _ ml _ rfl (HR6.out.al _) w6.heap.size 1 [.int .i64 x] rfl rfl ⟨_, heap_alloc_new _ _⟩ (by simp [Value.oneCell']) (by unfold maxLen; omega) (by omega) (by simp; omega) ?_; intro v8 w8 hown8 hgrow8 hblk8; have HOWN := Lib.hid hown8; have HG8 := Lib.hid hgrow8; clear hown8 hgrow8 hblk8)))
     go_roundg (k - (i + 1))
     case measure => omega
     case rel => exact ⟨i + 1, by omega, by omega, by go_num, (show Row _ _ _ _ _ _ _ from by rw [HSC.out.1, HSC.out.2]; exact HOWN.out), (HE6.out.al _).gr HG8.out (fun q hq => (HR6.out.lt q hq).1)⟩
    ·have hliz : ¬ (i : Int) < (k : Int) := by omega
     obtain rfl : k = i := by omega
     go_wp2
     go_roundg (n - (p + 1))
     case measure => omega
     case rel => exact ⟨p + 1, by omega, by omega, by go_num, (show Row _ _ _ _ _ _ _ from by rw [← memTo_next, HK.out, Int.toNat_natCast]; exact HR.out), HEK⟩
  ·have hltz : ¬ (p : Int) < (n : Int) := by omega
   obtain rfl : n = p := by omega
   have hR := HR.out
   rw [← HNC.out, HMC.out] at hR
   obtain ⟨wz, rfl⟩ : ∃ x, x = wr := ⟨_, rfl⟩
   obtain ⟨ma, mc, hm7, _⟩ := hR.any
   subst hm7
   have HR := Lib.hid hR
   have HEZ := Lib.hid (HX9.out.trans' HEK.out)
   have HYZ := Lib.hid (HEK.out.hp HY9.out)
   have HPZ := Lib.hid (HEK.out.hp HPB.out)
   have HSZ := Lib.hid (HSL.out.ext (rset_lasts N) HEK.out)
   have hmm : (membC t c).length ≤ 1000 := by
    have := HMT.out c.length 0 (by rw [HTN.out, HNC.out]; exact Nat.le_refl _) (by omega)
    rw [HMC.out, HNC.out] at this; omega
   have t9 := cellOf HYZ.out 0
   simp only [List.getElem?_toArray, List.getElem?_cons_zero] at t9
   obtain ⟨cb, hcb⟩ : ∃ b, consB t c = b := ⟨_, rfl⟩
   rw [hcb] at HCC HIE
   clear hR hcb
   go_wp2_with fail
   clear t9
   refine (HC2.out _ HEZ.out).mono ?_
   rintro e w10 ⟨rfl, hX10⟩
   have HE10 := Lib.hid (HEZ.out.trans' hX10)
   have HY10 := Lib.hid (hX10.hp HYZ.out)
   have HP10 := Lib.hid (hX10.hp HPZ.out)
   have HS10 := Lib.hid (HSZ.out.ext (rset_lasts N) hX10)
   have HI10 := Lib.hid (HR.out.ints.ext hX10)
   clear hX10
   have HOF : Hid (Calls Tryz.prog 12 #[.int .i64 (N : Int), .slice ma (membC t c).length mc] w10 fun e w' => ∃ (a' : Option Addr) (n' c' : Nat), e = .returned (.tuple #[.agg #[.int .i64 (N : Int), .slice a' n' c'], .int .i64 0]) ∧ Ext w10 w' ∧ ∀ W, Ext w' W → Calls Tryz.prog 14 #[.agg #[.slice pa N pc], .agg #[.int .i64 (N : Int), .slice a' n' c']] W fun e w'' => e = .returned (.bool cb) ∧ Ext W w'') := Lib.hid (by
    by_cases hN1 : 1 ≤ N
    ·have hwl : wordOf (membC t c) < 2 ^ N := wordOf_lt HML.out
     refine (of_calls N (.slice ma (membC t c).length mc) (membC t c) w10 HI10.out hN1 (by omega) (by omega) HML.out).mono ?_
     rintro e w11 ⟨u, rfl, hR11, hX11⟩
     obtain ⟨ub, uo, uc, rfl, hub, hus, huc⟩ := hR11.shape (by decide)
     have hcell : w11.cell? ⟨ub, uo, none⟩ = some (.int .u64 (wordOf (membC t c) : Int)) := by simpa using hR11.cell 0 (by omega)
     refine ⟨_, _, _, rfl, hX11, fun W hW => ?_⟩
     have h9 := ideal_calls (.slice pa N pc) N ub uo uc (wordOf (membC t c)) (ordM t) W (HS10.out.ext (rset_lasts N) (hX11.trans' hW)) HPO.out hN1 (by omega) (hW.cl hcell) huc hwl (HTAB.out.ext (HE10.out.trans' (hX11.trans' hW)))
     rw [HIE.out] at h9
     exact h9
    ·obtain rfl : N = 0 := by omega
     have hm0 : membC t c = [] := List.eq_nil_iff_forall_not_mem.2 fun j hj => absurd (HML.out j hj) (Nat.not_lt_zero _)
     have ho0 : ordM t = [] := List.eq_nil_of_length_eq_zero hlo
     have hcb : true = cb := by
      have h9 := HIE.out
      rw [hm0] at h9
      rw [← h9]
      symm
      apply decide_eq_true
      have e1 : membW (wordOf []) 0 = [] := by unfold membW; simp
      have e2 : upTo (invM (ordM t) 0) [] = 0 := rfl
      have e3 : wordOf [] = 0 := rfl
      rw [e1, e2, e3]
      unfold orW
      simp
     have h10 := HS10.out
     rw [ho0] at h10
     rw [hm0]
     refine (ofZ_calls ma mc w10).mono ?_
     rintro e w11 ⟨a', c', rfl, hX11⟩
     refine ⟨a', 0, c', rfl, hX11, fun W hW => ?_⟩
     have h9 := idealZ_calls pa a' pc c' W (h10.ext (rset_lasts 0) (hX11.trans' hW)) (HTAB.out.ext (HE10.out.trans' (hX11.trans' hW)))
     rw [hcb] at h9
     exact h9)
   generalize (membC t c).length = ml at *
   go_wp2_with fail
   refine (HOF.out).mono ?_
   rintro e w11 ⟨a', n', c', rfl, hX11, hIS⟩
   have HA := Lib.hid (hX11.al (.cells #[.int .i64 (N : Int), .slice a' n' c'] 42))
   have HE12 := Lib.hid (HE10.out.trans' HA.out)
   have HY12 := Lib.hid (HA.out.hp HY10.out)
   have HP12 := Lib.hid (HA.out.hp HP10.out)
   have HSB := Lib.hid (heap_alloc_new w11 (.cells #[.int .i64 (N : Int), .slice a' n' c'] 42))
   have HIC := Lib.hid (fun W (hW : Ext (w11.alloc (.cells #[.int .i64 (N : Int), .slice a' n' c'] 42)) W) => hIS W (Ext.trans' ((Ext.rf w11).al _) hW))
   clear hX11 hIS
   go_upto_region 18 with (fail)
   generalize w11.alloc (.cells #[.int .i64 (N : Int), .slice a' n' c'] 42) = w12 at *
   generalize w11.heap.size = sb at *
   have t12 := cellOf HY12.out 0
   have p12 := cellOf HP12.out 0
   have s0 := cellOf HSB.out 0
   have s1 := cellOf HSB.out 1
   simp only [List.getElem?_toArray, List.getElem?_cons_zero, List.getElem?_cons_succ] at t12 p12 s0 s1
   go_wp2
   go_region_with (first | (go_at_call 13; refine (HCC.out _ (HE12.out.trans' (by first | exact Ext.rf _ | exact (Ext.rf _).dr | exact (Ext.rf _).dr.dr))).mono ?_; rintro e wx ⟨rfl, hXx⟩; have HXC := Lib.hid (show Ext w12 wx from by first | exact hXx | exact (Ext.rf w12).dr.trans' hXx | exact (Ext.rf w12).dr.dr.trans' hXx); have t12 := HXC.out.cl t12; have p12 := HXC.out.cl p12; have s0 := HXC.out.cl s0; have s1 := HXC.out.cl s1; clear hXx) | (go_at_call 14; refine (HIC.out _ (by first | exact HXC.out | exact HXC.out.dr | exact HXC.out.dr.dr)).mono ?_; rintro e wy ⟨rfl, hXy⟩; have HXI := Lib.hid (show Ext w12 wy from by first | exact HXC.out.trans' hXy | exact HXC.out.dr.trans' hXy | exact HXC.out.dr.dr.trans' hXy); clear hXy))
   all_goals
    have HXF := Lib.hid (HE12.out.trans' HXI.out)
    go_wp2
    go_ret
    exact ⟨rfl, by first | exact HXF.out | exact HXF.out.dr | exact HXF.out.dr.dr⟩
end Go.Proofs.YtbpdbikphlhaiaaGreatDoor
