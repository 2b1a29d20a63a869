import Derived.Test.YtodkcfebcjgahaaBase
import Derived.Test.YtodkcfebcjgahaaProg
import Derived.Test.YtodkcfebcjgahaaWaiW
import Derived.Test.YtodkcfebcjgahaaGa
import Derived.Test.YtodkcfebcjgahaaRelD
import Derived.Test.YtodkcfebcjgahaaFarL
import Derived.BigQuiet
import Derived.Deep.QuietTactic
import Derived.Deep.LoopGhost
import Derived.Shelf.Abstract
import Derived.RegionTactic
import Derived.ChangeAlike
import Derived.BigRegion
import Derived.Deep.DeepCutAuto
/-
  The reference's Closure.
-/
namespace Go.Proofs.Ytodkcfebcjgahaa
open Go.RowKit
set_option linter.unusedVariables false

theorem sameB_rfl (N : Nat) (S : List Nat) : SameB N S S := ⟨rfl, fun _ _ _ => rfl⟩
theorem enters_51 : ∀ args w, (callFunc 51 args).run Try.prog w = .ok (.enter 51 args) w := enters_of Try.func51 (by kernel_rfl) rfl
set_option maxHeartbeats 8000000 in
set_option maxRecDepth 100000 in
theorem closureR_calls (v : Value) (N : Nat) (M : List Nat) (vw : Nat → Value) (base : Nat) (w : World) (h : OwnTab w base v N M vw) (hM : M.length = N) (hN : N ≤ 512) :
    Calls Try.prog 51 #[v] w fun e w' => ∃ v', e = .returned v' ∧ Ext w w' ∧ ∃ vw', OwnTab w' w.heap.size v' N (closeM M) vw' := by
  have HH := Lib.hid h
  obtain ⟨ib, bi, bz0, bz1, bz2⟩ := info_partsW info_bool
  obtain ⟨ii, hii, iz0, iz1, iz2⟩ := info_partsW info_rowsW
  obtain ⟨ta, tc, hv⟩ := h.any
  rw [hM] at hv
  subst hv
  have HM := Lib.hid hM
  have HTK : Hid (M.take M.length = M) := Lib.hid (List.take_length)
  have HT1 := Lib.hid (fun i (hi : i < M.length) => List.take_succ_eq_append_getElem hi)
  have HCL : Hid (closeM M = closeTo M N) := Lib.hid (by unfold closeM; rw [hM])
  rw [HCL.out]
  clear h hM
  go_enter Try.func51, Try.ntmps51
  go_wp2
  go_loopg [4, 5] N (fun g s4 s5 wr => ∃ i : Nat, i ≤ N ∧ N - i ≤ g ∧ s5 = .int .i64 i ∧ Aside (∃ va, OwnTab wr w.heap.size s4 N (M.take i) va) ∧ Aside (Ext w wr))
  case atStart => exact ⟨0, Nat.zero_le _, by omega, rfl, (show Aside _ from ⟨fun _ => undef, by rw [List.take_zero]; exact OwnTab.nil _ _ _ _⟩), (show Ext _ _ from Ext.rf _)⟩
  case round =>
    obtain ⟨i, hi, hg, rfl, HT, HX⟩ := hrel
    obtain ⟨va, ho⟩ := HT.out
    have HO := Lib.hid ho
    obtain ⟨ra, rc, hv⟩ := ho.any
    have hli : (M.take i).length = i := by rw [List.length_take, HM.out]; omega
    have HLI := Lib.hid hli
    rw [hli] at hv
    subst hv
    clear ho HT hli
    by_cases hlt : i < N
    case pos =>
      have hltz : (i : Int) < (N : Int) := by omega
      have hiz : (0 : Int) ≤ (i : Int) := by omega
      obtain ⟨tg, tof, tcc, hve⟩ := HH.out.shape (by rw [HM.out]; omega)
      rw [HM.out] at hve
      simp only [Value.slice.injEq] at hve
      obtain ⟨rfl, _, rfl⟩ := hve
      have HE := Lib.hid (HH.out.ext HX.out)
      have r0 := HE.out.rowAt HM.out.symm (k := i) (by rw [HM.out]; exact hlt)
      have HW := Lib.hid (HE.out.word i (by rw [HM.out]; exact hlt))
      obtain ⟨bg, bo, bc, hvw, _⟩ := HW.out.shape (by omega)
      rw [hvw] at r0 HW
      clear hvw
      have htg := World.block_lt_of_cell? wr _ r0
      simp only at htg
      have htn : tg ≠ wr.heap.size := by omega
      have HE0 := Lib.hid ((Ext.rf wr).al (.cells #[] 4))
      have RA : Hid (Row (wr.alloc (.cells #[] 4)) w.heap.size 4 1 (.slice (some ⟨wr.heap.size, 0, none⟩) 0 0) 0 []) := Lib.hid ⟨rfl, .inr ⟨wr.heap.size, 0, 0, _, rfl, HX.out.sz, heap_alloc_new _ _, Nat.le_refl _, by unfold maxLen; omega, by simp, by simp⟩⟩
      have hwn : wr.heap.size < (wr.alloc (.cells #[] 4)).heap.size := by simp
      have HW0 := Lib.hid (HW.out.ext HE0.out)
      have hsz0 : w.heap.size ≤ (wr.alloc (.cells #[] 4)).heap.size := Nat.le_trans HX.out.sz HE0.out.sz
      go_wp2_with (first
        | ((at_builtin; (refine wpList_append_row rfl _ _ 49 rfl w.heap.size 4 ib (.bool false) 1 1 Try.underlying49 bi bz0 bz1 bz2 rfl (by decide) _ 0 [] rfl RA.out (some ⟨bg, bo, none⟩) N bc ((rowB N M[i]!).map Value.bool) rfl (by simp [rowB_len]) (fun _ => ⟨_, rfl, fun j x hj => by
            have hjl := (List.getElem?_eq_some_iff.1 hj).1
            rw [List.length_map, rowB_len] at hjl
            rw [Addr.add_lit]
            exact (HW0.out.cell j (by omega)).trans hj⟩) (by intro x hx; obtain ⟨y, _, rfl⟩ := List.mem_map.1 hx; rfl) (by unfold maxLen; omega) (by omega) hsz0 ?_; intro v3 w3 hown3 hgrow3 hblk3; rw [Nat.zero_add, List.nil_append] at hown3; have HB3 := Lib.hid hown3; have HK3 := Lib.hid hblk3; have HX3 := Lib.hid ((HX.out.al (.cells #[] 4)).gr hgrow3 (fun q hq => (RA.out.lt q hq).1)); have HO3 := Lib.hid (HO.out.ext (HE0.out.gr hgrow3 (fun q hq => by cases hq; exact Nat.le_refl _))); obtain ⟨a3, c3, rfl, _⟩ := hown3.any; clear hown3 hgrow3 hblk3)))
        | ((at_builtin; go_loud (refine wpList_append_one rfl _ _ 64 rfl w.heap.size 49 ii (.slice none 0 0) 1 24 Try.underlying64 hii iz0 iz1 iz2 rfl (by decide) _ i ((List.range i).map va) rfl ((show Row w3 w.heap.size 49 1 (.slice ra i rc) i ((List.range i).map va) from by have h := HO3.out.row; rw [HLI.out] at h; exact h).al _) w3.heap.size 1 [.slice a3 N c3] rfl rfl ⟨_, heap_alloc_new _ _⟩ (by simp [Value.oneCell']) (by unfold maxLen; omega) (by omega) (Nat.le_trans HX3.out.sz ((Ext.rf w3).al _).sz) ?_; intro v8 w8 hown8 hgrow8 hblk8; have HOWN := Lib.hid hown8; have HGR := Lib.hid hgrow8; obtain ⟨a8, c8, rfl, _⟩ := hown8.any; clear hown8 hgrow8 hblk8))))
      have HX8 := Lib.hid ((HX3.out.al (.cells #[.slice a3 N c3] 49)).gr HGR.out (fun q hq => (HO3.out.row.lt q hq).1))
      have hs := OwnTab.snoc (m := M[i]!) (HO3.out.ext ((Ext.rf w3).al (.cells #[.slice a3 N c3] 49))) (HB3.out.al _) (fun j hj e => by
        rcases HK3.out with h1 | ⟨q, h1, h2⟩
        · have := ((HO.out.word j hj).lt wr.heap.size (by rw [e, h1]; rfl)).2
          omega
        · have := ((HO.out.word j hj).lt q (by rw [e, h1])).2
          omega) HGR.out (by rw [HLI.out]; exact HOWN.out)
      rw [show M.take i ++ [M[i]!] = M.take (i + 1) by rw [HT1.out i (by rw [HM.out]; exact hlt), getElem!_pos M i (by rw [HM.out]; exact hlt)]] at hs
      have HS := Lib.hid hs
      clear hs
      go_roundg (N - (i + 1))
      case measure => exact Nat.lt_of_lt_of_le (Nat.sub_lt_sub_left hlt (Nat.lt_succ_self i)) hg
      case rel => exact ⟨i + 1, by omega, by omega, by go_num, (show Aside _ from ⟨_, HS.out⟩), (show Ext _ _ from HX8.out)⟩
    case neg =>
      have hltz : ¬ (i : Int) < (N : Int) := by omega
      obtain rfl : N = i := by omega
      have HO0 := Lib.hid (show OwnTab wr w.heap.size (.slice ra N rc) N (closeTo M 0) va from by
        have h := HO.out
        rw [← HM.out, HTK.out] at h
        rw [HM.out] at h
        exact h)
      have HLC := Lib.hid (fun k => (closeTo_len M k).trans HM.out)
      have HCN : Hid (∀ k, closeTo M (k + 1) = closeIn (closeTo M k) k N) := Lib.hid (fun k => by rw [← HM.out]; rfl)
      clear HO
      go_wp2
      go_loopg [6, 7, 8] N (fun g s6 _ _ wr => ∃ k : Nat, k ≤ N ∧ N - k ≤ g ∧ s6 = .int .i64 k ∧ Aside (Ext w wr) ∧ Aside (OwnTab wr w.heap.size (.slice ra N rc) N (closeTo M k) va))
      case atStart => exact ⟨0, Nat.zero_le _, by omega, rfl, (show Ext _ _ from HX.out), (show OwnTab _ _ _ _ _ _ from HO0.out)⟩
      case round =>
        obtain ⟨k, hk, hgk, rfl, HXK, HOK⟩ := hrel
        clear HX HO0
        by_cases hlt : k < N
        case neg =>
          have hltz : ¬ (k : Int) < (N : Int) := by omega
          obtain rfl : N = k := by omega
          go_wp2
          go_ret
          exact ⟨_, rfl, HXK.out, va, HOK.out⟩
        case pos =>
          have hltz : (k : Int) < (N : Int) := by omega
          have hkz : (0 : Int) ≤ (k : Int) := by omega
          have HON := Lib.hid (show OwnTab wr w.heap.size (.slice ra N rc) N (closeIn (closeTo M k) k 0) va from HOK.out)
          have HCK := Lib.hid (HCN.out k)
          have hLT := HLC.out k
          generalize closeTo M k = T at *
          go_wp2
          go_loopg [7, 8] N (fun g s7 _ wr => ∃ i : Nat, i ≤ N ∧ N - i ≤ g ∧ s7 = .int .i64 i ∧ Aside (Ext w wr) ∧ Aside (OwnTab wr w.heap.size (.slice ra N rc) N (closeIn T k i) va))
          case atStart => exact ⟨0, Nat.zero_le _, by omega, rfl, (show Ext _ _ from HXK.out), (show OwnTab _ _ _ _ _ _ from HON.out)⟩
          case round =>
            obtain ⟨i, hi, hgi, rfl, HXI, HOI⟩ := hrel
            clear HXK HOK HON
            by_cases hlt2 : i < N
            case neg =>
              have hltz2 : ¬ (i : Int) < (N : Int) := by omega
              obtain rfl : N = i := by omega
              have HOL := Lib.hid (show OwnTab wr w.heap.size (.slice ra N rc) N (closeTo M (k + 1)) va from by rw [HCK.out]; exact HOI.out)
              go_wp2
              go_roundg (N - (k + 1))
              case measure => exact Nat.lt_of_lt_of_le (Nat.sub_lt_sub_left hlt (Nat.lt_succ_self k)) hgk
              case rel => exact ⟨k + 1, by omega, by omega, by go_num, (show Ext _ _ from HXI.out), (show OwnTab _ _ _ _ _ _ from HOL.out)⟩
            case pos =>
              have hltz2 : (i : Int) < (N : Int) := by omega
              have hiz : (0 : Int) ≤ (i : Int) := by omega
              have hLS : (closeIn T k i).length = N := (closeIn_len T k i).trans hLT
              have HSI : Hid (closeIn T k (i + 1) = closeI (closeIn T k i) k i) := Lib.hid rfl
              generalize closeIn T k i = S at *
              obtain ⟨rg, ro, rcc, hve⟩ := HOI.out.shape (by omega)
              rw [hLS] at hve
              simp only [Value.slice.injEq] at hve
              obtain ⟨rfl, _, rfl⟩ := hve
              have r1 := HOI.out.rowAt hLS.symm (k := i) (by omega)
              obtain ⟨bg, bo, bc, hvw, hbg, hbgw, hbc, b0, hfr⟩ := HOI.out.bitAt (k := i) (j := k) (by omega) hlt
              have HV := Lib.hid hvw
              rw [hvw] at r1
              clear hvw
              obtain ⟨bb, hbb⟩ : ∃ b, hasM S i k = b := ⟨_, rfl⟩
              have HBB := Lib.hid hbb
              rw [hbb] at b0
              clear hbb
              cases bb with
              | false =>
                have HOL := Lib.hid (show OwnTab wr w.heap.size (.slice (some ⟨rg, ro, none⟩) N rc) N (closeIn T k (i + 1)) va from by
                  rw [HSI.out]; unfold closeI; rw [HBB.out]; exact HOI.out)
                go_wp2
                go_roundg (N - (i + 1))
                case measure => exact Nat.lt_of_lt_of_le (Nat.sub_lt_sub_left hlt2 (Nat.lt_succ_self i)) hgi
                case rel => exact ⟨i + 1, by omega, by omega, by go_num, (show Ext _ _ from HXI.out), (show OwnTab _ _ _ _ _ _ from HOL.out)⟩
              | true =>
                have HOZ := Lib.hid (HOI.out.cong (orTo_zero (k := k) N (show i < S.length by omega)))
                go_wp2
                go_loopg [8] N (fun g s8 wr => ∃ j : Nat, j ≤ N ∧ N - j ≤ g ∧ s8 = .int .i64 j ∧ Aside (Ext w wr) ∧ Aside (OwnTab wr w.heap.size (.slice (some ⟨rg, ro, none⟩) N rc) N (orTo S i k j) va))
                case atStart => exact ⟨0, Nat.zero_le _, by omega, rfl, (show Ext _ _ from HXI.out), (show OwnTab _ _ _ _ _ _ from HOZ.out)⟩
                case round =>
                  obtain ⟨j, hj, hgj, rfl, HXJ, HOJ⟩ := hrel
                  clear HOZ r1 b0
                  by_cases hlt3 : j < N
                  case neg =>
                    have hltz3 : ¬ (j : Int) < (N : Int) := by omega
                    obtain rfl : N = j := by omega
                    have HOL := Lib.hid (show OwnTab wr w.heap.size (.slice (some ⟨rg, ro, none⟩) N rc) N (closeIn T k (i + 1)) va from by
                      rw [HSI.out]; unfold closeI; rw [HBB.out]
                      exact HOJ.out.cong (orTo_all N (by omega)))
                    go_wp2
                    go_roundg (N - (i + 1))
                    case measure => exact Nat.lt_of_lt_of_le (Nat.sub_lt_sub_left hlt2 (Nat.lt_succ_self i)) hgi
                    case rel => exact ⟨i + 1, by omega, by omega, by go_num, (show Ext _ _ from HXJ.out), (show OwnTab _ _ _ _ _ _ from HOL.out)⟩
                  case pos =>
                    have hltz3 : (j : Int) < (N : Int) := by omega
                    have hjz : (0 : Int) ≤ (j : Int) := by omega
                    have hLO : (orTo S i k j).length = N := (orTo_len ..).trans hLS
                    have rk := HOJ.out.rowAt hLO.symm (k := k) (by omega)
                    have ri := HOJ.out.rowAt hLO.symm (k := i) (by omega)
                    obtain ⟨kg, ko, kc, hvk, _, _, hkc, kb, _⟩ := HOJ.out.bitAt (k := k) (j := j) (by omega) hlt3
                    obtain ⟨ig, io, ic, hvi, hig, _, hic, ib0, hfi⟩ := HOJ.out.bitAt (k := i) (j := j) (by omega) hlt3
                    rw [orTo_read (by omega)] at kb
                    rw [hvk] at rk
                    rw [hvi] at ri
                    have HPUT := Lib.hid (HOJ.out.put (k := i) (j := j) (by omega) hlt3 hvi)
                    have HX2 := Lib.hid (HXJ.out.st (p := ⟨ig, io + j, none⟩) hig (.bool true))
                    have HYES := Lib.hid (fun h => orTo_yes (M := S) (i := i) (k := k) (j := j) N (by omega) h)
                    have HNO := Lib.hid (fun h => orTo_no (M := S) (i := i) (k := k) (j := j) N (by omega) h)
                    obtain ⟨cb, hcb⟩ : ∃ b, hasM S k j = b := ⟨_, rfl⟩
                    rw [hcb] at HYES HNO kb
                    generalize hasM (orTo S i k j) i j = m0 at *
                    clear hcb hvk hvi
                    cases cb with
                    | true =>
                      have HNW := Lib.hid (HPUT.out.cong (HYES.out rfl))
                      clear HYES HNO
                      go_wp2
                      go_roundg (N - (j + 1))
                      case measure => exact Nat.lt_of_lt_of_le (Nat.sub_lt_sub_left hlt3 (Nat.lt_succ_self j)) hgj
                      case rel => exact ⟨j + 1, by omega, by omega, by go_num, (show Ext _ _ from HX2.out), (show OwnTab _ _ _ _ _ _ from HNW.out)⟩
                    | false =>
                      have HNW := Lib.hid (HOJ.out.cong (HNO.out rfl))
                      clear HYES HNO
                      go_wp2
                      go_roundg (N - (j + 1))
                      case measure => exact Nat.lt_of_lt_of_le (Nat.sub_lt_sub_left hlt3 (Nat.lt_succ_self j)) hgj
                      case rel => exact ⟨j + 1, by omega, by omega, by go_num, (show Ext _ _ from HXJ.out), (show OwnTab _ _ _ _ _ _ from HNW.out)⟩

end Go.Proofs.Ytodkcfebcjgahaa

/-
  The reference's Acyclic.
-/
namespace Go.Proofs.Ytodkcfebcjgahaa
open Go.RowKit
set_option linter.unusedVariables false

def acycB (M : List Nat) : Bool := (List.range M.length).all fun i => !hasM (closeM M) i i
theorem acycB_no {M : List Nat} {i : Nat} (hi : i < M.length) (h : hasM (closeM M) i i = true) : acycB M = false := by
  unfold acycB
  rw [List.all_eq_false]
  exact ⟨i, List.mem_range.2 hi, by rw [h]; simp⟩
theorem acycB_yes {M : List Nat} (h : ∀ i, i < M.length → hasM (closeM M) i i = false) : acycB M = true := by
  unfold acycB
  rw [List.all_eq_true]
  exact fun i hi => by rw [h i (List.mem_range.1 hi)]; rfl

theorem enters_39 : ∀ args w, (callFunc 39 args).run Try.prog w = .ok (.enter 39 args) w := enters_of Try.func39 (by kernel_rfl) rfl
set_option maxHeartbeats 8000000 in
set_option maxRecDepth 100000 in
theorem acyclicR_calls (v : Value) (N : Nat) (M : List Nat) (vw : Nat → Value) (base : Nat) (w : World) (h : OwnTab w base v N M vw) (hM : M.length = N) (hN : N ≤ 512) :
    Calls Try.prog 39 #[v] w fun e w' => e = .returned (.bool (acycB M)) ∧ Ext w w' := by
  have HC := Lib.hid (closureR_calls v N M vw base w h hM hN)
  have HNO := Lib.hid (fun i hi h => acycB_no (M := M) (i := i) hi h)
  have HYES := Lib.hid (fun h => acycB_yes (M := M) h)
  have hcl : (closeM M).length = N := (closeTo_len M _).trans hM
  rw [hM] at HNO HYES
  obtain ⟨ta, tc, hv⟩ := h.any
  rw [hM] at hv
  subst hv
  generalize acycB M = ans at *
  generalize closeM M = S at *
  clear h hM
  go_enter Try.func39, Try.ntmps39
  go_wp2_with fail
  refine HC.out.mono ?_
  rintro e w1 ⟨v', rfl, hx1, va, ho⟩
  have HX1 := Lib.hid hx1
  have HO := Lib.hid ho
  obtain ⟨ra, rc, hv⟩ := ho.any
  rw [hcl] at hv
  subst hv
  clear hx1 ho HC
  go_wp2
  go_loopg [4] N (fun g s4 wr => wr = w1 ∧ ∃ i : Nat, i ≤ N ∧ N - i ≤ g ∧ s4 = .int .i64 i ∧ Aside (∀ j, j < i → hasM S j j = false))
  case atStart => exact ⟨rfl, 0, Nat.zero_le _, by omega, rfl, (show Aside _ from fun j hj => absurd hj (Nat.not_lt_zero _))⟩
  case round =>
    obtain ⟨rfl, i, hi, hg, rfl, HA⟩ := hrel
    by_cases hlt : i < N
    case neg =>
      have hltz : ¬ (i : Int) < (N : Int) := by omega
      obtain rfl : N = i := by omega
      have HQ := Lib.hid (HYES.out HA.out)
      go_wp2
      go_ret
      exact ⟨by rw [HQ.out]; rfl, HX1.out⟩
    case pos =>
      have hltz : (i : Int) < (N : Int) := by omega
      have hiz : (0 : Int) ≤ (i : Int) := by omega
      obtain ⟨rg, ro, rcc, hve⟩ := HO.out.shape (by omega)
      rw [hcl] at hve
      simp only [Value.slice.injEq] at hve
      obtain ⟨rfl, _, rfl⟩ := hve
      have r1 := HO.out.rowAt hcl.symm (k := i) (by omega)
      obtain ⟨bg, bo, bc, hvw, _, _, hbc, b0, _⟩ := HO.out.bitAt (k := i) (j := i) (by omega) hlt
      rw [hvw] at r1
      have HN2 := Lib.hid (HNO.out i hlt)
      have HS := Lib.hid (fun (h : hasM S i i = false) => (show ∀ j, j < i + 1 → hasM S j j = false from fun j hj => by
        by_cases e : j = i
        · subst e; exact h
        · exact HA.out j (by omega)))
      obtain ⟨bb, hbb⟩ : ∃ b, hasM S i i = b := ⟨_, rfl⟩
      rw [hbb] at b0 HN2 HS
      clear hvw hbb
      cases bb with
      | true =>
        have HQ := Lib.hid (HN2.out rfl)
        go_wp2
        go_ret
        exact ⟨by rw [HQ.out]; rfl, HX1.out⟩
      | false =>
        have HS2 := Lib.hid (HS.out rfl)
        clear HS
        go_wp2
        go_roundg (N - (i + 1))
        case measure => exact Nat.lt_of_lt_of_le (Nat.sub_lt_sub_left hlt (Nat.lt_succ_self i)) hg
        case rel => exact ⟨rfl, i + 1, by omega, by omega, by go_num, (show Aside _ from HS2.out)⟩

end Go.Proofs.Ytodkcfebcjgahaa

/-
  The reference's Cycle of a table (antecederef03). It finds the way that the search of the program finds.
-/
namespace Go.Proofs.Ytodkcfebcjgahaa
open Go.RowKit
set_option linter.unusedVariables false

def farA (M : List Nat) (f N i : Nat) : List Int := (List.range N).map fun x => if x < i then (if hasM M x f = true then 1 else (N : Int) + 1) else 0
theorem farA_len (M : List Nat) (f N i : Nat) : (farA M f N i).length = N := by simp [farA]
theorem farA_at {M : List Nat} {f N i x : Nat} (hx : x < N) : (farA M f N i)[x]! = if x < i then (if hasM M x f = true then 1 else (N : Int) + 1) else 0 := by
  rw [getElem!_pos _ x (by rw [farA_len]; exact hx)]; simp [farA]
theorem farA_step {M : List Nat} {f N i : Nat} (b : Bool) (hb : hasM M i f = b) (v : Int) (hv : v = if b = true then 1 else (N : Int) + 1) : (farA M f N i).set i v = farA M f N (i + 1) := by
  refine List.ext_getElem (by rw [List.length_set, farA_len, farA_len]) fun x h1 h2 => ?_
  rw [List.getElem_set]
  simp only [farA, List.getElem_map, List.getElem_range]
  by_cases e : i = x
  · subst e
    rw [if_pos rfl, if_pos (Nat.lt_succ_self _), hb, hv]
  · rw [if_neg e]
    have : (x < i) = (x < i + 1) := by rw [eq_iff_iff]; omega
    simp only [this]

theorem enters_40 : ∀ args w, (callFunc 40 args).run Try.prog w = .ok (.enter 40 args) w := enters_of Try.func40 (by kernel_rfl) rfl
set_option maxHeartbeats 8000000 in
set_option maxRecDepth 100000 in
theorem cycR_calls (v : Value) (N : Nat) (M : List Nat) (vw : Nat → Value) (base : Nat) (w : World) (h : OwnTab w base v N M vw) (hM : M.length = N) (hN : N ≤ 512) (f : Nat) (hf : f < N) (hp : hasM (closeM M) f f = true) (hlow : ∀ g, g < f → hasM (closeM M) g g = false)
    (S : List Int) (Q : List Nat) (L : Int) (l : Nat) (hB : BfsM M f S Q L Q.length 0) (hl : LeastM M f f l) :
    Calls Try.prog 40 #[v] w fun e w' => ∃ v', e = .returned v' ∧ Ext w w' ∧ RowN w' w.heap.size v' (outTo M f S l l) := by
  have HH := Lib.hid h
  have HM := Lib.hid hM
  have HC := Lib.hid (closureR_calls v N M vw base w h hM hN)
  have hcl : (closeM M).length = N := (closeTo_len M _).trans hM
  obtain ⟨ii, hii, iz0, iz1, iz2⟩ := info_partsW info_intW
  obtain ⟨ta, tc, hv⟩ := h.any
  rw [hM] at hv
  subst hv
  have HP := Lib.hid hp
  have HLOW := Lib.hid hlow
  have HBE := Lib.hid hB
  have HLE := Lib.hid hl
  have hlM : l < M.length := by
    obtain ⟨d, _, h2, h3⟩ := bfs_turn hB ⟨l, hl.1⟩
    rw [least_one hl h2]; exact h3
  have HLM := Lib.hid hlM
  rw [hM] at hlM
  have HOL := Lib.hid (fun m hm => out_last HBE.out HLE.out m hm)
  generalize closeM M = SC at *
  clear h hM hp hlow hB hl
  go_enter Try.func40, Try.ntmps40
  go_wp2_with fail
  refine HC.out.mono ?_
  rintro e w1 ⟨v', rfl, hx1, va, ho⟩
  have HX1 := Lib.hid hx1
  have HO := Lib.hid ho
  obtain ⟨rg, ro, rc, hve⟩ := ho.shape (by omega)
  rw [hcl] at hve
  subst hve
  clear hx1 ho HC
  go_wp2
  go_loopg [5] f (fun g s5 wr => wr = w1 ∧ ∃ i : Nat, i ≤ f ∧ f - i ≤ g ∧ s5 = .int .i64 i)
  case atStart => exact ⟨rfl, 0, Nat.zero_le _, by omega, rfl⟩
  case round =>
    obtain ⟨rfl, i, hi, hg, rfl⟩ := hrel
    have hiN : (i : Int) < (N : Int) := by omega
    have hiz : (0 : Int) ≤ (i : Int) := by omega
    have r1 := HO.out.rowAt hcl.symm (k := i) (by omega)
    obtain ⟨bg, bo, bc, hvw, _, _, hbc, b0, _⟩ := HO.out.bitAt (k := i) (j := i) (by omega) (by omega)
    rw [hvw] at r1
    clear hvw
    by_cases hlt : i < f
    case pos =>
      rw [HLOW.out i hlt] at b0
      go_wp2
      go_roundg (f - (i + 1))
      case measure => exact Nat.lt_of_lt_of_le (Nat.sub_lt_sub_left hlt (Nat.lt_succ_self i)) hg
      case rel => exact ⟨rfl, i + 1, by omega, by omega, by go_num⟩
    case neg =>
      obtain rfl : f = i := by omega
      rw [HP.out] at b0
      go_wp2_with ((at_make; refine wpList_make_full _ rfl _ _ 26 rfl w.heap.size 3 ii (.int .i64 0) 1 Try.underlying26 hii iz0 iz1 .i64 .i64 _ _ N rfl rfl rfl rfl (by rw [iz2]; omega) (by unfold maxLen; omega) HX1.out.sz ?_; intro w3 hown3 hgrow3))
      have HB3 := Lib.hid (show Row w3 w.heap.size 3 1 (.slice (some ⟨wr.heap.size, 0, none⟩) N N) N ((farA M f N 0).map (Value.int .i64)) from by
        have := Row.ofOwns hown3
        rw [show (Value.int .i64 0).cells = #[.int .i64 0] from rfl, Nat.mul_one, toList_madeCells_one] at this
        have e : farA M f N 0 = List.replicate N 0 := List.ext_getElem (by simp [farA]) fun i h1 h2 => by simp [farA]
        rw [e, List.map_replicate]; exact this)
      have HX3 := Lib.hid (HX1.out.gr hgrow3 (by simp))
      have hbr : w.heap.size ≤ wr.heap.size := HX1.out.sz
      generalize wr.heap.size = br at *
      clear hown3 hgrow3 b0 r1
      go_wp2
      go_loopg [7] N (fun g s7 wx => ∃ i : Nat, i ≤ N ∧ N - i ≤ g ∧ s7 = .int .i64 i ∧ Aside (Ext w wx) ∧ Aside (Row wx w.heap.size 3 1 (.slice (some ⟨br, 0, none⟩) N N) N ((farA M f N i).map (Value.int .i64))))
      case atStart => exact ⟨0, Nat.zero_le _, by omega, rfl, (show Ext _ _ from HX3.out), (show Row _ _ _ _ _ _ _ from HB3.out)⟩
      case round =>
        obtain ⟨i, hi, hg, rfl, HX, HB⟩ := hrel
        clear HX3 HB3
        by_cases hlt : i < N
        case pos =>
          have hltz : (i : Int) < (N : Int) := by omega
          have hjz : (0 : Int) ≤ (i : Int) := by omega
          have hfz : (f : Int) < (N : Int) := by omega
          obtain ⟨tg, tof, tcc, hve⟩ := HH.out.shape (by rw [HM.out]; omega)
          rw [HM.out] at hve
          simp only [Value.slice.injEq] at hve
          obtain ⟨rfl, _, rfl⟩ := hve
          have q0 := HH.out.rowAt HM.out.symm (k := i) (by rw [HM.out]; exact hlt)
          obtain ⟨bg, bo, bc, hvw, _, hbgw, hbc, p0, _⟩ := HH.out.bitAt (k := i) (j := f) (by rw [HM.out]; exact hlt) (by omega)
          rw [hvw] at q0
          have htg := World.block_lt_of_cell? w _ q0
          simp only at htg
          have n1 : tg ≠ br := by omega
          have n2 : bg ≠ br := by omega
          have r0 := HX.out.cl q0
          have b0 := HX.out.cl p0
          have hfr := HB.out.free i
          have hm := HB.out.cell i (by omega)
          rw [Nat.zero_add, List.getElem?_map, List.getElem?_eq_getElem (by rw [farA_len]; exact hlt)] at hm
          simp only [Option.map_some] at hm
          have HS1 := Lib.hid (HB.out.set i (.int .i64 ((N : Int) + 1)) (by omega))
          rw [Nat.zero_add, ← List.map_set] at HS1
          have HS2 := Lib.hid (HS1.out.set i (.int .i64 1) (by omega))
          rw [Nat.zero_add, ← List.map_set, List.set_set] at HS2
          have HX2 := Lib.hid (HX.out.st (p := ⟨br, i, none⟩) hbr (.int .i64 ((N : Int) + 1)))
          have HX3 := Lib.hid (HX2.out.st (p := ⟨br, i, none⟩) hbr (.int .i64 1))
          have HY := Lib.hid (fun b hb v hv => farA_step (M := M) (f := f) (N := N) (i := i) b hb v hv)
          obtain ⟨m0, hm0⟩ : ∃ x, wr.cell? ⟨br, i, none⟩ = some x := ⟨_, hm⟩
          clear hm
          obtain ⟨bb, hbb⟩ : ∃ b, hasM M i f = b := ⟨_, rfl⟩
          have HBB := Lib.hid hbb
          rw [hbb] at b0
          clear hbb hvw q0 p0
          cases bb with
          | true =>
            rw [HY.out true HBB.out 1 rfl] at HS2
            clear HY
            go_wp2
            go_roundg (N - (i + 1))
            case measure => exact Nat.lt_of_lt_of_le (Nat.sub_lt_sub_left hlt (Nat.lt_succ_self i)) hg
            case rel => exact ⟨i + 1, by omega, by omega, by go_num, (show Ext _ _ from HX3.out), (show Row _ _ _ _ _ _ _ from HS2.out)⟩
          | false =>
            rw [HY.out false HBB.out ((N : Int) + 1) rfl] at HS1
            clear HY
            go_wp2
            go_roundg (N - (i + 1))
            case measure => exact Nat.lt_of_lt_of_le (Nat.sub_lt_sub_left hlt (Nat.lt_succ_self i)) hg
            case rel => exact ⟨i + 1, by omega, by omega, by go_num, (show Ext _ _ from HX2.out), (show Row _ _ _ _ _ _ _ from HS1.out)⟩
        case neg =>
          have hltz : ¬ (i : Int) < (N : Int) := by omega
          obtain rfl : N = i := by omega
          have hfm : f < M.length := by rw [HM.out]; exact hf
          have HF0 : Hid (FarR M f (farA M f N N) 0 0 0) := Lib.hid (far_start (by rw [farA_len, HM.out]) (fun x hx => by rw [HM.out] at hx ⊢; rw [farA_at hx, if_pos hx]) hfm)
          have HB0 := Lib.hid HB.out
          have HFL := Lib.hid (farA_len M f N N)
          have HK0 : Hid (∃ F : List Int, F.length = N ∧ FarR M f F 0 0 0 ∧ Row wr w.heap.size 3 1 (.slice (some ⟨br, 0, none⟩) N N) N (F.map (Value.int .i64))) := Lib.hid ⟨_, HFL.out, HF0.out, HB.out⟩
          clear HB HB0 HF0 HFL
          go_wp2
          go_loopg [8, 9, 10] N (fun g s8 _ _ wx => ∃ k : Nat, k ≤ N ∧ N - k ≤ g ∧ s8 = .int .i64 k ∧ Aside (Ext w wx) ∧ Aside (∃ F : List Int, F.length = N ∧ FarR M f F k 0 0 ∧ Row wx w.heap.size 3 1 (.slice (some ⟨br, 0, none⟩) N N) N (F.map (Value.int .i64))))
          case atStart => exact ⟨0, Nat.zero_le _, by omega, rfl, (show Ext _ _ from HX.out), (show Aside _ from HK0.out)⟩
          case round =>
            obtain ⟨k, hk, hgk, rfl, HXK, HFK⟩ := hrel
            clear HX HK0
            by_cases hlt : k < N
            case neg =>
              have hltz : ¬ (k : Int) < (N : Int) := by omega
              obtain rfl : N = k := by omega
              obtain ⟨F, hFl, hFR, hRow⟩ := HFK.out
              have hFM : FarR M f F M.length 0 0 := by rw [HM.out]; exact hFR
              have HRW := Lib.hid hRow
              have HFL := Lib.hid hFl
              have HNX := Lib.hid (fun left x y h1 h2 hy => far_next hFM HBE.out HLE.out HLM.out (left := left) (x := x) (y := y) h1 h2 hy)
              have hFf : F[f]! = (l : Int) + 1 := far_least hFM hfm HLE.out HLM.out
              have cf := HRW.out.cell f (by omega)
              rw [Nat.zero_add, List.getElem?_map, List.getElem?_eq_getElem (by omega), ← getElem!_pos F f (by omega), hFf] at cf
              simp only [Option.map_some] at cf
              have hwl : IntKind.i64.wrap ((l : Int) + 1 - 1) = (l : Int) := by rw [Int.add_sub_cancel]; exact IntWalk.i64_in _ (by omega)
              obtain ⟨wp, rfl⟩ : ∃ x, x = wr := ⟨_, rfl⟩
              have HXN := Lib.hid ((Ext.rf wp).al (.cells #[.int .i64 (f : Int)] 3))
              have hnb : br ≠ wp.heap.size := by have := (HRW.out.lt br rfl).2; omega
              have cf2 := HXN.out.cl cf
              have HR0 : Hid (RowN (wp.alloc (.cells #[.int .i64 (f : Int)] 3)) wp.heap.size (.slice (some ⟨wp.heap.size, 0, none⟩) 1 1) (outTo M f S l 0)) := Lib.hid ⟨rfl, .inr ⟨wp.heap.size, 0, 1, _, rfl, Nat.le_refl _, heap_alloc_new _ _, Nat.le_refl _, by unfold maxLen; omega, by simp, by simp [outTo]⟩⟩
              clear hFl hFR hRow hFM hFf
              go_wp2
              clear hwl cf cf2
              generalize wp.alloc (.cells #[.int .i64 (f : Int)] 3) = wN at *
              go_loopg [11, 12, 13, 14] l (fun g s11 s12 s13 _ wr => ∃ m : Nat, m ≤ l ∧ l - m ≤ g ∧ s12 = .int .i64 (((outTo M f S l m).getLastD f : Nat) : Int) ∧ s13 = .int .i64 ((l - m : Nat) : Int) ∧ Aside (RowN wr wp.heap.size s11 (outTo M f S l m)) ∧ Aside (Ext wp wr))
              case atStart => exact ⟨0, Nat.zero_le _, by omega, rfl, rfl, (show RowN _ _ _ _ from HR0.out), (show Ext _ _ from HXN.out)⟩
              case round =>
                obtain ⟨m, hm, hg5, rfl, rfl, HR, HXP⟩ := hrel
                obtain ⟨ho1, ho2, ho3⟩ := HOL.out m hm
                obtain ⟨gR, oR, cR, rfl, _⟩ := HR.out.shape (by rw [ho1]; omega)
                have HRL := Lib.hid ho1
                rw [ho1]
                obtain ⟨lf, hlf⟩ : ∃ q, l - m = q := ⟨_, rfl⟩
                obtain ⟨y, hy⟩ : ∃ y, (outTo M f S l m).getLastD f = y := ⟨_, rfl⟩
                have hgm := hg5
                rw [hlf] at hg5 ⊢
                rw [hy]
                by_cases hml : m < l
                case neg =>
                  have hlz : ¬ (0 : Int) < (lf : Int) := by omega
                  have hlz2 : ¬ 0 < lf := by omega
                  have hmm : m = l := by omega
                  subst hmm
                  go_wp2
                  go_ret
                  refine ⟨_, rfl, HXK.out.trans' HXP.out, ?_⟩
                  have h := HR.out
                  rw [RowN, HRL.out] at h ⊢
                  exact h.mono HXK.out.sz
                case pos =>
                  have HG5 := Lib.hid hgm
                  have hlz : (0 : Int) < (lf : Int) := by omega
                  have hlz2 : 0 < lf := by omega
                  have HLF : Hid ((lf : Int) - 1 = ((l - (m + 1) : Nat) : Int)) := Lib.hid (by omega)
                  have HM1 := Lib.hid (show m + 1 ≤ l from hml)
                  have hyN : y < N := by rw [hy, HM.out] at ho2; exact ho2
                  have HNS : Hid (∃ j, j < N ∧ nextB M f S y lf j = true) := Lib.hid (by
                    rw [hy, show l - m = (l - (m + 1)) + 1 by omega] at ho3
                    obtain ⟨j, hj, hb, _⟩ := next_some HBE.out HLE.out ho3 (by omega)
                    rw [show l - (m + 1) + 1 = lf by omega] at hb
                    exact ⟨j, by rw [← HM.out]; exact hj, hb⟩)
                  have HOS : Hid (∀ j, j < N → nextB M f S y lf j = true → (∀ i, i < j → nextB M f S y lf i = false) → outTo M f S l (m + 1) = outTo M f S l m ++ [j]) := Lib.hid (fun j hj hb hall => by
                    show (match (List.range M.length).find? (nextB M f S ((outTo M f S l m).getLastD f) (l - m)) with | some j => outTo M f S l m ++ [j] | none => outTo M f S l m) = _
                    rw [hy, hlf, HM.out, find_range hj hb hall])
                  have HNY := Lib.hid (fun j hj => HNX.out lf y j (by omega) (by omega) hj)
                  clear ho1 ho2 ho3 hy hgm
                  go_wp2
                  obtain ⟨wq, rfl⟩ : ∃ x, x = wr := ⟨_, rfl⟩
                  go_loopg [14] N (fun g s14 wr => ∃ j : Nat, j ≤ N ∧ N - j ≤ g ∧ s14 = .int .i64 j ∧ Aside (∀ i, i < j → nextB M f S y lf i = false) ∧ Aside (Ext wq wr))
                  case atStart => exact ⟨0, Nat.zero_le _, by omega, rfl, (fun i hi => absurd hi (Nat.not_lt_zero _)), Ext.rf _⟩
                  case round =>
                    obtain ⟨j, hj, hg6, rfl, A, HXJ⟩ := hrel
                    by_cases hjN : j < N
                    case neg =>
                      exfalso
                      obtain ⟨j', hj', hb⟩ := HNS.out
                      have := A.out j' (by omega)
                      rw [hb] at this; cases this
                    case pos =>
                      have hjz : (j : Int) < (N : Int) := by omega
                      have hjz0 : (0 : Int) ≤ (j : Int) := by omega
                      have hyz : (y : Int) < (N : Int) := by omega
                      have hyz0 : (0 : Int) ≤ (y : Int) := by omega
                      have HXA := Lib.hid (HXK.out.trans' (HXP.out.trans' HXJ.out))
                      have HX2 := Lib.hid (HXP.out.trans' HXJ.out)
                      obtain ⟨tg, tof, tcc, hve⟩ := HH.out.shape (by rw [HM.out]; omega)
                      rw [HM.out] at hve
                      simp only [Value.slice.injEq] at hve
                      obtain ⟨rfl, _, rfl⟩ := hve
                      have q0 := HH.out.rowAt HM.out.symm (k := y) (by rw [HM.out]; exact hyN)
                      obtain ⟨bg, bo, bc, hvw, _, hbgw, hbc, p0, _⟩ := HH.out.bitAt (k := y) (j := j) (by rw [HM.out]; exact hyN) hjN
                      rw [hvw] at q0
                      have r0 := HXA.out.cl q0
                      have b0 := HXA.out.cl p0
                      have fj := HRW.out.cell j (by omega)
                      rw [Nat.zero_add, List.getElem?_map, List.getElem?_eq_getElem (by rw [HFL.out]; omega), ← getElem!_pos F j (by rw [HFL.out]; omega)] at fj
                      simp only [Option.map_some] at fj
                      have f0 := HX2.out.cl fj
                      have HNB : Hid ((hasM M y j && (F[j]! == (lf : Int))) = nextB M f S y lf j) := Lib.hid (HNY.out j (by rw [HM.out]; exact hjN))
                      have HAJ : Hid (nextB M f S y lf j = false → ∀ i, i < j + 1 → nextB M f S y lf i = false) := Lib.hid (fun h i hi => by
                        by_cases e : i = j
                        · subst e; exact h
                        · exact A.out i (by omega))
                      have HOJ := Lib.hid (fun h => HOS.out j hjN h A.out)
                      obtain ⟨bb, hbb⟩ : ∃ b, hasM M y j = b := ⟨_, rfl⟩
                      rw [hbb] at b0 HNB
                      generalize F[j]! = x at *
                      have HX9 := Lib.hid HXJ.out
                      have HXP9 := Lib.hid HX2.out
                      have HR9 := Lib.hid (HR.out.ext HX9.out)
                      rw [HRL.out] at HR9
                      clear hbb hvw q0 p0 fj
                      cases bb with
                      | false =>
                        have HA9 := Lib.hid (HAJ.out (by rw [← HNB.out]; rfl))
                        go_wp2
                        go_roundg (N - (j + 1))
                        case measure => omega
                        case rel => exact ⟨j + 1, by omega, by omega, by go_num, (show Aside _ from HA9.out), (show Ext _ _ from HX9.out)⟩
                      | true =>
                        by_cases hx : x = (lf : Int)
                        · have HON := Lib.hid (HOJ.out (by rw [← HNB.out, hx]; simp))
                          have hq : (x != (lf : Int)) = false := by rw [bne_eq_false_iff_eq]; exact hx
                          have hwlf : IntKind.i64.wrap ((lf : Int) - 1) = (lf : Int) - 1 := IntWalk.i64_in _ (by omega)
                          clear hx
                          generalize wr = w9 at *
                          go_wp2_with ((at_builtin; go_loud (refine wpList_append_one rfl _ _ 26 rfl wp.heap.size 3 ii (.int .i64 0) 1 8 Try.underlying26 hii iz0 iz1 iz2 rfl (by decide) _ (m + 1) ((outTo M f S l m).map fun (x : Nat) => Value.int .i64 (x : Int)) rfl (HR9.out.al _) w9.heap.size 1 [.int .i64 (j : Int)] rfl rfl ⟨_, heap_alloc_new _ _⟩ (by simp [Value.oneCell']) (by unfold maxLen; omega) (by omega) (Nat.le_trans HXP9.out.sz ((Ext.rf w9).al _).sz) ?_; intro v8 w8 hown8 hgrow8 hblk8; obtain ⟨a8, c8, rfl, _⟩ := hown8.any; have HOWN := Lib.hid hown8; have HX8 := Lib.hid ((HXP9.out.al (.cells #[.int .i64 (j : Int)] 3)).gr hgrow8 (fun q hq => (HR9.out.lt q hq).1)); clear hown8 hgrow8 hblk8)))
                          go_roundg (l - (m + 1))
                          case measure => exact Nat.lt_of_lt_of_le (Nat.sub_lt_sub_left hml (Nat.lt_succ_self m)) HG5.out
                          case rel =>
                            refine ⟨m + 1, HM1.out, Nat.le_refl _, by rw [HON.out, getLastD_snoc], by first | rw [HLF.out] | rw [hwlf, HLF.out], (show RowN _ _ _ _ from ?_), (show Ext _ _ from HX8.out)⟩
                            rw [HON.out, RowN, List.length_append, HRL.out, List.length_singleton, List.map_append]
                            exact HOWN.out
                        · have hq : (x != (lf : Int)) = true := by rw [bne_iff_ne]; exact hx
                          have HA9 := Lib.hid (HAJ.out (by rw [← HNB.out, beq_eq_false_iff_ne.2 hx]; rfl))
                          clear hx
                          go_wp2
                          go_roundg (N - (j + 1))
                          case measure => omega
                          case rel => exact ⟨j + 1, by omega, by omega, by go_num, (show Aside _ from HA9.out), (show Ext _ _ from HX9.out)⟩
            case pos =>
              have hltz : (k : Int) < (N : Int) := by omega
              go_wp2
              go_loopg [9, 10] N (fun g s9 _ wx => ∃ i : Nat, i ≤ N ∧ N - i ≤ g ∧ s9 = .int .i64 i ∧ Aside (Ext w wx) ∧ Aside (∃ F : List Int, F.length = N ∧ FarR M f F k i 0 ∧ Row wx w.heap.size 3 1 (.slice (some ⟨br, 0, none⟩) N N) N (F.map (Value.int .i64))))
              case atStart => exact ⟨0, Nat.zero_le _, by omega, rfl, (show Ext _ _ from HXK.out), (show Aside _ from HFK.out)⟩
              case round =>
                obtain ⟨i, hi, hgi, rfl, HXI, HFI⟩ := hrel
                clear HXK HFK
                by_cases hlt2 : i < N
                case neg =>
                  have hltz2 : ¬ (i : Int) < (N : Int) := by omega
                  obtain rfl : N = i := by omega
                  have HFN : Hid (∃ F : List Int, F.length = N ∧ FarR M f F (k + 1) 0 0 ∧ Row wr w.heap.size 3 1 (.slice (some ⟨br, 0, none⟩) N N) N (F.map (Value.int .i64))) := Lib.hid (by
                    obtain ⟨F, h1, h2, h3⟩ := HFI.out
                    exact ⟨F, h1, far_round (by rw [HM.out]; exact h2), h3⟩)
                  go_wp2
                  go_roundg (N - (k + 1))
                  case measure => exact Nat.lt_of_lt_of_le (Nat.sub_lt_sub_left hlt (Nat.lt_succ_self k)) hgk
                  case rel => exact ⟨k + 1, by omega, by omega, by go_num, (show Ext _ _ from HXI.out), (show Aside _ from HFN.out)⟩
                case pos =>
                  have hltz2 : (i : Int) < (N : Int) := by omega
                  have hiz : (0 : Int) ≤ (i : Int) := by omega
                  go_wp2
                  go_loopg [10] N (fun g s10 wx => ∃ j : Nat, j ≤ N ∧ N - j ≤ g ∧ s10 = .int .i64 j ∧ Aside (Ext w wx) ∧ Aside (∃ F : List Int, F.length = N ∧ FarR M f F k i j ∧ Row wx w.heap.size 3 1 (.slice (some ⟨br, 0, none⟩) N N) N (F.map (Value.int .i64))))
                  case atStart => exact ⟨0, Nat.zero_le _, by omega, rfl, (show Ext _ _ from HXI.out), (show Aside _ from HFI.out)⟩
                  case round =>
                    obtain ⟨j, hj, hgj, rfl, HX, HF⟩ := hrel
                    clear HXI HFI
                    by_cases hlt3 : j < N
                    case neg =>
                      have hltz3 : ¬ (j : Int) < (N : Int) := by omega
                      obtain rfl : N = j := by omega
                      have HFN : Hid (∃ F : List Int, F.length = N ∧ FarR M f F k (i + 1) 0 ∧ Row wr w.heap.size 3 1 (.slice (some ⟨br, 0, none⟩) N N) N (F.map (Value.int .i64))) := Lib.hid (by
                        obtain ⟨F, h1, h2, h3⟩ := HF.out
                        exact ⟨F, h1, far_row (by rw [HM.out]; exact h2), h3⟩)
                      go_wp2
                      go_roundg (N - (i + 1))
                      case measure => exact Nat.lt_of_lt_of_le (Nat.sub_lt_sub_left hlt2 (Nat.lt_succ_self i)) hgi
                      case rel => exact ⟨i + 1, by omega, by omega, by go_num, (show Ext _ _ from HX.out), (show Aside _ from HFN.out)⟩
                    case pos =>
                      have hltz3 : (j : Int) < (N : Int) := by omega
                      have hjz : (0 : Int) ≤ (j : Int) := by omega
                      obtain ⟨F, hFl, hFR, hRow⟩ := HF.out
                      have HR := Lib.hid hRow
                      have HFR := Lib.hid hFR
                      obtain ⟨tg, tof, tcc, hve⟩ := HH.out.shape (by rw [HM.out]; omega)
                      rw [HM.out] at hve
                      simp only [Value.slice.injEq] at hve
                      obtain ⟨rfl, _, rfl⟩ := hve
                      have q0 := HH.out.rowAt HM.out.symm (k := i) (by rw [HM.out]; exact hlt2)
                      obtain ⟨bg, bo, bc, hvw, _, hbgw, hbc, p0, _⟩ := HH.out.bitAt (k := i) (j := j) (by rw [HM.out]; exact hlt2) hlt3
                      rw [hvw] at q0
                      have r0 := HX.out.cl q0
                      have b0 := HX.out.cl p0
                      obtain ⟨bb, hbb⟩ : ∃ b, hasM M i j = b := ⟨_, rfl⟩
                      have HBB := Lib.hid hbb
                      rw [hbb] at b0
                      clear hbb hvw q0 p0 hRow hFR
                      cases bb with
                      | false =>
                        have HNW : Hid (∃ F : List Int, F.length = N ∧ FarR M f F k i (j + 1) ∧ Row wr.drew w.heap.size 3 1 (.slice (some ⟨br, 0, none⟩) N N) N (F.map (Value.int .i64))) := Lib.hid ⟨F, hFl, far_skip HFR.out (by rw [HM.out]; exact hlt3) (.inl HBB.out), HR.out.ext (Ext.rf wr).dr⟩
                        clear HF hFl
                        go_wp2
                        go_region
                        go_wp2
                        go_roundg (N - (j + 1))
                        case measure => exact Nat.lt_of_lt_of_le (Nat.sub_lt_sub_left hlt3 (Nat.lt_succ_self j)) hgj
                        case rel => exact ⟨j + 1, by omega, by omega, by go_num, (show Ext _ _ from HX.out.dr), (show Aside _ from HNW.out)⟩
                      | true =>
                        have hjM : j < M.length := by rw [HM.out]; exact hlt3
                        have hiM : i < M.length := by rw [HM.out]; exact hlt2
                        have cj := HR.out.cell j (by omega)
                        have ci := HR.out.cell i (by omega)
                        rw [Nat.zero_add, List.getElem?_map, List.getElem?_eq_getElem (by omega), ← getElem!_pos F j (by omega)] at cj
                        rw [Nat.zero_add, List.getElem?_map, List.getElem?_eq_getElem (by omega), ← getElem!_pos F i (by omega)] at ci
                        simp only [Option.map_some] at cj ci
                        have t1 := HFR.out.top j hjM
                        have t2 : 1 ≤ F[j]! := by rcases HFR.out.sound j hjM with e | ⟨d, e, _⟩ <;> omega
                        rw [HM.out] at t1
                        have hfr := HR.out.free i
                        have HSK := Lib.hid (fun h => far_skip HFR.out hjM (.inr h))
                        have HHI := Lib.hid (fun h => far_hit HFR.out hiM hjM HBB.out h)
                        have HST := Lib.hid (HR.out.set i (.int .i64 (F[j]! + 1)) (by omega))
                        rw [Nat.zero_add, ← List.map_set] at HST
                        have HX2 := Lib.hid (HX.out.dr.st (p := ⟨br, i, none⟩) hbr (.int .i64 (F[j]! + 1)))
                        have HSL : Hid ((F.set i (F[j]! + 1)).length = N) := Lib.hid (by rw [List.length_set]; exact hFl)
                        have HFN := Lib.hid hFl
                        generalize F[j]! = x at *
                        generalize F[i]! = y at *
                        clear hFl HF
                        by_cases hxy : x + 1 < y
                        · have HN2 := Lib.hid (HHI.out hxy)
                          clear HSK HHI
                          go_wp2
                          go_region
                          go_wp2
                          go_roundg (N - (j + 1))
                          case measure => exact Nat.lt_of_lt_of_le (Nat.sub_lt_sub_left hlt3 (Nat.lt_succ_self j)) hgj
                          case rel => exact ⟨j + 1, by omega, by omega, by go_num, (show Ext _ _ from HX2.out), (show Aside _ from ⟨_, HSL.out, HN2.out, HST.out.ext (Ext.rf _).dr⟩)⟩
                        · have HN2 := Lib.hid (HSK.out (by omega))
                          clear HSK HHI
                          go_wp2
                          go_region
                          go_wp2
                          go_roundg (N - (j + 1))
                          case measure => exact Nat.lt_of_lt_of_le (Nat.sub_lt_sub_left hlt3 (Nat.lt_succ_self j)) hgj
                          case rel => exact ⟨j + 1, by omega, by omega, by go_num, (show Ext _ _ from HX.out.dr), (show Aside _ from ⟨F, HFN.out, HN2.out, HR.out.ext (Ext.rf _).dr⟩)⟩

end Go.Proofs.Ytodkcfebcjgahaa

/-
  The reference's Cycle of requests: the way that the program's search finds, or none.
-/
namespace Go.Proofs.Ytodkcfebcjgahaa
open Go.RowKit
set_option linter.unusedVariables false

theorem enters_20 : ∀ args w, (callFunc 20 args).run Try.prog w = .ok (.enter 20 args) w := enters_of Try.func20 (by kernel_rfl) rfl
set_option maxHeartbeats 2000000 in
set_option maxRecDepth 100000 in
theorem refCyc_none (u : Value) (l : List Wt) (N : Nat) (w : World) (hu : Sl RWait 3 w u l) (hn : l.length ≤ 1000000) (hfl : ∀ x, x ∈ l → x.fors.length ≤ 1000000) (hN : N ≤ 512) (ok : DOk l N)
    (hno : ∀ f, f < N → ¬ PathM (relW l N) f f) :
    Calls Try.prog 20 #[u, .int .i64 N] w fun e w' => e = .returned (.tuple #[.slice none 0 0, .bool false]) ∧ Ext w w' := by
  have hML : (relW l N).length = N := relP_len _
  have HW := Lib.hid (waits_calls u l N w hu hn hfl hN ok)
  have hac : acycB (relW l N) = true := acycB_yes fun i hi => by
    rw [Bool.eq_false_iff]
    intro h
    rw [hML] at hi
    exact hno i hi ((closeM_iff (by rw [hML]; exact hi)).1 h)
  have HAC := Lib.hid (fun v vw base W (h : OwnTab W base v N (relW l N) vw) => acyclicR_calls v N (relW l N) vw base W h hML hN)
  rw [hac] at HAC
  obtain ⟨ua, uc, rfl, hucc⟩ := hu.sh
  have HML := Lib.hid hML
  clear hML hucc hu hfl ok hno hac
  generalize relW l N = M at *
  generalize l.length = L at *
  go_enter Try.func20, Try.ntmps20
  go_wp2_with fail
  refine HW.out.mono ?_
  rintro e w1 ⟨v, rfl, hx1, vw, ho⟩
  obtain ⟨a, c, hve⟩ := ho.any
  rw [HML.out] at hve
  subst hve
  have HA := Lib.hid (HAC.out _ _ _ _ ho)
  have HX1 := Lib.hid hx1
  clear ho hx1
  go_wp2_with fail
  refine HA.out.mono ?_
  rintro e w2 ⟨rfl, hx2⟩
  go_wp2
  go_ret2
  exact ⟨rfl, HX1.out.trans' hx2⟩

set_option maxHeartbeats 2000000 in
set_option maxRecDepth 100000 in
theorem refCyc_some (u : Value) (l : List Wt) (N : Nat) (w : World) (hu : Sl RWait 3 w u l) (hn : l.length ≤ 1000000) (hfl : ∀ x, x ∈ l → x.fors.length ≤ 1000000) (hN : N ≤ 512) (ok : DOk l N)
    (f : Nat) (S : List Int) (Q : List Nat) (L : Int) (k : Nat) (hp : PathM (relW l N) f f) (hmin : ∀ g, g < f → ¬ PathM (relW l N) g g) (hB : BfsM (relW l N) f S Q L Q.length 0) (hle : LeastM (relW l N) f f k) :
    Calls Try.prog 20 #[u, .int .i64 N] w fun e w' => ∃ v, e = .returned (.tuple #[v, .bool true]) ∧ Ext w w' ∧ RowN w' w.heap.size v (outTo (relW l N) f S k k) := by
  have hML : (relW l N).length = N := relP_len _
  have hf : f < N := by have := hB.far.flt; rw [hML] at this; exact this
  have HW := Lib.hid (waits_calls u l N w hu hn hfl hN ok)
  have hcf : hasM (closeM (relW l N)) f f = true := (closeM_iff (by rw [hML]; exact hf)).2 hp
  have hac : acycB (relW l N) = false := acycB_no (by rw [hML]; exact hf) hcf
  have HAC := Lib.hid (fun v vw base W (h : OwnTab W base v N (relW l N) vw) => acyclicR_calls v N (relW l N) vw base W h hML hN)
  have HCY := Lib.hid (fun v vw base W (h : OwnTab W base v N (relW l N) vw) => cycR_calls v N (relW l N) vw base W h hML hN f hf hcf (fun g hg => by
    rw [Bool.eq_false_iff]
    intro h
    exact hmin g hg ((closeM_iff (by rw [hML]; omega)).1 h)) S Q L k hB hle)
  rw [hac] at HAC
  obtain ⟨ua, uc, rfl, hucc⟩ := hu.sh
  have HML := Lib.hid hML
  clear hML hucc hu hfl ok hmin hac hB hle hp hcf
  generalize outTo (relW l N) f S k k = out at *
  generalize relW l N = M at *
  generalize l.length = L at *
  go_enter Try.func20, Try.ntmps20
  go_wp2_with fail
  refine HW.out.mono ?_
  rintro e w1 ⟨v, rfl, hx1, vw, ho⟩
  obtain ⟨a, c, hve⟩ := ho.any
  rw [HML.out] at hve
  subst hve
  have HA := Lib.hid (HAC.out _ _ _ _ ho)
  have HC := Lib.hid (fun W hW => HCY.out _ _ _ W (ho.ext hW))
  have HX1 := Lib.hid hx1
  clear ho hx1
  go_wp2_with fail
  refine HA.out.mono ?_
  rintro e w2 ⟨rfl, hx2⟩
  have HX2 := Lib.hid (HX1.out.trans' hx2)
  have HC2 := Lib.hid (HC.out _ hx2)
  clear hx2
  go_wp2_with fail
  refine HC2.out.mono ?_
  rintro e w3 ⟨v, rfl, hx3, hr⟩
  go_wp2
  go_ret2
  exact ⟨_, rfl, HX2.out.trans' hx3, hr.mono HX2.out.sz⟩

end Go.Proofs.Ytodkcfebcjgahaa
