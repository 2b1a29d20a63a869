/-
  The reference's Waits.
-/
import Derived.Test.YtodkcfebcjgahaaBase
import Derived.Test.YtodkcfebcjgahaaProg
import Derived.BigQuiet
import Derived.Deep.QuietTactic
import Derived.Deep.LoopGhost
import Derived.Shelf.Abstract
import Derived.Test.YtodkcfebcjgahaaGc
import Derived.Test.YtodkcfebcjgahaaGa
import Derived.Test.YtodkcfebcjgahaaRelE
namespace Go.Proofs.Ytodkcfebcjgahaa
open Go.RowKit
set_option linter.unusedVariables false

theorem info_rowsW : (Try.prog.info? 49).map (fun i => (i.zero, i.size, i.bytes)) = some (some (.slice none 0 0), 1, 24) := by kernel_rfl
theorem relP_add (N : Nat) (ps : List (Int × Int)) (p : Int × Int) : relP N (ps ++ [p]) = putP (relP N ps) p := by unfold relP; rw [List.foldl_append]; rfl

theorem enters_38 : ∀ args w, (callFunc 38 args).run Try.prog w = .ok (.enter 38 args) w := enters_of Try.func38 (by kernel_rfl) rfl
set_option maxHeartbeats 8000000 in
set_option maxRecDepth 100000 in
theorem waits_calls (u : Value) (l : List Wt) (N : Nat) (w : World) (hu : Sl RWait 3 w u l) (hn : l.length ≤ 1000000) (hfl : ∀ x, x ∈ l → x.fors.length ≤ 1000000) (hN : N ≤ 512) (ok : DOk l N) :
    Calls Try.prog 38 #[u, .int .i64 N] w fun e w' => ∃ v, e = .returned v ∧ Ext w w' ∧ ∃ vw, OwnTab w' w.heap.size v N (relW l N) vw := by
  have HU := Lib.hid hu
  have HFL := Lib.hid hfl
  have OK := Lib.hid ok
  have HTK : Hid (l.take l.length = l) := Lib.hid (List.take_length)
  obtain ⟨ib, bi, bz0, bz1, bz2⟩ := info_partsW info_bool
  obtain ⟨ii, hii, iz0, iz1, iz2⟩ := info_partsW info_rowsW
  obtain ⟨ua, uc, rfl, huc⟩ := hu.sh
  obtain ⟨L, hL⟩ : ∃ L, l.length = L := ⟨_, rfl⟩
  have HL := Lib.hid hL
  rw [hL] at HU hn HTK ⊢
  clear hu hfl ok huc hL
  go_enter Try.func38, Try.ntmps38
  go_wp2
  go_loopg [5, 6] N (fun g s5 s6 wr => ∃ i : Nat, i ≤ N ∧ N - i ≤ g ∧ s6 = .int .i64 i ∧ Aside (∃ vw, OwnTab wr w.heap.size s5 N (List.replicate i 0) vw) ∧ Aside (Ext w wr))
  case atStart => exact ⟨0, Nat.zero_le _, by omega, rfl, (show Aside _ from ⟨fun _ => undef, OwnTab.nil _ _ _ _⟩), (show Ext _ _ from Ext.rf _)⟩
  case round =>
    obtain ⟨i, hi, hg, rfl, HT, HX⟩ := hrel
    obtain ⟨vw, ho⟩ := HT.out
    have HO := Lib.hid ho
    obtain ⟨ta, tc, hv⟩ := ho.any
    rw [List.length_replicate] at hv
    subst hv
    clear ho HT
    by_cases hlt : i < N
    case pos =>
      have hltz : (i : Int) < (N : Int) := by omega
      go_wp2_with (first
        | ((at_make; refine wpList_make_full _ rfl _ _ 49 rfl w.heap.size 4 ib (.bool false) 1 Try.underlying49 bi bz0 bz1 .i64 .i64 _ _ N rfl rfl rfl rfl (by rw [bz2]; omega) (by unfold maxLen; omega) HX.out.sz ?_; intro w3 hown3 hgrow3
            have HB3 := Lib.hid (show Row w3 w.heap.size 4 1 (.slice (some ⟨wr.heap.size, 0, none⟩) N N) N ((rowB N 0).map Value.bool) from by
              have := Row.ofOwns hown3
              rw [show (Value.bool false).cells = #[.bool false] from rfl, Nat.mul_one, toList_madeCells_one] at this
              rw [rowB_zero, List.map_replicate]; exact this)
            have HX3 := Lib.hid (HX.out.gr hgrow3 (by simp))
            have HO3 := Lib.hid (HO.out.ext ((Ext.rf wr).gr hgrow3 (by simp)))
            clear hown3 hgrow3))
        | ((at_builtin; go_loud (refine wpList_append_one rfl _ _ 64 rfl w.heap.size 49 ii (.slice none 0 0) 1 24 Try.underlying64 hii iz0 iz1 iz2 rfl (by decide) _ i ((List.range i).map vw) rfl ((show Row w3 w.heap.size 49 1 (.slice ta i tc) i ((List.range i).map vw) from by have h := HO3.out.row; rw [List.length_replicate] at h; exact h).al _) w3.heap.size 1 [.slice (some ⟨wr.heap.size, 0, none⟩) N N] rfl rfl ⟨_, heap_alloc_new _ _⟩ (by simp [Value.oneCell']) (by unfold maxLen; omega) (by omega) (Nat.le_trans HX3.out.sz ((Ext.rf w3).al _).sz) ?_; intro v8 w8 hown8 hgrow8 hblk8; have HOWN := Lib.hid hown8; have HGR := Lib.hid hgrow8; obtain ⟨a8, c8, rfl, _⟩ := hown8.any; clear hown8 hgrow8 hblk8))))
      have HX8 := Lib.hid ((HX3.out.al (.cells #[.slice (some ⟨wr.heap.size, 0, none⟩) N N] 49)).gr HGR.out (fun q hq => (HO3.out.row.lt q hq).1))
      have hs := OwnTab.snoc (m := 0) (HO3.out.ext ((Ext.rf w3).al (.cells #[.slice (some ⟨wr.heap.size, 0, none⟩) N N] 49))) (HB3.out.al _) (fun j hj e => by
        have := ((HO.out.word j hj).lt wr.heap.size (by rw [e]; rfl)).2
        omega) HGR.out (by rw [List.length_replicate]; exact HOWN.out)
      rw [show List.replicate i 0 ++ [0] = List.replicate (i + 1) 0 from (List.replicate_succ' ..).symm] at hs
      have HS := Lib.hid hs
      clear hs
      go_roundg (N - (i + 1))
      case measure => exact Nat.lt_of_lt_of_le (Nat.sub_lt_sub_left hlt (Nat.lt_succ_self i)) hg
      case rel => exact ⟨i + 1, by omega, by omega, by go_num, (show Aside _ from ⟨_, HS.out⟩), (show Ext _ _ from HX8.out)⟩
    case neg =>
      have hltz : ¬ (i : Int) < (N : Int) := by omega
      obtain rfl : N = i := by omega
      have HO0 := Lib.hid (show OwnTab wr w.heap.size (.slice ta N tc) N (relP N (pairsW (l.take 0))) vw from HO.out)
      clear HO
      go_wp2
      go_loopg [7, 8] L (fun g s7 _ wx => ∃ i : Nat, i ≤ L ∧ L - i ≤ g ∧ s7 = .int .i64 i ∧ Aside (Ext w wx) ∧ Aside (OwnTab wx w.heap.size (.slice ta N tc) N (relP N (pairsW (l.take i))) vw))
      case atStart => exact ⟨0, Nat.zero_le _, by omega, rfl, (show Ext _ _ from HX.out), (show OwnTab _ _ _ _ _ _ from HO0.out)⟩
      case round =>
        obtain ⟨i, hi, hg, rfl, HX, HO⟩ := hrel
        by_cases hlt : i < L
        case neg =>
          have hltz : ¬ (i : Int) < (L : Int) := by omega
          obtain rfl : L = i := by omega
          rw [HTK.out] at HO
          go_wp2
          go_ret
          exact ⟨_, rfl, HX.out, vw, HO.out⟩
        case pos =>
          have hltz : (i : Int) < (L : Int) := by omega
          have HN2 := Lib.hid (pairsTo_all (l := l) (i := i) (by rw [HL.out]; exact hlt))
          have HST := Lib.hid (fun k h => pairsTo_step (l := l) (i := i) (k := k) h)
          have HZ : Hid (pairsTo l i 0 = pairsW (l.take i)) := Lib.hid (pairsTo_zero l i)
          have HO1 := Lib.hid (show OwnTab _ w.heap.size (.slice ta N tc) N (relP N (pairsTo l i 0)) vw from by rw [HZ.out]; exact HO.out)
          obtain ⟨WB, WO, WC, vs, hve, hlC, hB, hl3, hR, hcells⟩ := Sl.cellsOf HU.out i (by rw [HL.out]; exact hlt)
          simp only [Value.slice.injEq] at hve
          obtain ⟨rfl, hzz, rfl⟩ := hve
          obtain ⟨fv, rfl, hints⟩ := hR
          have hok := OK.out l[i]! (mem_at l i (by rw [HL.out]; exact hlt))
          have hfb := HFL.out l[i]! (mem_at l i (by rw [HL.out]; exact hlt))
          have c0 := hcells 0 (by omega)
          have c2 := hcells 2 (by omega)
          simp only [List.getElem!_cons_zero, List.getElem!_cons_succ, Nat.add_zero] at c0 c2
          have HINT := Lib.hid hints
          have HFO := Lib.hid (fun y hy => hok.2 y hy)
          obtain ⟨fa, fc, rfl, _, _⟩ := hints
          obtain ⟨hp0, hp1⟩ := hok.1
          generalize l[i]!.proc = pr at *
          obtain ⟨P, rfl⟩ : ∃ P : Nat, pr = (P : Int) := ⟨pr.toNat, by omega⟩
          generalize l[i]!.fors = fl at *
          obtain ⟨F, hF⟩ : ∃ F, fl.length = F := ⟨_, rfl⟩
          have HF := Lib.hid hF
          rw [hF] at HINT HN2 HST c2 hfb
          clear hcells hzz hF hok HZ HO
          go_wp2
          go_loopg [8] F (fun g s8 wr => ∃ k : Nat, k ≤ F ∧ F - k ≤ g ∧ s8 = .int .i64 k ∧ Aside (Ext w wr) ∧ Aside (OwnTab wr w.heap.size (.slice ta N tc) N (relP N (pairsTo l i k)) vw))
          case atStart => exact ⟨0, Nat.zero_le _, by omega, rfl, (show Ext _ _ from HX.out), (show OwnTab _ _ _ _ _ _ from HO1.out)⟩
          case round =>
            obtain ⟨k, hk, hg2, rfl, HXK, HOK⟩ := hrel
            have w0 := HXK.out.cl c0
            have w2 := HXK.out.cl c2
            by_cases hlt2 : k < F
            case neg =>
              have hltz2 : ¬ (k : Int) < (F : Int) := by omega
              obtain rfl : F = k := by omega
              have HON := Lib.hid HOK.out
              rw [HN2.out] at HON
              go_wp2
              go_roundg (L - (i + 1))
              case measure => exact Nat.lt_of_lt_of_le (Nat.sub_lt_sub_left hlt (Nat.lt_succ_self i)) hg
              case rel => exact ⟨i + 1, by omega, by omega, by go_num, (show Ext _ _ from HXK.out), (show OwnTab _ _ _ _ _ _ from HON.out)⟩
            case pos =>
              have hltz2 : (k : Int) < (F : Int) := by omega
              have hkz : (0 : Int) ≤ (k : Int) := by omega
              obtain ⟨fb, fo, rfl, _, hcell⟩ := ints_atW HINT.out k (by rw [HF.out]; exact hlt2)
              have f0 := HXK.out.cl hcell
              have hy := HFO.out fl[k]! (mem_at fl k (by rw [HF.out]; exact hlt2))
              have HS := Lib.hid (HST.out k hlt2)
              generalize fl[k]! = y at *
              obtain ⟨Y, rfl⟩ : ∃ Y : Nat, y = (Y : Int) := ⟨y.toNat, by omega⟩
              have hYN : Y < N := by omega
              have hPN : P < N := by omega
              have hML : (relP N (pairsTo l i k)).length = N := relP_len _
              obtain ⟨tg, tof, tcc, hve⟩ := HOK.out.shape (by omega)
              rw [hML] at hve
              simp only [Value.slice.injEq] at hve
              obtain ⟨rfl, _, rfl⟩ := hve
              have r0 := HOK.out.rowAt hML.symm (k := P) (by omega)
              obtain ⟨bg, bo, bc, hvw, hbg, hbgw, hbc, b0, hfr⟩ := HOK.out.bitAt (k := P) (j := Y) (by omega) hYN
              have HPUT := Lib.hid (HOK.out.put (k := P) (j := Y) (by omega) hYN hvw)
              rw [hvw] at r0
              have e : relP N (pairsTo l i (k + 1)) = putM (relP N (pairsTo l i k)) P Y := by rw [HS.out, relP_add]; rfl
              have HPE := Lib.hid e
              rw [← e] at HPUT
              have HX2 := Lib.hid (HXK.out.st (p := ⟨bg, bo + Y, none⟩) hbg (.bool true))
              generalize hasM (relP N (pairsTo l i k)) P Y = m0 at *
              clear e hvw hcell hy
              go_wp2
              go_region
              go_wp2
              go_roundg (F - (k + 1))
              case measure => exact Nat.lt_of_lt_of_le (Nat.sub_lt_sub_left hlt2 (Nat.lt_succ_self k)) hg2
              case rel => exact ⟨k + 1, hlt2, Nat.le_refl _, by go_num, (show Ext _ _ from HX2.out.dr), (show OwnTab _ _ _ _ _ _ from HPUT.out.ext (Ext.rf _).dr)⟩

end Go.Proofs.Ytodkcfebcjgahaa
