/-
  The walk of the law on garbage, where all is in range.
-/
import Derived.Test.YthpnkfnnjkhhaaaBase
import Derived.Test.YthpnkfnnjkhhaaaProg
import Derived.BigQuiet
import Derived.Deep.QuietTactic
import Derived.Deep.LoopGhost
import Derived.Shelf.Abstract
import Derived.Test.YthpnkfnnjkhhaaaLawGarb
import Derived.Test.YthpnkfnnjkhhaaaPairs
namespace Go.Proofs.Ythpnkfnnjkhhaaa
open Go.RowKit
set_option linter.unusedVariables false

set_option maxHeartbeats 8000000 in
set_option maxRecDepth 100000 in
theorem lawGarb_in (u v : Value) (refs : List (Int × Int)) (roots : List Int) (n a b : Int) (w : World) (hu : Sl RPair 2 w u refs) (hv : Ints w v roots)
    (h1 : ¬ 40 < n) (h2 : ¬ 60 < refs.length) (h3 : ¬ 60 < roots.length) (hgood : garbBad refs roots n = false) :
    Calls Try.prog 3 #[u, v, .int .i64 n, .agg #[.int .i64 a, .int .i64 b]] w fun e w' => e = .returned (.bool true) ∧ Ext w w' := by
  have AW := Lib.hid awake_calls
  have HU := Lib.hid hu
  have HV := Lib.hid hv
  obtain ⟨g1, g2, gok⟩ := garb_ok hgood
  have GG := Lib.hid (fun (W : World) (hW : Ext w W) => garbage_good u v refs roots n W (hu.ext rpair_lasts hW) (hv.ext hW) (by omega) (by omega) hgood)
  have BM := Lib.hid (fun (h0 : 0 ≤ a) (h1 : a < n) (h2 : 0 ≤ b) (h3 : b < n) => bad_more hgood h0 h1 h2 h3)
  obtain ⟨N, rfl⟩ : ∃ N : Nat, n = (N : Int) := ⟨n.toNat, by omega⟩
  rw [Int.toNat_natCast] at gok GG
  have hN : N ≤ 40 := by omega
  have OK := Lib.hid gok
  have HFL := Lib.hid hu.flat
  obtain ⟨ua, uc, rfl, _, _⟩ := hu
  obtain ⟨va, vc, rfl, _, _⟩ := hv
  generalize hun : refs.length = un at *
  generalize hvn : roots.length = vn at *
  have HUN := Lib.hid hun
  have HVN := Lib.hid hvn
  have h2z : ¬ (60 : Int) < (un : Int) := by omega
  have h3z : ¬ (60 : Int) < (vn : Int) := by omega
  clear hun hvn hgood gok g2
  go_enter Try.func3, Try.ntmps3
  go_wp2_with fail
  refine (AW.out _).mono ?_
  rintro e w1 ⟨rfl, he1⟩
  have HE1 := Lib.hid (((Ext.rf w).al _).trans' he1)
  have CA := Lib.hid (he1.cl (cell_new _ _ _ 0 _ rfl))
  have CB := Lib.hid (he1.cl (cell_new _ _ _ 1 _ rfl))
  clear he1 AW
  have hB0 : w.heap.size < w1.heap.size := by have := World.block_lt_of_cell? w1 _ CA.out; simpa using this
  generalize w.heap.size = B0 at CA CB hB0
  go_wp2_with fail
  refine (GG.out _ HE1.out).mono ?_
  rintro e w2 ⟨gv, rfl, he2, M, hrow, hM, hmk⟩
  have HX2 := Lib.hid he2
  have HE2 := Lib.hid (HE1.out.trans' he2)
  have MK := Lib.hid (show MarksOk refs roots N M from hmk)
  have HG := Lib.hid hrow.ints
  have hgl := gaps_len M N
  have HM := Lib.hid hM
  obtain ⟨ga, gc, rfl, _, _⟩ := hrow.any
  clear he2 hrow hM hmk GG
  -- what is asked of the list that came back
  have cbg := Lib.hid (cell_new w2 #[.slice ga (gaps M N).length gc] 23 0 _ rfl)
  have HG3 := Lib.hid (HG.out.ext ((Ext.rf w2).al (.cells #[.slice ga (gaps M N).length gc] 23)))
  have HE3 := Lib.hid (HE2.out.al (.cells #[.slice ga (gaps M N).length gc] 23))
  have HX3 := Lib.hid (HX2.out.al (.cells #[.slice ga (gaps M N).length gc] 23))
  have L1 := Lib.hid (law_roots OK.out MK.out)
  have L2 := Lib.hid (law_refs OK.out MK.out)
  have L3 := Lib.hid (law_used OK.out MK.out)
  have SRT := Lib.hid (isSorted_int _ _ _ HG3.out (by omega))
  have UPB := Lib.hid (gaps_up M N)
  have CLO := Lib.hid (fun (M' : List Bool) (h' : MarksOk (refs ++ [(a, b)]) roots N M') (h0 : 0 ≤ a) (h1 : a < (N : Int)) (hc : (gaps M N).contains a = true) => law_more MK.out h' h0 h1 hc)
  have hbg : w2.heap.size < (w2.alloc (.cells #[.slice ga (gaps M N).length gc] 23)).heap.size := by simp
  go_wp2_with fail
  refine (SRT.out).mono ?_
  rw [UPB.out]
  clear SRT UPB HG HX2 HE2
  generalize hW3 : w2.alloc (.cells #[.slice ga (gaps M N).length gc] 23) = w3 at *
  clear hW3
  generalize w2.heap.size = bg at *
  generalize hgg : gaps M N = g at *
  have HGG := Lib.hid hgg
  clear hgg
  rintro e w4 ⟨rfl, he4⟩
  have HE4 := Lib.hid he4; clear he4
  have S1 := Lib.hid (fun (W : World) (hW : Ext w3 W) => containsFunc_int _ _ enters_11 (fun x => g.contains x) _ roots W (HV.out.ext (HE3.out.trans' hW)) (by rw [HVN.out]; omega) (lawg1_says (hW.cl cbg.out) (HG3.out.ext hW) (by omega) roots))
  have S2 := Lib.hid (fun (W : World) (hW : Ext w3 W) => containsFunc_pair RPair rpair_lasts _ _ enters_14 (fun r => !g.contains r.1 && g.contains r.2) _ refs W (HU.out.ext rpair_lasts (HE3.out.trans' hW)) (by rw [HUN.out]; omega) (lawg2_says (hW.cl cbg.out) (HG3.out.ext hW) (by omega) refs))
  have S3 := Lib.hid (fun (W : World) (hW : Ext w3 W) (bx : Nat) (x : Int) (hx : W.cell? ⟨bx, 0, none⟩ = some (.int .i64 x)) => containsFunc_pair RPair rpair_lasts _ _ enters_15 (fun y => (y.2 == x) && (y.1 != x) && !g.contains y.1) _ refs W (HU.out.ext rpair_lasts (HE3.out.trans' hW)) (by rw [HUN.out]; omega) (lawg3_says hx (hW.cl cbg.out) (HG3.out.ext hW) (by omega) refs))
  have CN := Lib.hid (fun (W : World) (hW : Ext w3 W) (x : Int) => contains_int x _ g W (HG3.out.ext hW) (by omega))
  have CR := Lib.hid (fun (W : World) (hW : Ext w3 W) (x : Int) => contains_int x _ roots W (HV.out.ext (HE3.out.trans' hW)) (by rw [HVN.out]; omega))
  have c4 := HE4.out.cl cbg.out
  go_wp2_with fail
  refine (S1.out _ HE4.out).mono ?_
  rw [L1.out]
  rintro e w5 ⟨rfl, he5⟩
  have HE5 := Lib.hid (HE4.out.trans' he5); clear he5 c4
  go_wp2_with fail
  refine (S2.out _ HE5.out).mono ?_
  rw [L2.out]
  rintro e w6 ⟨rfl, he6⟩
  have HE6 := Lib.hid (HE5.out.trans' he6); clear he6
  clear S1 S2 L1 L2 HE4 HE5
  go_wp2
  go_loopg [58] N (fun q s58 wr => ∃ k : Nat, k ≤ N ∧ N - k ≤ q ∧ s58 = .int .i64 k ∧ Ext w3 wr)
  case atStart => exact ⟨0, Nat.zero_le _, by omega, rfl, HE6.out⟩
  case round =>
    obtain ⟨k, hk, hq, rfl, he⟩ := hrel
    have HE := Lib.hid he; clear he HE6
    have cg : wr.cell? ⟨bg, 0, none⟩ = some (.slice ga g.length gc) := HE.out.cl cbg.out
    have hbgw : bg < wr.heap.size := World.block_lt_of_cell? wr _ cg
    by_cases hlt : k < N
    · have hltz : (k : Int) < (N : Int) := by omega
      have HEa := Lib.hid (HE.out.al (.cells #[.int .i64 (k : Int)] 3))
      cases hq1 : g.contains (k : Int) with
      | true =>
        have HQ1 := Lib.hid hq1; clear hq1
        go_wp2_with fail
        refine (CN.out _ HEa.out k).mono ?_
        rw [HQ1.out]
        rintro e w7 ⟨rfl, rfl⟩
        go_wp2
        go_roundg (N - (k + 1))
        case measure => omega
        case rel => exact ⟨k + 1, by omega, by omega, by go_num, HEa.out⟩
      | false =>
        have HQ1 := Lib.hid hq1; clear hq1
        cases hq2 : roots.contains (k : Int) with
        | true =>
          have HQ2 := Lib.hid hq2; clear hq2
          go_wp2_with fail
          refine (CN.out _ HEa.out k).mono ?_
          rw [HQ1.out]
          rintro e w7 ⟨rfl, rfl⟩
          go_wp2_with fail
          refine (CR.out _ HEa.out k).mono ?_
          rw [HQ2.out]
          rintro e w8 ⟨rfl, rfl⟩
          go_wp2
          go_roundg (N - (k + 1))
          case measure => omega
          case rel => exact ⟨k + 1, by omega, by omega, by go_num, HEa.out⟩
        | false =>
          have HQ2 := Lib.hid hq2; clear hq2
          have HQ3 := Lib.hid (L3.out k hlt HQ1.out HQ2.out)
          go_wp2_with fail
          refine (CN.out _ HEa.out k).mono ?_
          rw [HQ1.out]
          rintro e w7 ⟨rfl, rfl⟩
          go_wp2_with fail
          refine (CR.out _ HEa.out k).mono ?_
          rw [HQ2.out]
          rintro e w8 ⟨rfl, rfl⟩
          go_wp2_with fail
          refine (S3.out _ HEa.out wr.heap.size k (cell_new _ _ _ _ _ rfl)).mono ?_
          rw [HQ3.out]
          rintro e w9 ⟨rfl, he9⟩
          have HE9 := Lib.hid (HEa.out.trans' he9); clear he9
          go_wp2
          go_roundg (N - (k + 1))
          case measure => omega
          case rel => exact ⟨k + 1, by omega, by omega, by go_num, HE9.out⟩
    · have hltz : ¬ (k : Int) < (N : Int) := by omega
      obtain rfl : k = N := by omega
      have ca := (HX3.out.trans' HE.out).cl CA.out
      have cb := (HX3.out.trans' HE.out).cl CB.out
      have hB0w : B0 < wr.heap.size := World.block_lt_of_cell? wr _ ca
      have HW := Lib.hid (HE3.out.trans' HE.out)
      clear CA CB S3 CR
      by_cases t1 : a < 0
      · go_wp2
        go_ret
        exact ⟨rfl, HW.out⟩
      by_cases t2 : (k : Int) ≤ a
      · go_wp2
        go_ret
        exact ⟨rfl, HW.out⟩
      by_cases t3 : b < 0
      · go_wp2
        go_ret
        exact ⟨rfl, HW.out⟩
      by_cases t4 : (k : Int) ≤ b
      · go_wp2
        go_ret
        exact ⟨rfl, HW.out⟩
      cases hq1 : g.contains a with
      | false =>
        have HQ1 := Lib.hid hq1; clear hq1
        go_wp2_with fail
        refine (CN.out _ HE.out a).mono ?_
        rw [HQ1.out]
        rintro e w7 ⟨rfl, rfl⟩
        go_wp2
        go_ret
        exact ⟨rfl, HW.out⟩
      | true =>
        have HQ1 := Lib.hid hq1; clear hq1
        go_wp2_with fail
        refine (CN.out _ HE.out a).mono ?_
        rw [HQ1.out]
        rintro e w7 ⟨rfl, rfl⟩
        obtain ⟨ip, pi, pz0, pz1, pz2⟩ := info_parts info_pair
        have hun1 : un ≤ 60 := by omega
        have hvn1 : vn ≤ 60 := by omega
        have CL := Lib.hid (fun (W : World) (hW : Ext w3 W) => (clone_pair _ un (flat2 refs) W (HFL.out.ext (HE3.out.trans' hW)) (flat2_one refs) (by omega)).mono fun e w' ⟨v', he, hr, hx⟩ => (⟨v', he, hr.mono hW.sz, hx⟩ : ∃ v', e = Ending.returned v' ∧ Row w' w3.heap.size 24 2 v' un (flat2 refs) ∧ Ext W w'))
        have G2 := Lib.hid (fun (W : World) (u5 : Value) (hW : Ext w3 W) (hs : CellsAt W u5 2 (un + 1) (flat2 refs ++ [.int .i64 a, .int .i64 b])) => (garbage_good u5 _ (refs ++ [(a, b)]) roots (k : Int) W
          (CellsAt.pairs (by rw [List.length_append, List.length_singleton, HUN.out, flat2_append]; exact hs)) (HV.out.ext (HE3.out.trans' hW)) (by rw [List.length_append, List.length_singleton, HUN.out]; omega) (by rw [HVN.out]; omega) (BM.out (by omega) (by omega) (by omega) (by omega))).mono
            fun e w' ⟨v', he, hx, M', hr, hM', hmk'⟩ => (⟨v', he, hx, by rw [Int.toNat_natCast] at hr hM' hmk'; rw [CLO.out M' hmk' (by omega) (by omega) HQ1.out] at hr; exact hr.ints⟩ : ∃ v', e = Ending.returned (.tuple #[v', .int .i64 0]) ∧ Ext W w' ∧ Ints w' v' g))
        clear CLO HQ1 BM HFL CN HX3 MK L3 HU HV OK HM HUN HVN HGG
        go_wp2
        go_region_law (first | (refine step_append_rowN rfl _ _ 22 rfl w3.heap.size 24 ip (.agg #[.int .i64 0, .int .i64 0]) 2 16 Try.underlying22 pi pz0 pz1 pz2 rfl (by decide) _ un (flat2 refs) rfl (by first | exact hrow | exact hrow.al _) _ 1 [.int .i64 a, .int .i64 b] rfl rfl (by first | exact ⟨_, heap_new_eq rfl⟩ | exact ⟨_, hx.hp (heap_new_eq rfl)⟩) (by simp [Value.oneCell']) (by unfold maxLen; omega) (by omega) (by first | exact (HE.out.dr.trans' hx).sz | exact ((HE.out.dr.trans' hx).al _).sz | exact (((HE.out.al _).dr).trans' hx).sz) ?_; intro v5 w5 hown5 hgrow5 hblk5; have hx5 : Ext w3 w5 := (by first | exact (HE.out.dr.trans' hx).gr hgrow5 (fun k hk => (hrow.lt k hk).1) | exact ((HE.out.dr.trans' hx).al _).gr hgrow5 (fun k hk => (hrow.lt k hk).1) | exact (((HE.out.al _).dr).trans' hx).gr hgrow5 (fun k hk => (hrow.lt k hk).1))) | (refine step_call rfl 16 _ _ rfl enters_16 [.slice ua un uc] (by first | rfl | kernel_rfl | go_simp) (CL.out _ (by first | exact HE.out.dr | exact (HE.out.al _).dr)) ?_; rintro e w' ⟨v', rfl, hrow, hx⟩; refine ⟨_, rfl, ?_⟩; have ca5 : w'.cell? ⟨B0, 0, none⟩ = some (.int .i64 a) := hx.cl (by first | exact ca | exact ((Ext.rf _).al _).cl ca); have cb5 : w'.cell? ⟨B0, 1, none⟩ = some (.int .i64 b) := hx.cl (by first | exact cb | exact ((Ext.rf _).al _).cl cb)) | (refine step_call rfl 8 _ _ rfl enters_8 [v5, .slice va vn vc, .int .i64 (k : Int)] (by first | rfl | kernel_rfl | go_simp) (G2.out _ _ hx5 hown5.cells) ?_; rintro e w6 ⟨v6, rfl, hx6, hi6⟩; refine ⟨_, rfl, ?_⟩; have cg6 : w6.cell? ⟨bg, 0, none⟩ = some (.slice ga g.length gc) := hx6.cl (hx5.cl cbg.out); have HG6 := Lib.hid (HG3.out.ext (hx5.trans' hx6)); have HI6 := Lib.hid hi6; have HE6 := Lib.hid (HE3.out.trans' (hx5.trans' hx6))))
        all_goals
          clear hx6 hi6 hx5 hown5 hgrow5 hblk5
          go_wp2_with fail
          refine (equal_int _ _ g g _ HG6.out HI6.out (by omega) (by omega)).mono ?_
          rw [show (g == g) = true from by simp]
          rintro e w8 ⟨rfl, he8⟩
          have HE8 := Lib.hid (HE6.out.trans' he8); clear he8
          go_wp2
          go_ret
          exact ⟨rfl, HE8.out⟩

end Go.Proofs.Ythpnkfnnjkhhaaa
