/-
  The walk of the law on stuck sets, where all is in range.
-/
import Derived.Test.YthpnkfnnjkhhaaaBase
import Derived.Test.YthpnkfnnjkhhaaaProg
import Derived.BigQuiet
import Derived.Deep.QuietTactic
import Derived.Deep.LoopGhost
import Derived.Shelf.Abstract
import Derived.Test.YthpnkfnnjkhhaaaLawStuck
import Derived.Test.YthpnkfnnjkhhaaaMapB
import Derived.Test.YthpnkfnnjkhhaaaCheck
import Derived.Laws.EntriesVeiled
import Derived.Deep.CutRange
namespace Go.Proofs.Ythpnkfnnjkhhaaa
open Go.RowKit
set_option linter.unusedVariables false

theorem enters_20 : ∀ args w, (callFunc 20 args).run Try.prog w = .ok (.enter 20 args) w := enters_of Try.func20 (by kernel_rfl) rfl
theorem enters_21 : ∀ args w, (callFunc 21 args).run Try.prog w = .ok (.enter 21 args) w := enters_of Try.func21 (by kernel_rfl) rfl
theorem enters_19 : ∀ args w, (callFunc 19 args).run Try.prog w = .ok (.enter 19 args) w := enters_of Try.func19 (by kernel_rfl) rfl
theorem enters_24 : ∀ args w, (callFunc 24 args).run Try.prog w = .ok (.enter 24 args) w := enters_of Try.func24 (by kernel_rfl) rfl

theorem zero_bool (w : World) : (zeroValue 4).run Try.prog w = .ok (.bool false) w := by kernel_rfl

set_option maxHeartbeats 8000000 in
set_option maxRecDepth 100000 in
theorem lawStuck_in (u v mv : Value) (l : List Wt) (n : Int) (st : List Int) (m : Wt) (w : World) (hu : Sl RWaitL 3 w u l) (hv : Ints w v st) (hmv : Ints w mv m.fors)
    (hs : l.length ≤ 9223372036854775807) (h1 : bigB l n = false) (h2 : ¬ 60 < st.length) (h3 : ¬ 40 < m.fors.length) (hgood : validL l n = 0) :
    Calls Try.prog 4 #[u, .int .i64 n, v, .agg #[.int .i64 m.proc, .int .i64 m.need, mv]] w fun e w' => e = .returned (.bool true) ∧ Ext w w' := by
  have hmm := @run_makeMap Try.prog
  have AW := Lib.hid awake_calls
  have BG := Lib.hid (fun (W : World) (hW : Ext w W) => big_calls u l n W (hu.ext rwaitL_lasts hW) hs)
  rw [h1] at BG
  obtain ⟨b1, b2, b3⟩ := big_not h1
  obtain ⟨hu2, _⟩ := sl_waitL hu
  obtain ⟨g1, g2, gok⟩ := validL_dok hgood
  have one := validL_once hgood
  have SL := Lib.hid hu2
  have B3 := Lib.hid (fun x (hx : x ∈ l) => (show x.fors.length ≤ 1000000 from by have := b3 x hx; omega))
  have FT := Lib.hid (fun (W : World) (hW : Ext w W) => fault_calls _ l n W (SL.out.ext rwait_lasts hW) (by omega) B3.out)
  rw [hgood] at FT
  have DL := Lib.hid (fun (W : World) (hW : Ext w W) => deadlock_good _ l n W (SL.out.ext rwait_lasts hW) (by omega) B3.out hgood)
  have CK := Lib.hid (fun (W : World) (hW : Ext w W) (s : Value) (sl : List Int) (hsl : Ints W s sl) (hn : sl.length ≤ 1000000) => check_calls _ s l sl n W (SL.out.ext rwait_lasts hW) hsl (by omega) B3.out hn)
  have RQ := Lib.hid (fun (W : World) (hW : Ext w W) (p : Int) => request_calls p _ l W (SL.out.ext rwait_lasts hW) (by omega))
  unfold reqAt at RQ
  have FT2 := Lib.hid (fun (W : World) (x : Value) (hx : Sl RWait 3 W x (l ++ [m])) => fault_calls x (l ++ [m]) n W hx (by rw [List.length_append, List.length_singleton]; omega) (fun y hy => by
    rcases List.mem_append.1 hy with h | h
    · exact B3.out y h
    · rw [List.mem_singleton] at h; subst h; omega))
  have DL2 := Lib.hid (fun (W : World) (x : Value) (hx : Sl RWait 3 W x (l ++ [m])) (hg : validL (l ++ [m]) n = 0) => deadlock_good x (l ++ [m]) n W hx (by rw [List.length_append, List.length_singleton]; omega) (fun y hy => by
    rcases List.mem_append.1 hy with h | h
    · exact B3.out y h
    · rw [List.mem_singleton] at h; subst h; omega) hg)
  have CM := Lib.hid (fun (M : List Bool) (hM : M.length = n.toNat) (h : StuckM l n.toNat M) => check_marks hgood hM h)
  have CS := Lib.hid (fun (M : List Bool) (h : checkB l n st = true) (ha : AllStuck l n.toNat M) => check_stuck h ha)
  obtain ⟨N, rfl⟩ : ∃ N : Nat, n = (N : Int) := ⟨n.toNat, by omega⟩
  rw [Int.toNat_natCast] at gok
  simp only [Int.toNat_natCast] at CM CS DL DL2
  have hN : N ≤ 40 := by omega
  have OK := Lib.hid gok
  have ONE := Lib.hid one
  have HV := Lib.hid hv
  have HMV := Lib.hid hmv
  obtain ⟨xs, hcx, hR⟩ := hu2.cells
  have XL := Lib.hid hcx.1
  have X1 := Lib.hid (wait_one hR hcx.1)
  have XR := Lib.hid hR
  have CX := Lib.hid hcx
  obtain ⟨ua, uc, rfl, _, hud⟩ := hu
  have HU := Lib.hid (show Sl RWait 3 w (.slice ua l.length uc) l from hu2)
  obtain ⟨va, vc, rfl, _, _⟩ := hv
  obtain ⟨ma, mc, rfl, _, _⟩ := hmv
  have HMV2 := Lib.hid (show Ints w (.slice ma m.fors.length mc) m.fors from HMV.out)
  have SLM := Lib.hid (fun (W : World) (y : Value) (hW : Ext w W) (h : CellsAt W y 3 (l.length + 1) (xs ++ [.int .i64 m.proc, .int .i64 m.need, .slice ma m.fors.length mc])) =>
    (sl_more (w := W) (u := .slice none 0 0) (fun i hi => rwait_lasts _ _ _ _ (XR.out i hi) hW) (HMV2.out.ext hW) XL.out h : Sl RWait 3 W y (l ++ [m])))
  have CLO := Lib.hid (fun (W : World) (hW : Ext w W) => clone_wait _ l.length xs W (CX.out.ext hW) X1.out (by omega))
  clear hud hu2 hcx hR h1 b2 b3 gok one g1 g2 hs HMV XL X1 XR CX
  generalize hL : l.length = L at *
  generalize hS : st.length = S at *
  generalize hF : m.fors.length = F at *
  have HLL := Lib.hid hL
  have HSS := Lib.hid hS
  have HFF := Lib.hid hF
  clear hL hS hF
  have h2z : ¬ (60 : Int) < (S : Int) := by omega
  have h3z : ¬ (40 : Int) < (F : Int) := by omega
  have GB := Lib.hid hgood
  clear hgood
  go_enter Try.func4, Try.ntmps4
  go_wp2_with fail
  refine (AW.out _).mono ?_
  rintro e w1 ⟨rfl, he1⟩
  have HE1 := Lib.hid (((Ext.rf w).al _).trans' he1)
  have C0 := Lib.hid (he1.cl (cell_new _ _ _ 0 _ rfl))
  have C1 := Lib.hid (he1.cl (cell_new _ _ _ 1 _ rfl))
  have C2 := Lib.hid (he1.cl (cell_new _ _ _ 2 _ rfl))
  clear he1 AW
  have hB0 : w.heap.size < w1.heap.size := by have := World.block_lt_of_cell? w1 _ C2.out; simpa using this
  generalize hMP : m.proc = mp at *
  generalize hMQ : m.need = mq at *
  have HMP := Lib.hid hMP
  have HMQ := Lib.hid hMQ
  clear hMP hMQ
  generalize w.heap.size = B0 at C0 C1 C2 hB0
  go_wp2_with fail
  refine (BG.out _ HE1.out).mono ?_
  rintro e w2 ⟨rfl, he2⟩
  have HE2 := Lib.hid (HE1.out.trans' he2)
  have HX2 := Lib.hid he2
  have c2 := he2.cl C2.out
  have hB2 : B0 < w2.heap.size := by have := World.block_lt_of_cell? w2 _ c2; simpa using this
  clear he2 BG
  go_wp2_with fail
  refine (FT.out _ HE2.out).mono ?_
  rintro e w3 ⟨rfl, he3⟩
  have HE3 := Lib.hid (HE2.out.trans' he3)
  have HX3 := Lib.hid (HX2.out.trans' he3)
  clear he3 c2 FT HX2 HE2
  go_wp2_with fail
  refine (DL.out _ HE3.out).mono ?_
  rintro e w4 ⟨gv, rfl, he4, M, hrow, hM, hsm, ham⟩
  have HE4 := Lib.hid (HE3.out.trans' he4)
  have HX4 := Lib.hid (HX3.out.trans' he4)
  have MS := Lib.hid hsm
  have MA := Lib.hid ham
  have ML := Lib.hid hM
  have HG := Lib.hid hrow.ints
  have hgl : (marks M N).length ≤ N := marks_len M N
  obtain ⟨ga, gc, rfl, _, _⟩ := hrow.any
  clear he4 hrow hM hsm ham DL HE3 HX3
  have cbg := Lib.hid (cell_new w4 #[.slice ga (marks M N).length gc] 23 0 _ rfl)
  have HG5 := Lib.hid (HG.out.ext ((Ext.rf w4).al (.cells #[.slice ga (marks M N).length gc] 23)))
  have HE5 := Lib.hid (HE4.out.al (.cells #[.slice ga (marks M N).length gc] 23))
  have HX5 := Lib.hid (HX4.out.al (.cells #[.slice ga (marks M N).length gc] 23))
  have hbg : w4.heap.size < (w4.alloc (.cells #[.slice ga (marks M N).length gc] 23)).heap.size := by simp
  have CM2 := Lib.hid (CM.out M ML.out MS.out)
  have CS2 := Lib.hid (fun (h : checkB l (N : Int) st = true) => CS.out M h MA.out)
  have SW := Lib.hid (fun i (hi : i < N) => sweeps_marks OK.out ONE.out ML.out MS.out MA.out i hi)
  have MC := Lib.hid (fun i (hi : i < N) => marks_contains M N i hi)
  have SM := Lib.hid (fun (M' : List Bool) (h : AllStuck (l ++ [m]) N M') => stuck_more ML.out MS.out h)
  have hgl2 : (marks M N).length ≤ 1000000 := by omega
  go_wp2_with fail
  refine (CK.out _ HE5.out _ _ HG5.out hgl2).mono ?_
  rw [CM2.out]
  clear CM CM2 CS HG HE4 HX4 MS MA ML
  generalize hW5 : w4.alloc (.cells #[.slice ga (marks M N).length gc] 23) = w5 at *
  clear hW5
  generalize w4.heap.size = bg at *
  generalize hgg : marks M N = g at *
  have HGG := Lib.hid hgg
  clear hgg
  rintro e w6 ⟨rfl, he6⟩
  have HE6 := Lib.hid he6; clear he6
  have c6 := HE6.out.cl cbg.out
  have hbg6 : bg < w6.heap.size := by have := World.block_lt_of_cell? w6 _ c6; simpa using this
  have S1 := Lib.hid (fun (W : World) (hW : Ext w5 W) => containsFunc_int _ _ enters_22 (fun x => !g.contains x) _ st W (HV.out.ext (HE5.out.trans' hW)) (by rw [HSS.out]; omega) (stuck1_says (hW.cl cbg.out) (HG5.out.ext hW) hgl2 st))
  have CK2 := Lib.hid (fun (W : World) (hW : Ext w5 W) => CK.out W (HE5.out.trans' hW) _ st (HV.out.ext (HE5.out.trans' hW)) (by rw [HSS.out]; omega))
  have CN := Lib.hid (fun (W : World) (hW : Ext w5 W) (x : Int) => contains_int x _ g W (HG5.out.ext hW) hgl2)
  have RQ2 := Lib.hid (fun (W : World) (hW : Ext w5 W) (x : Int) => RQ.out W (HE5.out.trans' hW) x)
  have ANY := Lib.hid (fun (h : checkB l (N : Int) st = true) => (show st.any (fun x => !g.contains x) = false from by
    rw [List.any_eq_false]; intro x hx; rw [CS2.out h x hx]; simp))
  clear CK RQ CS2 HU
  go_upto_region 8 with fail
  go_cut [67] from 59 to 67 (fun s67 wx => s67 = .bool false ∧ Ext w5 wx)
  case first =>
    cases hr : checkB l (N : Int) st with
    | true =>
      have S1' := Lib.hid (fun (W : World) (hW : Ext w5 W) => (S1.out W hW).mono fun e w' h => (show e = .returned (.bool false) ∧ Ext W w' from by rw [ANY.out hr] at h; exact h))
      rw [hr] at CK2
      clear S1 ANY hr
      go_wp2_with fail
      refine (CK2.out _ HE6.out).mono ?_
      rintro e w7 ⟨rfl, he7⟩
      have HE7 := Lib.hid (HE6.out.trans' he7); clear he7
      have c7 := HE7.out.cl cbg.out
      have hbg7 : bg < w7.heap.size := by have := World.block_lt_of_cell? w7 _ c7; simpa using this
      go_wp2_with fail
      refine (S1'.out _ HE7.out).mono ?_
      rintro e w8 ⟨rfl, he8⟩
      have HE8 := Lib.hid (HE7.out.trans' he8); clear he8
      go_wp2
      go_meet
      case rel => exact ⟨rfl, HE8.out⟩
    | false =>
      rw [hr] at CK2
      clear S1 ANY hr
      go_wp2_with fail
      refine (CK2.out _ HE6.out).mono ?_
      rintro e w7 ⟨rfl, he7⟩
      have HE7 := Lib.hid (HE6.out.trans' he7); clear he7
      go_wp2
      go_meet
      case rel => exact ⟨rfl, HE7.out⟩
  case rest =>
    obtain ⟨rfl, hec⟩ := hcut
    have HEc := Lib.hid hec; clear hec S1 CK2 ANY HE6 c6 hbg6
    have cc := HEc.out.cl cbg.out
    have hbgc : bg < wc.heap.size := by have := World.block_lt_of_cell? wc _ cc; simpa using this
    have hbm : w5.heap.size ≤ wc.heap.size := HEc.out.sz
    have BM0 := Lib.hid (BMap.made (P := Try.prog) (k := 3) (e := 4) (N := N) (F := free0 l N 0) wc (fun i hi => free0_zero l N i hi))
    have HEm := Lib.hid (HEc.out.al (.map #[] 0))
    go_wp2
    go_loopg [70] N (fun q s70 wr => ∃ k : Nat, k ≤ N ∧ N - k ≤ q ∧ s70 = .int .i64 k ∧ Ext w5 wr ∧ Aside (∃ mm, mm ≤ k ∧ BMap wr Try.prog 3 4 wc.heap.size mm N (free0 l N k)))
    case atStart => exact ⟨0, Nat.zero_le _, by omega, rfl, HEm.out, ⟨0, Nat.le_refl _, BM0.out⟩⟩
    case round =>
      obtain ⟨k, hk, hq, rfl, he, BM⟩ := hrel
      have HE := Lib.hid he; clear he HEm BM0
      generalize hMB : wc.heap.size = mb at *
      by_cases hlt : k < N
      · have hltz : (k : Int) < (N : Int) := by omega
        cases hany : l.any (fun x => x.proc == (k : Int)) with
        | true =>
          have hrq : ¬ firstAt (fun x => x.proc == (k : Int)) l < 0 := by rw [req_neg, hany]; simp
          have FN := Lib.hid (free0_no (N := N) hany)
          have RQ3 := Lib.hid (fun (W : World) (hW : Ext w5 W) => RQ2.out W hW k)
          generalize firstAt (fun x => x.proc == (k : Int)) l = rq at *
          clear hany
          go_wp2_with fail
          refine (RQ3.out _ HE.out).mono ?_
          rintro e w7 ⟨rfl, rfl⟩
          go_wp2
          go_roundg (N - (k + 1))
          case measure => omega
          case rel => exact ⟨k + 1, by omega, by omega, by go_num, HE.out, (show Aside _ from by rw [FN.out]; obtain ⟨mm, hmm2, hbm2⟩ := BM.out; exact ⟨mm, by omega, hbm2⟩)⟩
        | false =>
          have hrq : firstAt (fun x => x.proc == (k : Int)) l < 0 := by rw [req_neg, hany]
          have FN := Lib.hid (free0_yes hlt hany)
          have RQ3 := Lib.hid (fun (W : World) (hW : Ext w5 W) => RQ2.out W hW k)
          generalize firstAt (fun x => x.proc == (k : Int)) l = rq at *
          clear hany
          obtain ⟨mm, hmmk, hbmm⟩ := BM.out
          have HBM := Lib.hid hbmm; clear hbmm
          go_wp2_with fail
          refine (RQ3.out _ HE.out).mono ?_
          rintro e w7 ⟨rfl, rfl⟩
          go_wp2_with (first | (at_mapUpdate; refine wpList_put_b rfl _ _ _ _ rfl 3 4 mb mm N (free0 l N k) HBM.out (by unfold maxLen; omega) (free0_len l N k) Try.underlying3 Try.underlying45 Try.underlying4 (k : Int) (by omega) (by omega) (by omega) rfl rfl rfl ?_; intro w8 hb8 hg8; have HB8 := Lib.hid hb8; have HE8 := Lib.hid (HE.out.gr hg8 (fun kk hkk => by simp only [Option.some.injEq] at hkk; omega)); clear hb8 hg8) | go_in)
          go_roundg (N - (k + 1))
          case measure => omega
          case rel => exact ⟨k + 1, by omega, by omega, by go_num, HE8.out, (show Aside _ from by rw [FN.out]; have := HB8.out; rw [Int.toNat_natCast] at this; exact ⟨mm + 1, by omega, this⟩)⟩
      · have hltz : ¬ (k : Int) < (N : Int) := by omega
        obtain rfl : k = N := by omega
        obtain ⟨mm0, hmm0, hbm0⟩ := BM.out
        have BM1 := Lib.hid hbm0
        clear hbm0 BM RQ2
        go_wp2
        go_loopg [81] k (fun q s81 wr' => ∃ r : Nat, r ≤ k ∧ k - r ≤ q ∧ s81 = .int .i64 r ∧ Ext w5 wr' ∧ Aside (∃ mm, mm ≤ 100 + 100 * r ∧ BMap wr' Try.prog 3 4 mb mm k (sweeps l (free0 l k k) r)))
        case atStart => exact ⟨0, Nat.zero_le _, by omega, rfl, HE.out, ⟨mm0, by omega, BM1.out⟩⟩
        case round =>
          obtain ⟨r, hr, hrq, rfl, he2, BMr⟩ := hrel
          obtain ⟨wo, rfl⟩ : ∃ wo : World, wo = wr := ⟨_, rfl⟩
          have HE2 := Lib.hid he2; clear he2 BM1 HE
          by_cases hrt : r < k
          · have hrtz : (r : Int) < (k : Int) := by omega
            obtain ⟨mm1, hmm1, hbm1⟩ := BMr.out
            have BM2 := Lib.hid hbm1
            clear hbm1 BMr
            go_wp2
            go_loopg [85] L (fun q s85 wr'' => ∃ j : Nat, j ≤ L ∧ L - j ≤ q ∧ s85 = .int .i64 j ∧ Ext w5 wr'' ∧ Aside (∃ mm, mm ≤ 100 + 100 * r + j ∧ BMap wr'' Try.prog 3 4 mb mm k (sweepTo l (sweeps l (free0 l k k) r) j)))
            case atStart => exact ⟨0, Nat.zero_le _, by omega, rfl, HE2.out, ⟨mm1, by omega, BM2.out⟩⟩
            case round =>
              obtain ⟨j, hj, hjq, rfl, he3, BMj⟩ := hrel
              obtain ⟨wp, rfl⟩ : ∃ wp : World, wp = wr := ⟨_, rfl⟩
              have HE3 := Lib.hid he3; clear he3 BM2
              obtain ⟨mm2, hmm2, hbm2⟩ := BMj.out
              have BM3 := Lib.hid hbm2
              clear hbm2 BMj
              by_cases hjt : j < L
              · have hjtz : (j : Int) < (L : Int) := by omega
                obtain ⟨sa, sc, hsa, _, hud⟩ := SL.out
                obtain ⟨b, off, hua, hb, hc⟩ := hud (by intro e; have := HLL.out; simp [e] at this; omega)
                rw [hua] at hsa
                simp only [Value.slice.injEq] at hsa
                obtain ⟨rfl, hq0, rfl⟩ := hsa
                clear hq0
                obtain ⟨vs, hvs, ⟨fv, rfl, hfi⟩, hcell⟩ := hc j (by rw [HLL.out]; exact hjt)
                have hwp := HE5.out.trans' HE3.out
                have d0 : wp.cell? ⟨b, off + j * 3, none⟩ = some (.int .i64 l[j]!.proc) := hwp.cl (hcell 0 (by omega))
                have d1 : wp.cell? ⟨b, off + j * 3 + 1, none⟩ = some (.int .i64 l[j]!.need) := hwp.cl (hcell 1 (by omega))
                have d2 : wp.cell? ⟨b, off + j * 3 + 2, none⟩ = some fv := hwp.cl (hcell 2 (by omega))
                have hfb := B3.out _ (mem_at l j (by rw [HLL.out]; exact hjt))
                obtain ⟨⟨p0, p1⟩, hfr⟩ := OK.out _ (mem_at l j (by rw [HLL.out]; exact hjt))
                have FR := Lib.hid hfr
                have FI := Lib.hid hfi
                have SWS := Lib.hid (sweepTo_succ l (sweeps l (free0 l k k) r) j (by rw [HLL.out]; exact hjt))
                have GL := Lib.hid (show (sweepTo l (sweeps l (free0 l k k) r) j).length = k from by rw [sweepTo_len, sweeps_len, free0_len])
                obtain ⟨fa, fc, rfl, _, hfd⟩ := hfi
                have FD := Lib.hid hfd
                clear hc hcell hvs hud hfr hfd hwp hua
                have CA := Lib.hid (cntTo_all l[j]! (sweepTo l (sweeps l (free0 l k k) r) j))
                generalize hG : sweepTo l (sweeps l (free0 l k k) r) j = G at *
                have HGd := Lib.hid hG; clear hG
                generalize hx : l[j]! = x at *
                obtain ⟨p, q, fl⟩ := x
                simp only at *
                generalize hfn : fl.length = F2 at *
                have HFN := Lib.hid hfn
                have HX := Lib.hid hx
                clear hfn hx
                have f0 := Lib.hid (cell_new wp #[.int .i64 p, .int .i64 q, .slice fa F2 fc] 40 0 _ rfl)
                have f1 := Lib.hid (cell_new wp #[.int .i64 p, .int .i64 q, .slice fa F2 fc] 40 1 _ rfl)
                have HE4 := Lib.hid (HE3.out.al (.cells #[.int .i64 p, .int .i64 q, .slice fa F2 fc] 40))
                have BM4 := Lib.hid (BM3.out.ext ((Ext.rf wp).al (.cells #[.int .i64 p, .int .i64 q, .slice fa F2 fc] 40)))
                clear BM3
                go_wp2
                generalize hW0 : wp.alloc (.cells #[.int .i64 p, .int .i64 q, .slice fa F2 fc] 40) = w0 at *
                clear hW0 d0 d1 d2
                generalize wp.heap.size = bw at *
                go_loopg [15, 92] F2 (fun gg s15 s92 wr4 => ∃ i : Nat, i ≤ F2 ∧ F2 - i ≤ gg ∧ s92 = .int .i64 i ∧ s15 = .int .i64 (cntTo fl G i) ∧ wr4 = w0)
                case atStart => exact ⟨0, Nat.zero_le _, by omega, rfl, by simp [cntTo], rfl⟩
                case round =>
                  obtain ⟨i, hi, hiq, rfl, rfl, rfl⟩ := hrel
                  by_cases hit : i < F2
                  · have hitz : (i : Int) < (F2 : Int) := by omega
                    obtain ⟨b2, o2, rfl, hb2, hc2⟩ := FD.out (by intro e; have := HFN.out; simp [e] at this; omega)
                    have hy : wr.cell? ⟨b2, o2 + i, none⟩ = some (.int .i64 fl[i]!) := (HE5.out.trans' HE4.out).cl (hc2 i hit)
                    obtain ⟨y0, y1⟩ := FR.out _ (mem_at fl i (by rw [HFN.out]; exact hit))
                    have CY := Lib.hid (fun h => cntTo_yes (l := fl) (F := G) (k := i) (by rw [HFN.out]; exact hit) h)
                    have CZ := Lib.hid (fun h => cntTo_no (l := fl) (F := G) (k := i) (by rw [HFN.out]; exact hit) h)
                    have hcl := cntTo_le fl G i (by rw [HFN.out]; exact hi)
                    generalize hyy : fl[i]! = y at *
                    clear hc2 FD hyy
                    cases hgy : G[y.toNat]! with
                    | true =>
                      have HGY := Lib.hid hgy; clear hgy
                      have CI := Lib.hid (CY.out HGY.out)
                      clear CY CZ
                      generalize cntTo fl G i = cn at *
                      go_wp2_with (first | (at_lookup; refine wpList_look_b rfl _ _ _ rfl 3 4 mb mm2 k G BM4.out Try.underlying3 Try.underlying45 Try.underlying4 zero_bool y (by omega) (by omega) (by omega) rfl rfl ?_; rw [HGY.out]) | go_in)
                      go_roundg (F2 - (i + 1))
                      case measure => omega
                      case rel => exact ⟨i + 1, by omega, by omega, by go_num, by rw [CI.out]; go_num, rfl⟩
                    | false =>
                      have HGY := Lib.hid hgy; clear hgy
                      have CI := Lib.hid (CZ.out HGY.out)
                      clear CY CZ
                      generalize cntTo fl G i = cn at *
                      go_wp2_with (first | (at_lookup; refine wpList_look_b rfl _ _ _ rfl 3 4 mb mm2 k G BM4.out Try.underlying3 Try.underlying45 Try.underlying4 zero_bool y (by omega) (by omega) (by omega) rfl rfl ?_; rw [HGY.out]) | go_in)
                      go_roundg (F2 - (i + 1))
                      case measure => omega
                      case rel => exact ⟨i + 1, by omega, by omega, by go_num, by rw [CI.out], rfl⟩
                  · have hitz : ¬ (i : Int) < (F2 : Int) := by omega
                    obtain rfl : i = F2 := by omega
                    have g0 := f0.out
                    have g1 := f1.out
                    generalize cntTo fl G i = cn at *
                    by_cases hn : q ≤ (cn : Int)
                    · have S1 := Lib.hid (show sweepTo l (sweeps l (free0 l k k) r) (j + 1) = G.set p.toNat true from by
                        rw [SWS.out, sweep1, if_pos (by rw [← CA.out]; exact hn)])
                      go_wp2_with (first | (at_mapUpdate; refine wpList_put_b rfl _ _ _ _ rfl 3 4 mb mm2 k G BM4.out (by unfold maxLen; omega) GL.out Try.underlying3 Try.underlying45 Try.underlying4 p (by omega) (by omega) (by omega) rfl rfl rfl ?_; intro w8 hb8 hg8; have HB8 := Lib.hid hb8; have HE8 := Lib.hid (HE4.out.gr hg8 (fun kk hkk => by simp only [Option.some.injEq] at hkk; omega)); clear hb8 hg8) | go_in)
                      go_roundg (L - (j + 1))
                      case measure => omega
                      case rel => exact ⟨j + 1, by omega, by omega, by go_num, HE8.out, (show Aside _ from by rw [S1.out]; exact ⟨mm2 + 1, by omega, HB8.out⟩)⟩
                    · have S1 := Lib.hid (show sweepTo l (sweeps l (free0 l k k) r) (j + 1) = G from by
                        rw [SWS.out, sweep1, if_neg (by rw [← CA.out]; exact hn)])
                      go_wp2
                      go_roundg (L - (j + 1))
                      case measure => omega
                      case rel => exact ⟨j + 1, by omega, by omega, by go_num, HE4.out, (show Aside _ from by rw [S1.out]; exact ⟨mm2, by omega, BM4.out⟩)⟩
              · have hjtz : ¬ (j : Int) < (L : Int) := by omega
                obtain rfl : j = L := by omega
                go_wp2
                go_roundg (k - (r + 1))
                case measure => omega
                case rel => exact ⟨r + 1, by omega, by omega, by go_num, HE3.out, (show Aside _ from ⟨mm2, by omega, by rw [sweeps, HLL.out]; exact BM3.out⟩)⟩
          · have hrtz : ¬ (r : Int) < (k : Int) := by omega
            obtain rfl : r = k := by omega
            obtain ⟨mm3, hmm3, hbm3⟩ := BMr.out
            have BM5 := Lib.hid hbm3
            clear hbm3 BMr
            go_wp2
            go_loopg [112] r (fun q s112 wr' => ∃ i : Nat, i ≤ r ∧ r - i ≤ q ∧ s112 = .int .i64 i ∧ Ext w5 wr' ∧ Aside (BMap wr' Try.prog 3 4 mb mm3 r (sweeps l (free0 l r r) r)))
            case atStart => exact ⟨0, Nat.zero_le _, by omega, rfl, HE2.out, BM5.out⟩
            case round =>
              obtain ⟨i, hi, hiq, rfl, he6, BM6⟩ := hrel
              have HE6 := Lib.hid he6; clear he6 BM5
              have c6 := HE6.out.cl cbg.out
              have hbg6 : bg < wr.heap.size := by have := World.block_lt_of_cell? wr _ c6; simpa using this
              by_cases hit : i < r
              · have hitz : (i : Int) < (r : Int) := by omega
                have hlk : ∀ nn, (Instr.lookup 45 (.map (some mb)) (.int .i64 (i : Int)) false).run Try.prog (wr.drewN nn) = .ok (.bool (!M[i]!)) (wr.drewN nn) := fun nn => by
                  have := (BM6.out.ext ((Ext.rf wr).drN nn)).look Try.underlying3 Try.underlying45 Try.underlying4 zero_bool (i : Int) (by omega) (by omega) (by omega)
                  rw [Int.toNat_natCast, SW.out i hit] at this
                  exact this
                have hcn : g.contains (i : Int) = M[i]! := MC.out i hit
                have CN2 := Lib.hid (fun (W : World) (hW : Ext w5 W) => (CN.out W hW (i : Int)).mono fun e w' h => (show e = .returned (.bool M[i]!) ∧ w' = W from by rw [hcn] at h; exact ⟨h.1, by first | exact h.2 | exact h.2.symm⟩))
                clear hcn
                generalize M[i]! = mk at *
                cases mk with
                | true =>
                  go_wp2
                  go_quiet ((go_at_call 12; exact Calls.quiet_of_same (CN2.out _ (HE6.out.drN _))))
                  go_wp2
                  go_roundg (r - (i + 1))
                  case measure => omega
                  case rel => exact ⟨i + 1, by omega, by omega, by go_num, HE6.out.drN _, BM6.out.ext ((Ext.rf wr).drN _)⟩
                | false =>
                  go_wp2
                  go_quiet ((go_at_call 12; exact Calls.quiet_of_same (CN2.out _ (HE6.out.drN _))))
                  go_wp2
                  go_roundg (r - (i + 1))
                  case measure => omega
                  case rel => exact ⟨i + 1, by omega, by omega, by go_num, HE6.out.drN _, BM6.out.ext ((Ext.rf wr).drN _)⟩
              · have hitz : ¬ (i : Int) < (r : Int) := by omega
                obtain rfl : i = r := by omega
                have cg := HE6.out.cl cbg.out
                have c0 := (HX5.out.trans' HE6.out).cl C0.out
                have c1 := (HX5.out.trans' HE6.out).cl C1.out
                have c2 := (HX5.out.trans' HE6.out).cl C2.out
                have hB0w : B0 < wr.heap.size := World.block_lt_of_cell? wr _ c0
                obtain ⟨ip, pi, pz0, pz1, pz2⟩ := info_parts info_wait
                have CL := Lib.hid (fun (W : World) (hW : Ext w5 W) => (CLO.out W (HE5.out.trans' hW)).mono fun e w' ⟨v', he, hr, hx⟩ => (⟨v', he, hr.mono hW.sz, hx⟩ : ∃ v', e = Ending.returned v' ∧ Row w' w5.heap.size 40 3 v' L xs ∧ Ext W w'))
                have hLL : L ≤ 40 := by omega
                clear CLO CN MC SW HX5 C0 C1 C2 HMP HMQ SL OK ONE B3 GB HFF HSS HV HMV2 hrt hrtz hlt hltz
                go_wp2
                go_region_law (first | (refine step_append_rowN rfl _ _ 38 rfl w5.heap.size 40 ip (.agg #[.int .i64 0, .int .i64 0, .slice none 0 0]) 3 40 Try.underlying38 pi pz0 pz1 pz2 rfl (by decide) _ L xs rfl (by first | exact hrow | exact hrow.al _) _ 1 [.int .i64 mp, .int .i64 mq, .slice ma F mc] rfl rfl (by first | exact ⟨_, heap_new_eq rfl⟩ | exact ⟨_, hx.hp (heap_new_eq rfl)⟩) (by simp [Value.oneCell']) (by unfold maxLen; omega) (by omega) (by first | exact (HE6.out.dr.trans' hx).sz | exact ((HE6.out.dr.trans' hx).al _).sz | exact (((HE6.out.al _).dr).trans' hx).sz) ?_; intro vN wN hownN hgrowN hblkN; have hxN : Ext w5 wN := (by first | exact (HE6.out.dr.trans' hx).gr hgrowN (fun k hk => (hrow.lt k hk).1) | exact ((HE6.out.dr.trans' hx).al _).gr hgrowN (fun k hk => (hrow.lt k hk).1) | exact (((HE6.out.al _).dr).trans' hx).gr hgrowN (fun k hk => (hrow.lt k hk).1))) | (refine step_call rfl 24 _ _ rfl enters_24 [.slice ua L uc] (by first | rfl | kernel_rfl | go_simp) (CL.out _ (by first | exact HE6.out.dr | exact (HE6.out.al _).dr)) ?_; rintro e w' ⟨v', rfl, hrow, hx⟩; refine ⟨_, rfl, ?_⟩; have d0 : w'.cell? ⟨B0, 0, none⟩ = some (.int .i64 mp) := hx.cl (by first | exact c0 | exact ((Ext.rf _).al _).cl c0); have d1 : w'.cell? ⟨B0, 1, none⟩ = some (.int .i64 mq) := hx.cl (by first | exact c1 | exact ((Ext.rf _).al _).cl c1); have d2 : w'.cell? ⟨B0, 2, none⟩ = some (.slice ma F mc) := hx.cl (by first | exact c2 | exact ((Ext.rf _).al _).cl c2)))
                all_goals
                  have SLN := Lib.hid (SLM.out wN vN (HE5.out.trans' hxN) hownN.cells)
                  have HEN := Lib.hid hxN
                  have FT3 := Lib.hid (FT2.out wN vN SLN.out)
                  clear hxN hownN hgrowN hblkN SLM FT2
                  by_cases hg : validL (l ++ [m]) (i : Int) = 0
                  · have DL3 := Lib.hid (fun (W : World) (hW : Ext wN W) => DL2.out W vN (SLN.out.ext rwait_lasts hW) hg)
                    rw [hg] at FT3
                    clear hg DL2
                    go_wp2_with fail
                    refine (FT3.out).mono ?_
                    rintro e w8 ⟨rfl, he8⟩
                    have HE8 := Lib.hid he8; clear he8 FT3
                    go_wp2_with fail
                    refine (DL3.out _ HE8.out).mono ?_
                    rintro e w9 ⟨rv, rfl, he9, M2, hrow2, hM2, _, ham2⟩
                    have HE9 := Lib.hid (HE8.out.trans' he9)
                    have ANY2 := Lib.hid (show g.any (fun x => !(marks M2 i).contains x) = false from by
                      rw [List.any_eq_false]; intro x hx; rw [SM.out M2 ham2 x hx]; simp)
                    have HG9 := Lib.hid hrow2.ints
                    have hgl9 := marks_len M2 i
                    obtain ⟨ra, rc, rfl, _, _⟩ := hrow2.any
                    clear he9 hrow2 hM2 ham2 DL3 HE8
                    generalize hg2 : marks M2 i = g2 at *
                    clear hg2
                    have cc9 := Lib.hid (cell_new w9 #[.slice ra g2.length rc] 23 0 _ rfl)
                    have HG10 := Lib.hid (HG9.out.ext ((Ext.rf w9).al (.cells #[.slice ra g2.length rc] 23)))
                    have HE10 := Lib.hid (HEN.out.trans' (HE9.out.al (.cells #[.slice ra g2.length rc] 23)))
                    have cgN := HE10.out.cl cbg.out
                    have hbgN : bg < (w9.alloc (.cells #[.slice ra g2.length rc] 23)).heap.size := by have := World.block_lt_of_cell? _ _ cgN; simpa using this
                    have S2 := Lib.hid ((containsFunc_int _ _ enters_25 (fun x => !g2.contains x) _ g _ (HG5.out.ext HE10.out) hgl2 (stuck2_says cc9.out HG10.out (by omega) g)).mono fun e w' h => (show e = .returned (.bool false) ∧ Ext (w9.alloc (.cells #[.slice ra g2.length rc] 23)) w' from by rw [ANY2.out] at h; exact h))
                    clear ANY2 HG9 HG10 cc9
                    go_wp2_with fail
                    refine (S2.out).mono ?_
                    rintro e w11 ⟨rfl, he11⟩
                    have HE11 := Lib.hid (HE5.out.trans' (HE10.out.trans' he11)); clear he11
                    go_wp2
                    go_ret
                    exact ⟨rfl, HE11.out⟩
                  · have t3 : (validL (l ++ [m]) (i : Int) != 0) = true := by rw [bne_iff_ne]; exact hg
                    generalize validL (l ++ [m]) (i : Int) = vr at *
                    clear DL2
                    go_wp2_with fail
                    refine (FT3.out).mono ?_
                    rintro e w8 ⟨rfl, he8⟩
                    have HE8 := Lib.hid (HE5.out.trans' (HEN.out.trans' he8)); clear he8
                    go_wp2
                    go_ret
                    exact ⟨rfl, HE8.out⟩

end Go.Proofs.Ythpnkfnnjkhhaaa
