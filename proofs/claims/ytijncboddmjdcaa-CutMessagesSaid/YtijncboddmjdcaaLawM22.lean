/-
  The statement CutMessages, walked.
-/
import Derived.Test.YtijncboddmjdcaaGa
import Derived.Test.YtijncboddmjdcaaProg
import Derived.BigQuiet
import Derived.Deep.QuietTactic
import Derived.Deep.LoopGhost
import Derived.Shelf.Abstract
import Derived.Test.YtijncboddmjdcaaGl
import Derived.Test.YtijncboddmjdcaaMsgL
import Derived.Test.YtijncboddmjdcaaGm
namespace Go.Proofs.Ytijncboddmjdcaa
open Go.RowKit
set_option linter.unusedVariables false

theorem zero_bool (w : World) : (zeroValue 4).run Try.prog w = .ok (.bool false) w := by kernel_rfl

set_option maxHeartbeats 16000000 in
set_option maxRecDepth 100000 in
theorem cutMessages_calls (v vc : Value) (t : Tr) (c : List Int) (w : World) (h : TrAt w v t) (htop : TopTr t) (hc : Ints w vc c) :
    Calls Try.prog 8 #[.agg #[v], vc] w fun e w' => e = .returned (.bool true) ∧ Ext w w' := by
  have hmm := @run_makeMap Try.prog
  have HC := Lib.hid hc
  obtain ⟨ca, cc, rfl, hacc, _⟩ := hc
  obtain ⟨n, hnc⟩ : ∃ n, c.length = n := ⟨_, rfl⟩
  rw [hnc]
  rw [hnc] at HC
  have HNC := Lib.hid hnc
  clear hacc hnc
  have HT := Lib.hid h
  have HFC := Lib.hid (fun W (hW : Ext w W) => few22_calls v t W (h.ext hW) htop)
  obtain ⟨ta, tc, rfl, htc⟩ := h.sh
  obtain ⟨tn, htn⟩ : ∃ n, t.length = n := ⟨_, rfl⟩
  rw [htn] at HFC HT ⊢
  have HTN := Lib.hid htn
  have HX0 := Lib.hid (heap_alloc_new w (.cells #[.slice ta tn tc] 24))
  have HE1 := Lib.hid ((Ext.rf w).al (.cells #[.slice ta tn tc] 24))
  obtain ⟨fw, hfw⟩ : ∃ b, few22 t = b := ⟨_, rfl⟩
  rw [hfw] at HFC
  have HFW := Lib.hid hfw
  clear h htop hfw htc htn
  go_enter Try.func8, Try.ntmps8
  go_wp2_with fail
  refine (awake22_calls _).mono ?_
  rintro e w2 ⟨rfl, hX2⟩
  have HE2 := Lib.hid (HE1.out.trans' hX2)
  have HY2 := Lib.hid (hX2.hp HX0.out)
  have t2 := cellOf HY2.out 0
  simp only [List.getElem?_toArray, List.getElem?_cons_zero] at t2
  clear hX2
  go_wp2_with fail
  refine (HFC.out _ HE2.out).mono ?_
  rintro e w3 ⟨rfl, hX3⟩
  have HE3 := Lib.hid (HE2.out.trans' hX3)
  have HY3 := Lib.hid (hX3.hp HY2.out)
  have t3 := cellOf HY3.out 0
  simp only [List.getElem?_toArray, List.getElem?_cons_zero] at t3
  clear hX3 t2
  cases fw with
  | false =>
    go_wp2_with fail
    refine (awake22_calls _).mono ?_
    rintro e w4 ⟨rfl, hX4⟩
    go_wp2
    go_ret
    exact ⟨rfl, HE3.out.trans' hX4⟩
  | true =>
  have HLO := Lib.hid (few22_loose HFW.out).1
  have HC4 := Lib.hid (fun W (hW : Ext w W) => consistentR_calls _ _ t c W (HT.out.ext hW) HLO.out (HC.out.ext hW))
  have HC5 := Lib.hid (fun W (hW : Ext w W) p q => underWayP_calls _ _ t c p q W (HT.out.ext hW) HLO.out (HC.out.ext hW))
  obtain ⟨cb, hcb⟩ : ∃ b, consB t c = b := ⟨_, rfl⟩
  rw [hcb] at HC4
  have HCB := Lib.hid hcb
  clear hcb
  go_wp2_with fail
  refine (HC4.out _ HE3.out).mono ?_
  rintro e w4 ⟨rfl, hX4⟩
  have HE4 := Lib.hid (HE3.out.trans' hX4)
  have HY4 := Lib.hid (hX4.hp HY3.out)
  have t4 := cellOf HY4.out 0
  simp only [List.getElem?_toArray, List.getElem?_cons_zero] at t4
  have HXX4 := Lib.hid hX4
  clear hX4 t3
  cases cb with
  | false =>
    go_wp2_with fail
    refine (awake22_calls _).mono ?_
    rintro e w99 ⟨rfl, hX99⟩
    go_wp2
    go_ret
    exact ⟨rfl, HE4.out.trans' hX99⟩
  | true =>
  have HVD := Lib.hid (consB_iff.1 HCB.out).1
  have HCC := Lib.hid (consB_iff.1 HCB.out).2
  have HRC := Lib.hid HCC.out.1
  have HSM := Lib.hid (valid_small HVD.out)
  obtain rfl : n = tn := by have := HRC.out.1; rw [HTN.out, HNC.out] at this; exact this
  have hnn : n ≤ 8 := by have := (shapeB_parts2.1 (validT_parts2.1 HVD.out).1).2.1; rw [HTN.out] at this; exact this
  have HGE : Hid (∀ p q : Nat, p < n → q < n → givenE t [c] [(p : Int), (q : Int)] = 0) := Lib.hid (fun p q hp hq => by
    have hp' : p < t.length := by rw [HTN.out]; exact hp
    have hq' : q < t.length := by rw [HTN.out]; exact hq
    have hfi : fitsB t c = true := decide_eq_true HRC.out.1
    unfold givenE
    simp [HVD.out, hfi, HRC.out.2, HCC.out.2, hp', hq'])
  go_wp2_with fail
  have BM0 := Lib.hid (BMap.made (P := Try.prog) (k := 3) (e := 4) (N := 200) (F := recL t (idsCTo c 0 0)) w4 (fun i hi => recL_nil t i hi))
  have HE4m := Lib.hid ((Ext.rf w4).al (.map #[] 0))
  have hmbl : w.heap.size < w4.heap.size := by have := World.block_lt_of_cell? w4 _ t4; simpa using this
  obtain ⟨mb, hmb⟩ : ∃ m, w4.heap.size = m := ⟨_, rfl⟩
  rw [hmb] at BM0 hmbl ⊢
  have HMB2 := Lib.hid (Nat.le_of_eq hmb)
  generalize hw5 : w4.alloc (.map #[] 0) = w5 at *
  clear hmb hw5 t4 hmm
  have HMB := Lib.hid hmbl
  clear hmbl
  go_loopg [35] n (fun g s35 wr => ∃ p : Nat, p ≤ n ∧ n - p ≤ g ∧ s35 = .int .i64 p ∧ Aside (Ext w4 wr) ∧ Aside (∃ mm, mm ≤ 1000000 * p ∧ BMap wr Try.prog 3 4 mb mm 200 (recL t (idsCTo c p 0))))
  case atStart => exact ⟨0, Nat.zero_le _, by omega, rfl, HE4m.out, ⟨0, by omega, BM0.out⟩⟩
  case round =>
    obtain ⟨p, hp, hg, rfl, HEP, BMp⟩ := hrel
    by_cases hlt : p < n
    · have hltz : (p : Int) < (n : Int) := by omega
      have hpz : (0 : Int) ≤ (p : Int) := by omega
      obtain ⟨B, O, C, vv, ve, hve, hlC, hB, hn0, hv0, he0, hV, hE0⟩ := proc_at HT.out p (by rw [HTN.out]; omega)
      simp only [Value.slice.injEq] at hve
      obtain ⟨rfl, hzz, rfl⟩ := hve
      have HEV := Lib.hid hE0
      obtain ⟨ea, ec, rfl, hec⟩ := hE0.sh
      obtain ⟨cb, co, rfl, hcb, hcp⟩ := ints_at HC.out p (by rw [HNC.out]; omega)
      have hen := (HSM.out.2 p (by rw [HTN.out]; omega)).2.1
      have hkr := HRC.out.at (p := p) (by rw [HTN.out]; omega)
      generalize hne : t[p]!.events.length = ne at *
      have HNE := Lib.hid hne
      obtain ⟨k, hk⟩ : ∃ k : Nat, c[p]! = (k : Int) := ⟨c[p]!.toNat, by omega⟩
      rw [hk] at hcp hkr
      have HK := Lib.hid hk
      have hkz : (0 : Int) ≤ (k : Int) := by omega
      have hkc : (k : Int) ≤ (ec : Int) := by omega
      have hkm : k ≤ 1000000 := by omega
      have HKN := Lib.hid (show k ≤ ne from by omega)
      clear hn0 hv0 hV hE0 hzz hne hk hkr
      have HEW0 := Lib.hid (HE4.out.trans' HEP.out)
      have HT6 := Lib.hid (HEP.out.hp HY4.out)
      have t6 := cellOf HT6.out 0
      simp only [List.getElem?_toArray, List.getElem?_cons_zero] at t6
      have q1 := HEW0.out.cl he0
      have q2 := HEW0.out.cl hcp
      obtain ⟨mm, hmm, hbm⟩ := BMp.out
      have BM1 := Lib.hid hbm
      clear hbm BMp he0 hcp BM0
      obtain ⟨wo, rfl⟩ : ∃ x, x = wr := ⟨_, rfl⟩
      go_wp2
      clear t6 q1 q2
      go_loopg [49] k (fun g s49 wr => ∃ i : Nat, i ≤ k ∧ k - i ≤ g ∧ s49 = .int .i64 i ∧ Aside (Ext w4 wr) ∧ Aside (∃ mm, mm ≤ 1000000 * p + i ∧ BMap wr Try.prog 3 4 mb mm 200 (recL t (idsCTo c p i))))
      case atStart => exact ⟨0, Nat.zero_le _, by omega, rfl, HEP.out, ⟨mm, by omega, BM1.out⟩⟩
      case round =>
        obtain ⟨i, hi, hgi, rfl, HEI, BMi⟩ := hrel
        by_cases hli : i < k
        · have hliz : (i : Int) < (k : Int) := by omega
          have hiz : (0 : Int) ≤ (i : Int) := by omega
          have HEW := Lib.hid (HE4.out.trans' HEI.out)
          obtain ⟨EB, EO, EC, va, hee, hlE, hEB, k0, k1, k2, k3, k4, ha⟩ := event_at HEV.out i (by rw [HNE.out]; have := HKN.out; omega)
          simp only [Value.slice.injEq] at hee
          obtain ⟨rfl, hzz, rfl⟩ := hee
          obtain ⟨va1, va2, rfl, _⟩ := ha.sh
          have m0 := HEW.out.cl k0
          have m1 := HEW.out.cl k1
          have m2 := HEW.out.cl k2
          have m3 := HEW.out.cl k3
          have m4 := HEW.out.cl k4
          have HEVE : Hid (ev t (p, i) = t[p]!.events[i]!) := Lib.hid rfl
          have HMI := Lib.hid (msg_in HVD.out (x := (p, i)) ⟨by rw [HTN.out]; omega, by simp only; rw [HNE.out]; have := HKN.out; omega⟩)
          rw [HEVE.out] at HMI
          have HMI0 := HMI.out.1
          have HMI1 := HMI.out.2
          generalize t[p]!.events[i]! = y at *
          generalize y.asg.length = nb at *
          clear k0 k1 k2 k3 k4 hzz ha
          have HB6 := Lib.hid (heap_alloc_new wr (e5 (.int .i64 y.kind) (.int .i64 y.peer) (.int .i64 y.msg) (.int .i64 y.time) (.slice va1 nb va2)))
          have HXT := Lib.hid ((Ext.rf wr).al (e5 (.int .i64 y.kind) (.int .i64 y.peer) (.int .i64 y.msg) (.int .i64 y.time) (.slice va1 nb va2)))
          obtain ⟨m3', hmm3, hbm3⟩ := BMi.out
          have BM3 := Lib.hid (hbm3.ext HXT.out)
          clear hbm3 BMi BM1
          have HEX := Lib.hid (HEI.out.trans' HXT.out)
          by_cases h3 : y.kind = 3
          · have d3 : (y.kind == 3) = true := by simp [h3]
            have RY := Lib.hid (recL_yes (t := t) (l := idsCTo c p i) (x := (p, i)) (by rw [HEVE.out]; exact h3) (by rw [HEVE.out]; exact HMI0) (by rw [HEVE.out]; exact HMI1))
            rw [HEVE.out] at RY
            clear h3
            go_wp2_with (first | (at_mapUpdate; go_loud (refine wpList_put_b rfl _ _ _ _ rfl 3 4 mb m3' 200 _ BM3.out (by unfold maxLen; omega) (recL_len t _) Try.underlying3 Try.underlying52 Try.underlying4 y.msg (by omega) (by omega) (by omega) rfl rfl rfl ?_); intro w8 hb8 hg8; have HB8 := Lib.hid hb8; have HE8 := Lib.hid (HEX.out.gr hg8 (fun kk hkk => by simp only [Option.some.injEq] at hkk; have := HMB2.out; omega)); clear hb8 hg8) | go_in)
            go_roundg (k - (i + 1))
            case measure => omega
            case rel => exact ⟨i + 1, by omega, by omega, by go_num, HE8.out, ⟨m3' + 1, by omega, by rw [idsCTo_succ, RY.out]; exact HB8.out⟩⟩
          · have d3 : (y.kind == 3) = false := by simp [h3]
            have RY := Lib.hid (recL_no (t := t) (l := idsCTo c p i) (x := (p, i)) (by rw [HEVE.out]; exact h3))
            clear h3
            go_wp2
            go_roundg (k - (i + 1))
            case measure => omega
            case rel => exact ⟨i + 1, by omega, by omega, by go_num, HEX.out, ⟨m3', by omega, by rw [idsCTo_succ, RY.out]; exact BM3.out⟩⟩
        · have hliz : ¬ (i : Int) < (k : Int) := by omega
          obtain rfl : k = i := by omega
          obtain ⟨m3', hmm3, hbm3⟩ := BMi.out
          have BM3 := Lib.hid hbm3
          clear hbm3 BMi BM1
          go_wp2
          go_roundg (n - (p + 1))
          case measure => omega
          case rel => exact ⟨p + 1, by omega, by omega, by go_num, HEI.out, ⟨m3', by omega, by rw [← idsCTo_next, HK.out, Int.toNat_natCast]; exact BM3.out⟩⟩
    · have hltz : ¬ (p : Int) < (n : Int) := by omega
      obtain rfl : n = p := by omega
      obtain ⟨mm, hmm, hbm⟩ := BMp.out
      rw [← HNC.out] at hbm
      obtain ⟨wz, rfl⟩ : ∃ x, x = wr := ⟨_, rfl⟩
      have HEZ := Lib.hid (HE4.out.trans' HEP.out)
      have HYZ := Lib.hid (HEP.out.hp HY4.out)
      have BMZ := Lib.hid hbm
      have HUW := Lib.hid (fun (p i : Nat) (q : Int) (hx : Inn t (p, i)) => uwB_rec (c := c) HVD.out HRC.out (q := q) hx)
      have HFL := recL_len t (idsCTo c c.length 0)
      generalize recL t (idsCTo c c.length 0) = F at *
      clear hbm BMp BM0 HEP hp hg hltz
      go_wp2
      go_loopg [63] n (fun g s63 wr => ∃ p : Nat, p ≤ n ∧ n - p ≤ g ∧ s63 = .int .i64 p ∧ Aside (Ext wz wr))
      case atStart => exact ⟨0, Nat.zero_le _, by omega, rfl, Ext.rf _⟩
      case round =>
        obtain ⟨p, hp, hg, rfl, HEP⟩ := hrel
        by_cases hlt : p < n
        · have hltz : (p : Int) < (n : Int) := by omega
          have hpz : (0 : Int) ≤ (p : Int) := by omega
          obtain ⟨B, O, C, vv, ve, hve, hlC, hB, hn0, hv0, he0, hV, hE0⟩ := proc_at HT.out p (by rw [HTN.out]; omega)
          simp only [Value.slice.injEq] at hve
          obtain ⟨rfl, hzz, rfl⟩ := hve
          have HEV := Lib.hid hE0
          obtain ⟨ea, ec, rfl, hec⟩ := hE0.sh
          obtain ⟨cb, co, rfl, hcb, hcp⟩ := ints_at HC.out p (by rw [HNC.out]; omega)
          have hen := (HSM.out.2 p (by rw [HTN.out]; omega)).2.1
          have hkr := HRC.out.at (p := p) (by rw [HTN.out]; omega)
          generalize hne : t[p]!.events.length = ne at *
          have HNE := Lib.hid hne
          obtain ⟨k, hk⟩ : ∃ k : Nat, c[p]! = (k : Int) := ⟨c[p]!.toNat, by omega⟩
          rw [hk] at hcp hkr
          have HK := Lib.hid hk
          have hkz : (0 : Int) ≤ (k : Int) := by omega
          have hkc : (k : Int) ≤ (ec : Int) := by omega
          have hkm : k ≤ 1000000 := by omega
          have HKN := Lib.hid (show k ≤ ne from by omega)
          clear hn0 hv0 hV hE0 hzz hne hk hkr
          have HEW0 := Lib.hid (HEZ.out.trans' HEP.out)
          have q2 := HEW0.out.cl hcp
          have HEO := Lib.hid he0
          clear he0 hcp
          obtain ⟨wo, rfl⟩ : ∃ x, x = wr := ⟨_, rfl⟩
          go_wp2
          clear q2
          go_loopg [70] n (fun g s70 wr => ∃ q : Nat, q ≤ n ∧ n - q ≤ g ∧ s70 = .int .i64 q ∧ Aside (Ext wz wr))
          case atStart => exact ⟨0, Nat.zero_le _, by omega, rfl, HEP.out⟩
          case round =>
            obtain ⟨q, hq, hgq, rfl, HEQ⟩ := hrel
            by_cases hlq : q < n
            · have hlqz : (q : Int) < (n : Int) := by omega
              have hqz : (0 : Int) ≤ (q : Int) := by omega
              obtain ⟨wp, rfl⟩ : ∃ x, x = wr := ⟨_, rfl⟩
              have HEW1 := Lib.hid (HEZ.out.trans' HEQ.out)
              have HCU := Lib.hid (HC5.out _ HEW1.out (p : Int) (q : Int))
              rw [HGE.out p q hlt hlq, if_pos rfl, Int.toNat_natCast] at HCU
              unfold underC at HCU
              rw [HK.out, Int.toNat_natCast] at HCU
              have HLB := uwTo_len t c q p k
              have HGET := Lib.hid (fun (i : Nat) (hi : i < k) (h : uwB t c q (p, i) = true) => uwTo_get (t := t) (c := c) (q := q) (p := p) hi h)
              obtain ⟨L, hL⟩ : ∃ L, uwTo t c q p k = L := ⟨_, rfl⟩
              rw [hL] at HCU HLB
              simp only [hL] at HGET
              have HL := Lib.hid hL
              clear hL
              have t6 := cellOf (HEQ.out.hp HYZ.out) 0
              simp only [List.getElem?_toArray, List.getElem?_cons_zero] at t6
              go_wp2_with fail
              clear t6
              refine (HCU.out).mono ?_
              rintro e w7 ⟨u7, rfl, hR7, hX7⟩
              obtain ⟨ua7, uc7, hu7, _⟩ := hR7.any
              subst hu7
              have HI7 := Lib.hid hR7.ints
              have HE7 := Lib.hid (HEQ.out.trans' hX7)
              have HW7 := Lib.hid (HEZ.out.trans' HE7.out)
              have HT7 := Lib.hid (HE7.out.hp HYZ.out)
              have t7 := cellOf HT7.out 0
              simp only [List.getElem?_toArray, List.getElem?_cons_zero] at t7
              have q1 := HW7.out.cl HEO.out
              obtain ⟨ln, hln⟩ : ∃ l, L.length = l := ⟨_, rfl⟩
              rw [hln] at HLB
              have HLN := Lib.hid hln
              simp only [hln] at HI7 ⊢
              clear hR7 hX7 hln
              go_wp2
              clear t7 q1
              go_loopg [15, 92] k (fun g s15 s92 wr => ∃ i : Nat, i ≤ k ∧ k - i ≤ g ∧ s92 = .int .i64 i ∧ s15 = .int .i64 (uwTo t c q p i).length ∧ Aside (Ext w7 wr))
              case atStart => exact ⟨0, Nat.zero_le _, by omega, rfl, rfl, Ext.rf _⟩
              case round =>
                obtain ⟨i, hi, hgi, rfl, rfl, HEI⟩ := hrel
                by_cases hli : i < k
                · have hliz : (i : Int) < (k : Int) := by omega
                  have hiz : (0 : Int) ≤ (i : Int) := by omega
                  have HEW := Lib.hid (HW7.out.trans' HEI.out)
                  have HUB := Lib.hid (HUW.out p i q ⟨by rw [HTN.out]; exact hlt, by simp only; rw [HNE.out]; have := HKN.out; omega⟩)
                  obtain ⟨EB, EO, EC, va, hee, hlE, hEB, k0, k1, k2, k3, k4, ha⟩ := event_at HEV.out i (by rw [HNE.out]; have := HKN.out; omega)
                  simp only [Value.slice.injEq] at hee
                  obtain ⟨rfl, hzz, rfl⟩ := hee
                  obtain ⟨va1, va2, rfl, _⟩ := ha.sh
                  have m0 := HEW.out.cl k0
                  have m1 := HEW.out.cl k1
                  have m2 := HEW.out.cl k2
                  have m3 := HEW.out.cl k3
                  have m4 := HEW.out.cl k4
                  have HEVE : Hid (ev t (p, i) = t[p]!.events[i]!) := Lib.hid rfl
                  have HMI := Lib.hid (msg_in HVD.out (x := (p, i)) ⟨by rw [HTN.out]; omega, by simp only; rw [HNE.out]; have := HKN.out; omega⟩)
                  rw [HEVE.out] at HMI
                  have HMI0 := HMI.out.1
                  have HMI1 := HMI.out.2
                  generalize t[p]!.events[i]! = y at *
                  generalize y.asg.length = nb at *
                  clear k0 k1 k2 k3 k4 hzz ha
                  have HB6 := Lib.hid (heap_alloc_new wr (e5 (.int .i64 y.kind) (.int .i64 y.peer) (.int .i64 y.msg) (.int .i64 y.time) (.slice va1 nb va2)))
                  have HXT := Lib.hid ((Ext.rf wr).al (e5 (.int .i64 y.kind) (.int .i64 y.peer) (.int .i64 y.msg) (.int .i64 y.time) (.slice va1 nb va2)))
                  rw [HEVE.out] at HUB
                  have HEX := Lib.hid (HEI.out.trans' HXT.out)
                  have BMX := Lib.hid (BMZ.out.ext (HE7.out.trans' HEX.out))
                  have hlk := BMX.out.look (t := 52) Try.underlying3 Try.underlying52 Try.underlying4 zero_bool y.msg (by omega) (by omega) (by omega)
                  obtain ⟨ck, hck⟩ : ∃ b, (y.kind != 2) = b := ⟨_, rfl⟩
                  obtain ⟨cp, hcp⟩ : ∃ b, (y.peer != (q : Int)) = b := ⟨_, rfl⟩
                  obtain ⟨cm, hcm⟩ : ∃ b, F[y.msg.toNat]! = b := ⟨_, rfl⟩
                  rw [hcm] at hlk HUB
                  have hue : uwB t c q (p, i) = (!ck && (!cp && !cm)) := by
                    rw [HUB.out, ← hck, ← hcp, Bool.eq_iff_iff]
                    simp [bne]
                  have HUE := Lib.hid hue
                  clear hue hcm
                  cases ck with
                  | true =>
                    have HUN := Lib.hid (uwTo_no (show uwB t c q (p, i) = false from HUE.out))
                    go_wp2
                    go_roundg (k - (i + 1))
                    case measure => omega
                    case rel => exact ⟨i + 1, by omega, by omega, by go_num, by rw [HUN.out], HEX.out⟩
                  | false =>
                  cases cp with
                  | true =>
                    have HUN := Lib.hid (uwTo_no (show uwB t c q (p, i) = false from HUE.out))
                    go_wp2
                    go_roundg (k - (i + 1))
                    case measure => omega
                    case rel => exact ⟨i + 1, by omega, by omega, by go_num, by rw [HUN.out], HEX.out⟩
                  | false =>
                  cases cm with
                  | true =>
                    have HUN := Lib.hid (uwTo_no (show uwB t c q (p, i) = false from HUE.out))
                    go_wp2
                    go_roundg (k - (i + 1))
                    case measure => omega
                    case rel => exact ⟨i + 1, by omega, by omega, by go_num, by rw [HUN.out], HEX.out⟩
                  | false =>
                    have hut : uwB t c q (p, i) = true := HUE.out
                    have HUN := Lib.hid (uwTo_yes hut)
                    have hgt := HGET.out i hli hut
                    rw [HEVE.out] at hgt
                    clear hut
                    obtain ⟨el, hel⟩ : ∃ n, (uwTo t c q p i).length = n := ⟨_, rfl⟩
                    rw [hel, HLN.out] at hgt
                    simp only [hel]
                    have HEL := Lib.hid hel
                    clear hel
                    obtain ⟨lb, lo, hla, hlbs, hlcell⟩ := ints_at HI7.out el (by rw [HLN.out]; exact hgt.1)
                    rw [hgt.2] at hlcell
                    have z1 := HEX.out.cl hlcell
                    have hel1 : ¬ (ln : Int) ≤ (el : Int) := by omega
                    have hel2 : (el : Int) < (ln : Int) := by omega
                    have hel3 : (0 : Int) ≤ (el : Int) := by omega
                    subst hla
                    have d5 : decide ((ln : Int) ≤ (el : Int)) = false := decide_eq_false hel1
                    have d6 : decide (ln ≤ el) = false := decide_eq_false (by omega)
                    clear hgt hlcell hel1
                    go_wp2
                    go_quiet (fail)
                    go_wp2
                    go_roundg (k - (i + 1))
                    case measure => omega
                    case rel => exact ⟨i + 1, by omega, by omega, by go_num, by rw [HUN.out, List.length_append, HEL.out]; simp, HEX.out.drN _⟩
                · have hliz : ¬ (i : Int) < (k : Int) := by omega
                  obtain rfl : k = i := by omega
                  have hll : (uwTo t c q p k).length = ln := by rw [HL.out, HLN.out]
                  simp only [hll]
                  go_wp2
                  go_roundg (n - (q + 1))
                  case measure => omega
                  case rel => exact ⟨q + 1, by omega, by omega, by go_num, HE7.out.trans' HEI.out⟩
            · have hlqz : ¬ (q : Int) < (n : Int) := by omega
              obtain rfl : n = q := by omega
              go_wp2
              go_roundg (n - (p + 1))
              case measure => omega
              case rel => exact ⟨p + 1, by omega, by omega, by go_num, HEQ.out⟩
        · have hltz : ¬ (p : Int) < (n : Int) := by omega
          obtain rfl : n = p := by omega
          go_wp2
          go_ret
          exact ⟨rfl, HEZ.out.trans' HEP.out⟩

end Go.Proofs.Ytijncboddmjdcaa
