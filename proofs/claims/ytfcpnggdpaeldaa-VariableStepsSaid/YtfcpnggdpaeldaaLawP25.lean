/-
  The statement VariableSteps, walked.
-/
import Derived.Test.YtfcpnggdpaeldaaGa
import Derived.Test.YtfcpnggdpaeldaaProg
import Derived.BigQuiet
import Derived.Deep.QuietTactic
import Derived.Deep.LoopGhost
import Derived.Shelf.Abstract
import Derived.Test.YtfcpnggdpaeldaaGm
import Derived.Test.YtfcpnggdpaeldaaStpM
import Derived.Test.YtfcpnggdpaeldaaStpR
import Derived.Test.YtfcpnggdpaeldaaStpQ
import Derived.Test.YtfcpnggdpaeldaaGl
import Derived.Test.YtfcpnggdpaeldaaTails
import Derived.Deep.OwnRows
import Derived.Laws.OwnMore
import Derived.RegionTactic
import Derived.ChangeAlike
import Derived.BigRegion
import Derived.Deep.CutBlock
import Derived.Deep.DeepCutAuto
namespace Go.Proofs.Ytfcpnggdpaeldaa
open Go.RowKit
set_option linter.unusedVariables false

theorem info_sl1 : (Try.prog.info? 30).map (fun i => (i.zero, i.size, i.bytes)) = some (some (.slice none 0 0), 1, 24) := by kernel_rfl
theorem info_bo1 : (Try.prog.info? 4).map (fun i => (i.zero, i.size, i.bytes)) = some (some (.bool false), 1, 1) := by kernel_rfl

theorem place_ok {t : Tr} {p k : Nat} (hv : validT t = true) (hp : p < t.length) (hk : k ≤ t[p]!.events.length) : placeE t p k = 0 := by
  unfold placeE
  rw [if_pos hv, if_pos ⟨⟨by omega, by omega⟩, by omega, by rw [Int.toNat_natCast]; omega⟩]
theorem made_listP (z : Value) (n : Nat) : madeCells #[z] n = (List.replicate n z).toArray := by
  rw [← toList_madeCells_one]
theorem made_rowP {W : World} {base b n : Nat} {t : TypeId} {z : Value} (hb : W.heap[b]? = some (.cells (madeCells #[z] n) t)) (hbase : base ≤ b) (hn : n ≤ 1000000) : Row W base t 1 (.slice (some ⟨b, 0, none⟩) n n) n (List.replicate n z) := by
  rw [made_listP] at hb
  exact ⟨by simp, .inr ⟨b, 0, n, _, rfl, hbase, hb, Nat.le_refl _, by unfold maxLen; omega, by simp, by simp⟩⟩
theorem int_oneP (l : List Int) : ∀ u ∈ l.map (Value.int .i64), u.oneCell' = true := by
  intro u hu; obtain ⟨x, _, rfl⟩ := List.mem_map.1 hu; rfl

set_option maxHeartbeats 16000000 in
set_option maxRecDepth 100000 in
theorem variableSteps_calls (v : Value) (t : Tr) (p : Int) (w : World) (h : TrAt w v t) :
    Calls Try.prog 4 #[.agg #[v], .int .i64 p] w fun e w' => e = .returned (.bool true) ∧ Ext w w' := by
  have HT := Lib.hid h
  have HGC := Lib.hid (fun W (hW : Ext w W) => great_calls v t W (h.ext hW))
  obtain ⟨ta, tc, rfl, htc⟩ := h.sh
  obtain ⟨tn, htn⟩ : ∃ n, t.length = n := ⟨_, rfl⟩
  rw [htn] at HGC HT ⊢
  have HTN := Lib.hid htn
  have HX0 := Lib.hid (heap_alloc_new w (.cells #[.slice ta tn tc] 24))
  have HE1 := Lib.hid ((Ext.rf w).al (.cells #[.slice ta tn tc] 24))
  obtain ⟨gw, hgw⟩ : ∃ b, greatT t = b := ⟨_, rfl⟩
  rw [hgw] at HGC
  have HGW := Lib.hid hgw
  clear h hgw htc htn
  go_enter Try.func4, Try.ntmps4
  go_wp2_with fail
  refine (awake25_calls _).mono ?_
  rintro e w2 ⟨rfl, hX2⟩
  have HE2 := Lib.hid (HE1.out.trans' hX2)
  have HY2 := Lib.hid (hX2.hp HX0.out)
  have t2 := cellOf HY2.out 0
  simp only [List.getElem?_toArray, List.getElem?_cons_zero] at t2
  clear hX2
  go_wp2_with fail
  refine (HGC.out _ HE2.out).mono ?_
  rintro e w3 ⟨rfl, hX3⟩
  have HE3 := Lib.hid (HE2.out.trans' hX3)
  have HY3 := Lib.hid (hX3.hp HY2.out)
  have t3 := cellOf HY3.out 0
  simp only [List.getElem?_toArray, List.getElem?_cons_zero] at t3
  clear hX3 t2
  cases gw with
  | true =>
    go_wp2
    go_ret
    exact ⟨rfl, HE3.out⟩
  | false =>
  have HLO := Lib.hid (great_loose HGW.out).1
  have HTL := Lib.hid (great_loose HGW.out).2
  have HVC := Lib.hid (fun W (hW : Ext w W) => validR_calls _ t W (HT.out.ext hW) HLO.out)
  have HC2 := Lib.hid (fun W (hW : Ext w W) p k => stateV_calls _ t p k W (HT.out.ext hW) HLO.out)
  obtain ⟨vt, hvt⟩ : ∃ b, validT t = b := ⟨_, rfl⟩
  rw [hvt] at HVC
  have HVT := Lib.hid hvt
  clear hvt
  go_wp2_with fail
  refine (HVC.out _ HE3.out).mono ?_
  rintro e w4 ⟨rfl, hX4⟩
  have HE4 := Lib.hid (HE3.out.trans' hX4)
  have HY4 := Lib.hid (hX4.hp HY3.out)
  have t4 := cellOf HY4.out 0
  simp only [List.getElem?_toArray, List.getElem?_cons_zero] at t4
  have HXX4 := Lib.hid hX4
  clear hX4 t3
  cases vt with
  | false =>
    go_wp2
    go_ret
    exact ⟨rfl, HE4.out⟩
  | true =>
  by_cases hp0 : p < 0
  case pos =>
    have d1 : decide (p < 0) = true := decide_eq_true hp0
    clear hp0
    go_wp2
    go_ret
    exact ⟨rfl, HE4.out⟩
  case neg =>
  have d1 : decide (p < 0) = false := decide_eq_false hp0
  by_cases hpn : (tn : Int) ≤ p
  case pos =>
    have d2 : decide ((tn : Int) ≤ p) = true := decide_eq_true hpn
    clear hp0 hpn
    go_wp2
    go_ret
    exact ⟨rfl, HE4.out⟩
  case neg =>
  have d2 : decide ((tn : Int) ≤ p) = false := decide_eq_false hpn
  obtain ⟨q, rfl⟩ : ∃ q : Nat, p = (q : Int) := ⟨p.toNat, by omega⟩
  have HQ := Lib.hid (show q < t.length from by rw [HTN.out]; omega)
  have hqz : (0 : Int) ≤ (q : Int) := by omega
  have hqn : (q : Int) < (tn : Int) := by omega
  have HC3 : Hid (∀ W, Ext w W → ∀ k : Nat, k ≤ t[q]!.events.length → Calls Try.prog 21 #[.agg #[.slice ta tn tc], .int .i64 q, .int .i64 k] W fun e w' => IntsRes W w' e 0 (stV t q k)) := Lib.hid (fun W hW k hk => by
    have := HC2.out W hW (q : Int) (k : Int)
    rw [place_ok HVT.out HQ.out hk, if_pos rfl, Int.toNat_natCast, Int.toNat_natCast] at this
    exact this)
  have HC30 := Lib.hid (fun W hW => HC3.out W hW 0 (Nat.zero_le _))
  obtain ⟨B, O, C, vv, ve, hve, hlC, hB, hn0, hv0, he0, hV, hE0⟩ := proc_at HT.out q HQ.out
  have hve2 := hve
  simp only [Value.slice.injEq] at hve2
  obtain ⟨rfl, hzz, rfl⟩ := hve2
  have HVV := Lib.hid hV
  have HEE := Lib.hid hE0
  obtain ⟨xa, xc, rfl, hxc⟩ := hV.sh
  obtain ⟨ea, ec, rfl, hec⟩ := hE0.sh
  have HV0 := Lib.hid hv0
  have HE0 := Lib.hid he0
  have HSL := Lib.hid (stV_len t q)
  have hnvv : t[q]!.vars.length ≤ 1000000 := ((valid_small HVT.out).2 q HQ.out).1
  have hnee : t[q]!.events.length ≤ 1000000 := ((valid_small HVT.out).2 q HQ.out).2.1
  obtain ⟨nv, hnv⟩ : ∃ n, t[q]!.vars.length = n := ⟨_, rfl⟩
  obtain ⟨ne, hne⟩ : ∃ n, t[q]!.events.length = n := ⟨_, rfl⟩
  have HNV := Lib.hid hnv
  have HNE := Lib.hid hne
  rw [hnv] at HV0 hnvv hxc HSL
  rw [hne] at HE0 hnee hec HC3 HSL
  clear hn0 hv0 he0 hV hE0 hve hzz hp0 hpn d1 d2 hnv hne
  go_wp2_with fail
  refine (HC30.out _ HE4.out).mono ?_
  rintro e w5 ⟨u5, rfl, hR5, hX5⟩
  rw [HSL.out 0 (Nat.zero_le _)] at hR5
  obtain ⟨a5, c5, rfl, _⟩ := hR5.any
  have HR5 := Lib.hid hR5
  have v5 := (HE4.out.trans' hX5).cl HV0.out
  clear hR5
  have HE5 := Lib.hid (HE4.out.trans' hX5)
  have HY5 := Lib.hid (hX5.hp HY4.out)
  have t5 := cellOf HY5.out 0
  simp only [List.getElem?_toArray, List.getElem?_cons_zero] at t5
  have HXX5 := Lib.hid hX5
  clear hX5 t4
  have dn : ((nv : Int) != (nv : Int)) = false := by simp
  have HCL := Lib.hid (fun W (hW : Ext w5 W) => clone_cints _ nv ((stV t q 0).map (Value.int .i64)) W ((HR5.out.ext hW).cells) (int_oneP _) hnvv)
  go_wp2_with fail
  refine (HCL.out _ (Ext.rf _)).mono ?_
  rintro e w6 ⟨u6, rfl, hR6, hX6⟩
  obtain ⟨a6, c6, rfl, _⟩ := hR6.any
  have HR6 := Lib.hid hR6
  clear hR6
  have HXX56 := Lib.hid hX6
  have HCL6 := Lib.hid (HCL.out _ hX6)
  have HE6 := Lib.hid (HE5.out.trans' hX6)
  have HY6 := Lib.hid (hX6.hp HY5.out)
  have t6 := cellOf HY6.out 0
  simp only [List.getElem?_toArray, List.getElem?_cons_zero] at t6
  have HXX6 := Lib.hid hX6
  clear hX6 t5
  go_wp2_with fail
  refine HCL6.out.mono ?_
  rintro e w7 ⟨u7, rfl, hR7, hX7⟩
  obtain ⟨a7, c7, rfl, _⟩ := hR7.any
  have HR7 := Lib.hid hR7
  clear hR7
  have HE7 := Lib.hid (HE6.out.trans' hX7)
  have HY7 := Lib.hid (hX7.hp HY6.out)
  have t7 := cellOf HY7.out 0
  simp only [List.getElem?_toArray, List.getElem?_cons_zero] at t7
  have HXX7 := Lib.hid hX7
  clear hX7 t6
  have hnz : (0 : Int) ≤ (nv : Int) := by omega
  have hnm : (nv : Int) ≤ 1000000 := by omega
  have hm1 := run_make_row' (P := Try.prog) 49 30 (.slice none 0 0) 24 Try.underlying49 info_sl1 rfl .i64 .i64 nv (by omega) (by omega)
  have hm2 := run_make_row' (P := Try.prog) 50 4 (.bool false) 1 Try.underlying50 info_bo1 rfl .i64 .i64 nv (by omega) (by omega)
  go_upto_region 10 with (fail)
  go_cut [10, 11] (fun s10 s11 wx => ∃ G H : Nat, s10 = .slice (some ⟨G, 0, none⟩) nv nv ∧ s11 = .slice (some ⟨H, 0, none⟩) nv nv ∧ Aside (Row wx w7.heap.size 30 1 (.slice (some ⟨G, 0, none⟩) nv nv) nv (List.replicate nv (.slice none 0 0))) ∧ Aside (Row wx w7.heap.size 4 1 (.slice (some ⟨H, 0, none⟩) nv nv) nv (List.replicate nv (.bool false))) ∧ Aside (Ext w7 wx))
  case first =>
    go_wp2
    go_region_with (fail)
    all_goals
      go_wp2
      go_meet
    · exact ⟨_, _, rfl, rfl, (show Row _ _ _ _ _ _ _ from made_rowP (((Ext.rf _).al _).dr.hp (heap_new_eq (by simp))) (by omega) (by omega)), (show Row _ _ _ _ _ _ _ from made_rowP ((Ext.rf _).dr.hp (heap_new_eq (by simp))) (by omega) (by omega)), (show Ext _ _ from (by repeat (first | refine Ext.st ?_ (by first | exact Nat.le_refl _ | exact Nat.le_succ _ | assumption | omega) _ | refine Ext.al ?_ _ | refine Ext.dr ?_ | refine Ext.drN ?_ _ | exact Ext.rf _)))⟩
    · exact ⟨_, _, rfl, rfl, (show Row _ _ _ _ _ _ _ from made_rowP ((Ext.rf _).dr.hp (heap_new_eq (by simp))) (by omega) (by omega)), (show Row _ _ _ _ _ _ _ from made_rowP (((Ext.rf _).al _).dr.hp (heap_new_eq (by simp))) (by omega) (by omega)), (show Ext _ _ from (by repeat (first | refine Ext.st ?_ (by first | exact Nat.le_refl _ | exact Nat.le_succ _ | assumption | omega) _ | refine Ext.al ?_ _ | refine Ext.dr ?_ | refine Ext.drN ?_ _ | exact Ext.rf _)))⟩
  case rest =>
  obtain ⟨G, H, rfl, rfl, HHD, HUN, HXW⟩ := hcut
  clear hm1 hm2 t7
  have HI0 : Hid (∀ i, i < nv → (stV t q 0)[i]! = t[q]!.vars[i]!.init) := Lib.hid (fun i hi => by
    rw [stV_zero]; unfold initV
    rw [getElem!_pos _ i (by rw [List.length_map, HNV.out]; exact hi), getElem!_pos t[q]!.vars i (by rw [HNV.out]; exact hi), List.getElem_map])
  go_wp2
  go_loopg [82] nv (fun g s82 wr => ∃ i : Nat, i ≤ nv ∧ nv - i ≤ g ∧ s82 = .int .i64 i ∧ Aside (Row wr w7.heap.size 30 1 (.slice (some ⟨G, 0, none⟩) nv nv) nv (List.replicate nv (.slice none 0 0))) ∧ Aside (Row wr w7.heap.size 4 1 (.slice (some ⟨H, 0, none⟩) nv nv) nv ((mixL nv i (fun _ => true) (fun _ => false)).map Value.bool)) ∧ Aside (Ext w7 wr))
  case atStart => exact ⟨0, Nat.zero_le _, by omega, rfl, (show Row _ _ _ _ _ _ _ from HHD.out), (show Row _ _ _ _ _ _ _ from by rw [show (mixL nv 0 (fun _ => true) (fun _ => false)).map Value.bool = List.replicate nv (Value.bool false) by rw [mixL_map]; unfold mixL; simp only [Nat.not_lt_zero, if_false]; rw [List.map_const', List.length_range]]; exact HUN.out), (show Ext _ _ from HXW.out)⟩
  case round =>
    obtain ⟨i, hi, hg, rfl, HHR, HUR, HEK⟩ := hrel
    have HEW := Lib.hid (HE7.out.trans' HEK.out)
    have HI5R := Lib.hid ((HR5.out.ext HXX56.out).ext (HXX7.out.trans' HEK.out))
    by_cases hlt : i < nv
    · have hltz : (i : Int) < (nv : Int) := by omega
      have hiz : (0 : Int) ≤ (i : Int) := by omega
      obtain ⟨VB, VO, VC, hvv, hlV, hVB, k0, k1⟩ := var_at HVV.out i (by rw [HNV.out]; exact hlt)
      simp only [Value.slice.injEq] at hvv
      obtain ⟨rfl, hzz, rfl⟩ := hvv
      have m1 := HEW.out.cl k1
      obtain ⟨LB, LO, LC, hle, hlb, hlB, _⟩ := HI5R.out.shape (by omega)
      simp only [Value.slice.injEq] at hle
      obtain ⟨rfl, _, rfl⟩ := hle
      have l1 := HI5R.out.cell i (by omega)
      rw [List.getElem?_map, List.getElem?_eq_getElem (by rw [HSL.out 0 (Nat.zero_le _)]; exact hlt), Option.map_some, ← getElem!_pos (stV t q 0) i (by rw [HSL.out 0 (Nat.zero_le _)]; exact hlt), HI0.out i hlt] at l1
      have u1 := HUR.out.cell i (by omega)
      have fu := HUR.out.free i
      rw [List.getElem?_map, mixL_get hlt, if_neg (Nat.lt_irrefl _)] at u1
      simp only [Option.map_some, Nat.zero_add] at u1
      have hub := HUR.out.lt H rfl
      generalize t[q]!.vars[i]!.init = z at *
      have dz : (z != z) = false := by simp
      clear k0 k1 hzz
      go_wp2
      go_quiet (fail)
      go_wp2
      go_roundg (nv - (i + 1))
      case measure => omega
      case rel =>
        refine ⟨i + 1, by omega, by omega, by go_num, (show Row _ _ _ _ _ _ _ from ?_), (show Row _ _ _ _ _ _ _ from ?_), (show Ext _ _ from (HEK.out.drN _).st (by show w7.heap.size ≤ H; exact hub.1) _)⟩
        · obtain ⟨ucs, uct, ufr, huh, hut⟩ := (HUR.out.ext ((Ext.rf wr).drN nq)).block H rfl
          subst hut
          exact (HHR.out.ext ((Ext.rf wr).drN nq)).stO huh (by decide) _
        · have := (HUR.out.ext ((Ext.rf wr).drN nq)).set i (.bool true) (by omega)
          rw [Nat.zero_add, ← List.map_set, mixL_step hlt] at this
          exact this
    · have hltz : ¬ (i : Int) < (nv : Int) := by omega
      obtain rfl : nv = i := by omega
      have HHE := Lib.hid (HR5.out.ext HXX56.out)
      have HS0 : Hid (StV w4 t q 0 0 0 0 0 [] (.slice a5 nv c5) (.slice a6 nv c6) (.slice a7 nv c7) (.slice none 0 0) (.slice (some ⟨G, 0, none⟩) nv nv) (.slice (some ⟨H, 0, none⟩) nv nv) wr) := Lib.hid (by
        have hl : (stV t q 0).length = nv := HSL.out 0 (Nat.zero_le _)
        have z5 := HXX5.out.sz
        have z6 := (HXX5.out.trans' HXX6.out).sz
        have z7 := (HXX5.out.trans' (HXX6.out.trans' HXX7.out)).sz
        have r5 : RowI wr w4.heap.size (.slice a5 nv c5) (stV t q 0) := by rw [RowI, hl]; exact HI5R.out
        have r8 : RowI wr w4.heap.size (.slice a6 nv c6) (stV t q 0) := by rw [RowI, hl]; exact ((HR6.out.ext HXX7.out).ext HEK.out).mono z5
        have r9 : RowI wr w4.heap.size (.slice a7 nv c7) (stV t q 0) := by rw [RowI, hl]; exact (HR7.out.ext HEK.out).mono z6
        exact StV.start r5 r8 r9 (dis_new HR5.out HR6.out (Nat.le_refl _)) (dis_new HHE.out HR7.out (Nat.le_refl _)) (dis_new HR6.out HR7.out (Nat.le_refl _)) HNV.out (HHR.out.mono z7) (HUR.out.mono z7) (HXX5.out.trans' (HXX6.out.trans' (HXX7.out.trans' HEK.out))) hl)
      have HT00 := Lib.hid (show wr.cell? ⟨w.heap.size, 0, none⟩ = some (.slice (some ⟨B, O, none⟩) tn tc) from by have := cellOf (HEK.out.hp HY7.out) 0; simpa using this)
      have ty := HT00.out
      have ey := HEW.out.cl HE0.out
      go_wp2
      clear ty ey HI0 HHD HUN
      go_loopg [5, 106] ne (fun g s5 s106 wr => ∃ k : Nat, k ≤ ne ∧ ne - k ≤ g ∧ s106 = .int .i64 k ∧ ∃ a c, s5 = .slice a nv c ∧ Aside (StV w4 t q k 0 0 0 0 [] s5 (.slice a6 nv c6) (.slice a7 nv c7) (.slice none 0 0) (.slice (some ⟨G, 0, none⟩) nv nv) (.slice (some ⟨H, 0, none⟩) nv nv) wr))
      case atStart => exact ⟨0, Nat.zero_le _, by omega, rfl, _, _, rfl, (show StV _ _ _ _ _ _ _ _ _ _ _ _ _ _ _ _ from HS0.out)⟩
      case round =>
        obtain ⟨k, hk, hg2, rfl, al, cl, rfl, HST⟩ := hrel
        have HXK := Lib.hid (show Ext w4 wr from by obtain ⟨_, _, _, _, h4⟩ := HST.out; exact h4)
        have HEW := Lib.hid (HE4.out.trans' HXK.out)
        by_cases hltk : k < ne
        · have hltkz : (k : Int) < (ne : Int) := by omega
          have hkz : (0 : Int) ≤ (k : Int) := by omega
          obtain ⟨EB, EO, EC, ua, hee, hlE, hEB, k0, k1, k2, k3, k4, hA⟩ := event_at HEE.out k (by rw [HNE.out]; exact hltk)
          simp only [Value.slice.injEq] at hee
          obtain ⟨rfl, hzz, rfl⟩ := hee
          have HAA := Lib.hid hA
          obtain ⟨aa, ac, rfl, hac⟩ := hA.sh
          have m0 := HEW.out.cl k0
          have m1 := HEW.out.cl k1
          have m2 := HEW.out.cl k2
          have m3 := HEW.out.cl k3
          have m4 := HEW.out.cl k4
          have hna := ((valid_small HVT.out).2 q HQ.out).2.2 k (by rw [HNE.out]; exact hltk)
          have HSV : Hid (stV t q (k + 1) = stepV (stV t q k) t[q]!.events[k]!) := Lib.hid (stV_succ t q k (by rw [HNE.out]; exact hltk))
          have HAV : Hid (∀ j, j < t[q]!.events[k]!.asg.length → 0 ≤ t[q]!.events[k]!.asg[j]!.var ∧ t[q]!.events[k]!.asg[j]!.var < (nv : Int)) := Lib.hid (fun j hj => by
            have := (stOk_valid HVT.out HQ.out).ok k (by rw [HNE.out]; exact hltk) j hj
            rw [HNV.out] at this
            exact this)
          generalize hy : t[q]!.events[k]! = y at *
          generalize hnaa : y.asg.length = na at *
          have HNA := Lib.hid hnaa
          obtain ⟨hsl, hS1, hS2, hS3, hS4⟩ := HST.out
          have hlast := hS1.row 0 (by omega)
          have HLA : Hid (Row wr w4.heap.size 3 1 (.slice al nv cl) nv ((stV t q k).map (Value.int .i64))) := Lib.hid (by
            have := hlast
            rw [show (vsS (.slice al nv cl) (.slice a6 nv c6) (.slice a7 nv c7) (.slice none 0 0) hsl) 0 = .slice al nv cl from rfl, show lsS (stV t q k) (lowM t q k 0) (highM t q k 0) [] (chI t q k 0) 0 = stV t q k from rfl, RowI, HSL.out k (by omega)] at this
            exact this)
          have HCL2 := Lib.hid (fun W (hW : Ext wr W) => clone_cints _ nv ((stV t q k).map (Value.int .i64)) W ((HLA.out.ext hW).cells) (int_oneP _) hnvv)
          clear k0 k1 k2 k3 k4 hA hzz hy hnaa hS1 hS2 hS3 hS4 hlast
          obtain ⟨wk, rfl⟩ : ∃ x, x = wr := ⟨_, rfl⟩
          have HE8 := Lib.hid ((Ext.rf wk).al (.cells #[.int .i64 y.kind, .int .i64 y.peer, .int .i64 y.msg, .int .i64 y.time, .slice aa na ac] 55))
          go_wp2_with fail
          refine (HCL2.out _ HE8.out).mono ?_
          rintro e w9 ⟨u9, rfl, hR9, hX9⟩
          obtain ⟨a9, c9, rfl, _⟩ := hR9.any
          have HB8 := Lib.hid (hX9.hp (heap_alloc_new wk (.cells #[.int .i64 y.kind, .int .i64 y.peer, .int .i64 y.msg, .int .i64 y.time, .slice aa na ac] 55)))
          have HE9 := Lib.hid (HE8.out.trans' hX9)
          have HR9 := Lib.hid (hR9.mono HE8.out.sz)
          have b4 := cellOf HB8.out 4
          simp only [List.getElem?_toArray, List.getElem?_cons_zero, List.getElem?_cons_succ] at b4
          clear hR9 hX9 m0 m1 m2 m3 m4
          go_wp2
          clear b4
          go_loopg [116] na (fun g s116 wr => ∃ j : Nat, j ≤ na ∧ na - j ≤ g ∧ s116 = .int .i64 j ∧ Aside (Row wr wk.heap.size 3 1 (.slice a9 nv c9) nv ((stepTo (stV t q k) y j).map (Value.int .i64))) ∧ Aside (Ext wk wr))
          case atStart => exact ⟨0, Nat.zero_le _, by omega, rfl, (show Row _ _ _ _ _ _ _ from by rw [stepTo_zero]; exact HR9.out), (show Ext _ _ from HE9.out)⟩
          case round =>
            obtain ⟨j, hj, hg3, rfl, HRJ, HEJ⟩ := hrel
            have HEWJ := Lib.hid (HEW.out.trans' HEJ.out)
            by_cases hltj : j < na
            · have hltjz : (j : Int) < (na : Int) := by omega
              have hjz : (0 : Int) ≤ (j : Int) := by omega
              obtain ⟨AB, AO, AC, hae, hlA, hAB, a0, a1⟩ := asg_at HAA.out j (by rw [HNA.out]; exact hltj)
              simp only [Value.slice.injEq] at hae
              obtain ⟨rfl, hzz, rfl⟩ := hae
              have q0 := HEWJ.out.cl a0
              have q1 := HEWJ.out.cl a1
              have hav := HAV.out j hltj
              have HSJ := Lib.hid (stepTo_succ (stV t q k) y j (by rw [HNA.out]; exact hltj))
              generalize y.asg[j]! = x at *
              obtain ⟨xv, hxv⟩ : ∃ n : Nat, x.var = (n : Int) := ⟨x.var.toNat, by omega⟩
              rw [hxv] at q0 hav
              have hxz : (0 : Int) ≤ (xv : Int) := by omega
              have hxn : (xv : Int) < (nv : Int) := hav.2
              have hxN : xv < nv := by omega
              obtain ⟨WB, WO, WC, hwe, hwb, hwB, _⟩ := HRJ.out.shape (by omega)
              simp only [Value.slice.injEq] at hwe
              obtain ⟨rfl, _, rfl⟩ := hwe
              have r1 := HRJ.out.cell xv (by omega)
              have fr := HRJ.out.free (WO + xv)
              have hsj : (stepTo (stV t q k) y j).length = nv := by rw [stepTo_len]; exact HSL.out k (by omega)
              rw [List.getElem?_map, List.getElem?_eq_getElem (by omega), Option.map_some] at r1
              have hnb : WB ≠ wr.heap.size := Nat.ne_of_lt hwB
              have HXV := Lib.hid hxv
              generalize (stepTo (stV t q k) y j)[xv]'(by omega) = zz at r1
              clear a0 a1 hzz hav hxv
              go_wp2
              go_roundg (na - (j + 1))
              case measure => exact Nat.lt_of_lt_of_le (Nat.sub_lt_sub_left hltj (Nat.lt_succ_self j)) hg3
              case rel =>
                refine ⟨j + 1, by omega, by omega, by go_num, (show Row _ _ _ _ _ _ _ from ?_), (show Ext _ _ from (HEJ.out.st (p := ⟨WB, WO + xv, none⟩) (by show wk.heap.size ≤ WB; exact hwb) _).al _)⟩
                have := (HRJ.out.set xv (.int .i64 x.value) (by omega)).al (.cells #[.int .i64 xv, .int .i64 x.value] 57)
                rw [HSJ.out]
                unfold putA
                rw [HXV.out, Int.toNat_natCast, List.map_set]
                exact this
            · have hltjz : ¬ (j : Int) < (na : Int) := by omega
              obtain rfl : na = j := by omega
              have HRS := HRJ.out
              rw [stepTo_all _ _ _ HNA.out.symm, ← HSV.out] at HRS
              have HWI := Lib.hid HRS.ints
              have HC4 := Lib.hid (HC3.out _ HEWJ.out (k + 1) (by omega))
              have ty := cellOf ((HXK.out.trans' HEJ.out).hp HY4.out) 0
              simp only [List.getElem?_toArray, List.getElem?_cons_zero] at ty
              have hck : ((k + 1 : Nat) : Int) = (k : Int) + 1 := by omega
              rw [hck] at HC4
              clear HRS
              go_wp2_with fail
              refine HC4.out.mono ?_
              rintro e w10 ⟨u10, rfl, hR10, hX10⟩
              have hl10 := HSL.out (k + 1) (by omega)
              rw [hl10] at hR10
              obtain ⟨a10, c10, rfl, _⟩ := hR10.any
              have HR10 := Lib.hid hR10
              have HEQ := Lib.hid (equal_int _ _ _ _ _ HR10.out.ints (HWI.out.ext hX10) (by rw [hl10]; omega) (by rw [hl10]; omega))
              have HX10 := Lib.hid hX10
              clear hR10 hX10 ty
              obtain ⟨we, rfl⟩ : ∃ x, x = wr := ⟨_, rfl⟩
              go_wp2_with fail
              refine HEQ.out.mono ?_
              rintro e w11 ⟨rfl, hX11⟩
              have HE11 := Lib.hid (HEJ.out.trans' (HX10.out.trans' hX11))
              have HS4 : Hid (StV w4 t q k 0 0 0 0 (stV t q (k + 1)) (.slice al nv cl) (.slice a6 nv c6) (.slice a7 nv c7) (.slice a10 nv c10) (.slice (some ⟨G, 0, none⟩) nv nv) (.slice (some ⟨H, 0, none⟩) nv nv) w11) := Lib.hid (by
                have hr : RowI w11 we.heap.size (.slice a10 nv c10) (stV t q (k + 1)) := by rw [RowI, hl10]; exact HR10.out.ext hX11
                exact StV.now HST.out HE11.out hr HEJ.out.sz)
              clear hX11 hl10
              have dbb : (stV t q (k + 1) == stV t q (k + 1)) = true := by simp
              go_wp2
              clear dbb
              go_loopg [145] nv (fun g s145 wr => ∃ i : Nat, i ≤ nv ∧ nv - i ≤ g ∧ s145 = .int .i64 i ∧ Aside (StV w4 t q k i i i i (stV t q (k + 1)) (.slice al nv cl) (.slice a6 nv c6) (.slice a7 nv c7) (.slice a10 nv c10) (.slice (some ⟨G, 0, none⟩) nv nv) (.slice (some ⟨H, 0, none⟩) nv nv) wr))
              case atStart => exact ⟨0, Nat.zero_le _, by omega, rfl, (show StV _ _ _ _ _ _ _ _ _ _ _ _ _ _ _ _ from HS4.out)⟩
              case round =>
                obtain ⟨i, hi, hg3, rfl, HSI⟩ := hrel
                by_cases hlti : i < nv
                · have hltiz : (i : Int) < (nv : Int) := by omega
                  have hiz : (0 : Int) ≤ (i : Int) := by omega
                  go_upto_block 7 with (fail)
                  refine wp_block ?_
                  refine wp_onlyN (stp_round _ (by kernel_rfl) w4 t q k i nv G H al a6 a7 a10 cl c6 c7 c10 _ wr _ _ _ _ _ _ _ _ _ _ _ _ _ _ _ _ _ _ _ _ _ _ _ _ _ _ _ _ _ _ _ _ _ _ _ _ _ _ _ _ _ _ _ _ _ _ _ _ _ _ _ _ _ _ _ _ _ _ _ _ _ _ _ _ _ _ _ _ _ _ _ _ _ _ _ _ _ _ _ _ _ _ _ _ _ _ _ _ _ _ _ _ _ _ _ _ _ _ _ _ _ _ _ _ _ _ _ _ _ _ _ _ _ _ _ _ _ _ _ _ _ _ _ _ _ _ _ _ _ _ _ _ _ _ _ _ _ _ _ _ _ _ _ _ _ _ _ _ _ _ _ _ _ _ _ _ _ _ _ _ _ _ _ _ _ _ _ _ _ _ _ _ _ _ _ _ _ _ _ _ _ _ _ _ _ _ _ _ _ _ _ _ _ _ _ _ _ _ _ _ _ _ _ _ _ _ _ _ _ _ _ _ _ _ _ _ _ _ _ _ _ _ _ _ _ _ _ _ _ _ _ _ _ _ _ _ _ _ _ _ _ _ _ _ _ _ _ _ _ _ _ _ _ _ _ _ _ _ _ _ _ _ _ _ _ _ _ _ _ _ _ _ _ _ _ _ _ _ _ _ _ _ _ _ _ _ _ _ _ _ _ _ _ _ _ _ _ _ _ _ _ HVT.out HQ.out HNV.out (by rw [HNE.out]; exact hltk) hlti hnvv (by omega) HSI.out ?_) (fun a w h => h)
                  iterate 77 intro _
                  intro W8 hS8
                  have HS8 := Lib.hid hS8
                  clear hS8
                  go_wp2
                  go_roundg (nv - (i + 1))
                  case measure => exact Nat.lt_of_lt_of_le (Nat.sub_lt_sub_left hlti (Nat.lt_succ_self i)) hg3
                  case rel => exact ⟨i + 1, by omega, by omega, by go_num, (show StV _ _ _ _ _ _ _ _ _ _ _ _ _ _ _ _ from HS8.out)⟩
                · have hltiz : ¬ (i : Int) < (nv : Int) := by omega
                  obtain rfl : nv = i := by omega
                  go_wp2
                  go_roundg (ne - (k + 1))
                  case measure => exact Nat.lt_of_lt_of_le (Nat.sub_lt_sub_left hltk (Nat.lt_succ_self k)) hg2
                  case rel => exact ⟨k + 1, by omega, by omega, by go_num, _, _, rfl, (show StV _ _ _ _ _ _ _ _ _ _ _ _ _ _ _ _ from StV.next' HNV.out HSI.out)⟩
        · have hltkz : ¬ (k : Int) < (ne : Int) := by omega
          obtain rfl : ne = k := by omega
          go_wp2
          have HVX : Hid (Sl RVr 2 w4 (.slice xa nv xc) t[q]!.vars) := Lib.hid (by
            have := HVV.out.ext rvr_lasts HE4.out
            first | exact this | (rw [HNV.out] at this; exact this))
          have HBX : Hid (w4.cell? ⟨w.heap.size, 0, none⟩ = some (.slice (some ⟨B, O, none⟩) tn tc)) := Lib.hid (by have := cellOf HY4.out 0; simpa using this)
          obtain ⟨wz, rfl⟩ : ∃ x, x = wr := ⟨_, rfl⟩
          go_loopg [228] nv (fun g s228 wr => ∃ i : Nat, i ≤ nv ∧ nv - i ≤ g ∧ s228 = .int .i64 i ∧ Aside (Ext wz wr))
          case atStart => exact ⟨0, Nat.zero_le _, by omega, rfl, (show Ext _ _ from Ext.rf _)⟩
          case round =>
            obtain ⟨i, hi, hg3, rfl, HEZ⟩ := hrel
            by_cases hlti : i < nv
            · have hltiz : (i : Int) < (nv : Int) := by omega
              go_upto_block 9 with (fail)
              refine wp_block ?_
              refine wp_onlyN (stp_last _ (by kernel_rfl) w w4 t q i nv ne G H w.heap.size tn tc (some ⟨B, O, none⟩) xa al a6 a7 xc cl c6 c7 _ wr _ _ _ _ _ _ _ _ _ _ _ _ _ _ _ _ _ _ _ _ _ _ _ _ _ _ _ _ _ _ _ _ _ _ _ _ _ _ _ _ _ _ _ _ _ _ _ _ _ _ _ _ _ _ _ _ _ _ _ _ _ _ _ _ _ _ _ _ _ _ _ _ _ _ _ _ _ _ _ _ _ _ _ _ _ _ _ _ _ _ _ _ _ _ _ _ _ _ _ _ _ _ _ _ _ _ _ _ _ _ _ _ _ _ _ _ _ _ _ _ _ _ _ _ _ _ _ _ _ _ _ _ _ _ _ _ _ _ _ _ _ _ _ _ _ _ _ _ _ _ _ _ _ _ _ _ _ _ _ _ _ _ _ _ _ _ _ _ _ _ _ _ _ _ _ _ _ _ _ _ _ _ _ _ _ _ _ _ _ _ _ _ _ _ _ _ _ _ _ _ _ _ _ _ _ _ _ _ _ _ _ _ _ _ _ _ _ _ _ _ _ _ _ _ _ _ _ _ _ _ _ _ _ _ _ _ _ _ _ _ _ _ _ _ _ _ _ _ _ _ _ _ _ _ _ _ _ _ _ _ _ _ _ _ _ _ _ _ _ _ _ _ _ _ _ _ _ _ _ _ _ _ _ _ _ _ _ _ _ _ _ _ _ _ _ _ _ _ _ _ _ HVT.out HQ.out HNV.out HNE.out hlti hnvv hnee (HXK.out.trans' HEZ.out) (fun W hW => HT.out.ext (HE4.out.trans' hW)) HBX.out HVX.out (HST.out.ext HEZ.out) ?_) (fun a w h => h)
              iterate 86 intro _
              intro W8 hX8
              have HX8 := Lib.hid (HEZ.out.trans' hX8)
              clear hX8
              go_wp2
              go_roundg (nv - (i + 1))
              case measure => exact Nat.lt_of_lt_of_le (Nat.sub_lt_sub_left hlti (Nat.lt_succ_self i)) hg3
              case rel => exact ⟨i + 1, by omega, by omega, by go_num, (show Ext _ _ from HX8.out)⟩
            · have hltiz : ¬ (i : Int) < (nv : Int) := by omega
              go_wp2
              go_ret
              exact ⟨rfl, HEW.out.trans' HEZ.out⟩

end Go.Proofs.Ytfcpnggdpaeldaa
