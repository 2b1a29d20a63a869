import Derived.Test.YtfagfooggcinoaaJa
import Derived.Test.YtfagfooggcinoaaProg
import Derived.Test.YtfagfooggcinoaaGw
import Derived.Test.YtfagfooggcinoaaGx
import Derived.Test.YtfagfooggcinoaaGd
import Derived.BigQuiet
import Derived.Deep.QuietTactic
import Derived.Deep.LoopGhost
import Derived.Shelf.Abstract
import Derived.Laws.EntriesVeiled
namespace Go.Proofs.Ytfagfooggcinoaa
open Go.RowKit
set_option linter.unusedVariables false
theorem info_intS : (Try.prog.info? 3).map (fun i => (i.zero, i.size, i.bytes)) = some (some (.int .i64 0), 1, 8) := by kernel_rfl
theorem info_intsS : (Try.prog.info? 25).map (fun i => (i.zero, i.size, i.bytes)) = some (some (.slice none 0 0), 1, 24) := by kernel_rfl
def StmOut (t : Tr) (w w' : World) (e : Ending) : Prop := ∃ v S Bs, e = .returned v ∧ StmM w' w.heap.size v t t.length S Bs ∧ FixS t S ∧ StI t S ∧ Ext w w'
set_option maxHeartbeats 16000000 in
set_option maxRecDepth 100000 in
theorem stampsR_calls (v : Value) (t : Tr) (w : World) (h : TrAt w v t) (hv : validT t = true) :
  Calls Try.prog 65 #[.agg #[v]] w fun e w' => StmOut t w w' e := by
 obtain ⟨ib, hib, bz0, bz1, bz2⟩ := info_parts info_intS
 obtain ⟨io, hio, oz0, oz1, oz2⟩ := info_parts info_intsS
 have hs := valid_small hv
 have HCY := Lib.hid (validT_parts2.1 hv).2.2
 have HSD := Lib.hid (fun y (hy : Inn t y) (hk : (ev t y).kind = 3) => (let ⟨s, h1, _⟩ := send_peer hv hy hk; ⟨s, h1⟩ : ∃ s, findE t 2 (ev t y).msg = some s))
 have HLA := Lib.hid (fun W (hW : Ext w W) og oo oc base S Bs p i (hx : Inn t (p, i)) hM => latestR_calls v og oo oc base t S Bs p i W (h.ext hW) hs hx (HSD.out _ hx) hM)
 have HT := Lib.hid h
 have HDB := Lib.hid (show ∀ x, depN t x ≤ 1000000000000 from fun x => by have h1 := depN_le t x; have h2 := ids_smallC hs; omega)
 have HS := Lib.hid hs
 have hn1 := hs.1
 obtain ⟨ta, tc, rfl, htc⟩ := h.sh
 obtain ⟨n, hn⟩ : ∃ n, t.length = n := ⟨_, rfl⟩
 have HL := Lib.hid hn
 have h8 := valid_8 hv
 rw [hn] at HLA hn1 h8 ⊢
 have HX0 := Lib.hid (heap_alloc_new w (.cells #[.slice ta n tc] 24))
 have HE2 := Lib.hid ((Ext.rf w).al (.cells #[.slice ta n tc] 24))
 clear h hv hs htc hn
 go_enter Try.func65, Try.ntmps65
 go_wp2
 generalize w.alloc (.cells #[.slice ta n tc] 24) = w2 at *
 go_loopg [3, 4] n (fun g s3 s4 wr => ∃ (q : Nat) (Bs : List Nat), q ≤ n ∧ n - q ≤ g ∧ s4 = .int .i64 q ∧ Aside (StmM wr w2.heap.size s3 t q (fun _ _ => 0) Bs) ∧ Aside (Ext w2 wr))
 case atStart => exact ⟨0, [], Nat.zero_le _, by omega, rfl, (show StmM _ _ _ _ _ _ _ from ⟨rfl, fun p q hp => absurd hp (Nat.not_lt_zero _), Row.mkNil _ _ _ _, fun q hq => absurd hq (Nat.not_lt_zero _)⟩), Ext.rf _⟩
 case round =>
  obtain ⟨q, Bs, hq, hg, rfl, HM, HEK⟩ := hrel
  have HEW := Lib.hid (HE2.out.trans' HEK.out)
  have HY0 := Lib.hid (HEK.out.hp HX0.out)
  have t0 := cellOf HY0.out 0
  simp only [List.getElem?_toArray, List.getElem?_cons_zero] at t0
  by_cases hlt : q < n
  case pos =>
   have hltz : (q : Int) < (n : Int) := by omega
   have hqz : (0 : Int) ≤ (q : Int) := by omega
   obtain ⟨B, O, C, vv, ve, hve, hlC, hB, hn0, hv0, he0, hV, hE0⟩ := proc_at HT.out q (by rw [HL.out]; exact hlt)
   simp only [Value.slice.injEq] at hve
   obtain ⟨rfl, hzz, rfl⟩ := hve
   obtain ⟨ea, ec, rfl, hec⟩ := hE0.sh
   have hen := (HS.out.2 q (by rw [HL.out]; exact hlt)).2.1
   have he1 := HEW.out.cl he0
   generalize hne : t[q]!.events.length = ne at *
   have HNE := Lib.hid hne
   have hsz1 := HEK.out.sz
   clear hn0 hv0 hV hE0 hzz hne he0 hlC hB
   go_wp2_with (first | (at_make; refine wpList_make_full _ rfl _ _ 25 rfl w2.heap.size 3 ib (.int .i64 0) 1 Try.underlying25 hib bz0 bz1 .i64 .i64 _ _ ne rfl rfl rfl rfl (by rw [bz2]; omega) (by unfold maxLen; omega) hsz1 ?_; intro w3 hown3 hgrow3; have HRN := Lib.hid (show Row w3 w2.heap.size 3 1 (.slice (some ⟨wr.heap.size, 0, none⟩) ne ne) ne (stRow t (fun _ _ => 0) q) from by have := Row.ofOwns hown3; rw [show (Value.int .i64 0).cells = #[.int .i64 0] from rfl, Nat.mul_one, toList_madeCells_one] at this; rw [stRow_zero, HNE.out]; exact this); have HX3 := Lib.hid ((Ext.rf wr).gr hgrow3 (by simp)); clear hown3 hgrow3) | (at_builtin; refine wpList_append_one rfl _ _ 43 rfl w2.heap.size 25 io (.slice none 0 0) 1 24 Try.underlying43 hio oz0 oz1 oz2 rfl (by decide) _ q _ rfl ((HM.out.2.2.1.ext HX3.out).al _) w3.heap.size 1 [.slice (some ⟨wr.heap.size, 0, none⟩) ne ne] rfl rfl ⟨_, heap_alloc_new _ _⟩ (by simp [Value.oneCell']) (by unfold maxLen; omega) (by omega) (by have := HX3.out.sz; simp; omega) ?_; intro v6 w6 hown6 hgrow6 hblk6; have HOWN := Lib.hid hown6; have HG6 := Lib.hid hgrow6; clear hown6 hgrow6 hblk6))
   go_roundg (n - (q + 1))
   case measure => omega
   case rel =>
    have hX6 : Ext w3 (w3.alloc (.cells #[.slice (some ⟨wr.heap.size, 0, none⟩) ne ne] 25)) := (Ext.rf w3).al _
    have hO := (HM.out.2.2.1.ext HX3.out).ext hX6
    have hnb : ∀ (base : Nat) (vv : Value) (k : Nat) (xs : List Value), Row w3 base 3 1 vv k xs → Row w6 base 3 1 vv k xs := fun base vv k xs hr => (hr.ext hX6).grown HG6.out ((hr.ext hX6).apart hO (by decide))
    refine ⟨q + 1, Bs ++ [wr.heap.size], by omega, by omega, by go_num, (show StmM _ _ _ _ _ _ _ from StmM.more (v' := v6) (fun r hr => hnb _ _ _ _ ((HM.out.2.2.2 r hr).ext HX3.out)) HM.out.1 HM.out.2.1 (fun r hr => by have := ((HM.out.2.2.2 r hr).lt Bs[r]! rfl).2; omega) (hnb _ _ _ _ (by rw [HNE.out]; exact HRN.out)) (by rw [HNE.out]; exact HOWN.out)), ?_⟩
    exact (((HEK.out.trans' HX3.out).al _).gr HG6.out (fun k hk => (hO.lt k hk).1) : Ext w2 w6)
  case neg =>
   have hltz : ¬ (q : Int) < (n : Int) := by omega
   obtain rfl : n = q := by omega
   obtain ⟨og, oo, oc, rfl, hog, hog2, hoc⟩ := HM.out.2.2.1.shape (by omega)
   have HM0 := Lib.hid HM.out
   have HEK0 := Lib.hid HEK.out
   have hocz : (n : Int) ≤ (oc : Int) := by omega
   clear HM HEK HEW HY0 hog hog2
   obtain ⟨wo, rfl⟩ : ∃ y, y = wr := ⟨_, rfl⟩
   have HI0 : Hid (StI t (fun _ _ => 0)) := Lib.hid (fun x _ => Nat.zero_le _)
   go_wp2
   clear t0
   go_loopg [5, 6, 7, 8] (roomS t (fun _ _ => 0) + 1) (fun g s5 s6 s7 s8 wr => ∃ (S : Stm) (m : Bool), s5 = .bool m ∧ (if m = true then roomS t S + 1 else 0) ≤ g ∧ Aside (StmM wr w2.heap.size (.slice (some ⟨og, oo, none⟩) n oc) t n S Bs) ∧ Aside (StI t S ∧ (m = false → FixS t S)) ∧ Aside (Ext w2 wr))
   case atStart => exact ⟨_, true, rfl, by rw [if_pos rfl]; exact Nat.le_refl _, (show StmM _ _ _ _ _ _ _ from HM0.out), (show _ ∧ _ from ⟨HI0.out, fun h => by cases h⟩), (show Ext _ _ from HEK0.out)⟩
   case round =>
    obtain ⟨S, m, rfl, hg, HM, HSI, HEK⟩ := hrel
    clear HM0 HEK0 HI0
    cases m with
    | false =>
      go_wp2
      go_ret
      refine ⟨_, S, Bs, rfl, ?_, HSI.out.2 (by first | rfl | trivial), HSI.out.1, HE2.out.trans' HEK.out⟩
      rw [HL.out]; exact HM.out.mono HE2.out.sz
    | true =>
      have HGO := Lib.hid (show roomS t S + 1 ≤ gk from by rw [if_pos rfl] at hg; exact hg)
      have HP0 := Lib.hid (PasS.start HSI.out.1)
      clear hg HSI
      obtain ⟨wo2, rfl⟩ : ∃ y, y = wr := ⟨_, rfl⟩
      go_wp2
      go_loopg [5, 6, 7, 8] n (fun g s5 s6 s7 s8 wr => ∃ (q : Nat) (S1 : Stm) (m : Bool), q ≤ n ∧ n - q ≤ g ∧ s5 = .bool m ∧ s6 = .int .i64 q ∧ Aside (StmM wr w2.heap.size (.slice (some ⟨og, oo, none⟩) n oc) t n S1 Bs) ∧ Aside (PasS t S S1 q 0 m) ∧ Aside (Ext w2 wr))
      case atStart => exact ⟨0, S, false, Nat.zero_le _, by omega, rfl, rfl, (show StmM _ _ _ _ _ _ _ from HM.out), (show PasS _ _ _ _ _ _ from HP0.out), (show Ext _ _ from HEK.out)⟩
      case round =>
       obtain ⟨q, S1, m, hq, hgq, rfl, rfl, HM1, HP1, HE1⟩ := hrel
       clear HM HEK HP0
       have HY0 := Lib.hid (HE1.out.hp HX0.out)
       have t0 := cellOf HY0.out 0
       simp only [List.getElem?_toArray, List.getElem?_cons_zero] at t0
       by_cases hqn : q < n
       case neg =>
        have hqz : ¬ (q : Int) < (n : Int) := by omega
        have HQE := Lib.hid (show q = t.length by rw [HL.out]; omega)
        go_wp2
        cases m with
        | true =>
          go_roundg (roomS t S1 + 1)
          case measure => have h1 := HP1.out.yes rfl; have h2 := HGO.out; omega
          case rel => exact ⟨S1, true, rfl, by rw [if_pos rfl]; exact Nat.le_refl _, (show StmM _ _ _ _ _ _ _ from HM1.out), (show _ ∧ _ from ⟨HP1.out.up, fun h => by cases h⟩), (show Ext _ _ from HE1.out)⟩
        | false =>
          go_roundg 0
          case measure => have h2 := HGO.out; omega
          case rel => exact ⟨S1, false, rfl, Nat.le_refl _, (show StmM _ _ _ _ _ _ _ from HM1.out), (show _ ∧ _ from ⟨HP1.out.up, fun _ => by have h := HP1.out; rw [HQE.out] at h; exact h.fix⟩), (show Ext _ _ from HE1.out)⟩
       case pos =>
        have hqz : (q : Int) < (n : Int) := by omega
        have hqz0 : (0 : Int) ≤ (q : Int) := by omega
        obtain ⟨B, O, C, vv, ve, hve, hlC, hB, hn0, hv0, he0, hV, hE0⟩ := proc_at HT.out q (by rw [HL.out]; exact hqn)
        simp only [Value.slice.injEq] at hve
        obtain ⟨rfl, hzz, rfl⟩ := hve
        obtain ⟨ea, ec, rfl, hec⟩ := hE0.sh
        have hen := (HS.out.2 q (by rw [HL.out]; exact hqn)).2.1
        have HHE0 := Lib.hid he0
        generalize hne : t[q]!.events.length = ne at *
        have HNE := Lib.hid hne
        clear hn0 hv0 hV hE0 hzz hne he0 hlC hB
        go_wp2
        clear t0
        go_loopg [5, 7, 8] ne (fun g s5 s7 s8 wr => ∃ (i : Nat) (S2 : Stm) (m : Bool), i ≤ ne ∧ ne - i ≤ g ∧ s5 = .bool m ∧ s7 = .int .i64 i ∧ Aside (StmM wr w2.heap.size (.slice (some ⟨og, oo, none⟩) n oc) t n S2 Bs) ∧ Aside (PasS t S S2 q i m) ∧ Aside (Ext w2 wr))
        case atStart => exact ⟨0, S1, m, Nat.zero_le _, by omega, rfl, rfl, (show StmM _ _ _ _ _ _ _ from HM1.out), (show PasS _ _ _ _ _ _ from HP1.out), (show Ext _ _ from HE1.out)⟩
        case round =>
         obtain ⟨i, S2, m2, hi, hgi, rfl, rfl, HM2, HP2, HEE⟩ := hrel
         clear HM1 HP1 HE1 HY0
         have HEW := Lib.hid (HE2.out.trans' HEE.out)
         have HY0 := Lib.hid (HEE.out.hp HX0.out)
         have t0 := cellOf HY0.out 0
         simp only [List.getElem?_toArray, List.getElem?_cons_zero] at t0
         have e0 := HEW.out.cl HHE0.out
         by_cases hin : i < ne
         case neg =>
          have hiz : ¬ (i : Int) < (ne : Int) := by omega
          have HIE := Lib.hid (show i = ne by omega)
          have HN := Lib.hid (show PasS t S S2 (q + 1) 0 m2 from by
           have h := HP2.out
           rw [HIE.out, ← HNE.out] at h
           exact h.next)
          go_wp2
          go_roundg (n - (q + 1))
          case measure => omega
          case rel => exact ⟨q + 1, S2, m2, by omega, by omega, rfl, by go_num, (show StmM _ _ _ _ _ _ _ from HM2.out), (show PasS _ _ _ _ _ _ from HN.out), (show Ext _ _ from HEE.out)⟩
         case pos =>
          have hiz : (i : Int) < (ne : Int) := by omega
          have hiz0 : (0 : Int) ≤ (i : Int) := by omega
          have HIN : Hid (Inn t (q, i)) := Lib.hid ⟨by rw [HL.out]; exact hqn, by show i < t[q]!.events.length; rw [HNE.out]; exact hin⟩
          have HLC := Lib.hid (HLA.out _ HEW.out og oo oc w2.heap.size S2 Bs q i HIN.out HM2.out)
          have hlat := HP2.out.up.step HCY.out HIN.out
          have hdb := HDB.out (q, i)
          have hup := HP2.out.up (q, i) HIN.out
          have HSA := Lib.hid (fun h => HP2.out.same h)
          have HMO := Lib.hid (fun h => HP2.out.more HCY.out HIN.out h)
          obtain ⟨la, hla⟩ : ∃ x, latS S2 (bef t (q, i)) = x := ⟨_, rfl⟩
          rw [hla] at HLC hlat HSA HMO
          clear hla
          have hw : IntKind.i64.wrap (1 + (la : Int)) = 1 + (la : Int) := IntWalk.i64_in _ (by omega)
          have hw3 : IntKind.i64.wrap ((i : Int) + 1) = (i : Int) + 1 := IntWalk.i64_in _ (by omega)
          go_wp2_with fail
          clear t0 e0
          refine HLC.out.mono ?_
          rintro e w4 ⟨rfl, hE4⟩
          have HM4 := Lib.hid (HM2.out.ext hE4)
          have HEE4 := Lib.hid (HEE.out.trans' hE4)
          clear hE4 HLC
          obtain ⟨hh, hm, fm, hb1, hb2⟩ := HM4.out.at (q := q) (i := i) hqn (by rw [HNE.out]; exact hin)
          rw [HNE.out] at hh
          generalize hsz : S2 q i = sz at *
          have HSZ := Lib.hid hsz
          have HBB := Lib.hid (And.intro hb1 hb2)
          generalize hbz : Bs[q]! = bz at *
          have HBZ := Lib.hid hbz
          clear hsz hbz hb1 hb2 hup hdb hlat
          by_cases hc : sz < 1 + la
          case neg =>
           have d1 : decide ((sz : Int) < 1 + (la : Int)) = false := decide_eq_false (by omega)
           have d1n : decide (sz < 1 + la) = false := decide_eq_false hc
           have HN := Lib.hid (HSA.out hc)
           clear hc
           go_wp2
           go_roundg (ne - (i + 1))
           case measure => omega
           case rel => exact ⟨i + 1, S2, m2, by omega, by omega, rfl, by go_num, (show StmM _ _ _ _ _ _ _ from HM4.out), (show PasS _ _ _ _ _ _ from HN.out), (show Ext _ _ from HEE4.out)⟩
          case pos =>
           have d1 : decide ((sz : Int) < 1 + (la : Int)) = true := decide_eq_true (by omega)
           have d1n : decide (sz < 1 + la) = true := decide_eq_true hc
           have HN := Lib.hid (HMO.out hc)
           have HM5 := Lib.hid (by
            have h := HM4.out.set (q := q) (i := i) (1 + la) hqn (by rw [HNE.out]; exact hin)
            rw [HBZ.out, show ((1 + la : Nat) : Int) = 1 + (la : Int) by omega] at h; exact h)
           have HE5 := Lib.hid (HEE4.out.st (p := ⟨bz, i, none⟩) HBB.out.1 (.int .i64 (1 + (la : Int))))
           clear hc
           go_wp2
           go_roundg (ne - (i + 1))
           case measure => omega
           case rel => exact ⟨i + 1, _, true, by omega, by omega, rfl, by go_num, (show StmM _ _ _ _ _ _ _ from HM5.out), (show PasS _ _ _ _ _ _ from HN.out), (show Ext _ _ from HE5.out)⟩
end Go.Proofs.Ytfagfooggcinoaa
namespace Go.Proofs.Ytfagfooggcinoaa
open Go.RowKit
set_option linter.unusedVariables false
attribute [local go_sem ↓] Go.wp_at_zero Go.wp_at_succ
set_option maxHeartbeats 4000000 in
set_option maxRecDepth 100000 in
theorem countT_calls (v : Value) (t : Tr) (w : World) (h : TrAt w v t) (hv : validT t = true) :
  Calls Try.prog 66 #[.agg #[v]] w fun e w' => e = .returned (.int .i64 ((sumTo (fun p => t[p]!.events.length) t.length : Nat) : Int)) ∧ Ext w w' := by
 have HT := Lib.hid h
 have hs := valid_small hv
 have HVC := Lib.hid (fun W (hW : Ext w W) => validR_calls v t W (h.ext hW) hs.loose)
 rw [hv] at HVC
 have hn8 := ((shapeB_parts2.1 (validT_parts2.1 hv).1).2.1)
 have HE64 : Hid (∀ p, p < t.length → t[p]!.events.length ≤ 64) := Lib.hid (fun p hp => (headB_parts.1 ((shapeB_parts2.1 (validT_parts2.1 hv).1).2.2.1 p hp)).2.2.2.2)
 have HSU : Hid (∀ p, sumTo (fun p => t[p]!.events.length) (p + 1) = sumTo (fun p => t[p]!.events.length) p + t[p]!.events.length) := Lib.hid (fun p => rfl)
 have HS0 : Hid (sumTo (fun p => t[p]!.events.length) 0 = 0) := Lib.hid rfl
 generalize (sumTo fun p => t[p]!.events.length) = f at *
 obtain ⟨ta, tc, rfl, htc⟩ := h.sh
 generalize hln : t.length = n at *
 have HL := Lib.hid hln
 have HY1 := Lib.hid (heap_alloc_new w (.cells #[.slice ta n tc] 24))
 have HE1 := Lib.hid ((Ext.rf w).al (.cells #[.slice ta n tc] 24))
 clear h hs hln hv
 go_enter Try.func66, Try.ntmps66
 go_wp2_with fail
 refine (HVC.out _ HE1.out).mono ?_
 rintro e w2 ⟨rfl, hX⟩
 have HE2 := Lib.hid (HE1.out.trans' hX)
 have HY2 := Lib.hid (hX.hp HY1.out)
 have t2 := cellOf HY2.out 0
 simp only [List.getElem?_toArray, List.getElem?_cons_zero] at t2
 clear hX
 go_wp2
 clear t2
 go_loopg [3, 4] n (fun g s3 s4 wr => ∃ p : Nat, p ≤ n ∧ n - p ≤ g ∧ s4 = .int .i64 p ∧ (∃ q : Nat, s3 = .int .i64 q ∧ q ≤ 64 * p ∧ Aside (f p = q)) ∧ wr = w2)
 case atStart => exact ⟨0, Nat.zero_le _, by omega, rfl, ⟨0, rfl, by omega, (show Aside _ from HS0.out)⟩, rfl⟩
 case round =>
  obtain ⟨p, hp, hg, rfl, ⟨q, rfl, hq, A⟩, rfl⟩ := hrel
  have t0 := cellOf HY2.out 0
  simp only [List.getElem?_toArray, List.getElem?_cons_zero] at t0
  by_cases hlt : p < n
  ·have hltz : (p : Int) < (n : Int) := by omega
   have hpz : (0 : Int) ≤ (p : Int) := by omega
   obtain ⟨B, O, C, vv, ve, hve, hlC, hB, hn0, hv0, he0, hV, hE0⟩ := proc_at HT.out p (by rw [HL.out]; exact hlt)
   simp only [Value.slice.injEq] at hve
   obtain ⟨rfl, hzz, rfl⟩ := hve
   obtain ⟨ea, ec, rfl, hec⟩ := hE0.sh
   have he1 := HE2.out.cl he0
   have hen := HE64.out p hlt
   have HSP := Lib.hid (HSU.out p)
   generalize t[p]!.events.length = ne at *
   clear hn0 hv0 hV hE0 hzz he0
   go_wp2
   go_roundg (n - (p + 1))
   case measure => omega
   case rel => exact ⟨p + 1, by omega, by omega, by go_num, ⟨q + ne, by go_num, by omega, (show Aside _ from HSP.out.trans (congrArg (· + ne) A.out))⟩, rfl⟩
  ·have hltz : ¬ (p : Int) < (n : Int) := by omega
   obtain rfl : n = p := by omega
   have HA := Lib.hid A.out
   go_wp2
   go_ret
   exact ⟨by rw [HA.out]; rfl, HE2.out⟩
theorem ids_len (t : Tr) : (ids t).length = sumTo (fun p => t[p]!.events.length) t.length := by
 have key : ∀ p, (idsTo t p 0).length = sumTo (fun p => t[p]!.events.length) p := by
  intro p
  induction p with
  | zero => rfl
  | succ p ih =>
    rw [← idsTo_next]
    have e : idsTo t p t[p]!.events.length = idsTo t p 0 ++ (List.range t[p]!.events.length).map fun j => (p, j) := by simp [idsTo]
    rw [e, List.length_append, List.length_map, List.length_range, ih]; rfl
 exact key _
theorem tot_bound {t : Tr} {S : Stm} {K q i : Nat} (hf : FixS t S) (hq : q < t.length) (hi : i ≤ t[q]!.events.length) : (totTo t S K q i).length ≤ 2 * (ids t).length := by
 have h1 : (totTo t S K q i).length = (totTo t S K 0 0).length + ((idsTo t q i).filter fun x => decide (S x.1 x.2 = K + 1)).length := by
  unfold totTo
  rw [List.length_append, List.length_append, idsTo_zero]; simp
 have h2 := tot_le (K := K) hf
 have h3 := (idsTo_ids hq hi).length_le
 have h4 := List.length_filter_le (fun x => decide (S x.1 x.2 = K + 1)) (idsTo t q i)
 omega
def TotOut (t : Tr) (w w' : World) (e : Ending) : Prop := ∃ v S l, e = .returned v ∧ OrdL t S l ∧ Row w' w.heap.size 68 2 v l.length (l.flatMap eidC) ∧ Ext w w'
set_option maxHeartbeats 16000000 in
set_option maxRecDepth 100000 in
theorem totalR_calls (v : Value) (t : Tr) (w : World) (h : TrAt w v t) (hv : validT t = true) :
  Calls Try.prog 35 #[.agg #[v]] w fun e w' => TotOut t w w' e := by
 obtain ⟨ie, hie, iz0, iz1, iz2⟩ := info_parts info_eid
 have HST := Lib.hid (fun W (hW : Ext w W) => stampsR_calls v t W (h.ext hW) hv)
 have HCN := Lib.hid (fun W (hW : Ext w W) => countT_calls v t W (h.ext hW) hv)
 have HT := Lib.hid h
 have hs := valid_small hv
 have HSM := Lib.hid (ids_smallC hs)
 have HDB := Lib.hid (fun x => depN_le t x)
 rw [← ids_len] at HCN
 obtain ⟨ta, tc, rfl, htc⟩ := h.sh
 obtain ⟨n, hn⟩ : ∃ n, t.length = n := ⟨_, rfl⟩
 have HL := Lib.hid hn
 have h8 := valid_8 hv
 rw [hn] at HST HCN h8 ⊢
 have HX0 := Lib.hid (heap_alloc_new w (.cells #[.slice ta n tc] 24))
 have HE2 := Lib.hid ((Ext.rf w).al (.cells #[.slice ta n tc] 24))
 have t0 := cellOf HX0.out 0
 simp only [List.getElem?_toArray, List.getElem?_cons_zero] at t0
 have HSE := Lib.hid (fun q (hq : q < t.length) => (hs.2 q hq).2.1)
 clear h hv hs htc hn
 go_enter Try.func35, Try.ntmps35
 go_wp2_with fail
 clear t0
 refine (HST.out _ HE2.out).mono ?_
 rintro e w3 ⟨v3, S, Bs, rfl, hM, hF, hU, hE3⟩
 rw [HL.out] at hM
 obtain ⟨og, oo, oc, rfl, _, _, hoc⟩ := hM.2.2.1.shape (by omega)
 have HM := Lib.hid hM
 have HF := Lib.hid hF
 have HX3 := Lib.hid (HE2.out.trans' hE3)
 have HY3 := Lib.hid (hE3.hp HX0.out)
 have HMX := Lib.hid (show ∀ x, Inn t x → S x.1 x.2 ≤ (ids t).length + 1 from fun x hx => by have h1 := hU x hx; have h2 := HDB.out x; omega)
 have hocz : (n : Int) ≤ (oc : Int) := by omega
 have hsm := HSM.out
 generalize hcn : (ids t).length = cn at *
 have HCE := Lib.hid hcn
 clear hM hF hU hE3 hcn
 go_wp2
 go_loopg [4, 5, 6, 7] (cn + 1) (fun g s4 s5 s6 s7 wr => ∃ K : Nat, K ≤ cn + 1 ∧ cn + 1 - K ≤ g ∧ s5 = .int .i64 ((K : Int) + 1) ∧ Aside (Row wr w3.heap.size 68 2 s4 (totTo t S K 0 0).length ((totTo t S K 0 0).flatMap eidC)) ∧ Aside (Ext w3 wr))
 case atStart => exact ⟨0, Nat.zero_le _, by omega, rfl, (show Row _ _ _ _ _ _ _ from Row.mkNil _ _ _ _), Ext.rf _⟩
 case round =>
  obtain ⟨K, hK, hgK, rfl, HR, HE⟩ := hrel
  have HX4 := Lib.hid (HX3.out.trans' HE.out)
  have HY4 := Lib.hid (HE.out.hp HY3.out)
  have t0 := cellOf HY4.out 0
  simp only [List.getElem?_toArray, List.getElem?_cons_zero] at t0
  obtain ⟨ra, rc, rfl, hrc, _⟩ := HR.out.any
  have HCC := Lib.hid (HCN.out wr HX4.out)
  have HFU := Lib.hid (fun h => tot_full (K := K) HF.out h)
  have HOR := Lib.hid (fun h => ord_tot (K := K) HF.out h)
  rw [HCE.out] at HFU HOR
  have HTB := Lib.hid (tot_le (K := K) HF.out)
  rw [HCE.out] at HTB
  obtain ⟨TL, hTL⟩ : ∃ x, (totTo t S K 0 0).length = x := ⟨_, rfl⟩
  have HTL := Lib.hid hTL
  rw [hTL] at HR HFU HOR HTB ⊢
  have htb := HTB.out
  clear hTL hrc
  go_wp2_with fail
  clear t0
  refine HCC.out.mono ?_
  rintro e w5 ⟨rfl, hE5⟩
  have HE5 := Lib.hid (HE.out.trans' hE5)
  have HR5 := Lib.hid (HR.out.ext hE5)
  clear hE5 HCC HR HE HX4 HY4
  by_cases hlt : TL < cn
  case neg =>
   have d1 : decide ((TL : Int) < (cn : Int)) = false := decide_eq_false (by omega)
   have d1n : decide (TL < cn) = false := decide_eq_false hlt
   have HOO := Lib.hid (HOR.out (by omega))
   go_wp2
   go_ret
   refine ⟨_, S, _, rfl, HOO.out, ?_, HX3.out.trans' HE5.out⟩
   rw [HTL.out]
   exact HR5.out.mono HX3.out.sz
  case pos =>
   have d1 : decide ((TL : Int) < (cn : Int)) = true := decide_eq_true (by omega)
   have d1n : decide (TL < cn) = true := decide_eq_true hlt
   have hKM : K < cn + 1 := by
    by_cases h : K < cn + 1
    ·exact h
    ·exfalso
     have := HFU.out (fun x hx => Nat.le_trans (HMX.out x hx) (by omega))
     omega
   obtain ⟨wo, rfl⟩ : ∃ y, y = w5 := ⟨_, rfl⟩
   clear hlt
   go_wp2
   clear d1 d1n
   go_loopg [4, 6, 7] n (fun g s4 s6 s7 wr => ∃ q : Nat, q ≤ n ∧ n - q ≤ g ∧ s6 = .int .i64 q ∧ Aside (Row wr w3.heap.size 68 2 s4 (totTo t S K q 0).length ((totTo t S K q 0).flatMap eidC)) ∧ Aside (Ext w3 wr))
   case atStart => exact ⟨0, Nat.zero_le _, by omega, rfl, (show Row _ _ _ _ _ _ _ from by rw [HTL.out]; exact HR5.out), (show Ext _ _ from HE5.out)⟩
   case round =>
    obtain ⟨q, hq, hgq, rfl, HRQ, HEQ⟩ := hrel
    clear HR5 HE5
    by_cases hqn : q < n
    case neg =>
     have hqz : ¬ (q : Int) < (n : Int) := by omega
     have HQE := Lib.hid (show q = t.length by rw [HL.out]; omega)
     have hw : IntKind.i64.wrap ((K : Int) + 1 + 1) = ((K + 1 : Nat) : Int) + 1 := by rw [IntWalk.i64_in _ (by omega)]; omega
     have HRN := Lib.hid (by
      have h := HRQ.out
      rw [HQE.out, tot_level] at h
      exact h)
     go_wp2
     go_roundg (cn + 1 - (K + 1))
     case measure => omega
     case rel => exact ⟨K + 1, by omega, Nat.le_refl _, by first | rfl | go_num, (show Row _ _ _ _ _ _ _ from HRN.out), (show Ext _ _ from HEQ.out)⟩
    case pos =>
     have hqz : (q : Int) < (n : Int) := by omega
     have hqz0 : (0 : Int) ≤ (q : Int) := by omega
     have hen := HSE.out q (by rw [HL.out]; exact hqn)
     obtain ⟨ne, hne⟩ : ∃ x, t[q]!.events.length = x := ⟨_, rfl⟩
     have HNE := Lib.hid hne
     obtain ⟨bz, hbz⟩ : ∃ x, Bs[q]! = x := ⟨_, rfl⟩
     have HBZ := Lib.hid hbz
     have HHD : Hid (∀ W, Ext w3 W → W.cell? ⟨og, oo + q, none⟩ = some (.slice (some ⟨bz, 0, none⟩) ne ne)) := Lib.hid (fun W hW => by
      have h1 := hW.cl ((HM.out.2.2.1.cell q (by omega)).trans (hdrS_at (by rw [HM.out.1]; exact hqn)))
      rw [HBZ.out, HNE.out] at h1; exact h1)
     rw [hne] at hen
     clear hne hbz
     go_wp2
     go_loopg [4, 7] ne (fun g s4 s7 wr => ∃ i : Nat, i ≤ ne ∧ ne - i ≤ g ∧ s7 = .int .i64 i ∧ Aside (Row wr w3.heap.size 68 2 s4 (totTo t S K q i).length ((totTo t S K q i).flatMap eidC)) ∧ Aside (Ext w3 wr))
     case atStart => exact ⟨0, Nat.zero_le _, by omega, rfl, (show Row _ _ _ _ _ _ _ from HRQ.out), (show Ext _ _ from HEQ.out)⟩
     case round =>
      obtain ⟨i, hi, hgi, rfl, HRI, HEI⟩ := hrel
      clear HRQ HEQ
      have hh := HHD.out wr HEI.out
      by_cases hin : i < ne
      case neg =>
       have hiz : ¬ (i : Int) < (ne : Int) := by omega
       have HIE := Lib.hid (show i = ne by omega)
       have HRN := Lib.hid (by
        have h := HRI.out
        rw [HIE.out, ← HNE.out, tot_next] at h
        exact h)
       go_wp2
       go_roundg (n - (q + 1))
       case measure => omega
       case rel => exact ⟨q + 1, by omega, by omega, by go_num, (show Row _ _ _ _ _ _ _ from HRN.out), (show Ext _ _ from HEI.out)⟩
      case pos =>
       have hiz : (i : Int) < (ne : Int) := by omega
       have hiz0 : (0 : Int) ≤ (i : Int) := by omega
       obtain ⟨_, hm, _, _, _⟩ := (HM.out.ext HEI.out).at (q := q) (i := i) hqn (by rw [HNE.out]; exact hin)
       rw [HBZ.out] at hm
       have HTY := Lib.hid (fun h => tot_yes (t := t) (S := S) (K := K) (p := q) (i := i) h)
       have HTN := Lib.hid (fun h => tot_no (t := t) (S := S) (K := K) (p := q) (i := i) h)
       have hlb := tot_bound (t := t) (S := S) (K := K) (q := q) (i := i) HF.out (by rw [HL.out]; exact hqn) (by rw [HNE.out]; omega)
       rw [HCE.out] at hlb
       generalize S q i = sz at *
       by_cases hc : sz = K + 1
       case neg =>
        have d1 : ((sz : Int) == (K : Int) + 1) = false := by rw [beq_eq_false_iff_ne]; omega
        have HN := Lib.hid (HTN.out hc)
        clear hc
        go_wp2
        go_roundg (ne - (i + 1))
        case measure => omega
        case rel => exact ⟨i + 1, by omega, by omega, by go_num, (show Row _ _ _ _ _ _ _ from by rw [HN.out]; exact HRI.out), (show Ext _ _ from HEI.out)⟩
       case pos =>
        have d1 : ((sz : Int) == (K : Int) + 1) = true := by rw [beq_iff_eq]; omega
        have HN := Lib.hid (HTY.out hc)
        have hw2 : IntKind.i64.wrap ((i : Int) + 1) = (i : Int) + 1 := IntWalk.i64_in _ (by omega)
        obtain ⟨LL, hLL⟩ : ∃ x, (totTo t S K q i).length = x := ⟨_, rfl⟩
        have HLL := Lib.hid hLL
        rw [hLL] at HRI hlb
        have hsz := HEI.out.sz
        clear hc hLL
        go_wp2_with ((at_builtin; go_loud (refine wpList_append_one rfl _ _ 72 rfl w3.heap.size 68 ie (.agg #[.int .i64 0, .int .i64 0]) 2 16 Try.underlying72 hie iz0 iz1 iz2 rfl (by decide) _ LL _ rfl (HRI.out.al _) wr.heap.size 1 [.int .i64 q, .int .i64 ((i : Int) + 1)] rfl rfl ⟨_, heap_alloc_new _ _⟩ (by simp [Value.oneCell']) (by unfold maxLen; omega) (by omega) (by simp; omega) ?_; intro v8 w8 hown8 hgrow8 hblk8; have HOWN := Lib.hid hown8; have HX9 := Lib.hid ((HEI.out.al _).gr hgrow8 (fun z hz => (HRI.out.lt z hz).1)); clear hown8 hgrow8 hblk8)))
        go_roundg (ne - (i + 1))
        case measure => omega
        case rel =>
         refine ⟨i + 1, by omega, by omega, by go_num, (show Row _ _ _ _ _ _ _ from ?_), (show Ext _ _ from HX9.out)⟩
         rw [HN.out, List.length_append, List.flatMap_append, HLL.out]
         exact HOWN.out
end Go.Proofs.Ytfagfooggcinoaa
namespace Go.Proofs.Ytfagfooggcinoaa
open Go.RowKit
set_option linter.unusedVariables false
structure LyW (w0 w : World) (gT gD n : Nat) (T D : List Int) (vl : Value) (l : List Eid) : Prop where
 rt : Row w w0.heap.size 3 1 (.slice (some ⟨gT, 0, none⟩) n n) n (T.map (Value.int .i64))
 rd : Row w w0.heap.size 3 1 (.slice (some ⟨gD, 0, none⟩) n n) n (D.map (Value.int .i64))
 rl : Row w w0.heap.size 68 2 vl l.length (l.flatMap eidC)
 ne : gT ≠ gD
 ext : Ext w0 w
section
variable {w0 w w' : World} {gT gD n : Nat} {T D : List Int} {vl : Value} {l : List Eid}
theorem LyW.grow (h : LyW w0 w gT gD n T D vl l) (x : Ext w w') : LyW w0 w' gT gD n T D vl l := ⟨h.rt.ext x, h.rd.ext x, h.rl.ext x, h.ne, h.ext.trans' x⟩
theorem row_int_set {b g n p : Nat} {T : List Int} (h : Row w b 3 1 (.slice (some ⟨g, 0, none⟩) n n) n (T.map (Value.int .i64))) (hp : p < n) (c : Int) : Row (w.setCell ⟨g, p, none⟩ (.int .i64 c)) b 3 1 (.slice (some ⟨g, 0, none⟩) n n) n ((T.set p c).map (Value.int .i64)) := by
 have h1 := h.set p (.int .i64 c) (by omega)
 rw [Nat.zero_add, ← List.map_set] at h1
 exact h1
theorem row_int_at {b g n p : Nat} {T : List Int} (h : Row w b 3 1 (.slice (some ⟨g, 0, none⟩) n n) n (T.map (Value.int .i64))) (hp : p < n) : w.cell? ⟨g, p, none⟩ = some (.int .i64 T[p]!) ∧ w.frozen? ⟨g, p, none⟩ = false ∧ g < w.heap.size := by
 have hl : T.length = n := by have := h.1; simpa using this
 have h1 := h.cell p (by omega)
 rw [Nat.zero_add, List.getElem?_map, List.getElem?_eq_getElem (by omega), ← getElem!_pos T p (by omega)] at h1
 have h2 := h.free p
 exact ⟨h1, h2, (h.lt g rfl).2⟩
theorem LyW.setT (h : LyW w0 w gT gD n T D vl l) {p : Nat} (hp : p < n) (c : Int) : LyW w0 (w.setCell ⟨gT, p, none⟩ (.int .i64 c)) gT gD n (T.set p c) D vl l := by
 obtain ⟨cu, fr, hg⟩ := row_hp h.rt
 exact ⟨row_int_set h.rt hp c, h.rd.st (p := ⟨gT, p, none⟩) (fun e => h.ne (Option.some.inj e).symm) _, h.rl.stO hg (by decide) _, h.ne, h.ext.st (p := ⟨gT, p, none⟩) (h.rt.lt gT rfl).1 _⟩
theorem LyW.setD (h : LyW w0 w gT gD n T D vl l) {p : Nat} (hp : p < n) (c : Int) : LyW w0 (w.setCell ⟨gD, p, none⟩ (.int .i64 c)) gT gD n T (D.set p c) vl l := by
 obtain ⟨cu, fr, hg⟩ := row_hp h.rd
 exact ⟨h.rt.st (p := ⟨gD, p, none⟩) (fun e => h.ne (Option.some.inj e)) _, row_int_set h.rd hp c, h.rl.stO hg (by decide) _, h.ne, h.ext.st (p := ⟨gD, p, none⟩) (h.rd.lt gD rfl).1 _⟩
variable {K : Nat} {z0 z1 z2 z3 z4 : Value}
theorem la5_set {T : TypeId} (h : w.heap[K]? = some (.cells #[z0, z1, z2, z3, z4] T)) (a b c d e : Value) :
  (((((w.setCell ⟨K, 0, none⟩ a).setCell ⟨K, 1, none⟩ b).setCell ⟨K, 2, none⟩ c).setCell ⟨K, 3, none⟩ d).setCell ⟨K, 4, none⟩ e).heap[K]? = some (.cells #[a, b, c, d, e] T) := by
 have h0 : (w.setCell ⟨K, 0, none⟩ a).heap[K]? = some (.cells #[a, z1, z2, z3, z4] T) := by rw [heap_setCell_same h]; simp
 have h1 : ((w.setCell ⟨K, 0, none⟩ a).setCell ⟨K, 1, none⟩ b).heap[K]? = some (.cells #[a, b, z2, z3, z4] T) := by rw [heap_setCell_same h0]; simp
 have h2 : (((w.setCell ⟨K, 0, none⟩ a).setCell ⟨K, 1, none⟩ b).setCell ⟨K, 2, none⟩ c).heap[K]? = some (.cells #[a, b, c, z3, z4] T) := by rw [heap_setCell_same h1]; simp
 have h3 : ((((w.setCell ⟨K, 0, none⟩ a).setCell ⟨K, 1, none⟩ b).setCell ⟨K, 2, none⟩ c).setCell ⟨K, 3, none⟩ d).heap[K]? = some (.cells #[a, b, c, d, z4] T) := by rw [heap_setCell_same h2]; simp
 rw [heap_setCell_same h3]; simp
theorem la5_ext {W : World} (h : Ext w W) (hK : w.heap.size ≤ K) (a b c d e : Value) : Ext w (((((W.setCell ⟨K, 0, none⟩ a).setCell ⟨K, 1, none⟩ b).setCell ⟨K, 2, none⟩ c).setCell ⟨K, 3, none⟩ d).setCell ⟨K, 4, none⟩ e) :=
 ((((h.st (p := ⟨K, 0, none⟩) hK a).st (p := ⟨K, 1, none⟩) hK b).st (p := ⟨K, 2, none⟩) hK c).st (p := ⟨K, 3, none⟩) hK d).st (p := ⟨K, 4, none⟩) hK e
end
theorem ly1_yes {red T D : List Int} {p : Nat} (h : T[p]! < 0 ∧ red[p]! = D[p]!) : ly1 red T D p = T.set p D[p]! := if_pos h
theorem ly1_no {red T D : List Int} {p : Nat} (h : ¬ (T[p]! < 0 ∧ red[p]! = D[p]!)) : ly1 red T D p = T := if_neg h
theorem ly2_not {t : Tr} {T D : List Int} {x : Eid} (h : ¬ ((ev t x).kind = 3 ∧ T[x.1]! < 0)) : ly2 t T D x = T := if_neg h
theorem ly2_yes {t : Tr} {T D : List Int} {x s : Eid} (h : (ev t x).kind = 3 ∧ T[x.1]! < 0) (hs : findE t 2 (ev t x).msg = some s) (hc : 0 ≤ T[s.1]! ∧ T[s.1]! < (s.2 : Int) + 1) : ly2 t T D x = T.set x.1 D[x.1]! := by
 unfold ly2; rw [if_pos h, hs]; exact if_pos hc
theorem ly2_no {t : Tr} {T D : List Int} {x s : Eid} (h : (ev t x).kind = 3 ∧ T[x.1]! < 0) (hs : findE t 2 (ev t x).msg = some s) (hc : ¬ (0 ≤ T[s.1]! ∧ T[s.1]! < (s.2 : Int) + 1)) : ly2 t T D x = T := by
 unfold ly2; rw [if_pos h, hs]; exact if_neg hc
theorem enters_36 : ∀ args w, (callFunc 36 args).run Try.prog w = .ok (.enter 36 args) w := enters_of Try.func36 (by kernel_rfl) rfl
set_option maxHeartbeats 16000000 in
set_option maxRecDepth 100000 in
theorem laiR_calls (v rv : Value) (t : Tr) (red : List Int) (w : World) (h : TrAt w v t) (hv : validT t = true) (hr : Ints w rv red) (hl : red.length = t.length) (htu : turnsB t red = true) :
  Calls Try.prog 11 #[.agg #[v], rv] w fun e w' => OfOut t (openC t (redC t red)) w w' e := by
 obtain ⟨ib, hib, bz0, bz1, bz2⟩ := info_parts info_intS
 have hrg := turns_range hl htu
 have HRG := Lib.hid hrg
 obtain ⟨N0, hN0⟩ := openC_fix hrg
 have HGR := Lib.hid (dn_greatest hN0 hrg)
 have hs := valid_small hv
 have HV := Lib.hid hv
 have HRL := Lib.hid hl
 have HTO := Lib.hid (fun W (hW : Ext w W) => totalR_calls v t W (h.ext hW) hv)
 have HATE := Lib.hid (fun W (hW : Ext w W) p i (hx : Inn t (p, i)) => atR_calls v t p i W (h.ext hW) hs hx)
 have HFIE := Lib.hid (fun W (hW : Ext w W) m => findR_calls v t 2 m W (h.ext hW) hs)
 have HOF := Lib.hid (fun W (hW : Ext w W) vc C (hc : Ints W vc C) (hr : RangeC t C) => ofR_calls v vc t C W (h.ext hW) hv hc hr)
 obtain ⟨C, hC⟩ : ∃ C, openC t (redC t red) = C := ⟨_, rfl⟩
 rw [hC] at HGR ⊢
 have h8 := valid_8 hv
 obtain ⟨ta, tc, rfl, htc⟩ := h.sh
 have HIR := Lib.hid hr
 obtain ⟨rb, ro, rc, rfl, _, _, _⟩ := Ints.at1 hr 0 (by omega)
 obtain ⟨n, hn⟩ : ∃ n, t.length = n := ⟨_, rfl⟩
 have HL := Lib.hid hn
 rw [hl, hn] at HIR ⊢
 rw [hn] at HTO HATE HFIE HOF h8
 have HX0 := Lib.hid (heap_alloc_new w (.cells #[.slice ta n tc] 24))
 have HE2 := Lib.hid ((Ext.rf w).al (.cells #[.slice ta n tc] 24))
 have t0 := cellOf HX0.out 0
 simp only [List.getElem?_toArray, List.getElem?_cons_zero] at t0
 clear h hv hr hl htu hrg hN0 hC hs htc hn
 go_enter Try.func11, Try.ntmps11
 go_upto_region 2 with (fail)
 generalize w.alloc (.cells #[.slice ta n tc] 24) = w2 at *
 clear t0
 go_upto_region 3 with (at_make; refine wpList_make_full _ rfl _ _ 25 rfl w2.heap.size 3 ib (.int .i64 0) 1 Try.underlying25 hib bz0 bz1 .i64 .i64 _ _ n rfl rfl rfl rfl (by rw [bz2]; omega) (by unfold maxLen; omega) (Nat.le_refl _) ?_; intro w3 hown3 hgrow3; have HO3 := Lib.hid (Row.ofOwns hown3); have HE3 := Lib.hid ((Ext.rf w2).gr hgrow3 (by simp)); clear hown3 hgrow3)
 have hsz3 := HE3.out.sz
 go_upto_region 4 with (at_make; refine wpList_make_full _ rfl _ _ 25 rfl w2.heap.size 3 ib (.int .i64 0) 1 Try.underlying25 hib bz0 bz1 .i64 .i64 _ _ n rfl rfl rfl rfl (by rw [bz2]; omega) (by unfold maxLen; omega) hsz3 ?_; intro w4 hown4 hgrow4; have HO4 := Lib.hid (Row.ofOwns hown4); have HE4 := Lib.hid ((Ext.rf w3).gr hgrow4 (by simp)); clear hown4 hgrow4)
 have HLW : Hid (LyW w2 w4 w2.heap.size w3.heap.size n (List.replicate n 0) (List.replicate n 0) (.slice none 0 0) []) := Lib.hid (by
  have h3 := HO3.out
  have h4 := HO4.out
  rw [show (Value.int .i64 0).cells = #[.int .i64 0] from rfl, Nat.mul_one, toList_madeCells_one] at h3 h4
  refine ⟨?_, ?_, Row.mkNil _ _ _ _, ?_, HE3.out.trans' HE4.out⟩
  ·rw [List.map_replicate]; exact h3.ext HE4.out
  ·rw [List.map_replicate]; exact h4
  ·have := (h3.lt w2.heap.size rfl).2; omega)
 generalize w2.heap.size = gT at HLW ⊢
 generalize w3.heap.size = gD at HLW ⊢
 clear HO3 HO4 hsz3
 go_wp2
 go_loopg [8] n (fun g s8 wr => ∃ (k : Nat) (T : List Int), k ≤ n ∧ n - k ≤ g ∧ s8 = .int .i64 k ∧ Aside (T.length = n ∧ ∀ j, j < k → T[j]! = -1) ∧ Aside (LyW w2 wr gT gD n T (List.replicate n 0) (.slice none 0 0) []))
 case atStart => exact ⟨0, _, Nat.zero_le _, by omega, rfl, (show _ ∧ _ from ⟨List.length_replicate .., fun j hj => absurd hj (Nat.not_lt_zero _)⟩), (show LyW _ _ _ _ _ _ _ _ _ from HLW.out)⟩
 case round =>
  obtain ⟨k, T, hk, hgk, rfl, HTL, HW⟩ := hrel
  clear HLW
  by_cases hkn : k < n
  case pos =>
   have hkz : (k : Int) < (n : Int) := by omega
   have hkz0 : (0 : Int) ≤ (k : Int) := by omega
   obtain ⟨c0, f0, _⟩ := row_int_at HW.out.rt hkn
   have HN := Lib.hid (HW.out.setT hkn (-1))
   have HTN : Hid ((T.set k (-1)).length = n ∧ ∀ j, j < k + 1 → (T.set k (-1))[j]! = -1) := Lib.hid ⟨by rw [List.length_set]; exact HTL.out.1, fun j hj => by
    by_cases e : j = k
    ·subst e; exact setZ_at (by rw [HTL.out.1]; exact hkn) _
    ·rw [setZ_ne e]; exact HTL.out.2 j (by omega)⟩
   go_wp2
   go_roundg (n - (k + 1))
   case measure => omega
   case rel => exact ⟨k + 1, _, by omega, by omega, by go_num, (show _ ∧ _ from HTN.out), (show LyW _ _ _ _ _ _ _ _ _ from HN.out)⟩
  case neg =>
   have hkz : ¬ (k : Int) < (n : Int) := by omega
   have HTE : Hid (T = List.replicate n (-1)) := Lib.hid (list_ext (by rw [List.length_replicate]; exact HTL.out.1) fun j hj => by
    have hj2 : j < n := by have := HTL.out.1; omega
    rw [rep_get hj2]; exact HTL.out.2 j (by omega))
   have HW1 := Lib.hid HW.out
   rw [HTE.out] at HW1
   have HY1 := Lib.hid (HW1.out.ext.hp HX0.out)
   have t0 := cellOf HY1.out 0
   simp only [List.getElem?_toArray, List.getElem?_cons_zero] at t0
   have HTC := Lib.hid (HTO.out wr (HE2.out.trans' HW1.out.ext))
   clear HTL HW HTE
   obtain ⟨wz, rfl⟩ : ∃ y, y = wr := ⟨_, rfl⟩
   go_wp2_with fail
   clear t0
   refine HTC.out.mono ?_
   rintro e w5 ⟨v9, S, l, rfl, hO, hR9, hE5⟩
   have HO := Lib.hid hO
   have HW5 : Hid (LyW w2 w5 gT gD n (List.replicate n (-1)) (List.replicate n 0) v9 l) := Lib.hid (by
    have h := HW1.out.grow hE5
    exact ⟨h.rt, h.rd, hR9.mono HW1.out.ext.sz, h.ne, h.ext⟩)
   have HI5 := Lib.hid (LyI.start (l := l) HGR.out.1.1)
   rw [HL.out] at HI5
   obtain ⟨la, lc, rfl, _, _⟩ := hR9.any
   clear hO hR9 hE5 HTC HW1 HY1
   go_wp2
   go_loopg [10, 11, 12, 13] l.length (fun g s10 s11 s12 s13 wr => ∃ (k : Nat) (T D : List Int), k ≤ l.length ∧ l.length - k ≤ g ∧ s10 = .int .i64 k ∧ Aside (LyW w2 wr gT gD n T D (.slice la l.length lc) l) ∧ Aside (LyI t C l k T D))
   case atStart => exact ⟨0, _, _, Nat.zero_le _, by omega, rfl, (show LyW _ _ _ _ _ _ _ _ _ from HW5.out), (show LyI _ _ _ _ _ _ from HI5.out)⟩
   case round =>
    obtain ⟨k, T, D, hk, hgk, rfl, HW, HI⟩ := hrel
    clear HW5 HI5
    by_cases hkl : k < l.length
    case neg =>
     have hkz : ¬ (k : Int) < (l.length : Int) := by omega
     have HTN : Hid (lyEnd T D n = C) := Lib.hid (by
      have h := HI.out
      rw [show k = l.length by omega] at h
      have h2 := ly_turned HO.out HGR.out.1.1 h
      rwa [HL.out] at h2)
     have HTT := Lib.hid (HI.out.tl.trans HL.out)
     have HW0 : Hid (LyW w2 wr gT gD n (lyEnd T D 0) D (.slice la l.length lc) l) := Lib.hid (by rw [lyEnd_zero]; exact HW.out)
     clear HI
     obtain ⟨wz2, rfl⟩ : ∃ y, y = wr := ⟨_, rfl⟩
     go_wp2
     go_loopg [14] n (fun g s14 wr => ∃ k : Nat, k ≤ n ∧ n - k ≤ g ∧ s14 = .int .i64 k ∧ Aside (LyW w2 wr gT gD n (lyEnd T D k) D (.slice la l.length lc) l))
     case atStart => exact ⟨0, Nat.zero_le _, by omega, rfl, (show LyW _ _ _ _ _ _ _ _ _ from HW0.out)⟩
     case round =>
      obtain ⟨q, hq, hgq, rfl, HWQ⟩ := hrel
      clear HW0 HW
      by_cases hqn : q < n
      case neg =>
       have hqz : ¬ (q : Int) < (n : Int) := by omega
       have HQE := Lib.hid (show q = n by omega)
       have HIC : Hid (Ints wr (.slice (some ⟨gT, 0, none⟩) n n) C) := Lib.hid (by
        have h := HWQ.out.rt
        rw [HQE.out, HTN.out] at h
        exact h.ints)
       have HEF := Lib.hid (HE2.out.trans' HWQ.out.ext)
       have HOC := Lib.hid (HOF.out wr HEF.out _ C HIC.out HGR.out.1.1)
       have HYF := Lib.hid (HWQ.out.ext.hp HX0.out)
       have t0 := cellOf HYF.out 0
       simp only [List.getElem?_toArray, List.getElem?_cons_zero] at t0
       go_wp2_with fail
       refine HOC.out.mono ?_
       rintro e w9 ⟨u, rfl, hE9, hS9⟩
       go_wp2
       go_ret
       exact ⟨u, rfl, HEF.out.trans' hE9, hS9⟩
      case pos =>
       have hqz : (q : Int) < (n : Int) := by omega
       have hqz0 : (0 : Int) ≤ (q : Int) := by omega
       obtain ⟨c0, f0, _⟩ := row_int_at HWQ.out.rt hqn
       obtain ⟨c1, _, _⟩ := row_int_at HWQ.out.rd hqn
       have hTq : (lyEnd T D q)[q]! = T[q]! := by rw [lyEnd_at (by rw [HTT.out]; exact hqn), if_neg (by omega)]
       rw [hTq] at c0
       have HYE := Lib.hid (fun h => lyEnd_yes (T := T) (D := D) (k := q) (by rw [HTT.out]; exact hqn) h)
       have HNO := Lib.hid (fun h => lyEnd_no (T := T) (D := D) (k := q) h)
       have HST := Lib.hid (HWQ.out.setT hqn D[q]!)
       clear hTq
       generalize T[q]! = tq at *
       generalize D[q]! = dq at *
       by_cases hc : tq < 0
       case pos =>
        have d1 : decide (tq < 0) = true := decide_eq_true hc
        have HN := Lib.hid (HYE.out hc)
        clear hc
        go_wp2
        go_roundg (n - (q + 1))
        case measure => omega
        case rel => exact ⟨q + 1, by omega, by omega, by go_num, (show LyW _ _ _ _ _ _ _ _ _ from by rw [← HN.out]; exact HST.out)⟩
       case neg =>
        have d1 : decide (tq < 0) = false := decide_eq_false hc
        have HN := Lib.hid (HNO.out hc)
        clear hc
        go_wp2
        go_roundg (n - (q + 1))
        case measure => omega
        case rel => exact ⟨q + 1, by omega, by omega, by go_num, (show LyW _ _ _ _ _ _ _ _ _ from by rw [← HN.out]; exact HWQ.out)⟩
    case pos =>
     have hkz : (k : Int) < (l.length : Int) := by omega
     have hkz0 : (0 : Int) ≤ (k : Int) := by omega
     have HSTP := Lib.hid (HI.out.step HV.out HO.out HRL.out HGR.out.1 HGR.out.2.1 HGR.out.2.2 hkl)
     have hin := (HO.out.inn l[k]!).1 (by rw [getElem!_pos l k hkl]; exact List.getElem_mem hkl)
     have e0 := (HW.out.rl.cells)
     obtain ⟨lg, lo, lcc, hle, _, hlgw, _⟩ := HW.out.rl.shape (by omega)
     simp only [Value.slice.injEq] at hle
     obtain ⟨rfl, hzz, rfl⟩ := hle
     clear hzz
     clear e0
     have e0 := (HW.out.rl.cell (k * 2) (by omega)).trans (eids_atC l k hkl).1
     have e1 := (HW.out.rl.cell (k * 2 + 1) (by omega)).trans (eids_atC l k hkl).2
     rw [← Nat.add_assoc] at e1
     obtain ⟨p, i, hpi⟩ : ∃ p i, l[k]! = (p, i) := ⟨_, _, rfl⟩
     have HPI := Lib.hid hpi
     rw [hpi] at HSTP hin e0 e1
     simp only at HSTP e0 e1
     have HIN := Lib.hid hin
     have hpn : p < n := by have := hin.1; rw [HL.out] at this; exact this
     have hpz : (p : Int) < (n : Int) := by omega
     have hpz0 : (0 : Int) ≤ (p : Int) := by omega
     have HL0 := Lib.hid e0
     have HL1 := Lib.hid e1
     have HEW := Lib.hid (HE2.out.trans' HW.out.ext)
     have HY := Lib.hid (HW.out.ext.hp HX0.out)
     obtain ⟨rb', ro', rc', hre, _, _, r0⟩ := Ints.at1 (HIR.out.ext HEW.out) p (by rw [HRL.out, HL.out]; exact hpn)
     simp only [Value.slice.injEq, Option.some.injEq, Addr.mk.injEq, and_true] at hre
     obtain ⟨⟨rfl, rfl⟩, hzz, rfl⟩ := hre
     clear hzz
     obtain ⟨c0, f0, hgT⟩ := row_int_at HW.out.rt hpn
     obtain ⟨c1, f1, hgD⟩ := row_int_at HW.out.rd hpn
     have HDI := Lib.hid HSTP.out.2
     rw [HDI.out] at c1
     have HY1 := Lib.hid (fun h => ly1_yes (red := red) (T := T) (D := D) (p := p) h)
     have HN1 := Lib.hid (fun h => ly1_no (red := red) (T := T) (D := D) (p := p) h)
     rw [HDI.out] at HY1 HN1
     have hilen : i < 1000000 := by have h1 := hin.2; have h2 := (valid_small HV.out).2 p hin.1; simp only at h1; omega
     clear hin hpi e0 e1
     obtain ⟨tp, htp⟩ : ∃ x, T[p]! = x := ⟨_, rfl⟩
     obtain ⟨rp, hrp⟩ : ∃ x, red[p]! = x := ⟨_, rfl⟩
     rw [htp] at c0 HY1 HN1
     rw [hrp] at r0 HY1 HN1
     clear htp hrp
     have HCA := Lib.hid (show _ ∧ _ ∧ _ from ⟨c0, c1, r0⟩)
     have e0 := HL0.out
     have t0 := cellOf HY.out 0
     simp only [List.getElem?_toArray, List.getElem?_cons_zero] at t0
     have HT4 := Lib.hid t0
     clear t0
     go_upto_region 13 with (fail)
     clear e0
     go_cut [58] (fun s58 wx => s58 = .bool (decide (tp < 0) && decide (rp = (i : Int))) ∧ Aside (Ext wr wx))
     case first =>
      by_cases h1 : tp < 0
      case neg =>
       have d1 : decide (tp < 0) = false := decide_eq_false h1
       clear h1
       go_quiet (fail)
       go_wp2
       go_meet
       exact ⟨by first | rfl | (rw [d1]; rfl), (show Ext _ _ from (Ext.rf wr).drN _)⟩
      case pos =>
       have d1 : decide (tp < 0) = true := decide_eq_true h1
       by_cases h2 : rp = (i : Int)
       case pos =>
        have d2 : (rp == (i : Int)) = true := by rw [beq_iff_eq]; exact h2
        have d2n : decide (rp = (i : Int)) = true := decide_eq_true h2
        clear h1 h2
        go_quiet (fail)
        go_wp2
        go_meet
        exact ⟨by first | rfl | (rw [d1, d2n]; rfl), (show Ext _ _ from (Ext.rf wr).drN _)⟩
       case neg =>
        have d2 : (rp == (i : Int)) = false := by rw [beq_eq_false_iff_ne]; exact h2
        have d2n : decide (rp = (i : Int)) = false := decide_eq_false h2
        clear h1 h2
        go_quiet (fail)
        go_wp2
        go_meet
        exact ⟨by first | rfl | (rw [d1, d2n]; rfl), (show Ext _ _ from (Ext.rf wr).drN _)⟩
     case rest =>
      obtain ⟨rfl, HXC⟩ := hcut
      obtain ⟨w6, rfl⟩ : ∃ x, x = wc := ⟨_, rfl⟩
      have HW6 := Lib.hid (HW.out.grow HXC.out)
      have HIY : Hid (∀ h : (decide (tp < 0) && decide (rp = (i : Int))) = true, ly1 red T D p = T.set p (i : Int)) := Lib.hid (fun h => HY1.out (by simpa using h))
      have HIN1 : Hid (∀ h : (decide (tp < 0) && decide (rp = (i : Int))) = false, ly1 red T D p = T) := Lib.hid (fun h => HN1.out (fun hh => by rw [decide_eq_true hh.1, decide_eq_true hh.2] at h; cases h))
      clear HY1 HN1 c0 f0 hgT c1 f1 hgD r0
      generalize (decide (tp < 0) && decide (rp = (i : Int))) = ca at *
      go_upto_if 58 with (fail)
      go_cut [] (fun wx => Aside (LyW w2 wx gT gD n (ly1 red T D p) D (.slice (some ⟨lg, lo, none⟩) l.length lc) l))
      case first =>
       cases ca with
       | false =>
         have HE1 := Lib.hid (HIN1.out rfl)
         go_wp2
         go_meet
         exact (show LyW _ _ _ _ _ _ _ _ _ from by rw [HE1.out]; exact HW6.out)
       | true =>
         have HE1 := Lib.hid (HIY.out rfl)
         obtain ⟨c0, f0, _⟩ := row_int_at HW6.out.rt hpn
         obtain ⟨c1, _, _⟩ := row_int_at HW6.out.rd hpn
         rw [HDI.out] at c1
         have HN := Lib.hid (HW6.out.setT hpn (i : Int))
         go_wp2
         go_meet
         exact (show LyW _ _ _ _ _ _ _ _ _ from by rw [HE1.out]; exact HN.out)
      case rest =>
       have HW7 := Lib.hid hcut.out
       obtain ⟨wr, rfl⟩ : ∃ x, x = wc := ⟨_, rfl⟩
       clear hcut HW6 HW HIY HIN1 HXC HCA HL0 HL1 HY HT4 HEW
       generalize ly1 red T D p = T1 at *
       have HEW := Lib.hid (HE2.out.trans' HW7.out.ext)
       have HYA := Lib.hid (HW7.out.ext.hp HX0.out)
       have HT4 := Lib.hid (cellOf HYA.out 0)
       simp only [List.getElem?_toArray, List.getElem?_cons_zero] at HT4
       have HL0 := Lib.hid ((HW7.out.rl.cell (k * 2) (by omega)).trans (eids_atC l k hkl).1)
       have HL1 := Lib.hid ((HW7.out.rl.cell (k * 2 + 1) (by omega)).trans (eids_atC l k hkl).2)
       rw [HPI.out] at HL0 HL1
       simp only at HL0 HL1
       rw [← Nat.add_assoc] at HL1
       have HAT := Lib.hid (fun W (hW : Ext w W) => HATE.out W hW p i HIN.out)
       have HEV : Hid (ev t (p, i) = ev t (p, i)) := Lib.hid rfl
       obtain ⟨y, hy⟩ : ∃ y, ev t (p, i) = y := ⟨_, rfl⟩
       have HYE := Lib.hid hy
       rw [hy] at HAT
       clear hy HEV
       go_upto_region 15 with (fail)
       go_cut [12] (fun s12 wx => ∃ (bx : Nat) (ya : Option Addr) (yc : Nat), s12 = .pointer (some ⟨bx, 0, none⟩) ∧ Aside (wx.heap[bx]? = some (.cells #[.int .i64 y.kind, .int .i64 y.peer, .int .i64 y.msg, .int .i64 y.time, .slice ya y.asg.length yc] 56)) ∧ Aside (Ext wr wx))
       case first =>
        refine wp_region_tail (fun W => W.cell? ⟨w.heap.size, 0, none⟩ = some (.slice ta n tc) ∧ W.cell? ⟨lg, lo + k * 2, none⟩ = some (.int .i64 (p : Int)) ∧ W.cell? ⟨lg, lo + k * 2 + 1, none⟩ = some (.int .i64 ((i : Int) + 1))) 7 (by kernel_rfl) ⟨HT4.out, HL0.out, HL1.out⟩ (fun hHeld => ?_)
        have HXD : Hid (Ext wr wr.drew) := Lib.hid (Ext.rf wr).dr
        generalize wr.drew = wd at *
        refine tkA 0 66 (v := ?_) rfl rfl (by kernel_rfl) (fun _ _ _ h => h) ?_ (by assumption) ?_
        rotate_left
        ·(intro w hSw; (try dsimp only at hSw); go_simp; try (with_reducible rfl))
        try simp only [Act.put]
        try simp only [List.setIfInBounds_toArray]
        try simp only [List.set_cons_zero, List.set_cons_succ]
        refine tkA 1 67 (v := ?_) rfl rfl (by kernel_rfl) (fun _ _ _ h => h) ?_ (by assumption) ?_
        rotate_left
        ·(intro w hSw; (try dsimp only at hSw); go_simp; try (with_reducible rfl))
        try simp only [Act.put]
        try simp only [List.setIfInBounds_toArray]
        try simp only [List.set_cons_zero, List.set_cons_succ]
        refine tkA 2 68 (v := ?_) rfl rfl (by kernel_rfl) (fun _ _ _ h => h) ?_ (by assumption) ?_
        rotate_left
        ·(intro w hSw; (try dsimp only at hSw); go_simp; try (with_reducible rfl))
        try simp only [Act.put]
        try simp only [List.setIfInBounds_toArray]
        try simp only [List.set_cons_zero, List.set_cons_succ]
        refine tkA 3 69 (v := ?_) rfl rfl (by kernel_rfl) (fun _ _ _ h => h) ?_ (by assumption) ?_
        rotate_left
        ·(intro w hSw; (try dsimp only at hSw); go_simp; try (with_reducible rfl))
        try simp only [Act.put]
        try simp only [List.setIfInBounds_toArray]
        try simp only [List.set_cons_zero, List.set_cons_succ]
        refine tkA 4 70 (v := ?_) rfl rfl (by kernel_rfl) (fun _ _ _ h => h) ?_ (by assumption) ?_
        rotate_left
        ·(intro w hSw; (try dsimp only at hSw); go_simp; try (with_reducible rfl))
        try simp only [Act.put]
        try simp only [List.setIfInBounds_toArray]
        try simp only [List.set_cons_zero, List.set_cons_succ]
        refine wpAnyT_ready (rs := [5, 6]) (by kernel_rfl) (by simp) ?_
        refine AllT.cons (i := 5) rfl (fun K hK => ?_) ?_
        ·(skip)
         refine step_callW (by kernel_rfl) 36 _ _ rfl enters_36 [.agg #[.slice ta n tc], .agg #[.int .i64 (p : Int), .int .i64 ((i : Int) + 1)]] (by first | rfl | kernel_rfl | go_simp) (HAT.out wd (HEW.out.trans' HXD.out)) ?_
         rintro e wa ⟨ya, yc, rfl, hE⟩
         refine ⟨_, rfl, ?_⟩
         have HXa := Lib.hid (HXD.out.trans' hE)
         have HXC := Lib.hid hE
         clear hE
         refine hK.out _ _ ?_ (fun hHeld => ?_)
         ·(try dsimp only)
          exact ⟨HXa.out.cl HT4.out, HXa.out.cl HL0.out, HXa.out.cl HL1.out⟩
         clear hK K
         try simp only [Act.put]
         try simp only [List.setIfInBounds_toArray]
         try simp only [List.set_cons_zero, List.set_cons_succ]
         refine wpAnyT_step (i := 6) (by kernel_rfl) rfl (fun K hK => ?_)
         go_simp
         have HNS : Hid ((wa.alloc (.cells #[.int .i64 0, .int .i64 0, .int .i64 0, .int .i64 0, .slice none 0 0] 56)).heap[wa.heap.size]? = some (.cells #[.int .i64 0, .int .i64 0, .int .i64 0, .int .i64 0, .slice none 0 0] 56)) := Lib.hid (heap_alloc_new wa _)
         have HXS : Hid (Ext wa (wa.alloc (.cells #[.int .i64 0, .int .i64 0, .int .i64 0, .int .i64 0, .slice none 0 0] 56))) := Lib.hid ((Ext.rf wa).al _)
         have HBS : Hid (wr.heap.size ≤ wa.heap.size) := Lib.hid HXa.out.sz
         generalize wa.heap.size = bx at *
         generalize wa.alloc (.cells #[.int .i64 0, .int .i64 0, .int .i64 0, .int .i64 0, .slice none 0 0] 56) = wb at *
         have HXb := Lib.hid (HXa.out.trans' HXS.out)
         refine hK.out _ _ ?_ (fun hHeld => ?_)
         ·(try dsimp only)
          exact ⟨HXb.out.cl HT4.out, HXb.out.cl HL0.out, HXb.out.cl HL1.out⟩
         clear hK K
         try simp only [Act.put]
         try simp only [List.setIfInBounds_toArray]
         try simp only [List.set_cons_zero, List.set_cons_succ]
         have HPS := Lib.hid (HNS.out)
         have q0 := cellOf HPS.out 0
         have q1 := cellOf HPS.out 1
         have q2 := cellOf HPS.out 2
         have q3 := cellOf HPS.out 3
         have q4 := cellOf HPS.out 4
         have g0 := freeOf HPS.out 0
         have g1 := freeOf HPS.out 1
         have g2 := freeOf HPS.out 2
         have g3 := freeOf HPS.out 3
         have g4 := freeOf HPS.out 4
         simp only [List.getElem?_toArray, List.getElem?_cons_zero, List.getElem?_cons_succ] at q0 q1 q2 q3 q4
         refine wpAnyT_last (by kernel_rfl) rfl (by kernel_rfl) (fun K hK => ?_)
         go_simp
         refine hK.out _ _ ?_
         go_wp2
         go_meet
         exact ⟨bx, ya, yc, rfl, (show _ = _ from la5_set HPS.out _ _ _ _ _), (show Ext _ _ from la5_ext HXb.out HBS.out _ _ _ _ _)⟩
        refine AllT.cons (i := 6) rfl (fun K hK => ?_) AllT.nil
        go_simp
        have HNS : Hid ((wd.alloc (.cells #[.int .i64 0, .int .i64 0, .int .i64 0, .int .i64 0, .slice none 0 0] 56)).heap[wd.heap.size]? = some (.cells #[.int .i64 0, .int .i64 0, .int .i64 0, .int .i64 0, .slice none 0 0] 56)) := Lib.hid (heap_alloc_new wd _)
        have HXS : Hid (Ext wd (wd.alloc (.cells #[.int .i64 0, .int .i64 0, .int .i64 0, .int .i64 0, .slice none 0 0] 56))) := Lib.hid ((Ext.rf wd).al _)
        have HBS : Hid (wr.heap.size ≤ wd.heap.size) := Lib.hid HXD.out.sz
        generalize wd.heap.size = bx at *
        generalize wd.alloc (.cells #[.int .i64 0, .int .i64 0, .int .i64 0, .int .i64 0, .slice none 0 0] 56) = wa at *
        have HXa := Lib.hid (HXD.out.trans' HXS.out)
        refine hK.out _ _ ?_ (fun hHeld => ?_)
        ·(try dsimp only)
         exact ⟨HXa.out.cl HT4.out, HXa.out.cl HL0.out, HXa.out.cl HL1.out⟩
        clear hK K
        try simp only [Act.put]
        try simp only [List.setIfInBounds_toArray]
        try simp only [List.set_cons_zero, List.set_cons_succ]
        refine wpAnyT_step (i := 5) (by kernel_rfl) rfl (fun K hK => ?_)
        refine step_callW (by kernel_rfl) 36 _ _ rfl enters_36 [.agg #[.slice ta n tc], .agg #[.int .i64 (p : Int), .int .i64 ((i : Int) + 1)]] (by first | rfl | kernel_rfl | go_simp) (HAT.out wa (HEW.out.trans' HXa.out)) ?_
        rintro e wb ⟨ya, yc, rfl, hE⟩
        refine ⟨_, rfl, ?_⟩
        have HXb := Lib.hid (HXa.out.trans' hE)
        have HXC := Lib.hid hE
        clear hE
        refine hK.out _ _ ?_ (fun hHeld => ?_)
        ·(try dsimp only)
         exact ⟨HXb.out.cl HT4.out, HXb.out.cl HL0.out, HXb.out.cl HL1.out⟩
        clear hK K
        try simp only [Act.put]
        try simp only [List.setIfInBounds_toArray]
        try simp only [List.set_cons_zero, List.set_cons_succ]
        have HPS := Lib.hid (HXC.out.hp HNS.out)
        have q0 := cellOf HPS.out 0
        have q1 := cellOf HPS.out 1
        have q2 := cellOf HPS.out 2
        have q3 := cellOf HPS.out 3
        have q4 := cellOf HPS.out 4
        have g0 := freeOf HPS.out 0
        have g1 := freeOf HPS.out 1
        have g2 := freeOf HPS.out 2
        have g3 := freeOf HPS.out 3
        have g4 := freeOf HPS.out 4
        simp only [List.getElem?_toArray, List.getElem?_cons_zero, List.getElem?_cons_succ] at q0 q1 q2 q3 q4
        refine wpAnyT_last (by kernel_rfl) rfl (by kernel_rfl) (fun K hK => ?_)
        go_simp
        refine hK.out _ _ ?_
        go_wp2
        go_meet
        exact ⟨bx, ya, yc, rfl, (show _ = _ from la5_set HPS.out _ _ _ _ _), (show Ext _ _ from la5_ext HXb.out HBS.out _ _ _ _ _)⟩
       case rest =>
        obtain ⟨bx, ya, yc, rfl, HBX, HXQ⟩ := hcut
        obtain ⟨w8, rfl⟩ : ∃ x, x = wc := ⟨_, rfl⟩
        have HW8 := Lib.hid (HW7.out.grow HXQ.out)
        have HY8 := Lib.hid (HXQ.out.hp HYA.out)
        have HFC := Lib.hid (fun W (hW : Ext w W) => HFIE.out W hW y.msg)
        have HRC := Lib.hid (fun (hk : y.kind = 3) => send_peer HV.out HIN.out (by rw [HYE.out]; exact hk))
        rw [HYE.out] at HRC
        have H2N := Lib.hid (fun h => ly2_not (t := t) (T := T1) (D := D) (x := (p, i)) h)
        have H2Y := Lib.hid (fun s h hs hc => ly2_yes (t := t) (T := T1) (D := D) (x := (p, i)) (s := s) h hs hc)
        have H2O := Lib.hid (fun s h hs hc => ly2_no (t := t) (T := T1) (D := D) (x := (p, i)) (s := s) h hs hc)
        rw [HYE.out] at H2N H2Y H2O
        simp only at H2N H2Y H2O
        rw [HDI.out] at H2Y
        have y0 := cellOf HBX.out 0
        simp only [List.getElem?_toArray, List.getElem?_cons_zero] at y0
        obtain ⟨c0, _, _⟩ := row_int_at HW8.out.rt hpn
        obtain ⟨tq, htq⟩ : ∃ x, T1[p]! = x := ⟨_, rfl⟩
        rw [htq] at c0 H2N H2Y H2O
        clear htq HW7 HXQ HYA HT4 HL0 HL1 HAT HATE HEW
        go_upto_region 16 with (fail)
        go_cut [81] (fun s81 wx => s81 = .bool (decide (y.kind = 3) && decide (tq < 0)) ∧ wx = w8)
        case first =>
         by_cases h1 : y.kind = 3
         case neg =>
          have d1 : (y.kind == 3) = false := by rw [beq_eq_false_iff_ne]; exact h1
          have d1n : decide (y.kind = 3) = false := decide_eq_false h1
          clear h1
          go_wp2
          go_meet
          exact ⟨by first | rfl | (rw [d1n]; rfl), rfl⟩
         case pos =>
          have d1 : (y.kind == 3) = true := by rw [beq_iff_eq]; exact h1
          have d1n : decide (y.kind = 3) = true := decide_eq_true h1
          clear h1
          go_wp2
          go_meet
          exact ⟨by first | rfl | (rw [d1n]; rfl), rfl⟩
        case rest =>
         obtain ⟨rfl, hwc⟩ := hcut
         obtain ⟨wb, rfl⟩ : ∃ x, x = wc := ⟨_, rfl⟩
         subst hwc
         have HNC : Hid (∀ h : (decide (y.kind = 3) && decide (tq < 0)) = false, ly2 t T1 D (p, i) = T1) := Lib.hid (fun h => H2N.out (fun hh => by rw [decide_eq_true hh.1, decide_eq_true hh.2] at h; cases h))
         have HYC : Hid (∀ h : (decide (y.kind = 3) && decide (tq < 0)) = true, y.kind = 3 ∧ tq < 0) := Lib.hid (fun h => by simpa using h)
         clear H2N c0 y0
         generalize (decide (y.kind = 3) && decide (tq < 0)) = cc at *
         go_upto_if 81 with (fail)
         go_cut [] (fun wx => Aside (LyW w2 wx gT gD n (ly2 t T1 D (p, i)) D (.slice (some ⟨lg, lo, none⟩) l.length lc) l))
         case first =>
          cases cc with
          | false =>
            have HE1 := Lib.hid (HNC.out rfl)
            go_wp2
            go_meet
            exact (show LyW _ _ _ _ _ _ _ _ _ from by rw [HE1.out]; exact HW8.out)
          | true =>
            have HKT := Lib.hid (HYC.out rfl)
            obtain ⟨sx, hs1, _, _, hs3, _⟩ := HRC.out HKT.out.1
            have HS1 := Lib.hid hs1
            have H2Y := Lib.hid (fun hc => H2Y.out sx HKT.out hs1 hc)
            have H2O := Lib.hid (fun hc => H2O.out sx HKT.out hs1 hc)
            have HFD := Lib.hid (HFC.out wb (HE2.out.trans' HW8.out.ext))
            rw [hs1] at HFD
            have hsn : sx.1 < n := by have := hs3.1; rw [HL.out] at this; exact this
            obtain ⟨q, j⟩ := sx
            simp only [eidA, eidB] at HFD
            simp only at hsn H2Y H2O
            have y2 := cellOf HBX.out 2
            have t0 := cellOf HY8.out 0
            simp only [List.getElem?_toArray, List.getElem?_cons_zero, List.getElem?_cons_succ] at y2 t0
            clear hs1 hs3 HRC
            go_wp2_with fail
            clear y2 t0
            refine HFD.out.mono ?_
            rintro e w9 ⟨rfl, hE9⟩
            have HI9 := Lib.hid (heap_alloc_new w9 (idO (q : Int) ((j : Int) + 1)))
            have HX9 := Lib.hid (hE9.al (idO (q : Int) ((j : Int) + 1)))
            clear hE9 HFD
            go_upto_region 18 with (fail)
            have HW9 := Lib.hid (HW8.out.grow HX9.out)
            have s0 := cellOf HI9.out 0
            have s1 := cellOf HI9.out 1
            simp only [List.getElem?_toArray, List.getElem?_cons_zero, List.getElem?_cons_succ] at s0 s1
            unfold idO at HI9 HX9 HW9
            obtain ⟨c2, _, _⟩ := row_int_at HW9.out.rt hsn
            have hqz : (q : Int) < (n : Int) := by omega
            have hqz0 : (0 : Int) ≤ (q : Int) := by omega
            obtain ⟨tz, htz⟩ : ∃ x, T1[q]! = x := ⟨_, rfl⟩
            rw [htz] at c2 H2Y H2O
            clear htz
            by_cases h1 : 0 ≤ tz
            case neg =>
             have d1 : decide (0 ≤ tz) = false := decide_eq_false h1
             have HE1 := Lib.hid (H2O.out (fun hh => h1 hh.1))
             clear h1
             go_quiet (fail)
             have HWQ := Lib.hid (HW9.out.grow ((Ext.rf _).drN nq))
             go_wp2
             go_meet
             exact (show LyW _ _ _ _ _ _ _ _ _ from by rw [HE1.out]; exact HWQ.out)
            case pos =>
             have d1 : decide (0 ≤ tz) = true := decide_eq_true h1
             by_cases h2 : tz < (j : Int) + 1
             case neg =>
              have d2 : decide (tz < (j : Int) + 1) = false := decide_eq_false h2
              have HE1 := Lib.hid (H2O.out (fun hh => h2 hh.2))
              clear h1 h2
              go_quiet (fail)
              have HWQ := Lib.hid (HW9.out.grow ((Ext.rf _).drN nq))
              go_wp2
              go_meet
              exact (show LyW _ _ _ _ _ _ _ _ _ from by rw [HE1.out]; exact HWQ.out)
             case pos =>
              have d2 : decide (tz < (j : Int) + 1) = true := decide_eq_true h2
              have HE1 := Lib.hid (H2Y.out ⟨h1, h2⟩)
              clear h1 h2
              go_quiet (fail)
              have HWQ := Lib.hid (HW9.out.grow ((Ext.rf _).drN nq))
              generalize World.drewN _ nq = wq at *
              clear s0 s1 c2
              obtain ⟨c0, f0, _⟩ := row_int_at HWQ.out.rt hpn
              obtain ⟨c1, _, _⟩ := row_int_at HWQ.out.rd hpn
              rw [HDI.out] at c1
              have HN := Lib.hid (HWQ.out.setT hpn (i : Int))
              go_wp2
              go_meet
              exact (show LyW _ _ _ _ _ _ _ _ _ from by rw [HE1.out]; exact HN.out)
         case rest =>
          have HWE := Lib.hid hcut.out
          obtain ⟨we, rfl⟩ : ∃ x, x = wc := ⟨_, rfl⟩
          clear hcut
          obtain ⟨c1, f1, _⟩ := row_int_at HWE.out.rd hpn
          rw [HDI.out] at c1
          have hll : l.length ≤ 1000000000000 := by
           have h1 := nodup_leV HO.out.nd (m := ids t) (fun x hx => mem_ids.2 ((HO.out.inn x).1 hx))
           have h2 := ids_smallC (valid_small HV.out)
           omega
          have hw : IntKind.i64.wrap ((i : Int) + 1) = (i : Int) + 1 := IntWalk.i64_in _ (by omega)
          have HN := Lib.hid (HWE.out.setD hpn ((i : Int) + 1))
          have HIN2 := Lib.hid HSTP.out.1
          rw [HDI.out] at HIN2
          go_wp2
          go_roundg (l.length - (k + 1))
          case measure => omega
          case rel => exact ⟨k + 1, _, _, by omega, by omega, by go_num, (show LyW _ _ _ _ _ _ _ _ _ from HN.out), (show LyI _ _ _ _ _ _ from HIN2.out)⟩
end Go.Proofs.Ytfagfooggcinoaa
