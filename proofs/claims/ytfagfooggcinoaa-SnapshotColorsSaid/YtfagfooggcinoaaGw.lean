import Derived.Test.YtfagfooggcinoaaJa
import Derived.Test.YtfagfooggcinoaaProg
import Derived.Test.YtfagfooggcinoaaGl
import Derived.Test.YtfagfooggcinoaaGk
import Derived.Test.YtfagfooggcinoaaGj
import Derived.Test.YtfagfooggcinoaaGf
import Derived.Test.YtfagfooggcinoaaGa
import Derived.Test.YtfagfooggcinoaaGd
import Derived.Test.YtfagfooggcinoaaGg
import Derived.Test.YtfagfooggcinoaaGi
import Derived.BigQuiet
import Derived.Deep.QuietTactic
import Derived.Deep.LoopGhost
import Derived.Shelf.Abstract
import Derived.RegionTactic
import Derived.BigRegion
import Derived.Deep.DeepCutAuto
namespace Go.Proofs.Ytfagfooggcinoaa
open Go.RowKit
set_option linter.unusedVariables false
theorem uw_mem {t : Tr} {c : List Int} {f k : Nat} {q x : Int} (h : x ∈ uwTo t c q f k) : ∃ j, j < k ∧ uwB t c q (f, j) = true ∧ (ev t (f, j)).msg = x := by
 unfold uwTo at h
 obtain ⟨j, hj, e⟩ := List.mem_map.1 h
 obtain ⟨h1, h2⟩ := List.mem_filter.1 hj
 exact ⟨j, List.mem_range.1 h1, h2, e⟩
theorem uwB_parts {t : Tr} {c : List Int} {q : Int} {x : Eid} (h : uwB t c q x = true) : (ev t x).kind = 2 ∧ (ev t x).peer = q := by
 unfold uwB at h
 simp only [Bool.and_eq_true, decide_eq_true_eq] at h
 exact ⟨h.1, h.2.1⟩
theorem under_mem {t : Tr} {c : List Int} {f : Nat} {q x : Int} (hc : RangeC t c) (hf : f < t.length) (h : x ∈ underC t c f q) : ∃ j, Inn t (f, j) ∧ (j : Int) < c[f]! ∧ uwB t c q (f, j) = true ∧ (ev t (f, j)).msg = x := by
 unfold underC at h
 obtain ⟨j, hj, h1, h2⟩ := uw_mem h
 have hr := hc.at hf
 exact ⟨j, ⟨hf, by simp only; omega⟩, by omega, h1, h2⟩
theorem under_send {t : Tr} {c : List Int} {f : Nat} {q x : Int} (hv : validT t = true) (hc : RangeC t c) (hf : f < t.length) (h : x ∈ underC t c f q) : ∃ j, findE t 2 x = some (f, j) ∧ (ev t (f, j)).peer = q ∧ Inn t (f, j) ∧ (ev t (f, j)).kind = 2 ∧ (ev t (f, j)).msg = x := by
 obtain ⟨j, hin, _, hu, hm⟩ := under_mem hc hf h
 obtain ⟨h2, h3⟩ := uwB_parts hu
 have hp := (pairB_at (validT_parts2.1 hv).2.1 hin (by rw [h2]; decide)).1
 rw [h2, hm] at hp
 exact ⟨j, hp, h3, hin, h2, hm⟩
theorem under_self {t : Tr} {c : List Int} {q : Nat} (hv : validT t = true) (hc : RangeC t c) (hq : q < t.length) : underC t c q (q : Int) = [] := by
 cases h : underC t c q (q : Int) with
 | nil => rfl
 | cons x r =>
   obtain ⟨j, _, hp, hin, hk, _⟩ := under_send hv hc hq (x := x) (by rw [h]; simp)
   have := (shape_peers hv hin (by rw [hk]; decide)).2.2.1
   simp only at this
   omega
section
variable {t : Tr} {c : List Int}
def cutM (t : Tr) (c : List Int) : List Mk := cutL t.length c (fun f q => underC t c f (q : Int))
theorem cutM_len : (cutM t c).length = t.length := cutL_len
theorem cutM_at {q : Nat} (hq : q < t.length) : (cutM t c)[q]! = ⟨c[q]!, List.replicate t.length true, (List.range t.length).map fun f => underC t c f (q : Int)⟩ := cutL_at hq
end
def turnsB (t : Tr) (red : List Int) : Bool := (List.range red.length).all fun p => decide (-1 ≤ red[p]!) && decide (red[p]! ≤ (t[p]!.events.length : Int))
theorem turns_at {t : Tr} {red : List Int} (h : turnsB t red = true) {p : Nat} (hp : p < red.length) : -1 ≤ red[p]! ∧ red[p]! ≤ (t[p]!.events.length : Int) := by
 unfold turnsB at h
 rw [List.all_eq_true] at h
 have := h p (List.mem_range.2 hp)
 simpa using this
theorem turns_range {t : Tr} {red : List Int} (hl : red.length = t.length) (h : turnsB t red = true) : RangeC t (redC t red) := by
 refine ⟨by rw [redC_len, hl], rangeB_iff.2 fun p hp => ?_⟩
 rw [redC_len] at hp
 have := turns_at h hp
 unfold redC
 rw [mapR_at _ hp]
 by_cases e : red[p]! = -1
 ·rw [if_pos e]; omega
 ·rw [if_neg e]; omega
theorem range_turns {t : Tr} {red : List Int} (hl : red.length = t.length) (h : RangeC t (redC t red)) : turnsB t red = true := by
 unfold turnsB
 rw [List.all_eq_true]
 intro p hp
 have hp := List.mem_range.1 hp
 have := h.at (p := p) (by rw [← hl]; exact hp)
 unfold redC at this
 rw [mapR_at _ hp] at this
 by_cases e : red[p]! = -1
 ·rw [Bool.and_eq_true, decide_eq_true_eq, decide_eq_true_eq, e]; omega
 ·rw [if_neg e] at this; rw [Bool.and_eq_true, decide_eq_true_eq, decide_eq_true_eq]; omega
theorem lay_zero {t : Tr} {red : List Int} (hv : validT t = true) (hl : red.length = t.length) (h : turnsB t red = true) : layE t red = 0 ∧ layM t red = cutM t (openC t (redC t red)) := by
 have hr := turns_range hl h
 have h0 : layE t red = 0 := by
  unfold layE repE
  rw [if_neg (by rw [hv]; simp), if_neg (fun hh => hh hl), if_pos (by rw [hv, show fitsB t (redC t red) = true from decide_eq_true hr.1]; rfl), if_pos hr.2]
 refine ⟨h0, ?_⟩
 unfold layM
 rw [if_pos h0]; rfl
end Go.Proofs.Ytfagfooggcinoaa
namespace Go.Proofs.Ytfagfooggcinoaa
open Go.RowKit
set_option linter.unusedVariables false
attribute [local go_sem ↓] Go.wp_at_zero Go.wp_at_succ
set_option maxHeartbeats 8000000 in
set_option maxRecDepth 100000 in
theorem underWayR_calls (v vc : Value) (t : Tr) (c : List Int) (P : Nat) (q : Int) (w : World) (h : TrAt w v t) (hs : SmallTr t) (hc : Ints w vc c) (hr : RangeC t c) (hp : P < t.length) :
  Calls Try.prog 67 #[.agg #[v], vc, .int .i64 P, .int .i64 q] w fun e w' => IntsOut w w' e (underC t c P q) := by
 have HCC := Lib.hid hc
 have HT := Lib.hid h
 have HS := Lib.hid hs
 obtain ⟨ii, hii, iz0, iz1, iz2⟩ := info_parts info_int3
 have HRE := Lib.hid (fun W (hW : Ext w W) m => findR_calls v t 3 m W (h.ext hW) hs)
 obtain ⟨ta, tc, rfl, htc⟩ := h.sh
 obtain ⟨ca, cc, rfl, hlc, _⟩ := hc
 have hsm := hs.1
 have HX0 := Lib.hid (heap_alloc_new w (.cells #[.slice ta t.length tc] 24))
 have HE2 := Lib.hid ((Ext.rf w).al (.cells #[.slice ta t.length tc] 24))
 rw [hr.1] at hlc ⊢
 have HM := Lib.hid hr.1
 have HPL := Lib.hid hp
 have hkr := hr.at hp
 generalize hN : t.length = M at *
 have HN := Lib.hid hN
 obtain ⟨B, O, C, vv, ve, hve, hlC, hB, hn0, hv0, he0, hV, hE0⟩ := proc_at HT.out P (by first | exact HPL.out | (rw [HN.out]; exact hp))
 simp only [Value.slice.injEq] at hve
 obtain ⟨rfl, hzz, rfl⟩ := hve
 have HEV := Lib.hid hE0
 obtain ⟨ea, ec, rfl, hec⟩ := hE0.sh
 obtain ⟨cb, co, rfl, hcb, hcp⟩ := ints_at HCC.out P (by rw [HM.out]; first | exact hp | (rw [HN.out]; exact hp))
 have he1 := HE2.out.cl he0
 have hc1 := HE2.out.cl hcp
 have hen := (HS.out.2 P (by rw [HN.out]; exact hp)).2.1
 generalize hne : t[P]!.events.length = ne at *
 have HNE := Lib.hid hne
 obtain ⟨k, hk⟩ : ∃ k : Nat, c[P]! = (k : Int) := ⟨c[P]!.toNat, by omega⟩
 rw [hk] at hc1 hkr
 have HK := Lib.hid hk
 have hkz : (0 : Int) ≤ (k : Int) := by omega
 have hkm : k ≤ 1000000 := by omega
 have HKN := Lib.hid (show k ≤ ne from by omega)
 have hPz : (0 : Int) ≤ (P : Int) := by omega
 have hPi : (P : Int) < (M : Int) := by omega
 have HU : Hid (underC t c P q = uwTo t c q P k) := Lib.hid (by unfold underC; rw [hk, Int.toNat_natCast])
 rw [HU.out]
 have HE00 := Lib.hid he1
 have HC00 := Lib.hid hc1
 clear h hs hr hp hN hn0 hv0 hV hE0 hzz hne he0 hk hcp hkr
 go_enter Try.func67, Try.ntmps67
 go_wp2
 generalize hw2 : w.alloc (.cells #[.slice (some ⟨B, O, none⟩) M tc] 24) = w2 at *
 clear hw2 he1 hc1
 go_loopg [9, 10] k (fun g s9 s10 wr => ∃ i : Nat, i ≤ k ∧ k - i ≤ g ∧ s10 = .int .i64 i ∧ Aside (Row wr w2.heap.size 3 1 s9 (uwTo t c q P i).length ((uwTo t c q P i).map (Value.int .i64))) ∧ Aside (Ext w2 wr))
 case atStart => exact ⟨0, Nat.zero_le _, by omega, rfl, (show Row _ _ _ _ _ _ _ from Row.mkNil _ _ _ _), Ext.rf _⟩
 case round =>
  obtain ⟨i, hi, hg, rfl, HR, HEK⟩ := hrel
  have HEW := Lib.hid (HE2.out.trans' HEK.out)
  have HY0 := HX0
  have c1 := HEK.out.cl HC00.out
  have e1 := HEK.out.cl HE00.out
  have HXT0 := Lib.hid (HEK.out.hp HX0.out)
  have t0 := cellOf HXT0.out 0
  simp only [List.getElem?_toArray, List.getElem?_cons_zero] at t0
  have l1 : w.heap.size < wr.heap.size := World.block_lt_of_cell? wr _ t0
  have l2 : w.heap.size ≠ wr.heap.size := by omega
  by_cases hli : i < k
  ·have hliz : (i : Int) < (k : Int) := by omega
   have hiz : (0 : Int) ≤ (i : Int) := by omega
   have hine : (i : Int) < (ne : Int) := by have := HKN.out; omega
   obtain ⟨EB, EO, EC, va, hee, hlE, hEB, k0, k1, k2, k3, k4, ha⟩ := event_at HEV.out i (by rw [HNE.out]; have := HKN.out; omega)
   simp only [Value.slice.injEq] at hee
   obtain ⟨rfl, hzz, rfl⟩ := hee
   obtain ⟨va1, va2, rfl, _⟩ := ha.sh
   have m0 := HEW.out.cl k0
   have m1 := HEW.out.cl k1
   have m2 := HEW.out.cl k2
   have m3 := HEW.out.cl k3
   have m4 := HEW.out.cl k4
   have HEVE : Hid (ev t (P, i) = t[P]!.events[i]!) := Lib.hid rfl
   generalize t[P]!.events[i]! = y at *
   generalize y.asg.length = nb at *
   have hel := uwTo_len t c q P i
   have hsz := HEK.out.sz
   clear k0 k1 k2 k3 k4 hzz ha
   have HB6 := Lib.hid (heap_alloc_new wr (e5 (.int .i64 y.kind) (.int .i64 y.peer) (.int .i64 y.msg) (.int .i64 y.time) (.slice va1 nb va2)))
   have HXT := Lib.hid ((Ext.rf wr).al (e5 (.int .i64 y.kind) (.int .i64 y.peer) (.int .i64 y.msg) (.int .i64 y.time) (.slice va1 nb va2)))
   have HT6 := Lib.hid (HXT.out.hp (HEK.out.hp HY0.out))
   obtain ⟨ck, hck⟩ : ∃ b, (y.kind != 2) = b := ⟨_, rfl⟩
   obtain ⟨cp, hcp⟩ : ∃ b, (y.peer != q) = b := ⟨_, rfl⟩
   have HCK := Lib.hid hck
   have HCP := Lib.hid hcp
   cases ck with
   | true =>
     have HUB : Hid (uwB t c q (P, i) = false) := Lib.hid (uwB_kind (by rw [HEVE.out]; have := HCK.out; simpa using this))
     go_wp2
     go_roundg (k - (i + 1))
     case measure => omega
     case rel => exact ⟨i + 1, by omega, by omega, by go_num, (show Row _ _ _ _ _ _ _ from by rw [uwTo_no HUB.out]; exact HR.out.ext HXT.out), HEK.out.trans' HXT.out⟩
   | false =>
     cases cp with
     | true =>
       have HUB : Hid (uwB t c q (P, i) = false) := Lib.hid (uwB_peer (by rw [HEVE.out]; have := HCP.out; simpa using this))
       go_wp2
       go_roundg (k - (i + 1))
       case measure => omega
       case rel => exact ⟨i + 1, by omega, by omega, by go_num, (show Row _ _ _ _ _ _ _ from by rw [uwTo_no HUB.out]; exact HR.out.ext HXT.out), HEK.out.trans' HXT.out⟩
     | false =>
       have HU2 : Hid ((ev t (P, i)).kind = 2 ∧ (ev t (P, i)).peer = q) := Lib.hid (by rw [HEVE.out]; exact ⟨by have := HCK.out; simpa using this, by have := HCP.out; simpa using this⟩)
       have HFW := Lib.hid (HRE.out _ (HEW.out.trans' HXT.out) y.msg)
       obtain ⟨fe, hfe⟩ : ∃ f, findE t 3 y.msg = f := ⟨_, rfl⟩
       rw [hfe] at HFW
       have HFE := Lib.hid hfe
       clear hfe
       cases fe with
       | none =>
         have HUB : Hid (uwB t c q (P, i) = true) := Lib.hid (uwB_none HU2.out.1 HU2.out.2 (by rw [HEVE.out]; exact HFE.out))
         simp only [eidA, eidB] at HFW
         go_wp2_with fail
         clear t0 l1 l2 m0 m1 m2 m3 m4 c1 e1
         refine HFW.out.mono ?_
         rintro e w7 ⟨rfl, hE7⟩
         have HX8 := Lib.hid ((HXT.out.trans' hE7).al (idO 0 0))
         have HB8 := Lib.hid (((Ext.rf w7).al (idO 0 0)).hp (hE7.hp HB6.out))
         have HR8 := Lib.hid (HR.out.ext HX8.out)
         have HEK8 := Lib.hid (HEK.out.trans' HX8.out)
         clear hE7 HXT
         go_wp2
         go_quiet (fail)
         have HBA := Lib.hid (((Ext.rf _).drN nq).hp HB8.out)
         have HRA := Lib.hid (HR8.out.ext ((Ext.rf _).drN nq))
         have HEA := Lib.hid (HEK8.out.drN nq)
         generalize World.drewN _ nq = wA at *
         have hszA := HEA.out.sz
         have y2 := cellOf HBA.out 2
         simp only [List.getElem?_toArray] at y2
         generalize hell : (uwTo t c q P i).length = ell at *
         have HELL := Lib.hid hell
         clear hell
         go_wp2_with ((at_builtin; go_loud (refine wpList_append_one rfl _ _ 25 rfl w2.heap.size 3 ii (.int .i64 0) 1 8 Try.underlying25 hii iz0 iz1 iz2 rfl (by decide) _ ell _ rfl (HRA.out.al _) wA.heap.size 1 [.int .i64 y.msg] rfl rfl ⟨_, heap_alloc_new _ _⟩ (by simp [Value.oneCell']) (by unfold maxLen; omega) (by omega) (by simp; omega) ?_; intro v8 w8 hown8 hgrow8 hblk8; have HOWN := Lib.hid hown8; have HX9 := Lib.hid ((HEA.out.al _).gr hgrow8 (fun z hz => (HRA.out.lt z hz).1)); clear hown8 hgrow8 hblk8)))
         go_roundg (k - (i + 1))
         case measure => omega
         case rel =>
          refine ⟨i + 1, by omega, by omega, by go_num, (show Row _ _ _ _ _ _ _ from ?_), (show Ext _ _ from HX9.out)⟩
          rw [uwTo_yes HUB.out, List.length_append, List.map_append, HELL.out, HEVE.out]
          exact HOWN.out
       | some r =>
         simp only [eidA, eidB] at HFW
         go_wp2_with fail
         clear t0 l1 l2 m0 m1 m2 m3 m4 c1 e1
         refine HFW.out.mono ?_
         rintro e w7 ⟨rfl, hE7⟩
         have HX8 := Lib.hid ((HXT.out.trans' hE7).al (idO (r.1 : Int) ((r.2 : Int) + 1)))
         have HB8 := Lib.hid (((Ext.rf w7).al (idO (r.1 : Int) ((r.2 : Int) + 1))).hp (hE7.hp HB6.out))
         have HI8 := Lib.hid (heap_alloc_new w7 (idO (r.1 : Int) ((r.2 : Int) + 1)))
         have HR8 := Lib.hid (HR.out.ext HX8.out)
         have HEK8 := Lib.hid (HEK.out.trans' HX8.out)
         have HRN := Lib.hid (findE_some HFE.out).1
         have HUS := Lib.hid (uwB_some (c := c) HU2.out.1 HU2.out.2 (by rw [HEVE.out]; exact HFE.out))
         clear hE7 HXT
         obtain ⟨r1, r2⟩ := r
         simp only at *
         have hr1 : r1 < M := by have := HRN.out.1; rw [HN.out] at this; exact this
         obtain ⟨cb', co', hcc, _, hcs⟩ := ints_at HCC.out r1 (by rw [HM.out]; exact hr1)
         simp only [Option.some.injEq, Addr.mk.injEq, and_true] at hcc
         obtain ⟨rfl, rfl⟩ := hcc
         have dsp := (HE2.out.trans' HEK8.out).cl hcs
         have s0 := cellOf HI8.out 0
         have s1c := cellOf HI8.out 1
         simp only [List.getElem?_toArray, List.getElem?_cons_zero, List.getElem?_cons_succ] at s0 s1c
         have hspz : (0 : Int) ≤ (r1 : Int) := by omega
         have hspi : (r1 : Int) < (M : Int) := by omega
         generalize hdg : c[r1]! = dg at *
         clear hdg hcs
         go_wp2
         by_cases hcmp : dg < (r2 : Int) + 1
         ·have d1 : decide (dg < (r2 : Int) + 1) = true := decide_eq_true hcmp
          have HUB : Hid (uwB t c q (P, i) = true) := Lib.hid (by rw [HUS.out]; exact d1)
          clear hcmp
          go_quiet (fail)
          clear d1 dsp s0 s1c
          have HBA := Lib.hid (((Ext.rf _).drN nq).hp HB8.out)
          have HRA := Lib.hid (HR8.out.ext ((Ext.rf _).drN nq))
          have HEA := Lib.hid (HEK8.out.drN nq)
          generalize World.drewN _ nq = wA at *
          have hszA := HEA.out.sz
          have y2 := cellOf HBA.out 2
          simp only [List.getElem?_toArray] at y2
          generalize hell : (uwTo t c q P i).length = ell at *
          have HELL := Lib.hid hell
          clear hell
          go_wp2_with ((at_builtin; go_loud (refine wpList_append_one rfl _ _ 25 rfl w2.heap.size 3 ii (.int .i64 0) 1 8 Try.underlying25 hii iz0 iz1 iz2 rfl (by decide) _ ell _ rfl (HRA.out.al _) wA.heap.size 1 [.int .i64 y.msg] rfl rfl ⟨_, heap_alloc_new _ _⟩ (by simp [Value.oneCell']) (by unfold maxLen; omega) (by omega) (by simp; omega) ?_; intro v8 w8 hown8 hgrow8 hblk8; have HOWN := Lib.hid hown8; have HX9 := Lib.hid ((HEA.out.al _).gr hgrow8 (fun z hz => (HRA.out.lt z hz).1)); clear hown8 hgrow8 hblk8)))
          go_roundg (k - (i + 1))
          case measure => omega
          case rel =>
           refine ⟨i + 1, by omega, by omega, by go_num, (show Row _ _ _ _ _ _ _ from ?_), (show Ext _ _ from HX9.out)⟩
           rw [uwTo_yes HUB.out, List.length_append, List.map_append, HELL.out, HEVE.out]
           exact HOWN.out
         ·have d1 : decide (dg < (r2 : Int) + 1) = false := decide_eq_false hcmp
          have HUB : Hid (uwB t c q (P, i) = false) := Lib.hid (by rw [HUS.out]; exact d1)
          clear hcmp
          go_quiet (fail)
          go_wp2
          go_roundg (k - (i + 1))
          case measure => omega
          case rel => exact ⟨i + 1, by omega, by omega, by go_num, (show Row _ _ _ _ _ _ _ from by rw [uwTo_no HUB.out]; exact HR8.out.ext ((Ext.rf _).drN _)), HEK8.out.drN _⟩
  ·have hliz : ¬ (i : Int) < (k : Int) := by omega
   obtain rfl : k = i := by omega
   go_wp2
   go_ret
   exact ⟨_, rfl, HR.out.mono HE2.out.sz, HEW.out⟩
end Go.Proofs.Ytfagfooggcinoaa
namespace Go.Proofs.Ytfagfooggcinoaa
set_option linter.unusedVariables false
open Classical in
noncomputable def depN (t : Tr) (x : Eid) : Nat := ((ids t).filter fun y => decide (Relation.TransGen (Dir t) y x)).length
theorem depN_lt {t : Tr} (hc : ¬ Cyc t) {y x : Eid} (h : Relation.TransGen (Dir t) y x) : depN t y < depN t x := by
 classical
 unfold depN
 refine filter_lt _ _ _ (fun z _ hz => ?_) y (mem_ids.2 (tg_inn_l h)) (by simpa using h) ?_
 ·rw [decide_eq_true_eq] at hz ⊢; exact hz.trans h
 ·rw [decide_eq_false_iff_not]; exact fun hy => hc ⟨y, hy⟩
theorem depN_le (t : Tr) (x : Eid) : depN t x ≤ (ids t).length := List.length_filter_le _ _
theorem proc_before {t : Tr} {p j : Nat} (hp : p < t.length) : ∀ i, j < i → i < t[p]!.events.length → Relation.TransGen (Dir t) (p, j) (p, i) := by
 intro i
 induction i with
 | zero => intro h; exact absurd h (Nat.not_lt_zero _)
 | succ i ih =>
   intro h hi
   have hd : Dir t (p, i) (p, i + 1) := ⟨⟨hp, hi⟩, .inl ⟨rfl, rfl⟩⟩
   by_cases e : j = i
   ·subst e; exact .single hd
   ·exact .tail (ih (by omega) (by omega)) hd
abbrev Stm := Nat → Nat → Nat
def latS (S : Stm) (l : List Eid) : Nat := l.foldl (fun k y => max k (S y.1 y.2)) 0
theorem lat_fold_le {S : Stm} {m : Nat} : ∀ (l : List Eid) (k : Nat), k ≤ m → (∀ y ∈ l, S y.1 y.2 ≤ m) → l.foldl (fun k y => max k (S y.1 y.2)) k ≤ m
 | [], k, h, _ => h
 | a :: l, k, h, hl => by
   rw [List.foldl_cons]
   have h1 := hl a (by simp)
   exact lat_fold_le l _ (by omega) fun y hy => hl y (by simp [hy])
theorem lat_fold_ge {S : Stm} : ∀ (l : List Eid) (k : Nat), k ≤ l.foldl (fun k y => max k (S y.1 y.2)) k
 | [], k => Nat.le_refl _
 | a :: l, k => by
   rw [List.foldl_cons]
   have := lat_fold_ge (S := S) l (max k (S a.1 a.2))
   omega
theorem lat_fold_mem {S : Stm} : ∀ (l : List Eid) (k : Nat) (y : Eid), y ∈ l → S y.1 y.2 ≤ l.foldl (fun k y => max k (S y.1 y.2)) k
 | [], _, y, h => by cases h
 | a :: l, k, y, h => by
   rw [List.foldl_cons]
   rcases List.mem_cons.1 h with rfl | h
   ·have := lat_fold_ge (S := S) l (max k (S y.1 y.2)); omega
   ·exact lat_fold_mem l _ y h
theorem lat_take {S : Stm} {l : List Eid} {k : Nat} (hk : k < l.length) : latS S (l.take (k + 1)) = max (latS S (l.take k)) (S l[k]!.1 l[k]!.2) := by
 unfold latS
 rw [List.take_succ_eq_append_getElem hk, List.foldl_append, getElem!_pos l k hk]; rfl
def updS (S : Stm) (p i v : Nat) : Stm := fun a b => if a = p ∧ b = i then v else S a b
theorem updS_at {S : Stm} {p i v : Nat} : updS S p i v p i = v := if_pos ⟨rfl, rfl⟩
theorem updS_ne {S : Stm} {p i v a b : Nat} (h : ¬ (a = p ∧ b = i)) : updS S p i v a b = S a b := if_neg h
def StI (t : Tr) (S : Stm) : Prop := ∀ x, Inn t x → S x.1 x.2 ≤ depN t x + 1
theorem StI.step {t : Tr} {S : Stm} (hc : ¬ Cyc t) (h : StI t S) {x : Eid} (hx : Inn t x) : latS S (bef t x) ≤ depN t x :=
 lat_fold_le _ _ (Nat.zero_le _) fun y hy => by
  have hd := (mem_bef hx).1 hy
  have h1 := h y (tg_inn_l (.single hd))
  have h2 := depN_lt hc (.single hd)
  omega
theorem StI.upd {t : Tr} {S : Stm} (hc : ¬ Cyc t) (h : StI t S) {p i : Nat} (hx : Inn t (p, i)) : StI t (updS S p i (1 + latS S (bef t (p, i)))) := fun y hy => by
 by_cases e : y.1 = p ∧ y.2 = i
 ·obtain ⟨y1, y2⟩ := y
  simp only at e
  obtain ⟨rfl, rfl⟩ := e
  simp only
  rw [updS_at]
  have := h.step hc hx
  omega
 ·rw [updS_ne e]; exact h y hy
noncomputable def roomS (t : Tr) (S : Stm) : Nat := ((ids t).map fun x => depN t x + 1 - S x.1 x.2).sum
theorem sum_leS {f g : Eid → Nat} : ∀ {l : List Eid}, (∀ x ∈ l, f x ≤ g x) → (l.map f).sum ≤ (l.map g).sum
 | [], _ => Nat.le_refl _
 | a :: l, h => by
   simp only [List.map_cons, List.sum_cons]
   have h1 := h a (by simp)
   have h2 := sum_leS (l := l) fun x hx => h x (by simp [hx])
   omega
theorem sum_ltS {f g : Eid → Nat} : ∀ {l : List Eid}, (∀ x ∈ l, f x ≤ g x) → ∀ {a : Eid}, a ∈ l → f a < g a → (l.map f).sum < (l.map g).sum
 | [], _, a, ha, _ => by cases ha
 | b :: l, h, a, ha, hlt => by
   simp only [List.map_cons, List.sum_cons]
   have h1 := h b (by simp)
   rcases List.mem_cons.1 ha with rfl | ha
   ·have h2 := sum_leS (l := l) fun x hx => h x (by simp [hx]); omega
   ·have h2 := sum_ltS (l := l) (fun x hx => h x (by simp [hx])) ha hlt; omega
theorem room_upd {t : Tr} {S : Stm} (hc : ¬ Cyc t) (h : StI t S) {p i : Nat} (hx : Inn t (p, i)) (hlt : S p i < 1 + latS S (bef t (p, i))) : roomS t (updS S p i (1 + latS S (bef t (p, i)))) < roomS t S := by
 unfold roomS
 have hs := h.step hc hx
 refine sum_ltS (fun y _ => ?_) (mem_ids.2 hx) ?_
 ·by_cases e : y.1 = p ∧ y.2 = i
  ·rw [e.1, e.2, updS_at]; omega
  ·rw [updS_ne e]; exact Nat.le_refl _
 ·simp only
  rw [updS_at]; omega
structure PasS (t : Tr) (S0 S : Stm) (p i : Nat) (m : Bool) : Prop where
 up : StI t S
 no : m = false → S = S0 ∧ ∀ y ∈ idsTo t p i, 1 + latS S0 (bef t y) ≤ S0 y.1 y.2
 yes : m = true → roomS t S < roomS t S0
theorem PasS.start {t : Tr} {S : Stm} (h : StI t S) : PasS t S S 0 0 false := ⟨h, fun _ => ⟨rfl, fun y hy => by rw [idsTo_zero] at hy; cases hy⟩, fun h => by cases h⟩
theorem PasS.same {t : Tr} {S0 S : Stm} {p i : Nat} {m : Bool} (h : PasS t S0 S p i m) (hn : ¬ S p i < 1 + latS S (bef t (p, i))) : PasS t S0 S p (i + 1) m :=
 ⟨h.up, fun hm => by
  obtain ⟨rfl, h2⟩ := h.no hm
  refine ⟨rfl, fun y hy => ?_⟩
  rw [idsTo_succ] at hy
  rcases List.mem_append.1 hy with hy | hy
  ·exact h2 y hy
  ·obtain rfl := List.mem_singleton.1 hy
   simp only; omega, h.yes⟩
theorem PasS.more {t : Tr} {S0 S : Stm} {p i : Nat} {m : Bool} (hc : ¬ Cyc t) (h : PasS t S0 S p i m) (hx : Inn t (p, i)) (hn : S p i < 1 + latS S (bef t (p, i))) : PasS t S0 (updS S p i (1 + latS S (bef t (p, i)))) p (i + 1) true :=
 ⟨h.up.upd hc hx, (fun hm => by cases hm), fun _ => by
  have h1 := room_upd hc h.up hx hn
  cases m with
  | false => rw [(h.no rfl).1] at h1 ⊢; exact h1
  | true => exact Nat.lt_trans h1 (h.yes rfl)⟩
theorem PasS.next {t : Tr} {S0 S : Stm} {p : Nat} {m : Bool} (h : PasS t S0 S p t[p]!.events.length m) : PasS t S0 S (p + 1) 0 m :=
 ⟨h.up, fun hm => by rw [← idsTo_next]; exact h.no hm, h.yes⟩
def FixS (t : Tr) (S : Stm) : Prop := ∀ x, Inn t x → 1 + latS S (bef t x) ≤ S x.1 x.2
theorem PasS.fix {t : Tr} {S0 S : Stm} (h : PasS t S0 S t.length 0 false) : FixS t S := fun x hx => by
 obtain ⟨rfl, h2⟩ := h.no rfl
 exact h2 x (mem_ids.2 hx)
theorem FixS.pos {t : Tr} {S : Stm} (h : FixS t S) {x : Eid} (hx : Inn t x) : 1 ≤ S x.1 x.2 := by have := h x hx; omega
theorem FixS.lt {t : Tr} {S : Stm} (h : FixS t S) {y x : Eid} (hd : Relation.TransGen (Dir t) y x) : S y.1 y.2 < S x.1 x.2 := by
 induction hd with
 | single hd =>
   have h1 := h _ hd.1
   have h2 := lat_fold_mem (S := S) (bef t _) 0 y ((mem_bef hd.1).2 hd)
   unfold latS at h1
   omega
 | tail _ hd ih =>
   have h1 := h _ hd.1
   have h2 := lat_fold_mem (S := S) (bef t _) 0 _ ((mem_bef hd.1).2 hd)
   unfold latS at h1
   omega
theorem ids_nodupC (t : Tr) : (ids t).Nodup := (idsTo_sorted t t.length 0).imp fun {a b} h => by rintro rfl; unfold before at h; omega
theorem ids_smallC {t : Tr} (hs : SmallTr t) : (ids t).length ≤ 1000000 * 1000000 := by
 have key : ∀ p, p ≤ t.length → (idsTo t p 0).length ≤ p * 1000000 := by
  intro p
  induction p with
  | zero => intro _; simp [idsTo_zero]
  | succ p ih =>
    intro hp
    rw [← idsTo_next]
    have e : idsTo t p t[p]!.events.length = idsTo t p 0 ++ (List.range t[p]!.events.length).map fun j => (p, j) := by simp [idsTo]
    rw [e, List.length_append, List.length_map, List.length_range, Nat.add_mul]
    have := ih (by omega)
    have := (hs.2 p (by omega)).2.1
    omega
 have := key t.length (Nat.le_refl _)
 exact Nat.le_trans this (Nat.mul_le_mul_right _ hs.1)
def totTo (t : Tr) (S : Stm) (K p i : Nat) : List Eid := ((List.range K).flatMap fun k => (ids t).filter fun x => decide (S x.1 x.2 = k + 1)) ++ (idsTo t p i).filter fun x => decide (S x.1 x.2 = K + 1)
section
variable {t : Tr} {S : Stm} {K p i : Nat}
theorem tot_zero : totTo t S 0 0 0 = [] := rfl
theorem tot_yes (h : S p i = K + 1) : totTo t S K p (i + 1) = totTo t S K p i ++ [(p, i)] := by
 unfold totTo; rw [idsTo_succ, List.filter_append, ← List.append_assoc]
 congr 1
 rw [List.filter_cons_of_pos (by simpa using h)]; rfl
theorem tot_no (h : S p i ≠ K + 1) : totTo t S K p (i + 1) = totTo t S K p i := by
 unfold totTo; rw [idsTo_succ, List.filter_append, List.filter_cons_of_neg (by simpa using h)]; simp
theorem tot_next : totTo t S K p t[p]!.events.length = totTo t S K (p + 1) 0 := by unfold totTo; rw [idsTo_next]
theorem tot_level : totTo t S K t.length 0 = totTo t S (K + 1) 0 0 := by
 unfold totTo
 rw [List.range_succ, List.flatMap_append]
 simp only [List.flatMap_cons, List.flatMap_nil, List.append_nil, idsTo_zero, List.filter_nil]
 rfl
theorem tot_mem {x : Eid} : x ∈ totTo t S K 0 0 ↔ Inn t x ∧ 1 ≤ S x.1 x.2 ∧ S x.1 x.2 ≤ K := by
 unfold totTo
 rw [idsTo_zero, List.filter_nil, List.append_nil, List.mem_flatMap]
 constructor
 ·rintro ⟨k, hk, hx⟩
  obtain ⟨h1, h2⟩ := List.mem_filter.1 hx
  have hk := List.mem_range.1 hk
  rw [decide_eq_true_eq] at h2
  exact ⟨mem_ids.1 h1, by omega, by omega⟩
 ·rintro ⟨h1, h2, h3⟩
  exact ⟨S x.1 x.2 - 1, List.mem_range.2 (by omega), List.mem_filter.2 ⟨mem_ids.2 h1, by rw [decide_eq_true_eq]; omega⟩⟩
theorem tot_succ : totTo t S (K + 1) 0 0 = totTo t S K 0 0 ++ (ids t).filter fun x => decide (S x.1 x.2 = K + 1) := by
 rw [← tot_level]
 unfold totTo
 rw [idsTo_zero, List.filter_nil, List.append_nil]; rfl
theorem tot_nodup : (totTo t S K 0 0).Nodup := by
 induction K with
 | zero => exact List.nodup_nil
 | succ K ih =>
   rw [tot_succ, List.nodup_append]
   refine ⟨ih, (ids_nodupC t).filter _, fun a ha b hb => ?_⟩
   rintro rfl
   have h1 := (tot_mem.1 ha).2.2
   have h2 := (List.mem_filter.1 hb).2
   rw [decide_eq_true_eq] at h2
   omega
theorem tot_sorted : (totTo t S K 0 0).Pairwise fun a b => S a.1 a.2 ≤ S b.1 b.2 := by
 induction K with
 | zero => exact List.Pairwise.nil
 | succ K ih =>
   rw [tot_succ, List.pairwise_append]
   refine ⟨ih, ?_, fun a ha b hb => ?_⟩
   ·refine List.Pairwise.imp_of_mem ?_ (ids_nodupC t |>.filter _)
    intro a b ha hb _
    have h1 := (List.mem_filter.1 ha).2
    have h2 := (List.mem_filter.1 hb).2
    rw [decide_eq_true_eq] at h1 h2
    omega
   ·have h1 := (tot_mem.1 ha).2.2
    have h2 := (List.mem_filter.1 hb).2
    rw [decide_eq_true_eq] at h2
    omega
theorem filter_split (l : List Eid) : (l.filter fun x => decide (S x.1 x.2 ≤ K + 1)).length = (l.filter fun x => decide (S x.1 x.2 ≤ K)).length + (l.filter fun x => decide (S x.1 x.2 = K + 1)).length := by
 induction l with
 | nil => rfl
 | cons a l ih =>
   simp only [List.filter_cons]
   by_cases h1 : S a.1 a.2 ≤ K
   ·rw [if_pos (by simpa using (show S a.1 a.2 ≤ K + 1 by omega)), if_pos (by simpa using h1), if_neg (by simp; omega)]
    simp only [List.length_cons]; omega
   ·by_cases h2 : S a.1 a.2 = K + 1
    ·rw [if_pos (by simpa using (show S a.1 a.2 ≤ K + 1 by omega)), if_neg (by simpa using h1), if_pos (by simpa using h2)]
     simp only [List.length_cons]; omega
    ·rw [if_neg (by simp; omega), if_neg (by simpa using h1), if_neg (by simpa using h2)]
     exact ih
theorem tot_len (hf : FixS t S) : (totTo t S K 0 0).length = ((ids t).filter fun x => decide (S x.1 x.2 ≤ K)).length := by
 induction K with
 | zero =>
   rw [List.filter_eq_nil_iff.2 fun x hx => by
    have := hf.pos (mem_ids.1 hx)
    simp; omega]
   rfl
 | succ K ih => rw [tot_succ, List.length_append, ih, filter_split]
theorem tot_le (hf : FixS t S) : (totTo t S K 0 0).length ≤ (ids t).length := by rw [tot_len hf]; exact List.length_filter_le _ _
theorem tot_all (hf : FixS t S) (h : (ids t).length ≤ (totTo t S K 0 0).length) {x : Eid} (hx : Inn t x) : x ∈ totTo t S K 0 0 := by
 have h1 := tot_le (K := K) hf
 rw [tot_len hf] at h h1
 have h2 := List.length_filter_eq_length_iff.1 (Nat.le_antisymm h1 h) x (mem_ids.2 hx)
 rw [decide_eq_true_eq] at h2
 exact tot_mem.2 ⟨hx, hf.pos hx, h2⟩
theorem tot_full (hf : FixS t S) (h : ∀ x, Inn t x → S x.1 x.2 ≤ K) : (totTo t S K 0 0).length = (ids t).length := by
 rw [tot_len hf, List.length_filter_eq_length_iff]
 intro x hx
 rw [decide_eq_true_eq]; exact h x (mem_ids.1 hx)
end
structure OrdL (t : Tr) (S : Stm) (l : List Eid) : Prop where
 fx : FixS t S
 inn : ∀ x, x ∈ l ↔ Inn t x
 nd : l.Nodup
 srt : l.Pairwise fun a b => S a.1 a.2 ≤ S b.1 b.2
theorem ord_tot {t : Tr} {S : Stm} {K : Nat} (hf : FixS t S) (h : (ids t).length ≤ (totTo t S K 0 0).length) : OrdL t S (totTo t S K 0 0) :=
 ⟨hf, fun x => ⟨fun hx => (tot_mem.1 hx).1, fun hx => tot_all hf h hx⟩, tot_nodup, tot_sorted⟩
theorem OrdL.prior {t : Tr} {S : Stm} {l : List Eid} (h : OrdL t S l) {k : Nat} (hk : k < l.length) {y : Eid} (hy : Inn t y) (hlt : S y.1 y.2 < S l[k]!.1 l[k]!.2) : y ∈ l.take k := by
 obtain ⟨j, hj, rfl⟩ := List.getElem_of_mem ((h.inn y).2 hy)
 rw [getElem!_pos l k hk] at hlt
 by_cases hjk : j < k
 ·exact List.mem_take_iff_getElem.2 ⟨j, by omega, rfl⟩
 ·exfalso
  by_cases e : j = k
  ·subst e; omega
  ·have := (List.pairwise_iff_getElem.1 h.srt) k j hk hj (by omega)
   omega
theorem OrdL.fresh {t : Tr} {S : Stm} {l : List Eid} (h : OrdL t S l) {k : Nat} (hk : k < l.length) : l[k]! ∉ l.take k := by
 intro hx
 rw [getElem!_pos l k hk] at hx
 obtain ⟨j, hj, e⟩ := List.mem_take_iff_getElem.1 hx
 have := (List.pairwise_iff_getElem.1 h.nd) j k (by omega) hk (by omega)
 exact this e
def ly1 (red T D : List Int) (p : Nat) : List Int := if T[p]! < 0 ∧ red[p]! = D[p]! then T.set p D[p]! else T
def ly2 (t : Tr) (T D : List Int) (x : Eid) : List Int :=
 if (ev t x).kind = 3 ∧ T[x.1]! < 0 then match findE t 2 (ev t x).msg with
  | some s => if 0 ≤ T[s.1]! ∧ T[s.1]! < (s.2 : Int) + 1 then T.set x.1 D[x.1]! else T
  | none => T
 else T
structure LyI (t : Tr) (C : List Int) (l : List Eid) (k : Nat) (T D : List Int) : Prop where
 tl : T.length = t.length
 dl : D.length = t.length
 dn : ∀ p, p < t.length → ∃ d : Nat, D[p]! = (d : Int) ∧ ∀ j, (p, j) ∈ l.take k ↔ j < d
 lo : ∀ p, p < t.length → T[p]! < 0 → D[p]! ≤ C[p]!
 hi : ∀ p, p < t.length → 0 ≤ T[p]! → T[p]! = C[p]!
theorem setZ_at {l : List Int} {k : Nat} (hk : k < l.length) (b : Int) : (l.set k b)[k]! = b := setG_at hk b
theorem setZ_ne {l : List Int} {k j : Nat} (h : j ≠ k) (x : Int) : (l.set k x)[j]! = l[j]! := setG_ne h x
theorem LyI.start {t : Tr} {C : List Int} {l : List Eid} (hc : RangeC t C) : LyI t C l 0 (List.replicate t.length (-1)) (List.replicate t.length 0) := by
 refine ⟨List.length_replicate .., List.length_replicate .., fun p hp => ⟨0, rep_get hp, fun j => ?_⟩, fun p hp _ => ?_, fun p hp h => ?_⟩
 ·simp
 ·rw [rep_get hp]; exact (hc.at hp).1
 ·rw [rep_get hp] at h; omega
theorem redC_at {t : Tr} {red : List Int} {p : Nat} (hp : p < red.length) : (redC t red)[p]! = if red[p]! = -1 then (t[p]!.events.length : Int) else red[p]! := by
 unfold redC; rw [mapR_at _ hp]
theorem LyI.step {t : Tr} {red C : List Int} {S : Stm} {l : List Eid} {k : Nat} {T D : List Int} (hv : validT t = true) (hO : OrdL t S l) (hl : red.length = t.length) (hC : ConsC t C) (hle : LeC C (redC t red)) (hgr : ∀ e, ConsC t e → LeC e (redC t red) → LeC e C)
  (h : LyI t C l k T D) (hk : k < l.length) : LyI t C l (k + 1) (ly2 t (ly1 red T D l[k]!.1) D l[k]!) (D.set l[k]!.1 (D[l[k]!.1]! + 1)) ∧ D[l[k]!.1]! = (l[k]!.2 : Int) := by
 have hin : Inn t l[k]! := (hO.inn _).1 (by rw [getElem!_pos l k hk]; exact List.getElem_mem hk)
 have hfr := hO.fresh hk
 have hpr := fun y hy hlt => hO.prior hk (y := y) hy hlt
 have htk : l.take (k + 1) = l.take k ++ [l[k]!] := by rw [List.take_succ_eq_append_getElem hk, getElem!_pos l k hk]
 generalize l[k]! = x at *
 obtain ⟨p, i⟩ := x
 simp only at hin hfr hpr ⊢
 have hp : p < t.length := hin.1
 have hi : i < t[p]!.events.length := hin.2
 obtain ⟨d, hd, hdm⟩ := h.dn p hp
 have hdi : d = i := by
  have h1 : ¬ i < d := fun hh => hfr ((hdm i).2 hh)
  by_cases h2 : d < i
  ·have h3 := hpr (p, d) ⟨hp, by show d < t[p]!.events.length; omega⟩ (hO.fx.lt (proc_before hp i h2 hi))
   have := (hdm d).1 h3
   omega
  ·omega
 subst hdi
 have hrC := hC.1.at hp
 have hCl : C.length = t.length := hC.1.1
 have ha : ∀ q, q < t.length → 0 ≤ (ly1 red T D p)[q]! → (ly1 red T D p)[q]! = C[q]! := by
  intro q hq hz
  unfold ly1 at hz ⊢
  by_cases hc1 : T[p]! < 0 ∧ red[p]! = D[p]!
  ·rw [if_pos hc1] at hz ⊢
   by_cases e : q = p
   ·subst e
    rw [setZ_at (by rw [h.tl]; exact hq), hd]
    have h1 := h.lo q hq hc1.1
    have h2 := hle q (by omega)
    rw [redC_at (by omega), if_neg (by rw [hc1.2, hd]; omega), hc1.2, hd] at h2
    rw [hd] at h1
    omega
   ·rw [setZ_ne e] at hz ⊢; exact h.hi q hq hz
  ·rw [if_neg hc1] at hz ⊢; exact h.hi q hq hz
 have hal : (ly1 red T D p).length = t.length := by
  unfold ly1
  split
  ·rw [List.length_set]; exact h.tl
  ·exact h.tl
 have hb : ∀ q, q < t.length → (ly1 red T D p)[q]! < 0 → T[q]! < 0 ∧ (q = p → red[p]! ≠ D[p]!) := by
  intro q hq hz
  unfold ly1 at hz
  by_cases hc1 : T[p]! < 0 ∧ red[p]! = D[p]!
  ·rw [if_pos hc1] at hz
   by_cases e : q = p
   ·subst e; rw [setZ_at (by rw [h.tl]; exact hq), hd] at hz; omega
   ·rw [setZ_ne e] at hz; exact ⟨hz, fun he => absurd he e⟩
  ·rw [if_neg hc1] at hz
   refine ⟨hz, fun e => ?_⟩
   subst e
   exact fun he => hc1 ⟨hz, he⟩
 generalize ly1 red T D p = T1 at *
 have hsd : (ev t (p, d)).kind = 3 → ∃ s, findE t 2 (ev t (p, d)).msg = some s ∧ Inn t s ∧ s ∈ l.take k := by
  intro hk3
  obtain ⟨s, s1, _, _, s2, _⟩ := send_peer hv hin hk3
  exact ⟨s, s1, s2, hpr s s2 (hO.fx.lt (.single ⟨hin, .inr ⟨hk3, s1⟩⟩))⟩
 have hsC : (ev t (p, d)).kind = 3 → ∀ s, findE t 2 (ev t (p, d)).msg = some s → (d : Int) < C[p]! → (s.2 : Int) + 1 ≤ C[s.1]! := by
  intro hk3 s hs hlt
  have h1 := missE_none.1 hC.2 (p, d) ⟨by omega, hlt⟩
  rw [sentB_recv hk3 hs] at h1
  simpa using h1
 have ha2 : ∀ q, q < t.length → 0 ≤ (ly2 t T1 D (p, d))[q]! → (ly2 t T1 D (p, d))[q]! = C[q]! := by
  intro q hq hz
  unfold ly2 at hz ⊢
  by_cases hc1 : (ev t (p, d)).kind = 3 ∧ T1[p]! < 0
  ·rw [if_pos hc1] at hz ⊢
   obtain ⟨s, hs, hsi, _⟩ := hsd hc1.1
   rw [hs] at hz ⊢
   simp only at hz ⊢
   by_cases hc2 : 0 ≤ T1[s.1]! ∧ T1[s.1]! < (s.2 : Int) + 1
   ·rw [if_pos hc2] at hz ⊢
    by_cases e : q = p
    ·subst e
     rw [setZ_at (by rw [hal]; exact hq), hd]
     have h1 := h.lo q hq (hb q hq hc1.2).1
     rw [hd] at h1
     by_cases h2 : (d : Int) < C[q]!
     ·have h3 := hsC hc1.1 s hs h2
      have h4 := ha s.1 hsi.1 hc2.1
      omega
     ·omega
    ·rw [setZ_ne e] at hz ⊢; exact ha q hq hz
   ·rw [if_neg hc2] at hz ⊢; exact ha q hq hz
  ·rw [if_neg hc1] at hz ⊢; exact ha q hq hz
 have hal2 : (ly2 t T1 D (p, d)).length = t.length := by
  unfold ly2
  split
  ·split
   ·split
    ·rw [List.length_set]; exact hal
    ·exact hal
   ·exact hal
  ·exact hal
 have hb2 : ∀ q, q < t.length → (ly2 t T1 D (p, d))[q]! < 0 → T1[q]! < 0 ∧ (q = p → (ev t (p, d)).kind = 3 → ∀ s, findE t 2 (ev t (p, d)).msg = some s → ¬ (0 ≤ T1[s.1]! ∧ T1[s.1]! < (s.2 : Int) + 1)) := by
  intro q hq hz
  unfold ly2 at hz
  by_cases hc1 : (ev t (p, d)).kind = 3 ∧ T1[p]! < 0
  ·rw [if_pos hc1] at hz
   obtain ⟨s, hs, hsi, _⟩ := hsd hc1.1
   rw [hs] at hz
   simp only at hz
   by_cases hc2 : 0 ≤ T1[s.1]! ∧ T1[s.1]! < (s.2 : Int) + 1
   ·rw [if_pos hc2] at hz
    by_cases e : q = p
    ·subst e; rw [setZ_at (by rw [hal]; exact hq), hd] at hz; omega
    ·rw [setZ_ne e] at hz; exact ⟨hz, fun he => absurd he e⟩
   ·rw [if_neg hc2] at hz
    refine ⟨hz, fun _ _ s' hs' => ?_⟩
    rw [hs] at hs'
    obtain rfl := Option.some.inj hs'
    exact hc2
  ·rw [if_neg hc1] at hz
   refine ⟨hz, fun e hk3 => ?_⟩
   subst e
   exact absurd ⟨hk3, hz⟩ hc1
 have hdl : p < D.length := by rw [h.dl]; exact hp
 refine ⟨⟨hal2, by rw [List.length_set]; exact h.dl, fun q hq => ?_, fun q hq hz => ?_, ha2⟩, hd⟩
 ·by_cases e : q = p
  ·subst e
   refine ⟨d + 1, by rw [setZ_at hdl, hd]; omega, fun j => ?_⟩
   rw [htk, List.mem_append, hdm, List.mem_singleton, Prod.mk.injEq]
   constructor
   ·rintro (h1 | ⟨_, h1⟩) <;> omega
   ·intro h1
    by_cases e : j = d
    ·exact .inr ⟨rfl, e⟩
    ·exact .inl (by omega)
  ·obtain ⟨d', h1, h2⟩ := h.dn q hq
   refine ⟨d', by rw [setZ_ne e]; exact h1, fun j => ?_⟩
   rw [htk, List.mem_append, h2, List.mem_singleton, Prod.mk.injEq]
   constructor
   ·rintro (h3 | ⟨h3, _⟩)
    ·exact h3
    ·exact absurd h3 e
   ·exact .inl
 ·obtain ⟨hz1, hz2⟩ := hb2 q hq hz
  obtain ⟨hz3, hz4⟩ := hb q hq hz1
  by_cases e : q = p
  ·subst e
   rw [setZ_at hdl, hd]
   have h1 := h.lo q hq hz3
   rw [hd] at h1
   by_cases h2 : (d : Int) < C[q]!
   ·omega
   ·exfalso
    have hCq : C[q]! = (d : Int) := by omega
    have hql : q < C.length := by omega
    have hK : ConsC t (C.set q ((d : Int) + 1)) := by
     refine ⟨⟨by rw [List.length_set]; exact hCl, rangeB_iff.2 fun a ha => ?_⟩, missE_none.2 fun y hy => ?_⟩
     ·rw [List.length_set] at ha
      by_cases e : a = q
      ·subst e; rw [setZ_at hql]; omega
      ·rw [setZ_ne e]; exact hC.1.at (by omega)
     ·have hmono : ∀ a : Nat, C[a]! ≤ (C.set q ((d : Int) + 1))[a]! := fun a => by
       by_cases e : a = q
       ·subst e; rw [setZ_at hql]; omega
       ·rw [setZ_ne e]; exact Int.le_refl _
      by_cases hk3 : (ev t y).kind = 3
      ·by_cases ey : y = (q, d)
       ·subst ey
        obtain ⟨s, hs, hsi, hst⟩ := hsd hk3
        rw [sentB_recv hk3 hs, decide_eq_true_eq]
        refine Int.le_trans ?_ (hmono s.1)
        have h5 := hz2 rfl hk3 s hs
        by_cases h6 : 0 ≤ T1[s.1]!
        ·have h7 := ha s.1 hsi.1 h6
         omega
        ·have h7 := h.lo s.1 hsi.1 (hb s.1 hsi.1 (by omega)).1
         obtain ⟨d', h8, h9⟩ := h.dn s.1 hsi.1
         have h10 := (h9 s.2).1 hst
         omega
       ·have hyC : InC C y := by
         obtain ⟨y1, y2⟩ := y
         obtain ⟨hy1, hy2⟩ := hy
         rw [List.length_set] at hy1
         refine ⟨hy1, ?_⟩
         simp only at hy1 hy2 ⊢
         by_cases e : y1 = q
         ·subst e
          rw [setZ_at hql] at hy2
          have : y2 ≠ d := fun hh => ey (by rw [hh])
          omega
         ·rw [setZ_ne e] at hy2; exact hy2
        have h5 := missE_none.1 hC.2 y hyC
        obtain ⟨s, hs, _⟩ := send_peer hv (hC.1.inn hyC) hk3
        rw [sentB_recv hk3 hs, decide_eq_true_eq] at h5 ⊢
        exact Int.le_trans h5 (hmono s.1)
      ·exact sentB_other hk3
    have hKle : LeC (C.set q ((d : Int) + 1)) (redC t red) := by
     intro a ha
     rw [List.length_set] at ha
     by_cases e : a = q
     ·subst e
      rw [setZ_at hql, redC_at (by omega)]
      have h3 := hle a ha
      rw [redC_at (by omega), hCq] at h3
      have h4 := hz4 rfl
      rw [hd] at h4
      by_cases h5 : red[a]! = -1
      ·rw [if_pos h5]; omega
      ·rw [if_neg h5] at h3 ⊢; omega
     ·rw [setZ_ne e]; exact hle a ha
    have h3 := hgr _ hK hKle q (by rw [List.length_set]; exact hql)
    rw [setZ_at hql] at h3
    omega
  ·rw [setZ_ne e]; exact h.lo q hq hz3
def lyEnd (T D : List Int) (k : Nat) : List Int := (List.range T.length).map fun p => if p < k ∧ T[p]! < 0 then D[p]! else T[p]!
theorem lyEnd_len {T D : List Int} {k : Nat} : (lyEnd T D k).length = T.length := by simp [lyEnd]
theorem lyEnd_at {T D : List Int} {k p : Nat} (hp : p < T.length) : (lyEnd T D k)[p]! = if p < k ∧ T[p]! < 0 then D[p]! else T[p]! := by
 unfold lyEnd; rw [mapR_at _ hp]
theorem lyEnd_zero {T D : List Int} : lyEnd T D 0 = T := list_ext lyEnd_len fun p hp => by
 rw [lyEnd_len] at hp; rw [lyEnd_at hp, if_neg (by omega)]
theorem lyEnd_yes {T D : List Int} {k : Nat} (hk : k < T.length) (h : T[k]! < 0) : (lyEnd T D k).set k D[k]! = lyEnd T D (k + 1) := list_ext (by rw [List.length_set, lyEnd_len, lyEnd_len]) fun p hp => by
 rw [List.length_set, lyEnd_len] at hp
 by_cases e : p = k
 ·subst e; rw [setZ_at (by rw [lyEnd_len]; exact hp), lyEnd_at hp, if_pos ⟨by omega, h⟩]
 ·rw [setZ_ne e, lyEnd_at hp, lyEnd_at hp]
  have : (p < k ∧ T[p]! < 0) = (p < k + 1 ∧ T[p]! < 0) := by rw [eq_iff_iff]; omega
  simp only [this]
theorem lyEnd_no {T D : List Int} {k : Nat} (h : ¬ T[k]! < 0) : lyEnd T D k = lyEnd T D (k + 1) := list_ext (by rw [lyEnd_len, lyEnd_len]) fun p hp => by
 rw [lyEnd_len] at hp
 rw [lyEnd_at hp, lyEnd_at hp]
 have : (p < k ∧ T[p]! < 0) = (p < k + 1 ∧ T[p]! < 0) := by
  rw [eq_iff_iff]
  constructor
  ·rintro ⟨h1, h2⟩; exact ⟨by omega, h2⟩
  ·rintro ⟨h1, h2⟩
   refine ⟨?_, h2⟩
   by_cases e : p = k
   ·subst e; exact absurd h2 h
   ·omega
 simp only [this]
theorem ly_turned {t : Tr} {C : List Int} {S : Stm} {l : List Eid} {T D : List Int} (hO : OrdL t S l) (hC : RangeC t C) (h : LyI t C l l.length T D) : lyEnd T D t.length = C := by
 refine list_ext (by rw [lyEnd_len, h.tl, hC.1]) fun p hp => ?_
 rw [lyEnd_len] at hp
 have hpt : p < t.length := by have := h.tl; omega
 rw [lyEnd_at hp]
 by_cases e : T[p]! < 0
 ·rw [if_pos ⟨hpt, e⟩]
  have h1 := h.lo p hpt e
  obtain ⟨d, h2, h3⟩ := h.dn p hpt
  have h4 := hC.at hpt
  rw [List.take_length] at h3
  have h5 : t[p]!.events.length ≤ d := by
   by_cases h6 : d < t[p]!.events.length
   ·have := (h3 d).1 ((hO.inn (p, d)).2 ⟨hpt, h6⟩)
    omega
   ·omega
  omega
 ·rw [if_neg (fun hh => e hh.2)]; exact h.hi p hpt (by omega)
end Go.Proofs.Ytfagfooggcinoaa
namespace Go.Proofs.Ytfagfooggcinoaa
open Go.RowKit
set_option linter.unusedVariables false
theorem eids_atC : ∀ (L : List Eid) (j : Nat), j < L.length → (L.flatMap eidC)[j * 2]? = some (.int .i64 (L[j]!.1 : Int)) ∧ (L.flatMap eidC)[j * 2 + 1]? = some (.int .i64 ((L[j]!.2 : Int) + 1))
 | [], j, h => absurd h (Nat.not_lt_zero _)
 | x :: L, 0, _ => by simp [eidC]
 | x :: L, j + 1, h => by
   have ih := eids_atC L j (by simpa using h)
   rw [List.flatMap_cons, show (j + 1) * 2 = j * 2 + 1 + 1 from by omega]
   simp only [eidC, List.cons_append, List.nil_append, List.getElem?_cons_succ, List.getElem!_cons_succ]
   exact ih
theorem bef_lenC (t : Tr) (x : Eid) : (bef t x).length ≤ 2 := by
 unfold bef
 rw [List.length_append]
 have h1 : (if 0 < x.2 then [(x.1, x.2 - 1)] else []).length ≤ 1 := by split <;> simp
 have h2 : (if (ev t x).kind = 3 then (findE t 2 (ev t x).msg).toList else []).length ≤ 1 := by
  split
  ·cases findE t 2 (ev t x).msg <;> simp
  ·simp
 omega
def stRow (t : Tr) (S : Stm) (q : Nat) : List Value := (List.range t[q]!.events.length).map fun i => Value.int .i64 (S q i : Int)
theorem stRow_at {t : Tr} {S : Stm} {q i : Nat} (hi : i < t[q]!.events.length) : (stRow t S q)[i]? = some (.int .i64 (S q i : Int)) := by
 unfold stRow; rw [List.getElem?_map, List.getElem?_range hi]; rfl
theorem stRow_set {t : Tr} {S : Stm} {q i s : Nat} : (stRow t S q).set i (.int .i64 (s : Int)) = stRow t (updS S q i s) q := by
 apply List.ext_getElem
 ·simp [stRow]
 ·intro j h1 h2
  rw [List.getElem_set]
  by_cases e : i = j
  ·subst e; rw [if_pos rfl]; simp [stRow, updS_at]
  ·rw [if_neg e]
   simp only [stRow, List.getElem_map, List.getElem_range]
   rw [updS_ne (fun h => e h.2.symm)]
theorem stRow_other {t : Tr} {S : Stm} {p q i s : Nat} (h : p ≠ q) : stRow t (updS S q i s) p = stRow t S p := by
 unfold stRow
 exact List.map_congr_left fun j _ => by rw [updS_ne (fun hh => h hh.1)]
theorem stRow_zero {t : Tr} {q : Nat} : stRow t (fun _ _ => 0) q = List.replicate t[q]!.events.length (.int .i64 0) := by
 apply List.ext_getElem
 ·simp [stRow]
 ·intro j h1 h2; simp [stRow]
def hdrS (t : Tr) (Bs : List Nat) : List Value := (List.range Bs.length).map fun q => Value.slice (some ⟨Bs[q]!, 0, none⟩) t[q]!.events.length t[q]!.events.length
theorem hdrS_at {t : Tr} {Bs : List Nat} {q : Nat} (hq : q < Bs.length) : (hdrS t Bs)[q]? = some (Value.slice (some ⟨Bs[q]!, 0, none⟩) t[q]!.events.length t[q]!.events.length) := by
 unfold hdrS; rw [List.getElem?_map, List.getElem?_range hq]; rfl
theorem hdrS_snoc {t : Tr} {Bs : List Nat} {b : Nat} : hdrS t (Bs ++ [b]) = hdrS t Bs ++ [Value.slice (some ⟨b, 0, none⟩) t[Bs.length]!.events.length t[Bs.length]!.events.length] := by
 unfold hdrS
 rw [List.length_append, List.length_cons, List.length_nil, List.range_succ, List.map_append]
 congr 1
 ·apply List.map_congr_left
  intro q hq
  have hq := List.mem_range.1 hq
  rw [getElem!_pos (Bs ++ [b]) q (by simp; omega), getElem!_pos Bs q hq, List.getElem_append_left hq]
 ·simp
def StmM (w : World) (base : Nat) (v : Value) (t : Tr) (n : Nat) (S : Stm) (Bs : List Nat) : Prop :=
 Bs.length = n ∧ (∀ p q, p < n → q < n → Bs[p]! = Bs[q]! → p = q) ∧ Row w base 25 1 v n (hdrS t Bs) ∧
  ∀ q, q < n → Row w base 3 1 (.slice (some ⟨Bs[q]!, 0, none⟩) t[q]!.events.length t[q]!.events.length) t[q]!.events.length (stRow t S q)
theorem StmM.ext {w w' : World} {base : Nat} {v : Value} {t : Tr} {n : Nat} {S : Stm} {Bs : List Nat} (h : StmM w base v t n S Bs) (x : Ext w w') : StmM w' base v t n S Bs :=
 ⟨h.1, h.2.1, h.2.2.1.ext x, fun q hq => (h.2.2.2 q hq).ext x⟩
theorem StmM.mono {w : World} {base base' : Nat} {v : Value} {t : Tr} {n : Nat} {S : Stm} {Bs : List Nat} (h : StmM w base v t n S Bs) (x : base' ≤ base) : StmM w base' v t n S Bs :=
 ⟨h.1, h.2.1, h.2.2.1.mono x, fun q hq => (h.2.2.2 q hq).mono x⟩
theorem StmM.set {w : World} {base : Nat} {v : Value} {t : Tr} {n : Nat} {S : Stm} {Bs : List Nat} (h : StmM w base v t n S Bs) {q i : Nat} (s : Nat) (hq : q < n) (hi : i < t[q]!.events.length) : StmM (w.setCell ⟨Bs[q]!, i, none⟩ (.int .i64 (s : Int))) base v t n (updS S q i s) Bs := by
 refine ⟨h.1, h.2.1, ?_, fun p hp => ?_⟩
 ·refine h.2.2.1.st ?_ _
  intro e
  rcases h.2.2.1.apart (h.2.2.2 q hq) (by decide) with h1 | h1
  ·rw [h1] at e; cases e
  ·exact h1 e
 ·by_cases e : p = q
  ·subst e
   have h1 := (h.2.2.2 p hp).set i (.int .i64 (s : Int)) (by omega)
   rw [Nat.zero_add, stRow_set] at h1
   exact h1
  ·rw [stRow_other e]
   refine (h.2.2.2 p hp).st ?_ _
   intro e2
   exact e (h.2.1 p q hp hq (Option.some.inj e2))
theorem StmM.more {w : World} {base : Nat} {v' : Value} {t : Tr} {S : Stm} {n b : Nat} {Bs : List Nat} (h : ∀ q, q < n → Row w base 3 1 (.slice (some ⟨Bs[q]!, 0, none⟩) t[q]!.events.length t[q]!.events.length) t[q]!.events.length (stRow t S q)) (hl : Bs.length = n) (hd : ∀ p q, p < n → q < n → Bs[p]! = Bs[q]! → p = q) (hb : ∀ q, q < n → Bs[q]! ≠ b)
  (hr : Row w base 3 1 (.slice (some ⟨b, 0, none⟩) t[n]!.events.length t[n]!.events.length) t[n]!.events.length (stRow t S n)) (ho : Row w base 25 1 v' (n + 1) (hdrS t Bs ++ [Value.slice (some ⟨b, 0, none⟩) t[n]!.events.length t[n]!.events.length])) :
  StmM w base v' t (n + 1) S (Bs ++ [b]) := by
 have g1 : ∀ q, q < n → (Bs ++ [b])[q]! = Bs[q]! := fun q hq => by
  rw [getElem!_pos (Bs ++ [b]) q (by simp; omega), getElem!_pos Bs q (by omega), List.getElem_append_left (by omega)]
 have g2 : (Bs ++ [b])[n]! = b := by
  subst hl; rw [getElem!_pos (Bs ++ [b]) Bs.length (by simp)]; simp
 refine ⟨by simp [hl], fun p q hp hq e => ?_, by rw [hdrS_snoc, hl]; exact ho, fun q hq => ?_⟩
 ·by_cases e1 : p = n
  ·by_cases e2 : q = n
   ·omega
   ·subst e1; rw [g2, g1 q (by omega)] at e; exact absurd e.symm (hb q (by omega))
  ·by_cases e2 : q = n
   ·subst e2; rw [g2, g1 p (by omega)] at e; exact absurd e (hb p (by omega))
   ·rw [g1 p (by omega), g1 q (by omega)] at e; exact hd p q (by omega) (by omega) e
 ·by_cases e1 : q = n
  ·subst e1; rw [g2]; exact hr
  ·rw [g1 q (by omega)]; exact h q (by omega)
theorem StmM.at {w : World} {base og oo oc : Nat} {t : Tr} {n : Nat} {S : Stm} {Bs : List Nat} (h : StmM w base (.slice (some ⟨og, oo, none⟩) n oc) t n S Bs) {q i : Nat} (hq : q < n) (hi : i < t[q]!.events.length) :
  w.cell? ⟨og, oo + q, none⟩ = some (.slice (some ⟨Bs[q]!, 0, none⟩) t[q]!.events.length t[q]!.events.length) ∧ w.cell? ⟨Bs[q]!, i, none⟩ = some (.int .i64 (S q i : Int)) ∧ w.frozen? ⟨Bs[q]!, i, none⟩ = false ∧ base ≤ Bs[q]! ∧ Bs[q]! < w.heap.size := by
 have h1 := (h.2.2.1.cell q (by omega)).trans (hdrS_at (by rw [h.1]; exact hq))
 have h2 := ((h.2.2.2 q hq).cell i (by omega)).trans (stRow_at hi)
 have h3 := (h.2.2.2 q hq).free i
 have h4 := (h.2.2.2 q hq).lt Bs[q]! rfl
 rw [Nat.zero_add] at h2
 exact ⟨h1, h2, h3, h4.1, h4.2⟩
set_option maxHeartbeats 4000000 in
set_option maxRecDepth 100000 in
theorem latestR_calls (v : Value) (og oo oc base : Nat) (t : Tr) (S : Stm) (Bs : List Nat) (p i : Nat) (w : World) (h : TrAt w v t) (hs : SmallTr t) (hx : Inn t (p, i)) (hsd : (ev t (p, i)).kind = 3 → ∃ s, findE t 2 (ev t (p, i)).msg = some s) (hM : StmM w base (.slice (some ⟨og, oo, none⟩) t.length oc) t t.length S Bs) :
  Calls Try.prog 92 #[.agg #[v], .slice (some ⟨og, oo, none⟩) t.length oc, .agg #[.int .i64 p, .int .i64 ((i : Int) + 1)]] w fun e w' => e = .returned (.int .i64 (latS S (bef t (p, i)) : Int)) ∧ Ext w w' := by
 have HDI := Lib.hid (fun W (hW : Ext w W) => directlyR_calls v t p i W (h.ext hW) hs hx hsd)
 have HMM := Lib.hid hM
 have HIB := Lib.hid (fun y (hy : y ∈ bef t (p, i)) => tg_inn_l (.single ((mem_bef hx).1 hy)))
 obtain ⟨ix, hix⟩ : ∃ x : Int, (i : Int) + 1 = x := ⟨_, rfl⟩
 rw [hix]
 rw [hix] at HDI
 obtain ⟨ta, tc, rfl, htc⟩ := h.sh
 have HSE := Lib.hid (fun q (hq : q < t.length) => (hs.2 q hq).2.1)
 have hbl := bef_lenC t (p, i)
 generalize bef t (p, i) = L at *
 obtain ⟨N, hN⟩ : ∃ N, t.length = N := ⟨_, rfl⟩
 have HNE := Lib.hid hN
 rw [hN] at HDI HMM HSE ⊢
 have HX1 : Hid (Ext w ((w.alloc (.cells #[.slice ta N tc] 24)).alloc (.cells #[.int .i64 p, .int .i64 ix] 68))) := Lib.hid (((Ext.rf w).al _).al _)
 have HB0 := Lib.hid (((Ext.rf _).al (.cells #[.int .i64 p, .int .i64 ix] 68)).hp (heap_alloc_new w (.cells #[.slice ta N tc] 24)))
 have HB1 := Lib.hid (heap_new_eq (w := w.alloc (.cells #[.slice ta N tc] 24)) (o := .cells #[.int .i64 p, .int .i64 ix] 68) (b := w.heap.size + 1) (by simp))
 have t0 := cellOf HB0.out 0
 have x0 := cellOf HB1.out 0
 have x1 := cellOf HB1.out 1
 simp only [List.getElem?_toArray, List.getElem?_cons_zero, List.getElem?_cons_succ] at t0 x0 x1
 clear h hs hx hsd hM htc hN hix
 go_enter Try.func92, Try.ntmps92
 go_wp2_with fail
 clear t0 x0 x1
 refine (HDI.out _ HX1.out).mono ?_
 rintro e w2 ⟨v7, rfl, hR7, hE7⟩
 have HX2 := Lib.hid (HX1.out.trans' hE7)
 have HR7 := Lib.hid hR7
 obtain ⟨la, lc, rfl, hlc, hla⟩ := hR7.any
 have HLA := Lib.hid hla
 clear hE7 hR7 hla
 go_wp2
 go_loopg [8, 9] L.length (fun g s8 s9 wr => ∃ k : Nat, k ≤ L.length ∧ L.length - k ≤ g ∧ s8 = .int .i64 (latS S (L.take k) : Int) ∧ s9 = .int .i64 k ∧ Aside (Ext w2 wr))
 case atStart => exact ⟨0, Nat.zero_le _, by omega, rfl, rfl, Ext.rf _⟩
 case round =>
  obtain ⟨k, hk, hgk, rfl, rfl, HE⟩ := hrel
  by_cases hlt : k < L.length
  case neg =>
   have hkz : ¬ (k : Int) < (L.length : Int) := by omega
   have HKL := Lib.hid (show L.take k = L from List.take_of_length_le (by omega))
   go_wp2
   go_ret
   exact ⟨by first | rfl | (rw [HKL.out]; rfl), HX2.out.trans' HE.out⟩
  case pos =>
   have hkz : (k : Int) < (L.length : Int) := by omega
   have hkz0 : (0 : Int) ≤ (k : Int) := by omega
   obtain ⟨lg, lo, rfl, _, hlg⟩ := HLA.out (by omega)
   have HRX := Lib.hid (HR7.out.ext HE.out)
   have e0 := (HRX.out.cell (k * 2) (by omega)).trans (eids_atC L k hlt).1
   have e1 := (HRX.out.cell (k * 2 + 1) (by omega)).trans (eids_atC L k hlt).2
   have hin := HIB.out L[k]! (by rw [getElem!_pos L k hlt]; exact List.getElem_mem hlt)
   have hq : L[k]!.1 < N := by have := hin.1; rw [HNE.out] at this; exact this
   have hj : L[k]!.2 < t[L[k]!.1]!.events.length := hin.2
   obtain ⟨hh, hm, _, _, _⟩ := (HMM.out.ext (HX2.out.trans' HE.out)).at hq hj
   have HLT := Lib.hid (lat_take (S := S) hlt)
   have hse := HSE.out _ hq
   clear hin
   rw [← Nat.add_assoc] at e1
   generalize L[k]! = z at *
   obtain ⟨z1, z2⟩ := z
   simp only at *
   generalize t[z1]!.events.length = ne at *
   generalize Bs[z1]! = bz at *
   generalize S z1 z2 = sz at *
   generalize latS S (L.take k) = lk at *
   have hw : IntKind.i64.wrap ((z2 : Int) + 1 - 1) = (z2 : Int) := by rw [show (z2 : Int) + 1 - 1 = (z2 : Int) by omega]; exact IntWalk.i64_in _ (by omega)
   have hw2 : IntKind.i64.wrap (z2 : Int) = (z2 : Int) := IntWalk.i64_in _ (by omega)
   have hz1 : (z1 : Int) < (N : Int) := by omega
   have hz10 : (0 : Int) ≤ (z1 : Int) := by omega
   have hz2 : (z2 : Int) < (ne : Int) := by omega
   have hz20 : (0 : Int) ≤ (z2 : Int) := by omega
   generalize hLL : L.length = LL at *
   go_upto_region 6 with (fail)
   refine wp_region_tail (fun W => W.cell? ⟨lg, lo + k * 2, none⟩ = some (.int .i64 (z1 : Int)) ∧ W.cell? ⟨lg, lo + k * 2 + 1, none⟩ = some (.int .i64 ((z2 : Int) + 1)) ∧ W.cell? ⟨og, oo + z1, none⟩ = some (.slice (some ⟨bz, 0, none⟩) ne ne) ∧ W.cell? ⟨bz, z2, none⟩ = some (.int .i64 (sz : Int))) 18 (by kernel_rfl) ⟨e0, e1, hh, hm⟩ (fun hHeld => ?_)
   have HXD : Hid (Ext w2 wr.drew) := Lib.hid (HE.out.dr)
   generalize wr.drew = wd at *
   refine tkA 0 19 (v := ?_) rfl rfl (by kernel_rfl) (fun _ _ _ h => h) ?_ (by assumption) ?_
   rotate_left
   ·(intro w hSw; (try dsimp only at hSw); go_simp; try (with_reducible rfl))
   try simp only [Act.put]
   try simp only [List.setIfInBounds_toArray]
   try simp only [List.set_cons_zero, List.set_cons_succ]
   refine tkA 1 20 (v := ?_) rfl rfl (by kernel_rfl) (fun _ _ _ h => h) ?_ (by assumption) ?_
   rotate_left
   ·(intro w hSw; (try dsimp only at hSw); go_simp; try (with_reducible rfl))
   try simp only [Act.put]
   try simp only [List.setIfInBounds_toArray]
   try simp only [List.set_cons_zero, List.set_cons_succ]
   refine tkA 2 21 (v := ?_) rfl rfl (by kernel_rfl) (fun _ _ _ h => h) ?_ (by assumption) ?_
   rotate_left
   ·(intro w hSw; (try dsimp only at hSw); go_simp; try (with_reducible rfl))
   try simp only [Act.put]
   try simp only [List.setIfInBounds_toArray]
   try simp only [List.set_cons_zero, List.set_cons_succ]
   refine tkA 3 22 (v := ?_) rfl rfl (by kernel_rfl) (fun _ _ _ h => h) ?_ (by assumption) ?_
   rotate_left
   ·(intro w hSw; (try dsimp only at hSw); go_simp; try (with_reducible rfl))
   try simp only [Act.put]
   try simp only [List.setIfInBounds_toArray]
   try simp only [List.set_cons_zero, List.set_cons_succ]
   refine tkA 4 23 (v := ?_) rfl rfl (by kernel_rfl) (fun _ _ _ h => h) ?_ (by assumption) ?_
   rotate_left
   ·(intro w hSw; (try dsimp only at hSw); go_simp; try (with_reducible rfl))
   try simp only [Act.put]
   try simp only [List.setIfInBounds_toArray]
   try simp only [List.set_cons_zero, List.set_cons_succ]
   refine tkA 5 24 (v := ?_) rfl rfl (by kernel_rfl) (fun _ _ _ h => h) ?_ (by assumption) ?_
   rotate_left
   ·(intro w hSw; (try dsimp only at hSw); go_simp; try (with_reducible rfl))
   try simp only [Act.put]
   try simp only [List.setIfInBounds_toArray]
   try simp only [List.set_cons_zero, List.set_cons_succ]
   refine tkA 6 25 (v := ?_) rfl rfl (by kernel_rfl) (fun _ _ _ h => h) ?_ (by assumption) ?_
   rotate_left
   ·(intro w hSw; (try dsimp only at hSw); go_simp; try (with_reducible rfl))
   try simp only [Act.put]
   try simp only [List.setIfInBounds_toArray]
   try simp only [List.set_cons_zero, List.set_cons_succ]
   refine tkA 7 26 (v := ?_) rfl rfl (by kernel_rfl) (fun _ _ _ h => h) ?_ (by assumption) ?_
   rotate_left
   ·(intro w hSw; (try dsimp only at hSw); go_simp; try (with_reducible rfl))
   try simp only [Act.put]
   try simp only [List.setIfInBounds_toArray]
   try simp only [List.set_cons_zero, List.set_cons_succ]
   refine tkA 8 27 (v := ?_) rfl rfl (by kernel_rfl) (fun _ _ _ h => h) ?_ (by assumption) ?_
   rotate_left
   ·(intro w hSw; (try dsimp only at hSw); go_simp; try (with_reducible rfl))
   try simp only [Act.put]
   try simp only [List.setIfInBounds_toArray]
   try simp only [List.set_cons_zero, List.set_cons_succ]
   refine tkA 9 28 (v := ?_) rfl rfl (by kernel_rfl) (fun _ _ _ h => h) ?_ (by assumption) ?_
   rotate_left
   ·(intro w hSw; (try dsimp only at hSw); go_simp; try (with_reducible rfl))
   try simp only [Act.put]
   try simp only [List.setIfInBounds_toArray]
   try simp only [List.set_cons_zero, List.set_cons_succ]
   refine tkA 10 29 (v := ?_) rfl rfl (by kernel_rfl) (fun _ _ _ h => h) ?_ (by assumption) ?_
   rotate_left
   ·(intro w hSw; (try dsimp only at hSw); go_simp; try (with_reducible rfl))
   try simp only [Act.put]
   try simp only [List.setIfInBounds_toArray]
   try simp only [List.set_cons_zero, List.set_cons_succ]
   refine tkA 11 30 (v := ?_) rfl rfl (by kernel_rfl) (fun _ _ _ h => h) ?_ (by assumption) ?_
   rotate_left
   ·(intro w hSw; (try dsimp only at hSw); go_simp; try (with_reducible rfl))
   try simp only [Act.put]
   try simp only [List.setIfInBounds_toArray]
   try simp only [List.set_cons_zero, List.set_cons_succ]
   refine tkA 12 31 (v := ?_) rfl rfl (by kernel_rfl) (fun _ _ _ h => h) ?_ (by assumption) ?_
   rotate_left
   ·(intro w hSw; (try dsimp only at hSw); go_simp; try (with_reducible rfl))
   try simp only [Act.put]
   try simp only [List.setIfInBounds_toArray]
   try simp only [List.set_cons_zero, List.set_cons_succ]
   refine tkA 13 32 (v := ?_) rfl rfl (by kernel_rfl) (fun _ _ _ h => h) ?_ (by assumption) ?_
   rotate_left
   ·(intro w hSw; (try dsimp only at hSw); go_simp; try (with_reducible rfl))
   try simp only [Act.put]
   try simp only [List.setIfInBounds_toArray]
   try simp only [List.set_cons_zero, List.set_cons_succ]
   refine tkA 14 33 (v := ?_) rfl rfl (by kernel_rfl) (fun _ _ _ h => h) ?_ (by assumption) ?_
   rotate_left
   ·(intro w hSw; (try dsimp only at hSw); go_simp; try (with_reducible rfl))
   try simp only [Act.put]
   try simp only [List.setIfInBounds_toArray]
   try simp only [List.set_cons_zero, List.set_cons_succ]
   refine tkA 15 34 (v := ?_) rfl rfl (by kernel_rfl) (fun _ _ _ h => h) ?_ (by assumption) ?_
   rotate_left
   ·(intro w hSw; (try dsimp only at hSw); go_simp; try (with_reducible rfl))
   try simp only [Act.put]
   try simp only [List.setIfInBounds_toArray]
   try simp only [List.set_cons_zero, List.set_cons_succ]
   refine tkA 16 35 (v := ?_) rfl rfl (by kernel_rfl) (fun _ _ _ h => h) ?_ (by assumption) ?_
   rotate_left
   ·(intro w hSw; (try dsimp only at hSw); go_simp; try (with_reducible rfl))
   try simp only [Act.put]
   try simp only [List.setIfInBounds_toArray]
   try simp only [List.set_cons_zero, List.set_cons_succ]
   refine wpAnyT_step (i := 17) (by kernel_rfl) rfl (fun K hK => ?_)
   go_simp
   obtain ⟨mx, hmx⟩ : ∃ mx : Int, (if lk < sz then (sz : Int) else (lk : Int)) = mx := ⟨_, rfl⟩
   rw [hmx]
   have HMX : Hid (mx = ((max lk sz : Nat) : Int)) := Lib.hid (by rw [← hmx]; split <;> omega)
   clear hmx
   refine hK.out _ _ ?_ (fun hHeld => ?_)
   ·(try dsimp only)
    (first | exact hHeld | assumption)
   clear hK K
   try simp only [Act.put]
   try simp only [List.setIfInBounds_toArray]
   try simp only [List.set_cons_zero, List.set_cons_succ]
   refine wpAnyT_last (by kernel_rfl) rfl (by kernel_rfl) (fun K hK => ?_)
   go_simp
   refine hK.out _ _ ?_
   go_wp2
   go_roundg (LL - (k + 1))
   case measure => omega
   case rel => exact ⟨k + 1, by omega, by omega, by rw [HLT.out, HMX.out], by go_num, (show Ext _ _ from HXD.out)⟩
end Go.Proofs.Ytfagfooggcinoaa
