import Derived.Test.YtfagfooggcinoaaJa
import Derived.Test.YtfagfooggcinoaaProg
import Derived.Test.YtfagfooggcinoaaGh
import Derived.Test.YtfagfooggcinoaaGc
import Derived.Test.YtfagfooggcinoaaGe
import Derived.Test.YtfagfooggcinoaaGf
import Derived.Test.YtfagfooggcinoaaGa
import Derived.Test.YtfagfooggcinoaaGd
import Derived.Test.YtfagfooggcinoaaGg
import Derived.BigQuiet
import Derived.Deep.QuietTactic
import Derived.Deep.LoopGhost
import Derived.Shelf.Abstract
import Derived.RegionTactic
import Derived.Deep.RegionWith
import Derived.BigRegion
import Derived.Deep.DeepCutAuto
namespace Go.Proofs.Ytfagfooggcinoaa
open Go.RowKit
set_option linter.unusedVariables false
def nd (t : Tr) (p j : Nat) : Option Eid := if (ev t (p, j)).kind = 3 then findE t 2 (ev t (p, j)).msg else none
def ndC (o : Option Eid) : List Value := [.int .i64 (eidA o), .int .i64 (eidB o)]
def ndRow (t : Tr) (p k : Nat) : List Value := (List.range k).flatMap fun j => ndC (nd t p j)
theorem ndRow_succ (t : Tr) (p k : Nat) : ndRow t p (k + 1) = ndRow t p k ++ ndC (nd t p k) := by unfold ndRow; rw [List.range_succ, List.flatMap_append]; simp
def NeedI (w : World) (base : Nat) (v : Value) (t : Tr) (p : Nat) (vn : Nat → Value) : Prop :=
 Row w base 72 1 v p ((List.range p).map vn) ∧ ∀ q, q < p → Row w base 68 2 (vn q) t[q]!.events.length (ndRow t q t[q]!.events.length)
theorem NeedI.ext {w w' : World} {base : Nat} {v : Value} {t : Tr} {p : Nat} {vn : Nat → Value} (h : NeedI w base v t p vn) (x : Ext w w') : NeedI w' base v t p vn := ⟨h.1.ext x, fun q hq => (h.2 q hq).ext x⟩
def SpcAt (w0 w : World) (bs : Nat) (tv : Value) (t : Tr) : Prop := ∃ nv vn, w.heap[bs]? = some (.cells #[tv, nv] 149) ∧ w0.heap.size ≤ bs ∧ Ext w0 w ∧ NeedI w w0.heap.size nv t t.length vn
def SpcI (w w' : World) (tv : Value) (t : Tr) (p : Nat) : Prop := ∃ nv vn, w'.heap[w.heap.size + 1]? = some (.cells #[tv, nv] 149) ∧ w'.heap[w.heap.size]? = some (.cells #[tv] 24) ∧ Ext w w' ∧ NeedI w' w.heap.size nv t p vn
theorem info_eidR : (Try.prog.info? 68).map (fun i => (i.zero, i.size, i.bytes)) = some (some (.agg #[.int .i64 0, .int .i64 0]), 2, 16) := by kernel_rfl
theorem info_eidsR : (Try.prog.info? 72).map (fun i => (i.zero, i.size, i.bytes)) = some (some (.slice none 0 0), 1, 24) := by kernel_rfl
def putN (f : Nat → Value) (p : Nat) (x : Value) : Nat → Value := fun q => if q = p then x else f q
theorem grown_heapR {w w' : World} {base n s g : Nat} {e t : TypeId} {v : Value} {xs : List Value} {cs : Array Value} {fr : Nat × Nat} (hr : Row w base e s v n xs) (hg : w.grownBy w' v.ownBlock) (hb : w.heap[g]? = some (.cells cs t fr)) (hne : t ≠ e) : w'.heap[g]? = w.heap[g]? :=
 hg.block g (Array.getElem?_eq_some_iff.1 hb).1 (fun e => hr.notBox hb hne e.symm)
set_option maxHeartbeats 8000000 in
set_option maxRecDepth 100000 in
theorem open_calls (v : Value) (t : Tr) (w : World) (h : TrAt w v t) (hv : validT t = true) :
  Calls Try.prog 73 #[.agg #[v]] w fun e w' => ∃ bs, e = .returned (.pointer (some ⟨bs, 0, none⟩)) ∧ SpcAt w w' bs v t := by
 have HT := Lib.hid h
 have HV := Lib.hid hv
 have hsm := valid_small hv
 have hn1 := hsm.1
 have HLEN := Lib.hid (fun p (hp : p < t.length) => (hsm.2 p hp).2.1)
 have HSE := Lib.hid (fun W (hW : Ext w W) kd tm m va (s : Eid) hs hva => sender_calls v t kd tm m va W (h.ext hW) hv s hs hva)
 obtain ⟨ie, hie, ez0, ez1, ez2⟩ := info_partsM info_eidR
 obtain ⟨il, hil, lz0, lz1, lz2⟩ := info_partsM info_eidsR
 obtain ⟨ta, tc, rfl, htc⟩ := h.sh
 have HB0 := Lib.hid (heap_alloc_new w (.cells #[.slice ta t.length tc] 24))
 have t0 := cellOf HB0.out 0
 simp only [List.getElem?_toArray, List.getElem?_cons_zero] at t0
 have HXA := Lib.hid (((Ext.rf w).al (.cells #[.slice ta t.length tc] 24)).al (.cells #[.slice ta t.length tc, .slice none 0 0] 149))
 have HB1 := Lib.hid (((Ext.rf _).al (.cells #[.slice ta t.length tc, .slice none 0 0] 149)).hp HB0.out)
 have HB2 := Lib.hid (heap_new_eq (w := w.alloc (.cells #[.slice ta t.length tc] 24)) (o := .cells #[.slice ta t.length tc, .slice none 0 0] 149) (b := w.heap.size + 1) (by simp))
 have HI0 : Hid (SpcI w ((w.alloc (.cells #[.slice ta t.length tc] 24)).alloc (.cells #[.slice ta t.length tc, .slice none 0 0] 149)) (.slice ta t.length tc) t 0) :=
  Lib.hid ⟨_, fun _ => undef, HB2.out, HB1.out, HXA.out, Row.mkNil _ _ _ _, fun q hq => absurd hq (Nat.not_lt_zero _)⟩
 generalize hN : t.length = N at *
 have HN := Lib.hid hN
 clear h hv hsm hN htc
 go_enter Try.func73, Try.ntmps73
 go_upto_region 2 with (fail)
 generalize hw2 : (w.alloc (.cells #[.slice ta N tc] 24)).alloc (.cells #[.slice ta N tc, .slice none 0 0] 149) = w2 at *
 clear hw2 t0
 have t1 := cellOf HB1.out 0
 simp only [List.getElem?_toArray, List.getElem?_cons_zero] at t1
 go_wp2
 clear t1
 go_loopg [16] N (fun g s16 wr => ∃ p : Nat, p ≤ N ∧ N - p ≤ g ∧ s16 = .int .i64 p ∧ Aside (SpcI w wr (.slice ta N tc) t p))
 case atStart => exact ⟨0, Nat.zero_le _, by omega, rfl, (show SpcI _ _ _ _ _ from HI0.out)⟩
 case round =>
  obtain ⟨p, hp, hgp, rfl, HI⟩ := hrel
  clear HI0
  by_cases hpn : p < N
  case neg =>
   have hpz : ¬ (p : Int) < (N : Int) := by omega
   have HPE := Lib.hid (show p = N by omega)
   go_wp2
   go_ret
   obtain ⟨nv, vn, g1, _, g3, g4⟩ := HI.out
   exact ⟨_, rfl, nv, vn, g1, by omega, g3, by rw [HN.out, ← HPE.out]; exact g4⟩
  case pos =>
   have hpz : (p : Int) < (N : Int) := by omega
   have hpz0 : (0 : Int) ≤ (p : Int) := by omega
   obtain ⟨nv, vn, hbx, htr, hxr, hne⟩ := HI.out
   have HBX := Lib.hid hbx
   have HTR := Lib.hid htr
   have HXR := Lib.hid hxr
   have HNE := Lib.hid hne
   clear hbx htr hxr hne HI
   obtain ⟨B, O, C, vv, ve, hve, hlC, hB, hn0, hv0, he0, hVV, hE0⟩ := proc_at HT.out p (by rw [HN.out]; exact hpn)
   simp only [Value.slice.injEq] at hve
   obtain ⟨rfl, hzz, rfl⟩ := hve
   have HEV := Lib.hid hE0
   obtain ⟨ea, ec, rfl, hec⟩ := hE0.sh
   obtain ⟨vva, vvc, rfl, _⟩ := hVV.sh
   have hen := HLEN.out p hpn
   generalize t[p]!.vars.length = nvv at *
   generalize t[p]!.name = nm at *
   have p0 := HXR.out.cl hn0
   have p1 := HXR.out.cl hv0
   have p2 := HXR.out.cl he0
   obtain ⟨ne, hne⟩ : ∃ x, t[p]!.events.length = x := ⟨_, rfl⟩
   have HNL := Lib.hid hne
   rw [hne] at p2 hen hec
   have HBP := Lib.hid (heap_alloc_new wr (.cells #[.string nm, .slice vva nvv vvc, .slice ea ne ec] 52))
   have HXP := Lib.hid ((Ext.rf wr).al (.cells #[.string nm, .slice vva nvv vvc, .slice ea ne ec] 52))
   clear hn0 hv0 he0 hVV hE0 hzz hne
   go_upto_region 6 with (fail)
   generalize hwp : wr.alloc (.cells #[.string nm, .slice vva nvv vvc, .slice ea ne ec] 52) = wp at *
   have k2 := cellOf HBP.out 2
   simp only [List.getElem?_toArray, List.getElem?_cons_zero, List.getElem?_cons_succ] at k2
   clear hwp p0 p1 p2
   have HXW := Lib.hid (HXR.out.trans' HXP.out)
   have HTP := Lib.hid (HXP.out.hp HTR.out)
   have htw : w.heap.size < wp.heap.size := (Array.getElem?_eq_some_iff.1 HTP.out).1
   go_wp2
   clear k2
   go_loopg [6, 23] ne (fun g s6 s23 wx => ∃ j : Nat, j ≤ ne ∧ ne - j ≤ g ∧ s23 = .int .i64 j ∧ Aside (Row wx wp.heap.size 68 2 s6 j (ndRow t p j)) ∧ Aside (Ext wp wx))
   case atStart => exact ⟨0, Nat.zero_le _, by omega, rfl, (show Row _ _ _ _ _ _ _ from Row.mkNil _ _ _ _), Ext.rf _⟩
   case round =>
    obtain ⟨j, hj, hgj, rfl, HR, HXJ⟩ := hrel
    obtain ⟨ra, rc, rfl, _⟩ := HR.out.any
    by_cases hjn : j < ne
    case pos =>
     have hjz : (j : Int) < (ne : Int) := by omega
     have hjz0 : (0 : Int) ≤ (j : Int) := by omega
     obtain ⟨EB, EO, EC, va, hee, hlE, hEB, k0, k1, k2, k3, k4, ha⟩ := event_at HEV.out j (by rw [HNL.out]; omega)
     rw [HNL.out] at hee
     simp only [Value.slice.injEq] at hee
     obtain ⟨rfl, hzz, rfl⟩ := hee
     obtain ⟨va1, va2, rfl, _⟩ := ha.sh
     have HXV := Lib.hid (HXW.out.trans' HXJ.out)
     have m0 := HXV.out.cl k0
     have m1 := HXV.out.cl k1
     have m2 := HXV.out.cl k2
     have m3 := HXV.out.cl k3
     have m4 := HXV.out.cl k4
     have HNR := Lib.hid (ndRow_succ t p j)
     have hinn : Inn t (p, j) := ⟨by rw [HN.out]; exact hpn, by rw [HNL.out]; exact hjn⟩
     have HND : Hid (nd t p j = if (ev t (p, j)).kind = 3 then findE t 2 (ev t (p, j)).msg else none) := Lib.hid rfl
     have HSP := Lib.hid (fun hk => send_peer HV.out hinn hk)
     rw [show ev t (p, j) = t[p]!.events[j]! from rfl] at HND HSP
     generalize t[p]!.events[j]! = y at *
     generalize y.asg.length = nb at *
     clear k0 k1 k2 k3 k4 hzz ha hinn
     have HB6 := Lib.hid (((Ext.rf _).al (idO 0 0)).hp (heap_alloc_new wr (e5 (.int .i64 y.kind) (.int .i64 y.peer) (.int .i64 y.msg) (.int .i64 y.time) (.slice va1 nb va2))))
     have HX6 := Lib.hid ((HXJ.out.al (e5 (.int .i64 y.kind) (.int .i64 y.peer) (.int .i64 y.msg) (.int .i64 y.time) (.slice va1 nb va2))).al (idO 0 0))
     have HXR6 := Lib.hid (((Ext.rf wr).al (e5 (.int .i64 y.kind) (.int .i64 y.peer) (.int .i64 y.msg) (.int .i64 y.time) (.slice va1 nb va2))).al (idO 0 0))
     have HB7 := Lib.hid (heap_new_eq (w := wr.alloc (e5 (.int .i64 y.kind) (.int .i64 y.peer) (.int .i64 y.msg) (.int .i64 y.time) (.slice va1 nb va2))) (o := idO 0 0) (b := wr.heap.size + 1) (by simp))
     have hsz : wp.heap.size ≤ wr.heap.size := HXJ.out.sz
     go_upto_region 10 with (fail)
     generalize hw6 : (wr.alloc (e5 (.int .i64 y.kind) (.int .i64 y.peer) (.int .i64 y.msg) (.int .i64 y.time) (.slice va1 nb va2))).alloc (idO 0 0) = w6 at *
     clear hw6 m0 m1 m2 m3 m4
     have y0 := cellOf HB6.out 0
     have y1 := cellOf HB6.out 1
     have y2 := cellOf HB6.out 2
     have y3 := cellOf HB6.out 3
     have y4 := cellOf HB6.out 4
     have q0 := cellOf HB7.out 0
     have q1 := cellOf HB7.out 1
     simp only [List.getElem?_toArray, List.getElem?_cons_zero, List.getElem?_cons_succ] at y0 y1 y2 y3 y4 q0 q1
     by_cases hk : y.kind = 3
     case neg =>
      have ck : (y.kind == 3) = false := by rw [beq_eq_false_iff_ne]; exact hk
      have HZ : Hid (ndRow t p (j + 1) = ndRow t p j ++ [.int .i64 0, .int .i64 0]) := Lib.hid (by rw [HNR.out, HND.out, if_neg hk]; rfl)
      have HR9 := Lib.hid (HR.out.ext HXR6.out)
      have HX9 := Lib.hid HX6.out
      clear hk y1 y2 y3 y4
      go_wp2_with ((at_builtin; go_loud (refine wpList_append_one rfl _ _ 72 rfl wp.heap.size 68 ie (.agg #[.int .i64 0, .int .i64 0]) 2 16 Try.underlying72 hie ez0 ez1 ez2 rfl (by decide) _ j (ndRow t p j) rfl (HR9.out.al _) w6.heap.size 1 [.int .i64 0, .int .i64 0] rfl rfl ⟨_, heap_alloc_new _ _⟩ (by simp [Value.oneCell']) (by unfold maxLen; omega) (by omega) (Nat.le_trans HX9.out.sz ((Ext.rf w6).al _).sz) ?_; intro v8 w8 hown8 hgrow8 hblk8; obtain ⟨a8, c8, rfl, _⟩ := hown8.any; have HOWN := Lib.hid hown8; have HX8 := Lib.hid ((HX9.out.al (.cells #[.int .i64 0, .int .i64 0] 68)).gr hgrow8 (fun q hq => (HR9.out.lt q hq).1)); clear hown8 hgrow8 hblk8)))
      go_roundg (ne - (j + 1))
      case measure => exact Nat.lt_of_lt_of_le (Nat.sub_lt_sub_left hjn (Nat.lt_succ_self j)) hgj
      case rel => exact ⟨j + 1, hjn, Nat.le_refl _, by go_num, (show Row _ _ _ _ _ _ _ from by rw [HZ.out]; exact HOWN.out), (show Ext _ _ from HX8.out)⟩
     case pos =>
      have ck : (y.kind == 3) = true := by rw [beq_iff_eq]; exact hk
      obtain ⟨s, hs, hpe, _, hsi, _⟩ := HSP.out hk
      have HZ : Hid (ndRow t p (j + 1) = ndRow t p j ++ [.int .i64 (s.1 : Int), .int .i64 ((s.2 : Int) + 1)]) := Lib.hid (by rw [HNR.out, HND.out, if_pos hk, hs]; rfl)
      have HSC := Lib.hid (HSE.out w6 (HXW.out.trans' HX6.out) y.kind y.time y.msg (.slice va1 nb va2) s hs ⟨_, _, _, rfl⟩)
      have t6 := cellOf (HX6.out.hp HTP.out) 0
      simp only [List.getElem?_toArray, List.getElem?_cons_zero] at t6
      rw [hpe] at y1
      clear hk hs hpe hsi
      go_wp2_with fail
      refine HSC.out.mono ?_
      rintro e w7 ⟨rfl, hE7⟩
      have HZ7 := Lib.hid (hE7.hp HB7.out)
      have HX7 := Lib.hid (HX6.out.trans' hE7)
      have HR7 := Lib.hid (HR.out.ext (HXR6.out.trans' hE7))
      have q0 := cellOf HZ7.out 0
      have q1 := cellOf HZ7.out 1
      have g0 := freeOf HZ7.out 0
      have g1 := freeOf HZ7.out 1
      simp only [List.getElem?_toArray, List.getElem?_cons_zero, List.getElem?_cons_succ] at q0 q1
      clear y0 y1 y2 y3 y4 t6 hE7
      have HZ8 := Lib.hid (id_set HZ7.out (.int .i64 (s.1 : Int)) (.int .i64 ((s.2 : Int) + 1)))
      have HX9 := Lib.hid (id_ext (K := wr.heap.size + 1) HX7.out (by omega) (.int .i64 (s.1 : Int)) (.int .i64 ((s.2 : Int) + 1)))
      have hnb : (Value.slice ra j rc).ownBlock ≠ some (wr.heap.size + 1) := fun e => by have := (HR.out.lt _ e).2; omega
      have HR9 := Lib.hid ((HR7.out.st (p := ⟨wr.heap.size + 1, 0, none⟩) hnb (.int .i64 (s.1 : Int))).st (p := ⟨wr.heap.size + 1, 1, none⟩) hnb (.int .i64 ((s.2 : Int) + 1)))
      go_upto_region 12 with (fail)
      generalize hw9 : (w7.setCell ⟨wr.heap.size + 1, 0, none⟩ (.int .i64 (s.1 : Int))).setCell ⟨wr.heap.size + 1, 1, none⟩ (.int .i64 ((s.2 : Int) + 1)) = w9 at *
      clear hw9 q0 q1 g0 g1 hnb
      have q0 := cellOf HZ8.out 0
      have q1 := cellOf HZ8.out 1
      simp only [List.getElem?_toArray, List.getElem?_cons_zero, List.getElem?_cons_succ] at q0 q1
      go_wp2_with ((at_builtin; go_loud (refine wpList_append_one rfl _ _ 72 rfl wp.heap.size 68 ie (.agg #[.int .i64 0, .int .i64 0]) 2 16 Try.underlying72 hie ez0 ez1 ez2 rfl (by decide) _ j (ndRow t p j) rfl (HR9.out.al _) w9.heap.size 1 [.int .i64 (s.1 : Int), .int .i64 ((s.2 : Int) + 1)] rfl rfl ⟨_, heap_alloc_new _ _⟩ (by simp [Value.oneCell']) (by unfold maxLen; omega) (by omega) (Nat.le_trans HX9.out.sz ((Ext.rf w9).al _).sz) ?_; intro v8 w8 hown8 hgrow8 hblk8; obtain ⟨a8, c8, rfl, _⟩ := hown8.any; have HOWN := Lib.hid hown8; have HX8 := Lib.hid ((HX9.out.al (.cells #[.int .i64 (s.1 : Int), .int .i64 ((s.2 : Int) + 1)] 68)).gr hgrow8 (fun q hq => (HR9.out.lt q hq).1)); clear hown8 hgrow8 hblk8)))
      go_roundg (ne - (j + 1))
      case measure => exact Nat.lt_of_lt_of_le (Nat.sub_lt_sub_left hjn (Nat.lt_succ_self j)) hgj
      case rel => exact ⟨j + 1, hjn, Nat.le_refl _, by go_num, (show Row _ _ _ _ _ _ _ from by rw [HZ.out]; exact HOWN.out), (show Ext _ _ from HX8.out)⟩
    case neg =>
     have hjz : ¬ (j : Int) < (ne : Int) := by omega
     have HJE := Lib.hid (show j = ne by omega)
     have HRE := Lib.hid HR.out
     have HBS := Lib.hid (HXJ.out.hp (HXP.out.hp HBX.out))
     have HTS := Lib.hid (HXJ.out.hp HTP.out)
     have HNS := Lib.hid (HNE.out.ext (HXP.out.trans' HXJ.out))
     have HXS := Lib.hid (HXW.out.trans' HXJ.out)
     obtain ⟨na, nc, rfl, _⟩ := HNS.out.1.any
     have b1 := cellOf HBS.out 1
     have b1f := freeOf HBS.out 1
     simp only [List.getElem?_toArray, List.getElem?_cons_zero, List.getElem?_cons_succ] at b1
     have hszj : wp.heap.size ≤ wr.heap.size := HXJ.out.sz
     have hbsw : w.heap.size + 1 < wr.heap.size := (Array.getElem?_eq_some_iff.1 HBS.out).1
     have hwsz : w.heap.size ≤ wp.heap.size := HXW.out.sz
     go_upto_region 14 with (fail)
     have HXA := Lib.hid ((Ext.rf wr).al (.cells #[.slice ra j rc] 72))
     have HNA := Lib.hid (HNS.out.1.ext HXA.out)
     have HBA := Lib.hid (HXA.out.hp HBS.out)
     have HTA := Lib.hid (HXA.out.hp HTS.out)
     go_wp2_with ((at_builtin; go_loud (refine wpList_append_one rfl _ _ 147 rfl w.heap.size 72 il (.slice none 0 0) 1 24 Try.underlying147 hil lz0 lz1 lz2 rfl (by decide) _ p ((List.range p).map vn) rfl HNA.out wr.heap.size 1 [.slice ra j rc] rfl rfl ⟨_, heap_alloc_new _ _⟩ (by simp [Value.oneCell']) (by unfold maxLen; omega) (by omega) (Nat.le_trans HXS.out.sz HXA.out.sz) ?_; intro v8 w8 hown8 hgrow8 hblk8; obtain ⟨a8, c8, rfl, _⟩ := hown8.any; have HOW := Lib.hid hown8; have HGR := Lib.hid hgrow8; have HB8 := Lib.hid ((grown_heapR HNA.out hgrow8 HBA.out (by decide)).trans HBA.out); have HT8 := Lib.hid ((grown_heapR HNA.out hgrow8 HTA.out (by decide)).trans HTA.out); have b8 := cellOf HB8.out 1; have b8f := freeOf HB8.out 1; simp only [List.getElem?_toArray, List.getElem?_cons_zero, List.getElem?_cons_succ] at b8; clear hown8 hgrow8 hblk8)))
     have HXG := Lib.hid ((HXS.out.trans' HXA.out).gr HGR.out (fun q hq => (HNA.out.lt q hq).1))
     have HPN : Hid (SpcI w (w8.setCell ⟨w.heap.size + 1, 1, none⟩ (.slice a8 (p + 1) c8)) (.slice (some ⟨B, O, none⟩) N tc) t (p + 1)) := Lib.hid (by
      refine ⟨.slice a8 (p + 1) c8, putN vn p (.slice ra j rc), heap_setCell_same HB8.out, ?_, HXG.out.st (p := ⟨w.heap.size + 1, 1, none⟩) (by show w.heap.size ≤ w.heap.size + 1; omega) _, ?_, fun q hq => ?_⟩
      ·rw [Below.heap_setCell w8 ⟨w.heap.size + 1, 1, none⟩ _ w.heap.size (by show w.heap.size ≠ w.heap.size + 1; omega)]
       exact HT8.out
      ·have e : (List.range (p + 1)).map (putN vn p (.slice ra j rc)) = (List.range p).map vn ++ [.slice ra j rc] := by
        rw [List.range_succ, List.map_append]
        congr 1
        ·exact List.map_congr_left fun x hx => if_neg (by have := List.mem_range.1 hx; omega)
        ·simp [putN]
       rw [e]
       exact HOW.out.stO HB8.out (by decide) _
      ·by_cases e : q = p
       ·subst e
        have h2 := ((HRE.out.mono hwsz).ext HXA.out)
        have h3 := (h2.grown HGR.out (h2.apart HNA.out (by decide))).stO HB8.out (by decide) (o := 1) (.slice a8 (q + 1) c8)
        rw [HJE.out] at h3
        rw [putN, if_pos rfl, HNL.out, HJE.out]
        exact h3
       ·have h2 := (HNS.out.2 q (by omega)).ext HXA.out
        rw [putN, if_neg e]
        exact (h2.grown HGR.out (h2.apart HNA.out (by decide))).stO HB8.out (by decide) _)
     go_roundg (N - (p + 1))
     case measure => exact Nat.lt_of_lt_of_le (Nat.sub_lt_sub_left hpn (Nat.lt_succ_self p)) hgp
     case rel => exact ⟨p + 1, hpn, Nat.le_refl _, by go_num, (show SpcI _ _ _ _ _ from HPN.out)⟩
end Go.Proofs.Ytfagfooggcinoaa
namespace Go.Proofs.Ytfagfooggcinoaa
open Go.RowKit
set_option linter.unusedVariables false
def mayB (t : Tr) (c : List Int) (p : Nat) : Bool := decide (c[p]! < (t[p]!.events.length : Int)) && sentB t c (p, c[p]!.toNat)
theorem nd_sent {t : Tr} (hv : validT t = true) {c : List Int} {p j : Nat} (hin : Inn t (p, j)) : sentB t c (p, j) = (decide (eidB (nd t p j) = 0) || (match nd t p j with | none => true | some s => decide ((s.2 : Int) + 1 ≤ c[s.1]!))) := by
 by_cases hk : (ev t (p, j)).kind = 3
 ·obtain ⟨s, hs, _⟩ := send_peer hv hin hk
  have hn : nd t p j = some s := by unfold nd; rw [if_pos hk, hs]
  rw [sentB_recv hk hs, hn]
  have : decide (eidB (some s) = 0) = false := decide_eq_false (by show ¬ (s.2 : Int) + 1 = 0; omega)
  rw [this, Bool.false_or]
 ·have hn : nd t p j = none := by unfold nd; rw [if_neg hk]
  rw [sentB_other hk, hn]; rfl
theorem ndRow_at {t : Tr} {p k j : Nat} (hj : j < k) : (ndRow t p k)[j * 2]? = some (.int .i64 (eidA (nd t p j))) ∧ (ndRow t p k)[j * 2 + 1]? = some (.int .i64 (eidB (nd t p j))) := by
 have h := flat_at (k := 2) (fun j => ndC (nd t p j)) (fun _ => rfl) (List.range k) j (by simpa using hj)
 have e : (List.range k)[j]! = j := by rw [getElem!_pos _ j (by simpa using hj)]; simp
 rw [e] at h
 have h0 : ((ndRow t p k).drop (j * 2)).take 2 = ndC (nd t p j) := h
 constructor
 ·have := congrArg (fun l => l[0]?) h0
  simp only [List.getElem?_take, List.getElem?_drop] at this
  simpa [ndC] using this
 ·have := congrArg (fun l => l[1]?) h0
  simp only [List.getElem?_take, List.getElem?_drop] at this
  simpa [ndC] using this
theorem SpcAt.at_ {w0 w : World} {bs : Nat} {tv : Value} {t : Tr} (h : SpcAt w0 w bs tv t) {p j : Nat} (hp : p < t.length) (hj : j < t[p]!.events.length) :
  ∃ g o c b o2 c2, w.heap[bs]? = some (.cells #[tv, .slice (some ⟨g, o, none⟩) t.length c] 149) ∧ t.length ≤ c ∧ g < w.heap.size ∧ w.cell? ⟨g, o + p, none⟩ = some (.slice (some ⟨b, o2, none⟩) t[p]!.events.length c2) ∧ t[p]!.events.length ≤ c2 ∧ b < w.heap.size ∧
   w.cell? ⟨b, o2 + j * 2, none⟩ = some (.int .i64 (eidA (nd t p j))) ∧ w.cell? ⟨b, o2 + j * 2 + 1, none⟩ = some (.int .i64 (eidB (nd t p j))) := by
 obtain ⟨nv, vn, h1, _, _, h4, h5⟩ := h
 obtain ⟨g, o, c, rfl, _, hg, hc⟩ := h4.shape (by omega)
 have h6 := h5 p hp
 obtain ⟨b, o2, c2, e, _, hb, hc2⟩ := h6.shape (by omega)
 rw [e] at h6
 refine ⟨g, o, c, b, o2, c2, h1, hc, hg, ?_, hc2, hb, ?_, ?_⟩
 ·rw [h4.cell p (by omega), List.getElem?_map, List.getElem?_range hp, ← e]; rfl
 ·rw [h6.cell (j * 2) (by omega)]; exact (ndRow_at hj).1
 ·rw [Nat.add_assoc, h6.cell (j * 2 + 1) (by omega)]; exact (ndRow_at hj).2
theorem SpcAt.row {w0 w : World} {bs : Nat} {tv : Value} {t : Tr} (h : SpcAt w0 w bs tv t) {p : Nat} (hp : p < t.length) :
  ∃ g o c u c2, w.heap[bs]? = some (.cells #[tv, .slice (some ⟨g, o, none⟩) t.length c] 149) ∧ t.length ≤ c ∧ g < w.heap.size ∧ w.cell? ⟨g, o + p, none⟩ = some (.slice u t[p]!.events.length c2) := by
 obtain ⟨nv, vn, h1, _, _, h4, h5⟩ := h
 obtain ⟨g, o, c, rfl, _, hg, hc⟩ := h4.shape (by omega)
 obtain ⟨u, c2, e, _⟩ := (h5 p hp).any
 refine ⟨g, o, c, u, c2, h1, hc, hg, ?_⟩
 rw [h4.cell p (by omega), List.getElem?_map, List.getElem?_range hp, ← e]; rfl
theorem SpcAt.ext {w0 w w' : World} {bs : Nat} {tv : Value} {t : Tr} (h : SpcAt w0 w bs tv t) (x : Ext w w') : SpcAt w0 w' bs tv t := by
 obtain ⟨nv, vn, h1, h2, h3, h4⟩ := h
 exact ⟨nv, vn, x.hp h1, h2, h3.trans' x, h4.ext x⟩
theorem enters_101 : ∀ args w, (callFunc 101 args).run Try.prog w = .ok (.enter 101 args) w := enters_of Try.func101 (by kernel_rfl) rfl
set_option maxHeartbeats 4000000 in
set_option maxRecDepth 100000 in
theorem may_calls (w0 w : World) (bs : Nat) (tv : Value) (t : Tr) (vc : Value) (c : List Int) (p : Nat) (h : SpcAt w0 w bs tv t) (hv : validT t = true) (hc : Ints w vc c) (hr : RangeC t c) (hp : p < t.length) :
  Calls Try.prog 101 #[.pointer (some ⟨bs, 0, none⟩), vc, .int .i64 p] w fun e w' => e = .returned (.bool (mayB t c p)) ∧ Ext w w' := by
 have HS := Lib.hid h
 have HC := Lib.hid hc
 obtain ⟨g, o, cc, u, c2, hbx, hcc, hg, hrow⟩ := h.row hp
 have hn1 := (valid_small hv).1
 have hpl : p < c.length := by rw [hr.1]; exact hp
 have hk := hr.at hp
 obtain ⟨ca, cc2, rfl, hcl, hcs⟩ := hc
 obtain ⟨cb, co, rfl, hcb, hcp⟩ := hcs (by intro e; rw [e] at hpl; simp at hpl)
 have c0 := hcp p hpl
 have HB := Lib.hid hbx
 have b1 := cellOf hbx 1
 simp only [List.getElem?_toArray, List.getElem?_cons_zero, List.getElem?_cons_succ] at b1
 obtain ⟨k, hkk⟩ : ∃ k : Nat, c[p]! = (k : Int) := ⟨c[p]!.toNat, by omega⟩
 have HAT := Lib.hid (fun (hlt : k < t[p]!.events.length) => h.at_ hp hlt)
 have HMB : Hid (mayB t c p = (decide ((k : Int) < (t[p]!.events.length : Int)) && sentB t c (p, k))) := Lib.hid (by unfold mayB; rw [hkk, Int.toNat_natCast])
 have HNS := Lib.hid (fun (hlt : k < t[p]!.events.length) => nd_sent (c := c) hv (p := p) (j := k) ⟨hp, hlt⟩)
 have HSI : Hid (∀ s, nd t p k = some s → s.1 < c.length) := Lib.hid (fun s hs => by
  unfold nd at hs
  split at hs
  ·rw [hr.1]; exact (findE_some hs).1.1
  ·cases hs)
 have HCC := Lib.hid hcp
 have HCL := Lib.hid hr.1
 rw [hkk] at c0 hk
 rw [hr.1] at hcl ⊢
 have hen := ((valid_small hv).2 p hp).2.1
 generalize mayB t c p = ans at *
 generalize t.length = N at *
 generalize t[p]!.events.length = ne at *
 have hpz : (p : Int) < (N : Int) := by omega
 have hpz0 : (0 : Int) ≤ (p : Int) := by omega
 have hpn0 : ¬ (p : Int) < 0 := by omega
 have hpn1 : ¬ (N : Int) ≤ (p : Int) := by omega
 clear h hv hr hbx hcs hcp hkk hpl
 by_cases hlt : k < ne
 case neg =>
  have d0 : decide ((p : Int) < 0) = false := decide_eq_false hpn0
  have d1 : decide ((N : Int) ≤ (p : Int)) = false := decide_eq_false hpn1
  have d2 : decide ((ne : Int) ≤ (k : Int)) = true := decide_eq_true (by omega)
  have e1 : decide (N ≤ p) = false := decide_eq_false (by omega)
  have e2 : decide (ne ≤ k) = true := decide_eq_true (by omega)
  have HQ : Hid (ans = false) := Lib.hid (by rw [HMB.out, decide_eq_false (by omega)]; rfl)
  clear hlt hpn0 hpn1
  go_enter Try.func101, Try.ntmps101
  go_wp2
  go_quiet (fail)
  go_wp2
  go_ret
  exact ⟨by rw [HQ.out]; rfl, (Ext.rf w).drN _⟩
 case pos =>
  have d0 : decide ((p : Int) < 0) = false := decide_eq_false hpn0
  have d1 : decide ((N : Int) ≤ (p : Int)) = false := decide_eq_false hpn1
  have d2 : decide ((ne : Int) ≤ (k : Int)) = false := decide_eq_false (by omega)
  have e1 : decide (N ≤ p) = false := decide_eq_false (by omega)
  have e2 : decide (ne ≤ k) = false := decide_eq_false (by omega)
  have HQ : Hid (ans = sentB t c (p, k)) := Lib.hid (by rw [HMB.out, decide_eq_true (by omega)]; rfl)
  have HN2 := Lib.hid (HNS.out hlt)
  have HA2 := Lib.hid (HAT.out hlt)
  clear hpn0 hpn1
  go_enter Try.func101, Try.ntmps101
  go_wp2
  go_quiet (fail)
  obtain ⟨g', o', c', b, o2, c2', hb', _, _, hr', hc2', hbw', x0, x1⟩ := HA2.out
  rw [HB.out] at hb'
  simp only [Option.some.injEq, Obj.cells.injEq, Array.mk.injEq, List.cons.injEq, Value.slice.injEq, Addr.mk.injEq, true_and, and_true] at hb'
  obtain ⟨⟨rfl, rfl⟩, rfl⟩ := hb'
  rw [hrow] at hr'
  simp only [Option.some.injEq, Value.slice.injEq, true_and] at hr'
  obtain ⟨rfl, rfl⟩ := hr'
  have HE := Lib.hid ((Ext.rf w).drN nq)
  have b1 := HE.out.cl b1
  have hrow := HE.out.cl hrow
  have c0 := HE.out.cl c0
  have x0 := HE.out.cl x0
  have x1 := HE.out.cl x1
  have hkz : (k : Int) < (ne : Int) := by omega
  have hkz0 : (0 : Int) ≤ (k : Int) := by omega
  have l1 := World.block_lt_of_cell? _ _ b1
  have l2 := World.block_lt_of_cell? _ _ hrow
  have l3 := World.block_lt_of_cell? _ _ c0
  have l4 := World.block_lt_of_cell? _ _ x0
  generalize w.drewN nq = w2 at *
  simp only at l1 l2 l3 l4
  have n1 : bs ≠ w2.heap.size := by omega
  have n2 : g ≠ w2.heap.size := by omega
  have n3 : cb ≠ w2.heap.size := by omega
  have n4 : b ≠ w2.heap.size := by omega
  obtain ⟨fe, hfe⟩ : ∃ x, nd t p k = x := ⟨_, rfl⟩
  rw [hfe] at x0 x1 HN2
  have HFE := Lib.hid hfe
  clear hlt hfe
  cases fe with
  | none =>
    simp only [eidA, eidB] at x0 x1
    have HQ2 : Hid (ans = true) := Lib.hid (by rw [HQ.out, HN2.out]; rfl)
    go_upto_region 3 with (fail)
    go_cut [7] (fun s7 wx => ∃ bb, s7 = .pointer (some ⟨bb, 0, none⟩) ∧ Aside (wx.heap[bb]? = some (idO 0 0)) ∧ Aside (Ext w2 wx))
    case first =>
     go_region
     all_goals (go_wp2; go_meet)
     all_goals exact ⟨w2.heap.size, rfl, (show _ = _ from (Ext.rf _).dr.hp (heap_alloc_new w2 (idO 0 0))), (show Ext _ _ from ((Ext.rf w2).al _).dr)⟩
    case rest =>
     obtain ⟨bb, rfl, HI9, HX9⟩ := hcut
     have s1 := cellOf HI9.out 1
     have s0 := cellOf HI9.out 0
     simp only [List.getElem?_toArray, List.getElem?_cons_zero, List.getElem?_cons_succ] at s0 s1
     clear b1 hrow c0 x0 x1
     go_wp2
     go_quiet (fail)
     go_wp2
     go_ret
     exact ⟨by rw [HQ2.out]; rfl, (HE.out.trans' HX9.out).drN _⟩
  | some s =>
    simp only [eidA, eidB] at x0 x1
    obtain ⟨q, j⟩ := s
    simp only at x0 x1 HN2
    have hqn := HSI.out _ HFE.out
    simp only at hqn
    have hz0 : ((j : Int) + 1 == 0) = false := by rw [beq_eq_false_iff_ne]; omega
    have HQ2 : Hid (ans = decide ((j : Int) + 1 ≤ c[q]!)) := Lib.hid (by rw [HQ.out, HN2.out, show decide (eidB (some (q, j)) = 0) = false from decide_eq_false (by show ¬ (j : Int) + 1 = 0; omega), Bool.false_or])
    have hcl2 : c.length = N := HCL.out
    have hqz : (q : Int) < (N : Int) := by omega
    have hqz0 : (0 : Int) ≤ (q : Int) := by omega
    have y0 := HE.out.cl (HCC.out q hqn)
    generalize c[q]! = cq at *
    go_upto_region 3 with (fail)
    go_cut [7] (fun s7 wx => ∃ bb, s7 = .pointer (some ⟨bb, 0, none⟩) ∧ Aside (wx.heap[bb]? = some (idO (q : Int) ((j : Int) + 1))) ∧ Aside (Ext w2 wx))
    case first =>
     go_region
     all_goals (go_wp2; go_meet)
     all_goals exact ⟨w2.heap.size, rfl, (show _ = _ from (Ext.rf _).dr.hp (heap_alloc_new w2 (idO (q : Int) ((j : Int) + 1)))), (show Ext _ _ from ((Ext.rf w2).al _).dr)⟩
    case rest =>
     obtain ⟨bb, rfl, HI9, HX9⟩ := hcut
     have s1 := cellOf HI9.out 1
     have s0 := cellOf HI9.out 0
     simp only [List.getElem?_toArray, List.getElem?_cons_zero, List.getElem?_cons_succ] at s0 s1
     have y1 := HX9.out.cl y0
     clear b1 hrow c0 x0 x1 y0
     by_cases hle : (j : Int) + 1 ≤ cq
     ·have d9 : decide ((j : Int) + 1 ≤ cq) = true := decide_eq_true hle
      have HQ3 := Lib.hid (HQ2.out.trans d9)
      clear hle
      go_wp2
      go_quiet (fail)
      go_wp2
      go_ret
      exact ⟨by rw [HQ3.out]; rfl, (HE.out.trans' HX9.out).drN _⟩
     ·have d9 : decide ((j : Int) + 1 ≤ cq) = false := decide_eq_false hle
      have HQ3 := Lib.hid (HQ2.out.trans d9)
      clear hle
      go_wp2
      go_quiet (fail)
      go_wp2
      go_ret
      exact ⟨by rw [HQ3.out]; rfl, (HE.out.trans' HX9.out).drN _⟩
end Go.Proofs.Ytfagfooggcinoaa
namespace Go.Proofs.Ytfagfooggcinoaa
open Go.RowKit
set_option linter.unusedVariables false
theorem info_cints : (Try.prog.info? 3).map (fun i => (i.zero, i.size, i.bytes)) = some (some (.int .i64 0), 1, 8) := by kernel_rfl
set_option maxHeartbeats 400000 in
theorem clone_cints (v : Value) (n : Nat) (xs : List Value) (w : World) (hv : CellsAt w v 1 n xs) (h1 : ∀ u ∈ xs, u.oneCell' = true) (hn : n ≤ 1000000) :
  Calls Try.prog 28 #[v] w fun e w' => ∃ v', e = .returned v' ∧ Row w' w.heap.size 3 1 v' n xs ∧ Ext w w' := by
 obtain ⟨i0, hi, hz0, hz1, hz2⟩ := info_parts info_cints
 obtain ⟨hl, a, c, rfl, hlc, hv⟩ := hv
 have HLC := Lib.hid hlc; clear hlc
 cases a with
 | none =>
   have hn0 : n = 0 := by
    rcases Nat.eq_zero_or_pos n with h | h
    ·exact h
    ·obtain ⟨_, _, h, _⟩ := hv h; simp at h
   subst hn0
   obtain rfl : xs = [] := List.eq_nil_of_length_eq_zero (by omega)
   clear hv h1 hn hl
   have heq := fun wx => Lib.run_eql_slice_nil (P := Try.prog) wx 25 3 none 0 c 0 0 Try.underlying25
   go_enter Try.func28, Try.ntmps28
   go_wp2
   go_ret
   exact ⟨_, rfl, Row.mkNil _ _ _ _, Ext.rf _⟩
 | some ad =>
   have heq := fun wx => Lib.run_eql_slice_nil (P := Try.prog) wx 25 3 (some ad) n c 0 0 Try.underlying25
   have HV := Lib.hid hv; clear hv
   have H1 := Lib.hid h1; clear h1
   have HL := Lib.hid hl; clear hl
   have hrow : Row (w.alloc (.cells #[] 3)) w.heap.size 3 1 (.slice (some ⟨w.heap.size, 0, none⟩) 0 0) 0 [] :=
    ⟨by simp, .inr ⟨w.heap.size, 0, 0, #[], rfl, Nat.le_refl _, heap_alloc_new w _, Nat.le_refl _, Nat.zero_le _, by simp, by simp⟩⟩
   have HR := Lib.hid hrow; clear hrow
   have hcs : 0 < n → ∃ ad', some ad = some ad' ∧ ∀ j u, xs[j]? = some u → (w.alloc (.cells #[] 3)).cell? (ad'.add j) = some u := by
    intro hp
    obtain ⟨b, off, hab, hb, hc⟩ := HV.out hp
    refine ⟨ad, rfl, fun j u hj => ?_⟩
    simp only [Option.some.injEq] at hab
    subst hab
    have hjl : j < n * 1 := by have := (List.getElem?_eq_some_iff.1 hj).1; rw [HL.out] at this; exact this
    rw [Addr.add_lit]
    exact ((Ext.rf w).al _).cl ((hc j hjl).trans hj)
   have HC := Lib.hid hcs; clear hcs
   go_enter Try.func28, Try.ntmps28
   go_wp2_with ((at_builtin; refine wpList_append_row rfl _ _ 25 rfl w.heap.size 3 i0 (.int .i64 0) 1 8 Try.underlying25 hi hz0 hz1 hz2 rfl (by decide) _ 0 [] rfl HR.out _ n c xs rfl HL.out HC.out H1.out (by unfold maxLen; omega) (by omega) (by simp) ?_; intro v' w1 hown1 hgrow1 hblk))
   go_ret
   exact ⟨_, rfl, by simpa using hown1, ((Ext.rf w).al _).gr hgrow1 (fun k hk => by have e : some w.heap.size = some k := hk; simp at e; omega)⟩
end Go.Proofs.Ytfagfooggcinoaa
namespace Go.Proofs.Ytfagfooggcinoaa
open Go.RowKit
set_option linter.unusedVariables false
def IntsO (w w' : World) (e : Ending) (l : List Int) : Prop := ∃ v, e = .returned v ∧ RowI w' w.heap.size v l ∧ Ext w w'
def nxC (c : List Int) (p : Nat) : List Int := c.set p (c[p]! + 1)
def idxL (n : Nat) : List Int := (List.range n).map fun (i : Nat) => (i : Int)
theorem idxL_len (n : Nat) : (idxL n).length = n := by simp [idxL]
def idxK (n k : Nat) : List Int := (List.range n).map fun (i : Nat) => if i < k then (i : Int) else 0
theorem idxK_len (n k : Nat) : (idxK n k).length = n := by simp [idxK]
theorem idxK_zero (n : Nat) : idxK n 0 = List.replicate n 0 := List.ext_getElem (by simp [idxK]) fun i h1 h2 => by simp [idxK]
theorem idxK_all (n : Nat) : idxK n n = idxL n := by
 unfold idxK idxL
 exact List.map_congr_left fun i hi => if_pos (List.mem_range.1 hi)
theorem idxK_step {n k : Nat} (hk : k < n) : (idxK n k).set k (k : Int) = idxK n (k + 1) := by
 refine List.ext_getElem (by simp [idxK]) fun i h1 h2 => ?_
 rw [List.getElem_set]
 simp only [idxK, List.getElem_map, List.getElem_range]
 by_cases e : k = i
 ·subst e; rw [if_pos rfl, if_pos (by omega)]
 ·rw [if_neg e]
  have : (i < k) = (i < k + 1) := by rw [eq_iff_iff]; omega
  simp only [this]
def lenK (t : Tr) (k : Nat) : List Int := (List.range t.length).map fun p => if p < k then (t[p]!.events.length : Int) else 0
def lenT (t : Tr) : List Int := (List.range t.length).map fun p => (t[p]!.events.length : Int)
theorem lenK_len (t : Tr) (k : Nat) : (lenK t k).length = t.length := by simp [lenK]
theorem lenT_len (t : Tr) : (lenT t).length = t.length := by simp [lenT]
theorem lenK_zero (t : Tr) : lenK t 0 = List.replicate t.length 0 := List.ext_getElem (by simp [lenK]) fun i h1 h2 => by simp [lenK]
theorem lenK_all (t : Tr) : lenK t t.length = lenT t := by
 unfold lenK lenT
 exact List.map_congr_left fun i hi => if_pos (List.mem_range.1 hi)
theorem lenK_step {t : Tr} {k : Nat} (hk : k < t.length) : (lenK t k).set k (t[k]!.events.length : Int) = lenK t (k + 1) := by
 refine List.ext_getElem (by simp [lenK]) fun i h1 h2 => ?_
 rw [List.getElem_set]
 simp only [lenK, List.getElem_map, List.getElem_range]
 by_cases e : k = i
 ·subst e; rw [if_pos rfl, if_pos (by omega)]
 ·rw [if_neg e]
  have : (i < k) = (i < k + 1) := by rw [eq_iff_iff]; omega
  simp only [this]
theorem info_intR : (Try.prog.info? 3).map (fun i => (i.zero, i.size, i.bytes)) = some (some (.int .i64 0), 1, 8) := by kernel_rfl
theorem enters_102 : ∀ args w, (callFunc 102 args).run Try.prog w = .ok (.enter 102 args) w := enters_of Try.func102 (by kernel_rfl) rfl
set_option maxHeartbeats 1000000 in
set_option maxRecDepth 100000 in
theorem rnext_calls (vc : Value) (c : List Int) (p : Nat) (w : World) (hc : Ints w vc c) (hn : c.length ≤ 1000000) (hp : p < c.length) (hk : -1000000 ≤ c[p]! ∧ c[p]! ≤ 1000000) :
  Calls Try.prog 102 #[vc, .int .i64 p] w fun e w' => IntsO w w' e (nxC c p) := by
 have HCL := Lib.hid (clone_cints vc c.length (c.map (Value.int .i64)) w hc.cells (by intro u hu; obtain ⟨x, _, rfl⟩ := List.mem_map.1 hu; rfl) hn)
 have HNX : Hid ((c.map (Value.int .i64)).set p (.int .i64 (c[p]! + 1)) = (nxC c p).map (Value.int .i64)) := Lib.hid (by unfold nxC; rw [List.map_set])
 have HNL : Hid ((nxC c p).length = c.length) := Lib.hid (by unfold nxC; rw [List.length_set])
 have HCP : Hid ((c.map (Value.int .i64))[p]? = some (.int .i64 c[p]!)) := Lib.hid (by rw [List.getElem?_map, List.getElem?_eq_getElem hp, getElem!_pos c p hp]; rfl)
 obtain ⟨ca, cc, rfl, _, _⟩ := hc
 generalize c.map (Value.int .i64) = xs at *
 generalize nxC c p = c' at *
 generalize c[p]! = x at *
 obtain ⟨N, hN⟩ : ∃ N, c.length = N := ⟨_, rfl⟩
 rw [hN] at HCL HNL hn hp ⊢
 have hpz : (p : Int) < (N : Int) := by omega
 have hpz0 : (0 : Int) ≤ (p : Int) := by omega
 clear hN
 go_enter Try.func102, Try.ntmps102
 go_wp2_with fail
 refine HCL.out.mono ?_
 rintro e w2 ⟨v2, rfl, hr2, hX2⟩
 obtain ⟨g, o, c2, rfl, hg0, hgw, hcc⟩ := hr2.shape (by omega)
 have HR2 := Lib.hid hr2
 have HX2 := Lib.hid hX2
 have hcc2 : (N : Int) ≤ (c2 : Int) := by omega
 have q0 := hr2.cell p (by omega)
 rw [HCP.out] at q0
 have f0 := hr2.free (o + p)
 have HS := Lib.hid (hr2.set p (.int .i64 (x + 1)) (by omega))
 have HE := Lib.hid (hX2.st (p := ⟨g, o + p, none⟩) hg0 (.int .i64 (x + 1)))
 have hw : IntKind.i64.wrap (x + 1) = x + 1 := IntWalk.i64_in _ (by omega)
 clear hr2 hX2
 go_wp2
 go_ret
 refine ⟨_, rfl, ?_, HE.out⟩
 rw [RowI, HNL.out, ← HNX.out]
 exact HS.out
set_option maxHeartbeats 2000000 in
set_option maxRecDepth 100000 in
theorem indices_calls (n : Nat) (w : World) (hn : n ≤ 1000) : Calls Try.prog 99 #[.int .i64 n] w fun e w' => IntsO w w' e (idxL n) := by
 obtain ⟨ii, hii, iz0, iz1, iz2⟩ := info_partsM info_intR
 go_enter Try.func99, Try.ntmps99
 go_wp2_with ((at_make; refine wpList_make_full _ rfl _ _ 25 rfl w.heap.size 3 ii (.int .i64 0) 1 Try.underlying25 hii iz0 iz1 .i64 .i64 _ _ n rfl rfl rfl rfl (by rw [iz2]; omega) (by unfold maxLen; omega) (Nat.le_refl _) ?_; intro w3 hown3 hgrow3))
 have HB3 := Lib.hid (show Row w3 w.heap.size 3 1 (.slice (some ⟨w.heap.size, 0, none⟩) n n) n ((idxK n 0).map (Value.int .i64)) from by
  have := Row.ofOwns hown3
  rw [show (Value.int .i64 0).cells = #[.int .i64 0] from rfl, Nat.mul_one, made_one] at this
  rw [idxK_zero, List.map_replicate]; exact this)
 have HX3 := Lib.hid ((Ext.rf w).gr hgrow3 (by simp))
 clear hown3 hgrow3
 go_wp2
 go_loopg [4, 9] n (fun g _ s9 wr => ∃ k : Nat, k ≤ n ∧ n - k ≤ g ∧ s9 = .int .i64 k ∧ Aside (Row wr w.heap.size 3 1 (.slice (some ⟨w.heap.size, 0, none⟩) n n) n ((idxK n k).map (Value.int .i64))) ∧ Aside (Ext w wr))
 case atStart => exact ⟨0, Nat.zero_le _, by omega, rfl, (show Row _ _ _ _ _ _ _ from HB3.out), (show Ext _ _ from HX3.out)⟩
 case round =>
  obtain ⟨k, hk, hg, rfl, HB, HX⟩ := hrel
  clear HB3 HX3
  by_cases hlt : k < n
  case neg =>
   have hltz : ¬ (k : Int) < (n : Int) := by omega
   have HKE := Lib.hid (show k = n by omega)
   go_wp2
   go_ret
   refine ⟨_, rfl, ?_, HX.out⟩
   have h := HB.out
   rw [HKE.out, idxK_all] at h
   rw [RowI, idxL_len]; exact h
  case pos =>
   have hltz : (k : Int) < (n : Int) := by omega
   have hkz : (0 : Int) ≤ (k : Int) := by omega
   have q0 := HB.out.cell k (by omega)
   rw [Nat.zero_add, List.getElem?_map, List.getElem?_eq_getElem (by rw [idxK_len]; exact hlt)] at q0
   simp only [Option.map_some] at q0
   have f0 := HB.out.free k
   have HS := Lib.hid (HB.out.set k (.int .i64 (k : Int)) (by omega))
   rw [Nat.zero_add, ← List.map_set, idxK_step hlt] at HS
   have HE := Lib.hid (HX.out.st (p := ⟨w.heap.size, k, none⟩) (Nat.le_refl _) (.int .i64 (k : Int)))
   obtain ⟨m0, hm0⟩ : ∃ x, wr.cell? ⟨w.heap.size, k, none⟩ = some x := ⟨_, q0⟩
   clear HB q0
   go_wp2
   go_roundg (n - (k + 1))
   case measure => omega
   case rel => exact ⟨k + 1, by omega, by omega, by go_num, (show Row _ _ _ _ _ _ _ from HS.out), (show Ext _ _ from HE.out)⟩
theorem enters_96 : ∀ args w, (callFunc 96 args).run Try.prog w = .ok (.enter 96 args) w := enters_of Try.func96 (by kernel_rfl) rfl
set_option maxHeartbeats 2000000 in
set_option maxRecDepth 100000 in
theorem zero_calls (w0 w : World) (bs : Nat) (tv : Value) (t : Tr) (h : SpcAt w0 w bs tv t) (hn : t.length ≤ 1000) : Calls Try.prog 96 #[.pointer (some ⟨bs, 0, none⟩)] w fun e w' => IntsO w w' e (List.replicate t.length 0) := by
 obtain ⟨ii, hii, iz0, iz1, iz2⟩ := info_partsM info_intR
 obtain ⟨nv, vn, h1, _, _, h4, _⟩ := h
 obtain ⟨na, nc, rfl, _⟩ := h4.any
 have b1 := cellOf h1 1
 simp only [List.getElem?_toArray, List.getElem?_cons_zero, List.getElem?_cons_succ] at b1
 generalize t.length = n at *
 clear h1 h4
 go_enter Try.func96, Try.ntmps96
 go_wp2_with ((at_make; refine wpList_make_full _ rfl _ _ 25 rfl w.heap.size 3 ii (.int .i64 0) 1 Try.underlying25 hii iz0 iz1 .i64 .i64 _ _ n rfl rfl rfl rfl (by rw [iz2]; omega) (by unfold maxLen; omega) (Nat.le_refl _) ?_; intro w3 hown3 hgrow3))
 have HB3 := Lib.hid (show RowI w3 w.heap.size (.slice (some ⟨w.heap.size, 0, none⟩) n n) (List.replicate n 0) from by
  have := Row.ofOwns hown3
  rw [show (Value.int .i64 0).cells = #[.int .i64 0] from rfl, Nat.mul_one, made_one] at this
  rw [RowI, List.length_replicate, List.map_replicate]; exact this)
 have HX3 := Lib.hid ((Ext.rf w).gr hgrow3 (by simp))
 clear hown3 hgrow3
 go_wp2
 go_ret
 exact ⟨_, rfl, HB3.out, HX3.out⟩
theorem enters_97 : ∀ args w, (callFunc 97 args).run Try.prog w = .ok (.enter 97 args) w := enters_of Try.func97 (by kernel_rfl) rfl
set_option maxHeartbeats 2000000 in
set_option maxRecDepth 100000 in
theorem full_calls (w0 w : World) (bs : Nat) (tv : Value) (t : Tr) (h : SpcAt w0 w bs tv t) (hn : t.length ≤ 1000) : Calls Try.prog 97 #[.pointer (some ⟨bs, 0, none⟩)] w fun e w' => IntsO w w' e (lenT t) := by
 have HS := Lib.hid h
 have HZ := Lib.hid (zero_calls w0 w bs tv t h hn)
 obtain ⟨nv, vn, h1, _, _, h4, _⟩ := h
 obtain ⟨na, nc, rfl, _⟩ := h4.any
 have HB := Lib.hid h1
 have HLZ := Lib.hid (lenK_zero t)
 have HLA := Lib.hid (lenK_all t)
 have HLL := Lib.hid (fun k => lenK_len t k)
 have HLS := Lib.hid (fun k hk => lenK_step (t := t) (k := k) hk)
 have HRW := Lib.hid (fun p (hp : p < t.length) => HS.out.row hp)
 have HTL := Lib.hid (lenT_len t)
 generalize hN : t.length = n at *
 clear h1 h4 hN
 go_enter Try.func97, Try.ntmps97
 go_wp2_with fail
 refine HZ.out.mono ?_
 rintro e w2 ⟨v2, rfl, hr2, hX2⟩
 obtain ⟨ra, rc, rfl, _⟩ := hr2.any
 rw [List.length_replicate]
 have HR2 : Hid (Row w2 w.heap.size 3 1 (.slice ra n rc) n ((lenK t 0).map (Value.int .i64))) := Lib.hid (by
  rw [RowI, List.length_replicate] at hr2
  rw [HLZ.out]; exact hr2)
 have HX2 := Lib.hid hX2
 have b1 := cellOf (hX2.hp HB.out) 1
 simp only [List.getElem?_toArray, List.getElem?_cons_zero, List.getElem?_cons_succ] at b1
 clear hr2 hX2
 go_wp2
 clear b1
 go_loopg [4, 5, 13] n (fun g _ _ s13 wr => ∃ k : Nat, k ≤ n ∧ n - k ≤ g ∧ s13 = .int .i64 k ∧ Aside (Row wr w.heap.size 3 1 (.slice ra n rc) n ((lenK t k).map (Value.int .i64))) ∧ Aside (Ext w wr))
 case atStart => exact ⟨0, Nat.zero_le _, by omega, rfl, (show Row _ _ _ _ _ _ _ from HR2.out), (show Ext _ _ from HX2.out)⟩
 case round =>
  obtain ⟨k, hk, hg, rfl, HR, HX⟩ := hrel
  clear HR2 HX2
  by_cases hlt : k < n
  case neg =>
   have hltz : ¬ (k : Int) < (n : Int) := by omega
   have HKE := Lib.hid (show k = n by omega)
   go_wp2
   go_ret
   refine ⟨_, rfl, ?_, HX.out⟩
   have h := HR.out
   rw [HKE.out, HLA.out] at h
   rw [RowI, HTL.out]; exact h
  case pos =>
   have hltz : (k : Int) < (n : Int) := by omega
   have hkz : (0 : Int) ≤ (k : Int) := by omega
   obtain ⟨g, o, c, u, c2, hbx, hcc, hgw, hrow⟩ := HRW.out k hlt
   rw [HB.out] at hbx
   simp only [Option.some.injEq, Obj.cells.injEq, Array.mk.injEq, List.cons.injEq, Value.slice.injEq, true_and, and_true] at hbx
   obtain ⟨rfl, _, rfl⟩ := hbx
   have r0 := HX.out.cl hrow
   obtain ⟨rg, rg2, rc2, hre, hb0, hbw, hrn⟩ := HR.out.shape (by omega)
   simp only [Value.slice.injEq, true_and] at hre
   obtain ⟨rfl, rfl⟩ := hre
   have q0 := HR.out.cell k (by omega)
   rw [List.getElem?_map, List.getElem?_eq_getElem (by rw [HLL.out]; exact hlt)] at q0
   simp only [Option.map_some] at q0
   have f0 := HR.out.free (rg2 + k)
   have HSS := Lib.hid (HR.out.set k (.int .i64 (t[k]!.events.length : Int)) (by omega))
   rw [← List.map_set, HLS.out k hlt] at HSS
   have HE := Lib.hid (HX.out.st (p := ⟨rg, rg2 + k, none⟩) hb0 (.int .i64 (t[k]!.events.length : Int)))
   obtain ⟨m0, hm0⟩ : ∃ x, wr.cell? ⟨rg, rg2 + k, none⟩ = some x := ⟨_, q0⟩
   generalize t[k]!.events.length = ne at *
   clear HR q0 hrow
   go_wp2
   go_roundg (n - (k + 1))
   case measure => exact Nat.lt_of_lt_of_le (Nat.sub_lt_sub_left hlt (Nat.lt_succ_self k)) hg
   case rel => exact ⟨k + 1, hlt, Nat.le_refl _, by go_num, (show Row _ _ _ _ _ _ _ from HSS.out), (show Ext _ _ from HE.out)⟩
end Go.Proofs.Ytfagfooggcinoaa
namespace Go.Proofs.Ytfagfooggcinoaa
open Go.RowKit
set_option linter.unusedVariables false
theorem step_callW {P : Program} {ops : Array Oper} {o : Oper} {a : Act} {w : World} {K : Act → World → Prop} {Q : Exit → Act → World → Prop} {E : Prop}
  (hw : Region.wanted o (yielded ops a.tmps) = true) (f : FuncId) (args : Array Operand) (tys : Array TypeId) (ho : o.op = .call { callee := .value (.func f), args := args, argTypes := tys })
  (eg : ∀ args w, (callFunc f args).run P w = .ok (.enter f args) w) (vals : List Value) (hv : args.toList.map a.eval = vals) {R : Ending → World → Prop} (hc : Calls P f vals.toArray w R)
  (hK : ∀ e w', R e w' → ∃ v, e = .returned v ∧ K (a.put o.dst v) w') :
  if Region.wanted o (yielded ops a.tmps) = true then Oper.wp P o a w K Q else E := by
 rw [if_pos hw]
 have hr : (execOp a.eval o).run P w = .ok (.enter f vals.toArray) w := by
  have hv' : args.map a.eval = vals.toArray := by rw [← hv]; cases args; simp
  have he : a.eval (.func f) = .func (.func f) #[] #[] := rfl
  unfold execOp
  simp only [ho, resolve, he, Deferred.ofValue, Sem.run_bind, Sem.run_pure, Result.andThen_ok, invoke, Array.append_empty, hv']
  simp [eg]
 unfold Oper.wp
 rw [hr, Oper.upon_enter]
 refine hc.mono fun e w' h => ?_
 obtain ⟨v, rfl, hk⟩ := hK e w' h
 exact hk
end Go.Proofs.Ytfagfooggcinoaa
namespace Go.Proofs.Ytfagfooggcinoaa
open Go.RowKit
set_option linter.unusedVariables false
set_option maxHeartbeats 400000 in
theorem indexFunc_int (g : Nat) (cb : Array Value) (eg : ∀ args w, (callFunc g args).run Try.prog w = .ok (.enter g args) w) (p : Int → Bool) (v : Value) (l : List Int) (w : World)
  (hv : Ints w v l) (hn : l.length ≤ 1000000) (hp : Says Try.prog g cb p l w) :
  Calls Try.prog 98 #[v, .func (.func g) #[] cb] w fun e w' => e = .returned (.int .i64 (firstAt p l)) ∧ Ext w w' := by
 obtain ⟨a, c, rfl, hlc, hv⟩ := hv
 have HLC := Lib.hid hlc; clear hlc
 have HV := Lib.hid hv; clear hv
 have HP := Lib.hid hp; clear hp
 generalize hln : l.length = n at hn
 have HL := Lib.hid hln; clear hln
 go_enter Try.func98, Try.ntmps98
 go_wp2
 go_loopg [5, 8] n (fun m _ s8 wr => ∃ k : Nat, k ≤ n ∧ n - k ≤ m ∧ s8 = .int .i64 k ∧ Ext w wr ∧ Aside (∀ j, j < k → p l[j]! = false))
 case atStart => exact ⟨0, Nat.zero_le _, by omega, rfl, Below.refl _ _, (fun j hj => absurd hj (Nat.not_lt_zero _))⟩
 case round =>
  obtain ⟨k, hk, hm, rfl, he, A⟩ := hrel
  have HE := Lib.hid he; clear he
  by_cases hlt : k < n
  ·obtain ⟨b, off, rfl, hb, hc⟩ := HV.out (by intro e; have := HL.out; simp [e] at this; omega)
   have hcell : wr.cell? ⟨b, off + k, none⟩ = some (.int .i64 l[k]!) := (HE.out.cell hb).trans (hc k (by rw [HL.out]; exact hlt))
   have hltz : (k : Int) < (n : Int) := by omega
   clear hc
   have hcall := HP.out _ (mem_at l k (by rw [HL.out]; exact hlt)) _ HE.out
   generalize hy : l[k]! = y at hcell hcall
   have B := Lib.hid hy
   clear hy
   cases hq : p y with
   | true =>
     rw [hq] at hcall
     have HQ := Lib.hid hq; clear hq
     go_wp2_with (go_at_fn g; refine hcall.mono ?_; rintro e w' ⟨rfl, he'⟩)
     go_ret
     exact ⟨by rw [firstAt_hit p l k (by rw [HL.out]; omega) (by rw [B.out]; exact HQ.out) A.out]; rfl, HE.out.trans' he'⟩
   | false =>
     rw [hq] at hcall
     have HQ := Lib.hid hq; clear hq
     go_wp2_with (go_at_fn g; refine hcall.mono ?_; rintro e w' ⟨rfl, he'⟩)
     go_roundg (n - (k + 1))
     case measure => omega
     case rel =>
      refine ⟨k + 1, by omega, by omega, by go_num, HE.out.trans' he', (show Aside _ from fun j hj => ?_)⟩
      by_cases e : j = k
      ·subst e
       rw [B.out]; exact HQ.out
      ·exact A.out j (by omega)
  ·have hltz : ¬ (k : Int) < (n : Int) := by omega
   go_wp2
   go_ret
   exact ⟨by rw [firstAt_miss p l (fun j hj => A.out j (by rw [HL.out] at hj; omega))]; rfl, HE.out⟩
end Go.Proofs.Ytfagfooggcinoaa
namespace Go.Proofs.Ytfagfooggcinoaa
open Go.RowKit
set_option linter.unusedVariables false
theorem beq_at (l m : List Int) (h : l.length = m.length) : (∃ k, k < l.length ∧ l[k]! ≠ m[k]!) → (l == m) = false := by
 rintro ⟨k, hk, hne⟩
 rw [beq_eq_false_iff_ne]
 rintro rfl
 exact hne rfl
theorem beq_all (l m : List Int) (h : l.length = m.length) (hall : ∀ k, k < l.length → l[k]! = m[k]!) : (l == m) = true := by
 rw [beq_iff_eq]
 refine List.ext_getElem h fun i h1 h2 => ?_
 have := hall i h1
 rwa [getElem!_pos l i h1, getElem!_pos m i h2] at this
theorem beq_len (l m : List Int) (h : l.length ≠ m.length) : (l == m) = false := by
 rw [beq_eq_false_iff_ne]
 rintro rfl
 exact h rfl
set_option maxHeartbeats 400000 in
theorem equal_int (u v : Value) (l m : List Int) (w : World) (hu : Ints w u l) (hv : Ints w v m) (hn : l.length ≤ 1000000) (hm : m.length ≤ 1000000) :
  Calls Try.prog 19 #[u, v] w fun e w' => e = .returned (.bool (l == m)) ∧ Ext w w' := by
 obtain ⟨a, c, rfl, _, hu⟩ := hu
 obtain ⟨a2, c2, rfl, _, hv⟩ := hv
 have HU := Lib.hid hu; clear hu
 have HV := Lib.hid hv; clear hv
 generalize hln : l.length = n at hn
 generalize hlm : m.length = n2 at hm
 have HL := Lib.hid hln; clear hln
 have HM := Lib.hid hlm; clear hlm
 by_cases hne : n = n2
 ·subst hne
  go_enter Try.func19, Try.ntmps19
  go_wp2
  go_loopg [5, 13] n (fun g _ s13 wr => ∃ k : Nat, k ≤ n ∧ n - k ≤ g ∧ s13 = .int .i64 k ∧ Ext w wr ∧ Aside (∀ j, j < k → l[j]! = m[j]!))
  case atStart => exact ⟨0, Nat.zero_le _, by omega, rfl, Ext.rf _, (fun j hj => absurd hj (Nat.not_lt_zero _))⟩
  case round =>
   obtain ⟨k, hk, hg, rfl, he, A⟩ := hrel
   have HE := Lib.hid he; clear he
   by_cases hlt : k < n
   ·obtain ⟨b, off, rfl, hb, hc⟩ := HU.out (by intro e; have := HL.out; simp [e] at this; omega)
    obtain ⟨b2, off2, rfl, hb2, hc2⟩ := HV.out (by intro e; have := HM.out; simp [e] at this; omega)
    have hcell : wr.cell? ⟨b, off + k, none⟩ = some (.int .i64 l[k]!) := HE.out.cl (hc k (by rw [HL.out]; exact hlt))
    have hcell2 : wr.cell? ⟨b2, off2 + k, none⟩ = some (.int .i64 m[k]!) := HE.out.cl (hc2 k (by rw [HM.out]; exact hlt))
    have hltz : (k : Int) < (n : Int) := by omega
    have hkz : (0 : Int) ≤ (k : Int) := by omega
    clear hc HV hc2 HU
    generalize hy : l[k]! = y at hcell
    generalize hz : m[k]! = z at hcell2
    have B := Lib.hid hy
    have C := Lib.hid hz
    clear hy hz
    cases hq : (y != z) with
    | true =>
      go_wp2
      go_quiet (fail)
      go_wp2
      go_ret
      exact ⟨by rw [beq_at l m (by rw [HL.out, HM.out]) ⟨k, by rw [HL.out]; exact hlt, by rw [B.out, C.out]; simpa using hq⟩]; rfl, HE.out.drN _⟩
    | false =>
      go_wp2
      go_quiet (fail)
      go_wp2
      go_roundg (n - (k + 1))
      case measure => omega
      case rel =>
       refine ⟨k + 1, by omega, by omega, by go_num, HE.out.drN _, (show Aside _ from fun j hj => ?_)⟩
       by_cases e : j = k
       ·subst e
        rw [B.out, C.out]; simpa using hq
       ·exact A.out j (by omega)
   ·have hltz : ¬ (k : Int) < (n : Int) := by omega
    go_wp2
    go_ret
    exact ⟨by rw [beq_all l m (by rw [HL.out, HM.out]) (fun j hj => A.out j (by rw [HL.out] at hj; omega))]; rfl, HE.out⟩
 ·have h1 : ((n : Int) != (n2 : Int)) = true := by rw [bne_iff_ne]; omega
  go_enter Try.func19, Try.ntmps19
  go_wp2
  go_ret
  exact ⟨by rw [beq_len l m (by rw [HL.out, HM.out]; exact hne)]; rfl, Ext.rf _⟩
end Go.Proofs.Ytfagfooggcinoaa
namespace Go.Proofs.Ytfagfooggcinoaa
open Go.RowKit
set_option linter.unusedVariables false
def stepB (t : Tr) (c d : List Int) (p : Nat) : Bool := mayB t c p && (d == nxC c p)
theorem enters_100 : ∀ args w, (callFunc 100 args).run Try.prog w = .ok (.enter 100 args) w := enters_of Try.func100 (by kernel_rfl) rfl
theorem enters_19 : ∀ args w, (callFunc 19 args).run Try.prog w = .ok (.enter 19 args) w := enters_of Try.func19 (by kernel_rfl) rfl
set_option maxHeartbeats 8000000 in
set_option maxRecDepth 100000 in
theorem steps1_calls (w0 w : World) (bs b1 b2 b3 b4 : Nat) (tv rv dv : Value) (t : Tr) (r : List (List Int)) (i : Nat) (d : List Int) (p : Nat) (h : SpcAt w0 w bs tv t) (hv : validT t = true) (hrv : Sl RInts 1 w rv r) (hi : i < r.length) (hr : RangeC t r[i]!) (hdv : Ints w dv d) (hdl : d.length ≤ 1000000) (hp : p < t.length)
  (hc1 : w.cell? ⟨b1, 0, none⟩ = some (.pointer (some ⟨bs, 0, none⟩))) (hc2 : w.cell? ⟨b2, 0, none⟩ = some rv) (hc3 : w.cell? ⟨b3, 0, none⟩ = some (.int .i64 i)) (hc4 : w.cell? ⟨b4, 0, none⟩ = some dv) (hrl : r.length ≤ 1000000) :
  Calls Try.prog 100 #[.int .i64 p, .pointer (some ⟨b1, 0, none⟩), .pointer (some ⟨b2, 0, none⟩), .pointer (some ⟨b3, 0, none⟩), .pointer (some ⟨b4, 0, none⟩)] w fun e w' => e = .returned (.bool (stepB t r[i]! d p)) ∧ Ext w w' := by
 have hpl : p < r[i]!.length := by rw [hr.1]; exact hp
 obtain ⟨rB, rO, rC, uB, uO, uC, hve, hrC, hrB, hr0, huC, huB, hu0⟩ := runAt hrv hi hpl
 have hints : Ints w (.slice (some ⟨uB, uO, none⟩) r[i]!.length uC) r[i]! := by
  obtain ⟨B, O, C, vs, e1, _, _, hvl, ⟨u, rfl, hu⟩, hcs⟩ := Sl.cellsOf hrv i hi
  have h0 := hcs 0 (by omega)
  simp only [List.getElem!_cons_zero, Nat.mul_one, Nat.add_zero] at h0
  rw [hve] at e1
  simp only [Value.slice.injEq, Option.some.injEq, Addr.mk.injEq, true_and, and_true] at e1
  obtain ⟨⟨rfl, rfl⟩, rfl⟩ := e1
  rw [hr0] at h0
  simp only [Option.some.injEq] at h0
  rw [h0]; exact hu
 have hkr := hr.at hp
 have hen := ((valid_small hv).2 p hp).2.1
 have hcl : r[i]!.length ≤ 1000000 := by rw [hr.1]; exact (valid_small hv).1
 have HM := Lib.hid (fun W (hW : Ext w W) => may_calls w0 W bs tv t _ r[i]! p (h.ext hW) hv (hints.ext hW) hr hp)
 have HN := Lib.hid (fun W (hW : Ext w W) => rnext_calls _ r[i]! p W (hints.ext hW) hcl hpl (by omega))
 have HNL : Hid ((nxC r[i]! p).length ≤ 1000000) := Lib.hid (by unfold nxC; rw [List.length_set]; exact hcl)
 have HQ := Lib.hid (fun W (hW : Ext w W) x (hx : Ints W x (nxC r[i]! p)) => equal_int dv x d (nxC r[i]! p) W (hdv.ext hW) hx hdl HNL.out)
 have HST : Hid (stepB t r[i]! d p = (mayB t r[i]! p && (d == nxC r[i]! p))) := Lib.hid rfl
 obtain ⟨da, dc, rfl, _⟩ := id hdv
 subst hve
 generalize stepB t r[i]! d p = ans at *
 generalize mayB t r[i]! p = m at *
 generalize nxC r[i]! p = nx at *
 generalize (d == nx) = q at *
 generalize d.length = D at *
 generalize r[i]!.length = cl at *
 generalize r.length = R at *
 have hiz : (i : Int) < (R : Int) := by omega
 have hiz0 : (0 : Int) ≤ (i : Int) := by omega
 clear h hv hrv hr hdv hints hu0 hkr
 cases m with
 | false =>
   have HA : Hid (ans = false) := Lib.hid HST.out
   go_enter Try.func100, Try.ntmps100
   go_wp2
   refine wp_region_tail (fun W => W.cell? ⟨b1, 0, none⟩ = some (.pointer (some ⟨bs, 0, none⟩)) ∧ W.cell? ⟨b2, 0, none⟩ = some (.slice (some ⟨rB, rO, none⟩) R rC) ∧ W.cell? ⟨b3, 0, none⟩ = some (.int .i64 i) ∧ W.cell? ⟨b4, 0, none⟩ = some (.slice da D dc) ∧ W.cell? ⟨rB, rO + i, none⟩ = some (.slice (some ⟨uB, uO, none⟩) cl uC)) 17 (by kernel_rfl) ⟨hc1, hc2, hc3, hc4, hr0⟩ (fun hHeld => ?_)
   refine tkA 0 7 (v := ?_) rfl rfl (by kernel_rfl) (fun _ _ _ h => h) ?_ (by assumption) ?_
   rotate_left
   ·(intro w hSw; (try dsimp only at hSw); go_simp; try (with_reducible rfl))
   try simp only [Act.put]
   try simp only [List.setIfInBounds_toArray]
   try simp only [List.set_cons_zero, List.set_cons_succ]
   refine tkA 1 8 (v := ?_) rfl rfl (by kernel_rfl) (fun _ _ _ h => h) ?_ (by assumption) ?_
   rotate_left
   ·(intro w hSw; (try dsimp only at hSw); go_simp; try (with_reducible rfl))
   try simp only [Act.put]
   try simp only [List.setIfInBounds_toArray]
   try simp only [List.set_cons_zero, List.set_cons_succ]
   refine tkA 2 9 (v := ?_) rfl rfl (by kernel_rfl) (fun _ _ _ h => h) ?_ (by assumption) ?_
   rotate_left
   ·(intro w hSw; (try dsimp only at hSw); go_simp; try (with_reducible rfl))
   try simp only [Act.put]
   try simp only [List.setIfInBounds_toArray]
   try simp only [List.set_cons_zero, List.set_cons_succ]
   refine tkA 3 10 (v := ?_) rfl rfl (by kernel_rfl) (fun _ _ _ h => h) ?_ (by assumption) ?_
   rotate_left
   ·(intro w hSw; (try dsimp only at hSw); go_simp; try (with_reducible rfl))
   try simp only [Act.put]
   try simp only [List.setIfInBounds_toArray]
   try simp only [List.set_cons_zero, List.set_cons_succ]
   refine tkA 4 11 (v := ?_) rfl rfl (by kernel_rfl) (fun _ _ _ h => h) ?_ (by assumption) ?_
   rotate_left
   ·(intro w hSw; (try dsimp only at hSw); go_simp; try (with_reducible rfl))
   try simp only [Act.put]
   try simp only [List.setIfInBounds_toArray]
   try simp only [List.set_cons_zero, List.set_cons_succ]
   refine tkA 5 12 (v := ?_) rfl rfl (by kernel_rfl) (fun _ _ _ h => h) ?_ (by assumption) ?_
   rotate_left
   ·(intro w hSw; (try dsimp only at hSw); go_simp; try (with_reducible rfl))
   try simp only [Act.put]
   try simp only [List.setIfInBounds_toArray]
   try simp only [List.set_cons_zero, List.set_cons_succ]
   refine wpAnyT_step (i := 6) (o := ⟨some 13, _, _, _, _, _⟩) (by kernel_rfl) rfl (fun K hK => ?_)
   refine step_call rfl 101 _ _ rfl enters_101 [.pointer (some ⟨bs, 0, none⟩), .slice (some ⟨uB, uO, none⟩) cl uC, .int .i64 p] (by first | rfl | kernel_rfl | go_simp) (HM.out _ (Ext.rf _).dr) ?_
   rintro e y ⟨rfl, hX2⟩
   refine ⟨_, rfl, ?_⟩
   have HX2 : Hid (Ext w y) := Lib.hid ((Ext.rf w).dr.trans' hX2)
   clear hX2
   refine hK.out _ _ ?_ (fun hHeld => ?_)
   ·(try dsimp only)
    exact ⟨HX2.out.cl hc1, HX2.out.cl hc2, HX2.out.cl hc3, HX2.out.cl hc4, HX2.out.cl hr0⟩
   clear hK K
   try simp only [Act.put]
   try simp only [List.setIfInBounds_toArray]
   try simp only [List.set_cons_zero, List.set_cons_succ]
   refine tkA 7 14 (v := ?_) rfl rfl (by kernel_rfl) (fun _ _ _ h => h) ?_ (by assumption) ?_
   rotate_left
   ·(intro w hSw; (try dsimp only at hSw); go_simp; try (with_reducible rfl))
   try simp only [Act.put]
   try simp only [List.setIfInBounds_toArray]
   try simp only [List.set_cons_zero, List.set_cons_succ]
   refine tkU 8 15 rfl rfl (by kernel_rfl) (fun _ _ _ h => h) (by assumption) ?_
   try simp only [Act.put]
   try simp only [List.setIfInBounds_toArray]
   try simp only [List.set_cons_zero, List.set_cons_succ]
   refine tkU 9 16 rfl rfl (by kernel_rfl) (fun _ _ _ h => h) (by assumption) ?_
   try simp only [Act.put]
   try simp only [List.setIfInBounds_toArray]
   try simp only [List.set_cons_zero, List.set_cons_succ]
   refine tkU 10 17 rfl rfl (by kernel_rfl) (fun _ _ _ h => h) (by assumption) ?_
   try simp only [Act.put]
   try simp only [List.setIfInBounds_toArray]
   try simp only [List.set_cons_zero, List.set_cons_succ]
   refine tkU 11 18 rfl rfl (by kernel_rfl) (fun _ _ _ h => h) (by assumption) ?_
   try simp only [Act.put]
   try simp only [List.setIfInBounds_toArray]
   try simp only [List.set_cons_zero, List.set_cons_succ]
   refine tkU 12 19 rfl rfl (by kernel_rfl) (fun _ _ _ h => h) (by assumption) ?_
   try simp only [Act.put]
   try simp only [List.setIfInBounds_toArray]
   try simp only [List.set_cons_zero, List.set_cons_succ]
   refine tkU 13 20 rfl rfl (by kernel_rfl) (fun _ _ _ h => h) (by assumption) ?_
   try simp only [Act.put]
   try simp only [List.setIfInBounds_toArray]
   try simp only [List.set_cons_zero, List.set_cons_succ]
   refine tkU 14 21 rfl rfl (by kernel_rfl) (fun _ _ _ h => h) (by assumption) ?_
   try simp only [Act.put]
   try simp only [List.setIfInBounds_toArray]
   try simp only [List.set_cons_zero, List.set_cons_succ]
   refine tkU 15 22 rfl rfl (by kernel_rfl) (fun _ _ _ h => h) (by assumption) ?_
   try simp only [Act.put]
   try simp only [List.setIfInBounds_toArray]
   try simp only [List.set_cons_zero, List.set_cons_succ]
   refine tkA 16 23 (v := ?_) rfl rfl (by kernel_rfl) (fun _ _ _ h => h) ?_ (by assumption) ?_
   rotate_left
   ·(intro w hSw; (try dsimp only at hSw); go_simp; try (with_reducible rfl))
   try simp only [Act.put]
   try simp only [List.setIfInBounds_toArray]
   try simp only [List.set_cons_zero, List.set_cons_succ]
   refine wpAnyT_last (by kernel_rfl) rfl (by kernel_rfl) (fun K hK => ?_)
   go_simp
   refine hK.out _ _ ?_
   go_wp2
   go_ret
   exact ⟨by rw [HA.out]; rfl, HX2.out⟩
 | true =>
   have HA : Hid (ans = q) := Lib.hid (by rw [HST.out]; rfl)
   go_enter Try.func100, Try.ntmps100
   go_wp2
   refine wp_region_tail (fun W => W.cell? ⟨b1, 0, none⟩ = some (.pointer (some ⟨bs, 0, none⟩)) ∧ W.cell? ⟨b2, 0, none⟩ = some (.slice (some ⟨rB, rO, none⟩) R rC) ∧ W.cell? ⟨b3, 0, none⟩ = some (.int .i64 i) ∧ W.cell? ⟨b4, 0, none⟩ = some (.slice da D dc) ∧ W.cell? ⟨rB, rO + i, none⟩ = some (.slice (some ⟨uB, uO, none⟩) cl uC)) 17 (by kernel_rfl) ⟨hc1, hc2, hc3, hc4, hr0⟩ (fun hHeld => ?_)
   refine tkA 0 7 (v := ?_) rfl rfl (by kernel_rfl) (fun _ _ _ h => h) ?_ (by assumption) ?_
   rotate_left
   ·(intro w hSw; (try dsimp only at hSw); go_simp; try (with_reducible rfl))
   try simp only [Act.put]
   try simp only [List.setIfInBounds_toArray]
   try simp only [List.set_cons_zero, List.set_cons_succ]
   refine tkA 1 8 (v := ?_) rfl rfl (by kernel_rfl) (fun _ _ _ h => h) ?_ (by assumption) ?_
   rotate_left
   ·(intro w hSw; (try dsimp only at hSw); go_simp; try (with_reducible rfl))
   try simp only [Act.put]
   try simp only [List.setIfInBounds_toArray]
   try simp only [List.set_cons_zero, List.set_cons_succ]
   refine tkA 2 9 (v := ?_) rfl rfl (by kernel_rfl) (fun _ _ _ h => h) ?_ (by assumption) ?_
   rotate_left
   ·(intro w hSw; (try dsimp only at hSw); go_simp; try (with_reducible rfl))
   try simp only [Act.put]
   try simp only [List.setIfInBounds_toArray]
   try simp only [List.set_cons_zero, List.set_cons_succ]
   refine tkA 3 10 (v := ?_) rfl rfl (by kernel_rfl) (fun _ _ _ h => h) ?_ (by assumption) ?_
   rotate_left
   ·(intro w hSw; (try dsimp only at hSw); go_simp; try (with_reducible rfl))
   try simp only [Act.put]
   try simp only [List.setIfInBounds_toArray]
   try simp only [List.set_cons_zero, List.set_cons_succ]
   refine tkA 4 11 (v := ?_) rfl rfl (by kernel_rfl) (fun _ _ _ h => h) ?_ (by assumption) ?_
   rotate_left
   ·(intro w hSw; (try dsimp only at hSw); go_simp; try (with_reducible rfl))
   try simp only [Act.put]
   try simp only [List.setIfInBounds_toArray]
   try simp only [List.set_cons_zero, List.set_cons_succ]
   refine tkA 5 12 (v := ?_) rfl rfl (by kernel_rfl) (fun _ _ _ h => h) ?_ (by assumption) ?_
   rotate_left
   ·(intro w hSw; (try dsimp only at hSw); go_simp; try (with_reducible rfl))
   try simp only [Act.put]
   try simp only [List.setIfInBounds_toArray]
   try simp only [List.set_cons_zero, List.set_cons_succ]
   refine wpAnyT_step (i := 6) (o := ⟨some 13, _, _, _, _, _⟩) (by kernel_rfl) rfl (fun K hK => ?_)
   refine step_call rfl 101 _ _ rfl enters_101 [.pointer (some ⟨bs, 0, none⟩), .slice (some ⟨uB, uO, none⟩) cl uC, .int .i64 p] (by first | rfl | kernel_rfl | go_simp) (HM.out _ (Ext.rf _).dr) ?_
   rintro e y ⟨rfl, hX2⟩
   refine ⟨_, rfl, ?_⟩
   have HX2 : Hid (Ext w y) := Lib.hid ((Ext.rf w).dr.trans' hX2)
   clear hX2
   refine hK.out _ _ ?_ (fun hHeld => ?_)
   ·(try dsimp only)
    exact ⟨HX2.out.cl hc1, HX2.out.cl hc2, HX2.out.cl hc3, HX2.out.cl hc4, HX2.out.cl hr0⟩
   clear hK K
   try simp only [Act.put]
   try simp only [List.setIfInBounds_toArray]
   try simp only [List.set_cons_zero, List.set_cons_succ]
   refine tkA 7 14 (v := ?_) rfl rfl (by kernel_rfl) (fun _ _ _ h => h) ?_ (by assumption) ?_
   rotate_left
   ·(intro w hSw; (try dsimp only at hSw); go_simp; try (with_reducible rfl))
   try simp only [Act.put]
   try simp only [List.setIfInBounds_toArray]
   try simp only [List.set_cons_zero, List.set_cons_succ]
   refine tkA 8 15 (v := ?_) rfl rfl (by kernel_rfl) (fun _ _ _ h => h) ?_ (by assumption) ?_
   rotate_left
   ·(intro w hSw; (try dsimp only at hSw); go_simp; try (with_reducible rfl))
   try simp only [Act.put]
   try simp only [List.setIfInBounds_toArray]
   try simp only [List.set_cons_zero, List.set_cons_succ]
   refine tkA 9 16 (v := ?_) rfl rfl (by kernel_rfl) (fun _ _ _ h => h) ?_ (by assumption) ?_
   rotate_left
   ·(intro w hSw; (try dsimp only at hSw); go_simp; try (with_reducible rfl))
   try simp only [Act.put]
   try simp only [List.setIfInBounds_toArray]
   try simp only [List.set_cons_zero, List.set_cons_succ]
   refine tkA 10 17 (v := ?_) rfl rfl (by kernel_rfl) (fun _ _ _ h => h) ?_ (by assumption) ?_
   rotate_left
   ·(intro w hSw; (try dsimp only at hSw); go_simp; try (with_reducible rfl))
   try simp only [Act.put]
   try simp only [List.setIfInBounds_toArray]
   try simp only [List.set_cons_zero, List.set_cons_succ]
   refine tkA 11 18 (v := ?_) rfl rfl (by kernel_rfl) (fun _ _ _ h => h) ?_ (by assumption) ?_
   rotate_left
   ·(intro w hSw; (try dsimp only at hSw); go_simp; try (with_reducible rfl))
   try simp only [Act.put]
   try simp only [List.setIfInBounds_toArray]
   try simp only [List.set_cons_zero, List.set_cons_succ]
   refine tkA 12 19 (v := ?_) rfl rfl (by kernel_rfl) (fun _ _ _ h => h) ?_ (by assumption) ?_
   rotate_left
   ·(intro w hSw; (try dsimp only at hSw); go_simp; try (with_reducible rfl))
   try simp only [Act.put]
   try simp only [List.setIfInBounds_toArray]
   try simp only [List.set_cons_zero, List.set_cons_succ]
   refine tkA 13 20 (v := ?_) rfl rfl (by kernel_rfl) (fun _ _ _ h => h) ?_ (by assumption) ?_
   rotate_left
   ·(intro w hSw; (try dsimp only at hSw); go_simp; try (with_reducible rfl))
   try simp only [Act.put]
   try simp only [List.setIfInBounds_toArray]
   try simp only [List.set_cons_zero, List.set_cons_succ]
   refine wpAnyT_step (i := 14) (o := ⟨some 21, _, _, _, _, _⟩) (by kernel_rfl) rfl (fun K hK => ?_)
   refine step_callW (by kernel_rfl) 102 _ _ rfl enters_102 [.slice (some ⟨uB, uO, none⟩) cl uC, .int .i64 p] (by first | rfl | kernel_rfl | go_simp) (HN.out _ HX2.out) ?_
   rintro e z ⟨v3, rfl, hr3, hX3⟩
   obtain ⟨xa, xc, rfl, _⟩ := hr3.any
   refine ⟨_, rfl, ?_⟩
   have HX3 : Hid (Ext w z) := Lib.hid (HX2.out.trans' hX3)
   have HI3 := Lib.hid (Row.ints hr3)
   clear hX3 hr3
   refine hK.out _ _ ?_ (fun hHeld => ?_)
   ·(try dsimp only)
    exact ⟨HX3.out.cl hc1, HX3.out.cl hc2, HX3.out.cl hc3, HX3.out.cl hc4, HX3.out.cl hr0⟩
   clear hK K
   try simp only [Act.put]
   try simp only [List.setIfInBounds_toArray]
   try simp only [List.set_cons_zero, List.set_cons_succ]
   refine wpAnyT_step (i := 15) (o := ⟨some 22, _, _, _, _, _⟩) (by kernel_rfl) rfl (fun K hK => ?_)
   refine step_callW (by kernel_rfl) 19 _ _ rfl enters_19 [.slice da D dc, .slice xa nx.length xc] (by first | rfl | kernel_rfl | go_simp) (HQ.out _ HX3.out _ HI3.out) ?_
   rintro e u ⟨rfl, hX4⟩
   refine ⟨_, rfl, ?_⟩
   have HX4 : Hid (Ext w u) := Lib.hid (HX3.out.trans' hX4)
   clear hX4
   refine hK.out _ _ ?_ (fun hHeld => ?_)
   ·(try dsimp only)
    exact ⟨HX4.out.cl hc1, HX4.out.cl hc2, HX4.out.cl hc3, HX4.out.cl hc4, HX4.out.cl hr0⟩
   clear hK K
   try simp only [Act.put]
   try simp only [List.setIfInBounds_toArray]
   try simp only [List.set_cons_zero, List.set_cons_succ]
   refine tkA 16 23 (v := ?_) rfl rfl (by kernel_rfl) (fun _ _ _ h => h) ?_ (by assumption) ?_
   rotate_left
   ·(intro w hSw; (try dsimp only at hSw); go_simp; try (with_reducible rfl))
   try simp only [Act.put]
   try simp only [List.setIfInBounds_toArray]
   try simp only [List.set_cons_zero, List.set_cons_succ]
   refine wpAnyT_last (by kernel_rfl) rfl (by kernel_rfl) (fun K hK => ?_)
   go_simp
   refine hK.out _ _ ?_
   go_wp2
   go_ret
   exact ⟨by rw [HA.out]; rfl, HX4.out⟩
end Go.Proofs.Ytfagfooggcinoaa
