import Derived.Test.YtfagfooggcinoaaJa
import Derived.Test.YtfagfooggcinoaaProg
import Derived.Test.YtfagfooggcinoaaGg
import Derived.Test.YtfagfooggcinoaaGe
import Derived.Test.YtfagfooggcinoaaGd
import Derived.Test.YtfagfooggcinoaaGb
import Derived.Test.YtfagfooggcinoaaGa
import Derived.BigQuiet
import Derived.Deep.QuietTactic
import Derived.Deep.LoopGhost
import Derived.Shelf.Abstract
import Derived.RegionTactic
import Derived.Deep.RegionWith
import Derived.BigRegion
import Derived.Deep.DeepCutAuto
namespace Go.Proofs.Ytfagfooggcinoaa
open Go.RowKit
set_option linter.unusedVariables false
set_option maxHeartbeats 4000000 in
set_option maxRecDepth 100000 in
theorem next_calls (w0 w : World) (V : SV) (t : Tr) (r : List (List Int)) (l : List Mk) (M : List (List Mr)) (vr : Nat → Nat → Value) (i P : Nat) (hg : SimG w0 V t r) (h : SimAt w0 w V l M vr) (hi : i + 1 < r.length) (hP : P < V.n) (hlt : rAt r i P < rAt r (i + 1) P) (hmin : ∀ p, p < P → rAt r (i + 1) p ≤ rAt r i p) :
  Calls Try.prog 49 #[.pointer (some ⟨V.sp, 0, none⟩), .int .i64 i] w fun e w' => e = .returned (.int .i64 P) ∧ w' = w := by
 have HG := Lib.hid hg
 have HS := Lib.hid h
 have HMIN := Lib.hid hmin
 have HB := Lib.hid h.box
 have b1 := cellOf HB.out 1
 simp only [List.getElem?_toArray, List.getElem?_cons_zero, List.getElem?_cons_succ, SV.lv, SV.mv] at b1
 have hl1 := (hg.run.2 i (by omega)).1.trans hg.len
 have hl2 := (hg.run.2 (i + 1) hi).1.trans hg.len
 obtain ⟨rB, rO, rC, uB, uO, uC, hve, hrC, hrB, hr0, huC, huB, hu0⟩ := runAt hg.rn (i := i) (p := P) (by omega) (by rw [hl1]; exact hP)
 obtain ⟨rB', rO', rC', vB, vO, vC, hve', _, _, hr1, hvC, hvB, hv0⟩ := runAt hg.rn (i := i + 1) (p := P) hi (by rw [hl2]; exact hP)
 rw [hve] at hve'
 simp only [Value.slice.injEq, Option.some.injEq, Addr.mk.injEq, true_and, and_true] at hve'
 obtain ⟨⟨rfl, rfl⟩, rfl⟩ := hve'
 have HU := Lib.hid (fun p (hp : p < V.n) => (show w.cell? ⟨uB, uO + p, none⟩ = some (.int .i64 (rAt r i p)) ∧ w.cell? ⟨vB, vO + p, none⟩ = some (.int .i64 (rAt r (i + 1) p)) from by
  obtain ⟨xB, xO, xC, yB, yO, yC, e1, _, _, e2, _, _, e3⟩ := runAt hg.rn (i := i) (p := p) (by omega) (by rw [hl1]; exact hp)
  obtain ⟨xB', xO', xC', yB', yO', yC', e1', _, _, e2', _, _, e3'⟩ := runAt hg.rn (i := i + 1) (p := p) hi (by rw [hl2]; exact hp)
  rw [hve] at e1 e1'
  simp only [Value.slice.injEq, Option.some.injEq, Addr.mk.injEq, true_and, and_true] at e1 e1'
  obtain ⟨⟨rfl, rfl⟩, rfl⟩ := e1
  obtain ⟨⟨rfl, rfl⟩, rfl⟩ := e1'
  rw [hr0] at e2
  rw [hr1] at e2'
  simp only [Option.some.injEq, Value.slice.injEq, Addr.mk.injEq, true_and, and_true] at e2 e2'
  obtain ⟨⟨rfl, rfl⟩, rfl⟩ := e2
  obtain ⟨⟨rfl, rfl⟩, rfl⟩ := e2'
  exact ⟨h.ext.cl e3, h.ext.cl e3'⟩))
 have r0 := h.ext.cl hr0
 have r1 := h.ext.cl hr1
 rw [hl1] at r0 huC
 rw [hl2] at r1 hvC
 rw [hve] at b1
 have hrl := hg.run.1
 have hn2 := hg.few
 have HLT := Lib.hid hlt
 generalize r.length = R at *
 have hw : IntKind.i64.wrap ((i : Int) + 1) = ((i + 1 : Nat) : Int) := by rw [IntWalk.i64_in _ (by omega)]; rfl
 have hiz : (i : Int) < (R : Int) := by omega
 have hiz1 : ((i + 1 : Nat) : Int) < (R : Int) := by omega
 have hiz0 : (0 : Int) ≤ (i : Int) := by omega
 have hiz2 : (0 : Int) ≤ ((i + 1 : Nat) : Int) := by omega
 clear hg h hve hr0 hr1 hu0 hv0 hmin hlt hl1 hl2
 go_enter Try.func49, Try.ntmps49
 go_wp2
 clear hw
 go_loopg [16] P (fun g s16 wr => wr = w ∧ ∃ k : Nat, k ≤ P ∧ P - k ≤ g ∧ s16 = .int .i64 k)
 case atStart => exact ⟨rfl, 0, Nat.zero_le _, by omega, rfl⟩
 case round =>
  obtain ⟨rfl, k, hk, hgk, rfl⟩ := hrel
  have hkn : k < V.n := by omega
  have hkz : (k : Int) < (V.n : Int) := by omega
  have hkz0 : (0 : Int) ≤ (k : Int) := by omega
  obtain ⟨u0, v0⟩ := HU.out k hkn
  by_cases hkP : k = P
  case pos =>
   have h1 : rAt r i k < rAt r (i + 1) k := by rw [hkP]; exact HLT.out
   have d1 : decide (rAt r i k < rAt r (i + 1) k) = true := decide_eq_true h1
   have HK := Lib.hid hkP
   generalize rAt r i k = x1 at *
   generalize rAt r (i + 1) k = x2 at *
   clear hkP
   go_wp2
   go_ret
   exact ⟨by rw [← HK.out]; rfl, rfl⟩
  case neg =>
   have hkl : k < P := by omega
   have h1 : ¬ rAt r i k < rAt r (i + 1) k := by have := HMIN.out k hkl; omega
   have d1 : decide (rAt r i k < rAt r (i + 1) k) = false := decide_eq_false h1
   generalize rAt r i k = x1 at *
   generalize rAt r (i + 1) k = x2 at *
   clear hkP
   go_wp2
   go_roundg (P - (k + 1))
   case measure => omega
   case rel => exact ⟨rfl, k + 1, by omega, by omega, by go_num⟩
end Go.Proofs.Ytfagfooggcinoaa
namespace Go.Proofs.Ytfagfooggcinoaa
open Go.RowKit
set_option linter.unusedVariables false
theorem info_intG : (Try.prog.info? 3).map (fun i => (i.zero, i.size, i.bytes)) = some (some (.int .i64 0), 1, 8) := by kernel_rfl
theorem recv_cond {l : List Mk} {at_ : List Int} {d si : Int} {f q : Nat} :
  ((mAt l at_ d f q).sent && (!(mAt l at_ d f q).arr && decide (l[f]!.cnt < si))) = (decide (f ≠ q) && (decide (l[f]!.cnt ≠ -1) && (!l[q]!.closed[f]! && decide (l[f]!.cnt < si)))) := by
 unfold mAt
 by_cases hc : f ≠ q ∧ l[f]!.cnt ≠ -1
 ·rw [if_pos hc, decide_eq_true hc.1, decide_eq_true hc.2]; rfl
 ·rw [if_neg hc]
  by_cases e : f = q
  ·rw [show decide (f ≠ q) = false from decide_eq_false (fun h => h e)]; rfl
  ·have : l[f]!.cnt = -1 := Classical.byContradiction fun h => hc ⟨e, h⟩
   rw [show decide (l[f]!.cnt ≠ -1) = false from decide_eq_false (fun h => h this), Bool.false_and]; simp
def rcvA (t : Tr) (r : List (List Int)) (d : Int) (A : Sn) (q f i : Nat) (si : Int) : Sn :=
 if (decide (f ≠ q) && (decide (A.l[f]!.cnt ≠ -1) && (!A.l[q]!.closed[f]! && decide (A.l[f]!.cnt < si)))) = true then aAll' t r d i (aArr r A f q i) else A
def rcvB (B : Sn) (q f : Nat) (x : Int) : Sn := if (decide (B.l[q]!.cnt ≠ -1) && !B.l[q]!.closed[f]!) = true then ⟨noteL B.l q f x, B.at_⟩ else B
theorem aRecv_eq {t : Tr} {r : List (List Int)} {d : Int} {A : Sn} {q i f : Nat} {x : Ev} {s : Eid} (hf : x.peer = (f : Int)) (hs : findE t 2 x.msg = some s) : aRecv t r d A q x i = rcvB (rcvA t r d A q f i ((s.2 : Int) + 1)) q f x.msg := by
 unfold aRecv rcvA rcvB
 rw [hf, Int.toNat_natCast, hs]
theorem mOf_note {n : Nat} {d : Int} {A : Sn} {q f : Nat} {x : Int} (hq : q < A.l.length) : mOf n d ⟨noteL A.l q f x, A.at_⟩ = mOf n d A := by
 have h : ∀ p : Nat, (noteL A.l q f x)[p]!.cnt = A.l[p]!.cnt ∧ (noteL A.l q f x)[p]!.closed = A.l[p]!.closed := fun p => by
  by_cases e : p = q
  ·subst e; rw [noteL_at hq]; exact ⟨rfl, rfl⟩
  ·rw [noteL_ne e]; exact ⟨rfl, rfl⟩
 unfold mOf
 refine List.map_congr_left fun a _ => ?_
 unfold mRow
 refine List.map_congr_left fun c _ => ?_
 unfold mAt
 simp only [(h a).1, (h c).2]
theorem cell_same {w w' : World} {g o : Nat} (h : w'.heap[g]? = w.heap[g]?) : w'.cell? ⟨g, o, none⟩ = w.cell? ⟨g, o, none⟩ := by simp [World.cell?, h]
theorem grown_heap {w w' : World} {base n s g : Nat} {e t : TypeId} {v : Value} {xs : List Value} {cs : Array Value} {fr : Nat × Nat} (hr : Row w base e s v n xs) (hg : w.grownBy w' v.ownBlock) (hb : w.heap[g]? = some (.cells cs t fr)) (hne : t ≠ e) : w'.heap[g]? = w.heap[g]? :=
 hg.block g (Array.getElem?_eq_some_iff.1 hb).1 (fun e => hr.notBox hb hne e.symm)
set_option maxHeartbeats 16000000 in
set_option maxRecDepth 100000 in
theorem receive_calls (w0 w : World) (V : SV) (t : Tr) (r : List (List Int)) (A : Sn) (b : Nat) (vr : Nat → Nat → Value) (q i f : Nat) (x : Ev) (va : Value) (s : Eid) (hg : SimG w0 V t r) (h : SimS w0 w V t A b vr) (hi : i < r.length) (hq : q < V.n) (hf : f < V.n) (hfq : f ≠ q)
  (hx : x.peer = (f : Int)) (hs : findE t 2 x.msg = some s) (hb : b ≤ 1000000) (hva : ∃ a m c, va = .slice a m c) :
  Calls Try.prog 50 #[.pointer (some ⟨V.sp, 0, none⟩), .int .i64 q, .agg #[.int .i64 x.kind, .int .i64 x.peer, .int .i64 x.msg, .int .i64 x.time, va], .int .i64 i] w fun e w' => e = .returned (.tuple #[]) ∧ (∃ vr', SimS w0 w' V t (aRecv t r V.d A q x i) (b + 1) vr') ∧ KeepT w w' := by
 rw [aRecv_eq hx hs]
 have HG := Lib.hid hg
 have HI := Lib.hid hi
 have HS := Lib.hid h
 have hn2 := hg.few
 have hsm := valid_small hg.val
 have HSE := Lib.hid (fun W (hW : Ext w W) => senderP_calls V.tv t x.msg W ((hg.tr.ext h.at_.ext).ext hW) hsm)
 have HFV : Hid (fndO t 2 x.msg = some s) := Lib.hid (by unfold fndO; rw [if_pos hg.val]; exact hs)
 have HRA := Lib.hid (fun W (hW : Ext w W) hc => arrive_calls w0 W V t r A b vr f q i (h.at_.grow hW) hg.rn h.inv hg.run hg.len hn2 hf hq hi hg.del hc hfq)
 have HIA := Lib.hid (fun hc => h.inv.arr hg.run (i := i) (show f < t.length by rw [hg.len]; exact hf) (show q < t.length by rw [hg.len]; exact hq) hi hc hfq)
 obtain ⟨mb, mf, mc, hvm, hmb, hmbw, hmnc, c0, c1, c2, hfr, hne1, hne2, hne3⟩ := h.at_.mAt hf hq
 rw [mOf_get hf hq] at c0 c1 c2
 have HCO := Lib.hid (recv_cond (l := A.l) (at_ := A.at_) (d := V.d) (si := (s.2 : Int) + 1) (f := f) (q := q))
 obtain ⟨hm0, hmc, hcap, _, hgw, hspw⟩ := h.at_.hAt hf
 obtain ⟨k0, _, _, _⟩ := h.at_.mks.cellsAt (i := f) (by rw [h.at_.ll]; exact hf)
 rw [hvm] at hm0
 have HBX := Lib.hid h.at_.box
 have b0 := cellOf HBX.out 0
 have b2 := cellOf HBX.out 2
 have b3 := cellOf HBX.out 3
 simp only [List.getElem?_toArray, List.getElem?_cons_zero, List.getElem?_cons_succ, SV.lv, SV.mv] at b0 b2 b3
 obtain ⟨va1, va2, va3, rfl⟩ := hva
 obtain ⟨ta, tc, htv, htc⟩ := hg.tr.sh
 rw [htv] at b0 HSE
 rw [hx]
 generalize x.kind = xk at *
 generalize x.msg = xm at *
 generalize x.time = xt at *
 have hfz : (f : Int) < (V.n : Int) := by omega
 have hfz0 : (0 : Int) ≤ (f : Int) := by omega
 have hqz : (q : Int) < (V.n : Int) := by omega
 have hqz0 : (0 : Int) ≤ (q : Int) := by omega
 clear hg h hi hs hsm hvm hmb hfr htv htc
 go_enter Try.func50, Try.ntmps50
 go_upto_region 2 with (fail)
 have HB6 := Lib.hid (heap_alloc_new w (e5 (.int .i64 xk) (.int .i64 f) (.int .i64 xm) (.int .i64 xt) (.slice va1 va2 va3)))
 have HX6 := Lib.hid ((Ext.rf w).al (e5 (.int .i64 xk) (.int .i64 f) (.int .i64 xm) (.int .i64 xt) (.slice va1 va2 va3)))
 have l3 : w.heap.size < (w.alloc (e5 (.int .i64 xk) (.int .i64 f) (.int .i64 xm) (.int .i64 xt) (.slice va1 va2 va3))).heap.size := by simp
 have l2 : V.sp ≠ w.heap.size := by omega
 generalize wY : w.alloc (e5 (.int .i64 xk) (.int .i64 f) (.int .i64 xm) (.int .i64 xt) (.slice va1 va2 va3)) = w6 at *
 clear wY
 have l4 : V.sp < w6.heap.size := by omega
 have l5 : w.heap.size ≠ w6.heap.size := by omega
 have l6 : V.sp ≠ w6.heap.size := by omega
 have t6 := HX6.out.cl b0
 have t2 := HX6.out.cl b2
 have t3 := HX6.out.cl b3
 have y0 := cellOf HB6.out 0
 have y1 := cellOf HB6.out 1
 have y2 := cellOf HB6.out 2
 simp only [List.getElem?_toArray, List.getElem?_cons_zero, List.getElem?_cons_succ] at y0 y1 y2
 have HFW := Lib.hid (fun W (hW : Ext w6 W) => HSE.out W (HX6.out.trans' hW))
 unfold FndOut at HFW
 rw [HFV.out] at HFW
 obtain ⟨s1, s2⟩ := s
 simp only [eidA, eidB, Option.isSome_some] at HFW HCO ⊢
 go_cut [9] (fun s9 wx => ∃ bb, s9 = .pointer (some ⟨bb, 0, none⟩) ∧ bb < wx.heap.size ∧ w.heap.size < bb ∧ Aside (wx.heap[bb]? = some (idO (s1 : Int) ((s2 : Int) + 1))) ∧ Aside (Ext w6 wx))
 case first =>
  clear b0 b2 b3 c0 c1 c2 hm0 k0
  go_region_with (first
   | (refine (HFW.out _ (Ext.rf _).dr).mono ?_; rintro e w7 ⟨rfl, hE7⟩; have HE7 := Lib.hid hE7; clear hE7)
   | (refine (HFW.out _ ((Ext.rf _).al (idO 0 0)).dr).mono ?_; rintro e w7 ⟨rfl, hE7⟩; have HE7 := Lib.hid hE7; have HZ := Lib.hid (hE7.hp ((Ext.rf _).dr.hp (heap_alloc_new w6 (idO 0 0)))); have q0 := cellOf HZ.out 0; have q1 := cellOf HZ.out 1; have g0 := freeOf HZ.out 0; have g1 := freeOf HZ.out 1; simp only [List.getElem?_toArray, List.getElem?_cons_zero, List.getElem?_cons_succ] at q0 q1; clear hE7))
  all_goals (go_wp2; go_meet)
  all_goals
   first
   | exact ⟨w7.heap.size, rfl, by simp, by have := HE7.out.sz; simp at this; omega, heap_alloc_new w7 _, (Ext.rf _).dr.trans' (HE7.out.al _)⟩
   | exact ⟨w6.heap.size, rfl, by have := (Array.getElem?_eq_some_iff.1 HZ.out).1; rw [size_setCell, size_setCell]; exact this, by omega, id_set HZ.out _ _, id_ext (((Ext.rf w6).al (idO 0 0)).dr.trans' HE7.out) (Nat.le_refl _) _ _⟩
 case rest =>
  obtain ⟨bb, rfl, hbbw, hspb, HI9, HX9⟩ := hcut
  have HXC := Lib.hid (HX6.out.trans' HX9.out)
  have HBC := Lib.hid (HX9.out.hp HB6.out)
  clear t6 t2 t3 y0 y1 y2
  have b2 := HXC.out.cl b2
  have b3 := HXC.out.cl b3
  have hm0 := HXC.out.cl hm0
  have k0 := HXC.out.cl k0
  have c0 := HXC.out.cl c0
  have c1 := HXC.out.cl c1
  have c2 := HXC.out.cl c2
  have HRA := Lib.hid (fun W (hW : Ext wc W) hc => HRA.out W (HXC.out.trans' hW) hc)
  have HSC := Lib.hid (HS.out.grow HXC.out)
  have l7 : V.sp < wc.heap.size := by have := HX9.out.sz; omega
  have l8 : V.g < wc.heap.size := by have := HXC.out.sz; omega
  generalize hms : (mAt A.l A.at_ V.d f q).sent = ms at *
  generalize hma : (mAt A.l A.at_ V.d f q).arr = ma at *
  generalize hmd : (mAt A.l A.at_ V.d f q).due = md at *
  generalize hcnt : A.l[f]!.cnt = cf at *
  have HCF := Lib.hid hcnt
  clear hms hma hmd hcnt
  go_upto_region 4 with (fail)
  have HBM := Lib.hid (heap_alloc_new wc (.cells #[.bool ms, .bool ma, .int .i64 md] 123))
  have HXM := Lib.hid ((Ext.rf wc).al (.cells #[.bool ms, .bool ma, .int .i64 md] 123))
  have m0 := cellOf HBM.out 0
  have m1 := cellOf HBM.out 1
  have s1' := HXM.out.cl (cellOf HI9.out 1)
  simp only [List.getElem?_toArray, List.getElem?_cons_zero, List.getElem?_cons_succ] at m0 m1 s1'
  have b2 := HXM.out.cl b2
  have k0 := HXM.out.cl k0
  generalize wc.alloc (.cells #[.bool ms, .bool ma, .int .i64 md] 123) = wD at *
  clear b3 hm0 c0 c1 c2
  go_cut [54] (fun s54 wx => s54 = .bool (ms && (!ma && decide (cf < (s2 : Int) + 1))) ∧ Aside (Ext wD wx))
  case first =>
   cases ms with
   | false =>
     go_quiet (fail)
     go_wp2
     go_meet
     exact ⟨rfl, (Ext.rf wD).drN _⟩
   | true =>
   cases ma with
   | true =>
     go_quiet (fail)
     go_wp2
     go_meet
     exact ⟨rfl, (Ext.rf wD).drN _⟩
   | false =>
     by_cases hc : cf < (s2 : Int) + 1
     ·have d1 : decide (cf < (s2 : Int) + 1) = true := decide_eq_true hc
      clear hc
      go_quiet (fail)
      go_wp2
      go_meet
      exact ⟨by rw [d1]; rfl, (Ext.rf wD).drN _⟩
     ·have d1 : decide (cf < (s2 : Int) + 1) = false := decide_eq_false hc
      clear hc
      go_quiet (fail)
      go_wp2
      go_meet
      exact ⟨by rw [d1]; rfl, (Ext.rf wD).drN _⟩
  case rest =>
   obtain ⟨rfl, HXE⟩ := hcut
   obtain ⟨we, rfl⟩ : ∃ y, y = wc := ⟨_, rfl⟩
   have HXW := Lib.hid (HXM.out.trans' HXE.out)
   have HSW := Lib.hid (HSC.out.grow HXW.out)
   have HBW := Lib.hid (HXW.out.hp HBC.out)
   have HKW := Lib.hid (KeepT.of (HXC.out.trans' HXW.out))
   have l9 : w.heap.size < we.heap.size := by have := HXW.out.sz; have := HX9.out.sz; omega
   have HR0 := Lib.hid (fun (h : (ms && (!ma && decide (cf < (s2 : Int) + 1))) = false) => (show rcvA t r V.d A q f i ((s2 : Int) + 1) = A from by unfold rcvA; rw [HCF.out, if_neg (by rw [← HCO.out, h]; simp)]))
   have HR1 := Lib.hid (fun (h : (ms && (!ma && decide (cf < (s2 : Int) + 1))) = true) => (show rcvA t r V.d A q f i ((s2 : Int) + 1) = aAll' t r V.d i (aArr r A f q i) ∧ cf ≠ -1 from by
    refine ⟨by unfold rcvA; rw [HCF.out, if_pos (by rw [← HCO.out, h])], fun hc => ?_⟩
    rw [HCO.out, show decide (cf ≠ -1) = false from decide_eq_false (fun h => h hc), Bool.false_and, Bool.and_false] at h
    cases h))
   generalize (ms && (!ma && decide (cf < (s2 : Int) + 1))) = cond at *
   generalize hRq : rcvA t r V.d A q f i ((s2 : Int) + 1) = R at *
   have HRQ := Lib.hid hRq
   clear hRq
   clear m0 m1 s1' b2 k0 HCO
   go_upto_if 54 with (fail)
   go_cut [] (fun wx => Aside (SimS w0 wx V t R b vr) ∧ Aside (KeepT we wx))
   case first =>
    cases cond with
    | false =>
      have HRR := Lib.hid (HR0.out rfl)
      go_wp2
      go_meet
      exact ⟨(show SimS _ _ _ _ _ _ _ from by rw [HRR.out]; exact HSW.out), KeepT.rf _⟩
    | true =>
      have HRR := Lib.hid (HR1.out rfl).1
      have HCN := Lib.hid (HR1.out rfl).2
      go_wp2_with fail
      refine (HRA.out we HXW.out HCN.out).mono ?_
      rintro e wf ⟨rfl, hsf, hkf⟩
      have HSF := Lib.hid (show SimS w0 wf V t (aArr r A f q i) b vr from ⟨hsf, HIA.out HCN.out⟩)
      have HKF := Lib.hid hkf
      have HAL := Lib.hid (arriveAll_calls w0 wf V t r (aArr r A f q i) b vr i HG.out HSF.out HI.out)
      clear hsf hkf
      go_wp2_with fail
      refine HAL.out.mono ?_
      rintro e wg ⟨rfl, hsg, hkg⟩
      have HSG := Lib.hid hsg
      have HKG := Lib.hid (HKF.out.tr hkg)
      clear hsg hkg
      go_wp2
      go_meet
      exact ⟨(show SimS _ _ _ _ _ _ _ from by rw [HRR.out]; exact HSG.out), HKG.out⟩
   case rest =>
    obtain ⟨HSR, HKR⟩ := hcut
    obtain ⟨wf, rfl⟩ : ∃ y, y = wc := ⟨_, rfl⟩
    have HXBf : Hid (wf.heap[w.heap.size]? = some (e5 (.int .i64 xk) (.int .i64 f) (.int .i64 xm) (.int .i64 xt) (.slice va1 va2 va3))) := Lib.hid (HKR.out.2 _ _ _ _ HBW.out (by decide) (by decide) (by decide) (by decide) (by decide))
    have HKF := Lib.hid (HKW.out.tr HKR.out)
    obtain ⟨k0, k1, k2, _⟩ := HSR.out.at_.mks.cellsAt (i := q) (by rw [HSR.out.at_.ll]; exact hq)
    obtain ⟨vg, vo, vk, hvc, _, hvgw, hvnc, d0, _⟩ := HSR.out.at_.mks.boolAt (j := f) hq hf
    obtain ⟨hg, ho, hk, hvh, hhg0, hhgw, hhnc, e0, hhf⟩ := HSR.out.at_.mks.hdrAt (j := f) hq hf
    rw [hvc] at k1
    rw [hvh] at k2
    have HVH := Lib.hid hvh
    have HRW := Lib.hid (HSR.out.at_.mks.cha q hq f hf)
    have hlen := HSR.out.inv.few q (show q < t.length by rw [HG.out.len]; exact hq) f (show f < t.length by rw [HG.out.len]; exact hf)
    obtain ⟨ra, rc, hrv, _⟩ := HRW.out.any
    have HRV := Lib.hid hrv
    rw [hrv] at e0
    have HBX := Lib.hid HSR.out.at_.box
    have b2 := cellOf HBX.out 2
    simp only [List.getElem?_toArray, List.getElem?_cons_zero, List.getElem?_cons_succ, SV.lv, SV.mv] at b2
    have HRL := Lib.hid HSR.out.at_.ll
    have HRB : Hid (rcvB R q f xm = if (decide (R.l[q]!.cnt ≠ -1) && !R.l[q]!.closed[f]!) = true then ⟨noteL R.l q f xm, R.at_⟩ else R) := Lib.hid rfl
    have HNI := Lib.hid (fun hc => HSR.out.inv.note (show q < t.length by rw [HG.out.len]; exact hq) (show f < t.length by rw [HG.out.len]; exact hf) hc xm)
    generalize hcq : R.l[q]!.cnt = cq at *
    have HCQ := Lib.hid hcq
    generalize hbq : R.l[q]!.closed[f]! = bq at *
    obtain ⟨L, hL⟩ : ∃ L, (R.l[q]!.chan[f]!).length = L := ⟨_, rfl⟩
    have HLL := Lib.hid hL
    rw [hL] at e0 hlen HRV
    have l10 : w.heap.size < wf.heap.size := by have := HKR.out.1; omega
    have l11 : w.heap.size ≠ wf.heap.size := by omega
    have l12 : vg < wf.heap.size := hvgw
    have l13 : hg < wf.heap.size := hhgw
    have l14 : hg ≠ wf.heap.size := by omega
    clear hvc hvh hrv hcq hbq hL hhf
    have HB12 := Lib.hid (heap_alloc_new wf (.cells #[.int .i64 cq, .slice (some ⟨vg, vo, none⟩) V.n vk, .slice (some ⟨hg, ho, none⟩) V.n hk] 48))
    have HX12 := Lib.hid ((Ext.rf wf).al (.cells #[.int .i64 cq, .slice (some ⟨vg, vo, none⟩) V.n vk, .slice (some ⟨hg, ho, none⟩) V.n hk] 48))
    go_upto_region 8 with (fail)
    have hw12 : wf.heap.size < (wf.alloc (.cells #[.int .i64 cq, .slice (some ⟨vg, vo, none⟩) V.n vk, .slice (some ⟨hg, ho, none⟩) V.n hk] 48)).heap.size := by simp
    generalize wf.alloc (.cells #[.int .i64 cq, .slice (some ⟨vg, vo, none⟩) V.n vk, .slice (some ⟨hg, ho, none⟩) V.n hk] 48) = wG at *
    have n0 := cellOf HB12.out 0
    have n1 := cellOf HB12.out 1
    have n2 := cellOf HB12.out 2
    simp only [List.getElem?_toArray, List.getElem?_cons_zero, List.getElem?_cons_succ] at n0 n1 n2
    have d1 := HX12.out.cl d0
    have e1 := HX12.out.cl e0
    have y2 := cellOf (HX12.out.hp HXBf.out) 2
    simp only [List.getElem?_toArray, List.getElem?_cons_zero, List.getElem?_cons_succ] at y2
    clear k0 k1 k2 d0 e0 b2
    by_cases hcn : cq = -1
    case pos =>
     have h1 : (cq != -1) = false := by rw [bne_eq_false_iff_eq]; exact hcn
     have HE := Lib.hid (HRB.out.trans (if_neg (by rw [show decide (cq ≠ -1) = false from decide_eq_false (fun h => h hcn)]; simp)))
     clear hcn
     go_wp2
     go_end0
     exact ⟨rfl, ⟨vr, ⟨by rw [HRQ.out, HE.out]; exact (HSR.out.grow HX12.out).at_, by rw [HRQ.out, HE.out]; exact HSR.out.inv.more (by omega)⟩⟩, HKF.out.tr (KeepT.of HX12.out)⟩
    case neg =>
     have h1 : (cq != -1) = true := by rw [bne_iff_ne]; exact hcn
     cases bq with
     | true =>
       have HE := Lib.hid (HRB.out.trans (if_neg (by simp)))
       clear hcn
       go_wp2
       go_end0
       exact ⟨rfl, ⟨vr, ⟨by rw [HRQ.out, HE.out]; exact (HSR.out.grow HX12.out).at_, by rw [HRQ.out, HE.out]; exact HSR.out.inv.more (by omega)⟩⟩, HKF.out.tr (KeepT.of HX12.out)⟩
     | false =>
       have HE := Lib.hid (HRB.out.trans (if_pos (by rw [show decide (cq ≠ -1) = true from decide_eq_true hcn]; rfl)))
       have HNI2 := Lib.hid (HNI.out hcn)
       obtain ⟨ii, hii, iz0, iz1, iz2⟩ := info_partsM info_intG
       clear hcn
       go_upto_region 9 with (fail)
       refine wp_region_tail (fun W => W.cell? ⟨wf.heap.size, 2, none⟩ = some (.slice (some ⟨hg, ho, none⟩) V.n hk) ∧ W.cell? ⟨hg, ho + f, none⟩ = some (.slice ra L rc) ∧ W.cell? ⟨w.heap.size, 2, none⟩ = some (.int .i64 xm)) 13 (by kernel_rfl) ⟨n2, e1, y2⟩ (fun hHeld => ?_)
       refine tkA 0 81 (v := ?_) rfl rfl (by kernel_rfl) (fun _ _ _ h => h) ?_ (by assumption) ?_
       rotate_left
       ·(intro w hSw; (try dsimp only at hSw); go_simp; try (with_reducible rfl))
       try simp only [Act.put]
       try simp only [List.setIfInBounds_toArray]
       try simp only [List.set_cons_zero, List.set_cons_succ]
       refine tkA 1 82 (v := ?_) rfl rfl (by kernel_rfl) (fun _ _ _ h => h) ?_ (by assumption) ?_
       rotate_left
       ·(intro w hSw; (try dsimp only at hSw); go_simp; try (with_reducible rfl))
       try simp only [Act.put]
       try simp only [List.setIfInBounds_toArray]
       try simp only [List.set_cons_zero, List.set_cons_succ]
       refine tkA 2 83 (v := ?_) rfl rfl (by kernel_rfl) (fun _ _ _ h => h) ?_ (by assumption) ?_
       rotate_left
       ·(intro w hSw; (try dsimp only at hSw); go_simp; try (with_reducible rfl))
       try simp only [Act.put]
       try simp only [List.setIfInBounds_toArray]
       try simp only [List.set_cons_zero, List.set_cons_succ]
       refine tkA 3 84 (v := ?_) rfl rfl (by kernel_rfl) (fun _ _ _ h => h) ?_ (by assumption) ?_
       rotate_left
       ·(intro w hSw; (try dsimp only at hSw); go_simp; try (with_reducible rfl))
       try simp only [Act.put]
       try simp only [List.setIfInBounds_toArray]
       try simp only [List.set_cons_zero, List.set_cons_succ]
       refine tkA 4 85 (v := ?_) rfl rfl (by kernel_rfl) (fun _ _ _ h => h) ?_ (by assumption) ?_
       rotate_left
       ·(intro w hSw; (try dsimp only at hSw); go_simp; try (with_reducible rfl))
       try simp only [Act.put]
       try simp only [List.setIfInBounds_toArray]
       try simp only [List.set_cons_zero, List.set_cons_succ]
       refine tkA 5 86 (v := ?_) rfl rfl (by kernel_rfl) (fun _ _ _ h => h) ?_ (by assumption) ?_
       rotate_left
       ·(intro w hSw; (try dsimp only at hSw); go_simp; try (with_reducible rfl))
       try simp only [Act.put]
       try simp only [List.setIfInBounds_toArray]
       try simp only [List.set_cons_zero, List.set_cons_succ]
       refine tkA 6 87 (v := ?_) rfl rfl (by kernel_rfl) (fun _ _ _ h => h) ?_ (by assumption) ?_
       rotate_left
       ·(intro w hSw; (try dsimp only at hSw); go_simp; try (with_reducible rfl))
       try simp only [Act.put]
       try simp only [List.setIfInBounds_toArray]
       try simp only [List.set_cons_zero, List.set_cons_succ]
       refine tkA 7 88 (v := ?_) rfl rfl (by kernel_rfl) (fun _ _ _ h => h) ?_ (by assumption) ?_
       rotate_left
       ·(intro w hSw; (try dsimp only at hSw); go_simp; try (with_reducible rfl))
       try simp only [Act.put]
       try simp only [List.setIfInBounds_toArray]
       try simp only [List.set_cons_zero, List.set_cons_succ]
       refine tkA 8 89 (v := ?_) rfl rfl (by kernel_rfl) (fun _ _ _ h => h) ?_ (by assumption) ?_
       rotate_left
       ·(intro w hSw; (try dsimp only at hSw); go_simp; try (with_reducible rfl))
       try simp only [Act.put]
       try simp only [List.setIfInBounds_toArray]
       try simp only [List.set_cons_zero, List.set_cons_succ]
       refine tkA 9 90 (v := ?_) rfl rfl (by kernel_rfl) (fun _ _ _ h => h) ?_ (by assumption) ?_
       rotate_left
       ·(intro w hSw; (try dsimp only at hSw); go_simp; try (with_reducible rfl))
       try simp only [Act.put]
       try simp only [List.setIfInBounds_toArray]
       try simp only [List.set_cons_zero, List.set_cons_succ]
       refine wpAnyT_step (i := 10) (by kernel_rfl) rfl (fun K hK => ?_)
       go_simp
       have HXA : Hid (Ext wf (wG.alloc (.cells #[.int .i64 xm] 3)).drew) := Lib.hid (HX12.out.al _).dr
       have HXG : Hid (Ext wG (wG.alloc (.cells #[.int .i64 xm] 3)).drew) := Lib.hid ((Ext.rf wG).al _).dr
       have HNW : Hid ((wG.alloc (.cells #[.int .i64 xm] 3)).drew.heap[wG.heap.size]? = some (.cells #[.int .i64 xm] 3)) := Lib.hid (heap_alloc_new wG _)
       generalize (wG.alloc (.cells #[.int .i64 xm] 3)).drew = wA at *
       have HSA := Lib.hid (HSR.out.grow HXA.out)
       have HRA2 : Hid (Row wA w0.heap.size 3 1 (.slice ra L rc) L ((R.l[q]!.chan[f]!).map (Value.int .i64))) := Lib.hid (by
        have h := HRW.out.ext HXA.out
        rw [HRV.out, HLL.out] at h; exact h)
       have HBA := Lib.hid (HXG.out.hp HB12.out)
       have HYA := Lib.hid (HXA.out.hp HXBf.out)
       refine hK.out _ _ ?_ (fun hHeld => ?_)
       ·(try dsimp only)
        exact ⟨HXG.out.cl n2, HXG.out.cl e1, HXG.out.cl y2⟩
       clear hK K
       try simp only [Act.put]
       try simp only [List.setIfInBounds_toArray]
       try simp only [List.set_cons_zero, List.set_cons_succ]
       refine wpAnyT_step (i := 11) (by kernel_rfl) rfl (fun K hK => ?_)
       refine step_append_rowN rfl _ _ 25 rfl w0.heap.size 3 ii (.int .i64 0) 1 8 Try.underlying25 hii iz0 iz1 iz2 rfl (by decide) (.slice ra L rc) L ((R.l[q]!.chan[f]!).map (Value.int .i64)) rfl HRA2.out wG.heap.size 1 [.int .i64 xm] rfl rfl ⟨_, HNW.out⟩ (by simp [Value.oneCell']) (by unfold maxLen; omega) (by omega) HSA.out.at_.ext.sz ?_
       intro v8 w8 hown8 hgrow8 hblk8
       obtain ⟨x8, y8, rfl, _⟩ := hown8.any
       have HOW := Lib.hid hown8
       have HGR := Lib.hid hgrow8
       have HBL := Lib.hid hblk8
       have hhr := HSA.out.at_.mks.hdr q hq
       rw [HVH.out] at hhr
       obtain ⟨cuH, frH, hheapH⟩ := row_hp hhr
       have g12 := grown_heap HRA2.out hgrow8 HBA.out (by decide)
       have gH := grown_heap HRA2.out hgrow8 hheapH (by decide)
       have gY := grown_heap HRA2.out hgrow8 HYA.out (by decide)
       have n8 := (cell_same (o := 2) g12).trans (HXG.out.cl n2)
       have e8 := (cell_same (o := ho + f) gH).trans (HXG.out.cl e1)
       have y8' := (cell_same (o := 2) gY).trans (HXG.out.cl y2)
       have hfrz : w8.frozen? ⟨hg, ho + f, none⟩ = false := (hhr.grown hgrow8 (hhr.apart HRA2.out (by decide))).free _
       clear hown8 hgrow8 hblk8 g12 gH gY hheapH hhr
       refine hK.out _ _ ?_ (fun hHeld => ?_)
       ·(try dsimp only)
        exact ⟨n8, e8, y8'⟩
       clear hK K
       try simp only [Act.put]
       try simp only [List.setIfInBounds_toArray]
       try simp only [List.set_cons_zero, List.set_cons_succ]
       refine tkA 12 93 (v := ?_) rfl rfl (by kernel_rfl) (fun _ _ _ h => h) ?_ (by assumption) ?_
       rotate_left
       ·(intro w hSw; (try dsimp only at hSw); go_simp; try (with_reducible rfl))
       try simp only [Act.put]
       try simp only [List.setIfInBounds_toArray]
       try simp only [List.set_cons_zero, List.set_cons_succ]
       refine wpAnyT_last (by kernel_rfl) rfl (by kernel_rfl) (fun K hK => ?_)
       go_simp
       refine hK.out _ _ ?_
       go_end0
       refine ⟨rfl, ⟨put2 vr q f (.slice x8 (L + 1) y8), ⟨?_, ?_⟩⟩, ?_⟩
       ·rw [HRQ.out, HE.out, mOf_note (by rw [HRL.out]; exact hq)]
        refine HSA.out.at_.note hq hf HVH.out (by rw [HRV.out]; exact HGR.out) (by rw [HLL.out]; exact HOW.out) (by rw [HRV.out]; exact HBL.out)
       ·rw [HRQ.out, HE.out]; exact HNI2.out
       ·refine (HKF.out.tr (KeepT.of HXA.out)).tr ((keep_grown HRA2.out HGR.out).tr ?_)
        have hhr := (HSA.out.at_.mks.hdr q hq)
        rw [HVH.out] at hhr
        obtain ⟨cuH, frH, hheapH⟩ := row_hp hhr
        exact keep_st ((grown_heap HRA2.out HGR.out hheapH (by decide)).trans hheapH) (.inr (.inr (.inr (.inl rfl))))
end Go.Proofs.Ytfagfooggcinoaa
namespace Go.Proofs.Ytfagfooggcinoaa
set_option linter.unusedVariables false
def chM (l : List Mk) (q f : Nat) (x : List Int) : List Mk := l.set q { l[q]! with chan := l[q]!.chan.set f (l[q]!.chan[f]! ++ x) }
theorem chM_len (l : List Mk) (q f : Nat) (x : List Int) : (chM l q f x).length = l.length := by simp [chM]
theorem chM_at {l : List Mk} {q : Nat} (hq : q < l.length) (f : Nat) (x : List Int) : (chM l q f x)[q]! = { l[q]! with chan := l[q]!.chan.set f (l[q]!.chan[f]! ++ x) } := setG_at hq _
theorem chM_ne {l : List Mk} {p q : Nat} (h : p ≠ q) (f : Nat) (x : List Int) : (chM l q f x)[p]! = l[p]! := setG_ne h _
theorem set_selfG {α : Type} [Inhabited α] (l : List α) (k : Nat) : l.set k l[k]! = l := by
 by_cases hk : k < l.length
 ·exact listG_ext (List.length_set ..) fun j hj => by
   by_cases e : j = k
   ·subst e; exact setG_at hk _
   ·exact setG_ne e _
 ·exact List.set_eq_of_length_le (by omega)
theorem chM_nil {l : List Mk} {q f : Nat} : chM l q f [] = l := by
 unfold chM
 rw [List.append_nil, set_selfG]
 exact set_selfG l q
theorem chM_snoc {l : List Mk} {q f : Nat} {xs : List Int} {x : Int} (hq : q < l.length) (hf : f < l[q]!.chan.length) : noteL (chM l q f xs) q f x = chM l q f (xs ++ [x]) := by
 unfold noteL
 rw [chM_at hq]
 simp only
 rw [setG_at hf, List.set_set, List.append_assoc]
 unfold chM
 rw [List.set_set]
theorem endCh_open {t : Tr} {l : List Mk} {q f : Nat} (h : l[q]!.closed[f]! = false) : endCh t l q f = closeK (chM l q f (lostTo t q f l[f]!.cnt.toNat)) q f := by
 unfold endCh; rw [if_neg (by rw [h]; simp)]; rfl
theorem endCh_shut {t : Tr} {l : List Mk} {q f : Nat} (h : l[q]!.closed[f]! = true) : endCh t l q f = l := by
 unfold endCh; rw [if_pos h]
theorem endRec_succ {r : List (List Int)} {l : List Mk} {last k : Nat} : endRec r l last (k + 1) = if (endRec r l last k)[k]!.cnt = -1 then recL (endRec r l last k) k (rAt r last k) else endRec r l last k := by
 unfold endRec; rw [List.range_succ, List.foldl_append]; rfl
theorem endRec_len {r : List (List Int)} {l : List Mk} {last : Nat} : ∀ k, (endRec r l last k).length = l.length := by
 intro k
 induction k with
 | zero => rfl
 | succ k ih =>
   rw [endRec_succ]
   split
   ·rw [recL_len, ih]
   ·exact ih
theorem endRec_inv {t : Tr} {r : List (List Int)} {A : Sn} {b last : Nat} (h : InvA t A b) (hr : RunIn t r) (hl : last < r.length) : ∀ k, k ≤ t.length → (∃ at', InvA t ⟨endRec r A.l last k, at'⟩ b) ∧ ∀ p, p < k → (endRec r A.l last k)[p]!.cnt ≠ -1 := by
 intro k
 induction k with
 | zero => intro _; exact ⟨⟨A.at_, h⟩, fun p hp => absurd hp (Nat.not_lt_zero _)⟩
 | succ k ih =>
   intro hk
   obtain ⟨⟨at', h1⟩, h2⟩ := ih (by omega)
   rw [endRec_succ]
   by_cases hc : (endRec r A.l last k)[k]!.cnt = -1
   ·rw [if_pos hc]
    refine ⟨⟨_, h1.reco hr (by omega) hl hc⟩, fun p hp => ?_⟩
    by_cases e : p = k
    ·subst e
     rw [recL_at (by rw [endRec_len, h.ll]; omega)]
     have := (hr.2 last hl).2 p (by omega)
     simp only; omega
    ·rw [recL_ne e]; exact h2 p (by omega)
   ·rw [if_neg hc]
    refine ⟨⟨at', h1⟩, fun p hp => ?_⟩
    by_cases e : p = k
    ·subst e; exact hc
    ·exact h2 p (by omega)
structure InvE (t : Tr) (l : List Mk) (b : Nat) : Prop where
 ll : l.length = t.length
 cl : ∀ q, q < t.length → l[q]!.closed.length = t.length
 ch : ∀ q, q < t.length → l[q]!.chan.length = t.length
 cnt : ∀ q, q < t.length → 0 ≤ l[q]!.cnt ∧ l[q]!.cnt ≤ (t[q]!.events.length : Int)
 op : ∀ q, q < t.length → ∀ f, f < t.length → l[q]!.closed[f]! = false → (l[q]!.chan[f]!).length ≤ b
 few : ∀ q, q < t.length → ∀ f, f < t.length → (l[q]!.chan[f]!).length ≤ b + 64
theorem InvA.toE {t : Tr} {A : Sn} {b : Nat} (h : InvA t A b) (hc : ∀ p, p < t.length → A.l[p]!.cnt ≠ -1) : InvE t A.l b :=
 ⟨h.ll, h.cl, h.ch, fun q hq => (h.cnt q hq).resolve_left (hc q hq), fun q hq f hf _ => h.few q hq f hf, fun q hq f hf => Nat.le_trans (h.few q hq f hf) (by omega)⟩
theorem InvE.endCh {t : Tr} {l : List Mk} {b q f : Nat} (h : InvE t l b) (hq : q < t.length) (hf : f < t.length) (h64 : t[f]!.events.length ≤ 64) : InvE t (endCh t l q f) b := by
 cases hc : l[q]!.closed[f]! with
 | true => rw [endCh_shut hc]; exact h
 | false =>
   rw [endCh_open hc]
   have hql : q < l.length := by rw [h.ll]; exact hq
   generalize hx : lostTo t q f l[f]!.cnt.toNat = x
   have hxl : x.length ≤ 64 := by
    rw [← hx]
    have := lostTo_len t q f l[f]!.cnt.toNat
    have := h.cnt f hf
    omega
   have hqm : q < (chM l q f x).length := by rw [chM_len]; exact hql
   have hne : ∀ p : Nat, p ≠ q → (closeK (chM l q f x) q f)[p]! = l[p]! := fun p hp => by rw [closeK_ne hp, chM_ne hp]
   have hat : (closeK (chM l q f x) q f)[q]! = { l[q]! with chan := l[q]!.chan.set f (l[q]!.chan[f]! ++ x), closed := l[q]!.closed.set f true } := by rw [closeK_at hqm, chM_at hql]
   refine ⟨by rw [closeK_len, chM_len]; exact h.ll, fun p hp => ?_, fun p hp => ?_, fun p hp => ?_, fun p hp g hg ho => ?_, fun p hp g hg => ?_⟩
   ·by_cases e : p = q
    ·subst e; rw [hat]; simpa using h.cl p hp
    ·rw [hne p e]; exact h.cl p hp
   ·by_cases e : p = q
    ·subst e; rw [hat]; simpa using h.ch p hp
    ·rw [hne p e]; exact h.ch p hp
   ·by_cases e : p = q
    ·subst e; rw [hat]; exact h.cnt p hp
    ·rw [hne p e]; exact h.cnt p hp
   ·by_cases e : p = q
    ·subst e
     rw [hat] at ho ⊢
     simp only at ho ⊢
     by_cases e2 : g = f
     ·subst e2
      rw [setG_at (by rw [h.cl p hp]; exact hg)] at ho
      cases ho
     ·rw [setG_ne e2] at ho ⊢
      exact h.op p hp g hg ho
    ·rw [hne p e] at ho ⊢; exact h.op p hp g hg ho
   ·by_cases e : p = q
    ·subst e
     rw [hat]
     simp only
     by_cases e2 : g = f
     ·subst e2
      rw [setG_at (by rw [h.ch p hp]; exact hg), List.length_append]
      have := h.op p hp g hg hc
      omega
     ·rw [setG_ne e2]; exact h.few p hp g hg
    ·rw [hne p e]; exact h.few p hp g hg
theorem endTo_succ {t : Tr} {l : List Mk} {q k : Nat} : endTo t l q (k + 1) = endCh t (endTo t l q k) q k := by
 unfold endTo; rw [prsTo_succ, List.foldl_append]; rfl
theorem endTo_next {t : Tr} {l : List Mk} {q n : Nat} (hn : l.length = n) : endTo t l q n = endTo t l (q + 1) 0 := by
 unfold endTo; rw [hn, prsTo_next]
end Go.Proofs.Ytfagfooggcinoaa
namespace Go.Proofs.Ytfagfooggcinoaa
open Go.RowKit
set_option linter.unusedVariables false
theorem valid_64 {t : Tr} (hv : validT t = true) {p : Nat} (hp : p < t.length) : t[p]!.events.length ≤ 64 := by
 unfold validT at hv
 rw [Bool.and_eq_true] at hv
 have h := hv.1
 unfold shapeB at h
 simp only [Bool.and_eq_true, List.all_eq_true, List.mem_range] at h
 have h2 := h.2.2.1 p hp
 unfold headB at h2
 simp only [Bool.and_eq_true, decide_eq_true_eq] at h2
 exact h2.2.2.2.2
theorem valid_8 {t : Tr} (hv : validT t = true) : 1 ≤ t.length ∧ t.length ≤ 8 := by
 unfold validT at hv
 rw [Bool.and_eq_true] at hv
 have h := hv.1
 unfold shapeB at h
 simp only [Bool.and_eq_true, decide_eq_true_eq] at h
 exact ⟨h.1, h.2.1⟩
theorem lostB_kind {t : Tr} {q : Int} {x : Eid} (h : (ev t x).kind ≠ 2) : lostB t q x = false := by simp [lostB, h]
theorem lostB_peer {t : Tr} {q : Int} {x : Eid} (h : (ev t x).peer ≠ q) : lostB t q x = false := by simp [lostB, h]
theorem lostB_find {t : Tr} {q : Int} {x : Eid} {fe : Option Eid} (h1 : (ev t x).kind = 2) (h2 : (ev t x).peer = q) (h3 : findE t 3 (ev t x).msg = fe) : lostB t q x = fe.isNone := by simp [lostB, h1, h2, h3]
def FinI (w0 w W : World) (V : SV) (t : Tr) (L : List Mk) (M : List (List Mr)) (b q k : Nat) : Prop := (∃ vr, SimAt w0 W V (endTo t L q k) M vr) ∧ KeepT w W ∧ InvE t (endTo t L q k) b
def ChI (w0 w W : World) (V : SV) (t : Tr) (l : List Mk) (M : List (List Mr)) (q f j : Nat) : Prop := (∃ vr, SimAt w0 W V (chM l q f (lostTo t q f j)) M vr) ∧ KeepT w W
set_option maxHeartbeats 16000000 in
set_option maxRecDepth 100000 in
theorem finish_calls (w0 w : World) (V : SV) (t : Tr) (r : List (List Int)) (A : Sn) (M : List (List Mr)) (b : Nat) (vr : Nat → Nat → Value) (hg : SimG w0 V t r) (h : SimAt w0 w V A.l M vr) (hI : InvA t A b) (hr0 : 0 < r.length) (hb : b ≤ 1000000) :
  Calls Try.prog 51 #[.pointer (some ⟨V.sp, 0, none⟩)] w fun e w' => e = .returned (.tuple #[]) ∧ (∃ vr', SimAt w0 w' V (aEnd t r A.l) M vr') ∧ KeepT w w' := by
 have HG := Lib.hid hg
 have hn2 := hg.few
 have hrl := hg.run.1
 obtain ⟨R, hR⟩ : ∃ R, r.length = R + 1 := ⟨r.length - 1, by omega⟩
 have HRL := Lib.hid hR
 have HRR := Lib.hid (endRec_inv hI hg.run (show R < r.length by omega))
 have HRC := Lib.hid (fun W l p c (hp : p < V.n) (hW : SimAt w0 W V l M vr) => record_calls V.g V.o V.cap V.n w0.heap.size l V.vc V.vh vr W p c hp hW.ll hW.mks)
 have HBX := Lib.hid h.box
 have b1 := cellOf HBX.out 1
 have b2 := cellOf HBX.out 2
 simp only [List.getElem?_toArray, List.getElem?_cons_zero, List.getElem?_cons_succ, SV.lv, SV.mv] at b1 b2
 obtain ⟨ra, rc, hrv, hrc⟩ := hg.rn.sh
 have HRV := Lib.hid hrv
 rw [hrv, hR] at b1
 rw [hR] at hrl
 have hw : IntKind.i64.wrap (((R + 1 : Nat) : Int) - 1) = (R : Int) := by rw [show ((R + 1 : Nat) : Int) - 1 = (R : Int) by omega]; exact IntWalk.i64_in _ (by omega)
 have HS0 : Hid (SimAt w0 w V (endRec r A.l R 0) M vr) := Lib.hid h
 clear hg h hI hR hrv hr0 hrc
 go_enter Try.func51, Try.ntmps51
 go_wp2
 clear hw b1 b2
 go_loopg [3, 21] V.n (fun g _ s21 wr => ∃ k : Nat, k ≤ V.n ∧ V.n - k ≤ g ∧ s21 = .int .i64 k ∧ Aside (SimAt w0 wr V (endRec r A.l R k) M vr) ∧ Aside (KeepT w wr))
 case atStart => exact ⟨0, Nat.zero_le _, by omega, rfl, (show SimAt _ _ _ _ _ _ from HS0.out), KeepT.rf _⟩
 case round =>
  obtain ⟨k, hk, hgk, rfl, HK, HKT⟩ := hrel
  clear HS0 HBX
  have HBX := Lib.hid HK.out.box
  by_cases hlt : k < V.n
  case pos =>
   have hkz : (k : Int) < (V.n : Int) := by omega
   have hkz0 : (0 : Int) ≤ (k : Int) := by omega
   have b1 := cellOf HBX.out 1
   have b2 := cellOf HBX.out 2
   simp only [List.getElem?_toArray, List.getElem?_cons_zero, List.getElem?_cons_succ, SV.lv, SV.mv] at b1 b2
   obtain ⟨c0, _, _, _⟩ := HK.out.mks.cellsAt (i := k) (by rw [HK.out.ll]; exact hlt)
   obtain ⟨_, hmc, hcap, _, _, _⟩ := HK.out.hAt hlt
   have hcapz : (V.n : Int) ≤ (V.cap : Int) := by omega
   have HES := Lib.hid (endRec_succ (r := r) (l := A.l) (last := R) (k := k))
   by_cases hc : (endRec r A.l R k)[k]!.cnt = -1
   case neg =>
    have hc1 : ((endRec r A.l R k)[k]!.cnt == -1) = false := by rw [beq_eq_false_iff_ne]; exact hc
    have HN := Lib.hid (HES.out.trans (if_neg hc))
    generalize (endRec r A.l R k)[k]!.cnt = cq at *
    clear hc b1
    go_wp2
    go_roundg (V.n - (k + 1))
    case measure => omega
    case rel => exact ⟨k + 1, by omega, by omega, by go_num, (show SimAt _ _ _ _ _ _ from by rw [HN.out]; exact HK.out), (show KeepT _ _ from HKT.out)⟩
   case pos =>
    have HN := Lib.hid (HES.out.trans (if_pos hc))
    rw [hc] at c0
    clear hc
    obtain ⟨rB, rO, rC, uB, uO, uC, hve, hrC, hrB, hrr0, huC, huB, huu0⟩ := runAt HG.out.rn (i := R) (p := k) (by rw [HRL.out]; omega) (by rw [(HG.out.run.2 R (by rw [HRL.out]; omega)).1, HG.out.len]; exact hlt)
    have r0 := HK.out.ext.cl hrr0
    have u0 := HK.out.ext.cl huu0
    rw [(HG.out.run.2 R (by rw [HRL.out]; omega)).1, HG.out.len] at r0 huC
    rw [hve, HRL.out] at b1
    have hRz : (R : Int) < ((R + 1 : Nat) : Int) := by omega
    have hRz0 : (0 : Int) ≤ (R : Int) := by omega
    have HRO := Lib.hid (HRC.out wr.drew (endRec r A.l R k) k (rAt r R k) hlt (HK.out.grow (Ext.rf wr).dr))
    generalize rAt r R k = x at *
    clear hve hrr0 huu0
    go_upto_region 5 with (fail)
    go_region_with (refine HRO.out.mono ?_; rintro e w1 ⟨rfl, g2, o2, c2, hv2, hb2, hb3, rfl⟩; have HV2 := Lib.hid hv2; clear hv2 hb2 hb3)
    all_goals
     clear b1 b2 r0 u0 c0
     go_wp2
     go_roundg (V.n - (k + 1))
     case measure => omega
     case rel => exact ⟨k + 1, by omega, by omega, by go_num, (show SimAt _ _ _ _ _ _ from by rw [HN.out]; exact (HK.out.reco hlt x HV2.out).grow (Ext.rf _).dr), (show KeepT _ _ from HKT.out.tr (((HK.out.keepN _ _).tr ((HK.out.setN hlt x).keepB hlt HV2.out _ _)).tr (KeepT.of (Ext.rf _).dr)))⟩
  case neg =>
   have hkz : ¬ (k : Int) < (V.n : Int) := by omega
   have HKE := Lib.hid (show k = V.n by omega)
   have HSL := Lib.hid HK.out.ll
   have HAE : Hid (aEnd t r A.l = endTo t (endRec r A.l R k) V.n 0) := Lib.hid (by
    have hl : A.l.length = V.n := by have := HK.out.ll; rw [endRec_len] at this; exact this
    unfold aEnd; rw [HRL.out, Nat.add_sub_cancel, hl, HKE.out])
   have HF0 : Hid (FinI w0 w wr V t (endRec r A.l R k) M b 0 0) := Lib.hid (by
    obtain ⟨⟨at', h1⟩, h2⟩ := HRR.out k (by rw [HKE.out, HG.out.len]; exact Nat.le_refl _)
    exact ⟨⟨vr, HK.out⟩, HKT.out, h1.toE (fun p hp => h2 p (by rw [HKE.out, ← HG.out.len]; exact hp))⟩)
   have b2 := cellOf HBX.out 2
   simp only [List.getElem?_toArray, List.getElem?_cons_zero, List.getElem?_cons_succ, SV.lv, SV.mv] at b2
   generalize endRec r A.l R k = L1 at *
   clear HBX
   go_wp2
   clear b2
   go_loopg [4, 55] V.n (fun g _ s55 wr => ∃ q : Nat, q ≤ V.n ∧ V.n - q ≤ g ∧ s55 = .int .i64 q ∧ Aside (FinI w0 w wr V t L1 M b q 0))
   case atStart => exact ⟨0, Nat.zero_le _, by omega, rfl, (show FinI _ _ _ _ _ _ _ _ _ _ from HF0.out)⟩
   case round =>
    obtain ⟨q, hq, hgq, rfl, HF⟩ := hrel
    clear HF0 HK HKT
    by_cases hqn : q < V.n
    case neg =>
     have hqz : ¬ (q : Int) < (V.n : Int) := by omega
     have HQE := Lib.hid (show q = V.n by omega)
     go_wp2
     go_end0
     obtain ⟨⟨vr9, g1⟩, g2, _⟩ := HF.out
     exact ⟨rfl, ⟨vr9, by rw [HAE.out, ← HQE.out]; exact g1⟩, g2⟩
    case pos =>
     have hqz : (q : Int) < (V.n : Int) := by omega
     have hqz0 : (0 : Int) ≤ (q : Int) := by omega
     obtain ⟨⟨vr1, hs1⟩, _, _⟩ := HF.out
     have b2 := cellOf hs1.box 2
     simp only [List.getElem?_toArray, List.getElem?_cons_zero, List.getElem?_cons_succ, SV.lv, SV.mv] at b2
     clear hs1
     go_wp2
     clear b2
     go_loopg [5, 63] V.n (fun g _ s63 wr => ∃ f : Nat, f ≤ V.n ∧ V.n - f ≤ g ∧ s63 = .int .i64 f ∧ Aside (FinI w0 w wr V t L1 M b q f))
     case atStart => exact ⟨0, Nat.zero_le _, by omega, rfl, (show FinI _ _ _ _ _ _ _ _ _ _ from HF.out)⟩
     case round =>
      obtain ⟨f, hf, hgf, rfl, HFF⟩ := hrel
      clear HF
      by_cases hfn : f < V.n
      case neg =>
       have hfz : ¬ (f : Int) < (V.n : Int) := by omega
       have HFE := Lib.hid (show f = V.n by omega)
       have HN := Lib.hid (show FinI w0 w wr V t L1 M b (q + 1) 0 from by
        have h := HFF.out
        unfold FinI at h ⊢
        rw [HFE.out, endTo_next HSL.out] at h
        exact h)
       go_wp2
       go_roundg (V.n - (q + 1))
       case measure => omega
       case rel => exact ⟨q + 1, by omega, by omega, by go_num, (show FinI _ _ _ _ _ _ _ _ _ _ from HN.out)⟩
      case pos =>
       have hfz : (f : Int) < (V.n : Int) := by omega
       have hfz0 : (0 : Int) ≤ (f : Int) := by omega
       obtain ⟨⟨vr1, hs1⟩, hk1, hE1⟩ := HFF.out
       have HS1 := Lib.hid hs1
       have HK1 := Lib.hid hk1
       have HE1 := Lib.hid hE1
       have HES := Lib.hid (endTo_succ (t := t) (l := L1) (q := q) (k := f))
       have HEI := Lib.hid (hE1.endCh (q := q) (f := f) (by rw [HG.out.len]; exact hqn) (by rw [HG.out.len]; exact hfn) (valid_64 HG.out.val (by rw [HG.out.len]; exact hfn)))
       generalize endTo t L1 q f = l at *
       have HBX := Lib.hid hs1.box
       have b0 := cellOf HBX.out 0
       have b2 := cellOf HBX.out 2
       simp only [List.getElem?_toArray, List.getElem?_cons_zero, List.getElem?_cons_succ, SV.lv, SV.mv] at b0 b2
       obtain ⟨_, k1, _, _⟩ := hs1.mks.cellsAt (i := q) (by rw [hs1.ll]; exact hqn)
       obtain ⟨vg, vo, vk, hvc, _, hvgw, hvnc, d0, hfrz⟩ := hs1.mks.boolAt (j := f) hqn hfn
       rw [hvc] at k1
       have HVC := Lib.hid hvc
       have HCL := Lib.hid (fun h => endCh_open (t := t) (l := l) (q := q) (f := f) h)
       have HCS := Lib.hid (fun h => endCh_shut (t := t) (l := l) (q := q) (f := f) h)
       obtain ⟨cb, hcb⟩ : ∃ x, l[q]!.closed[f]! = x := ⟨_, rfl⟩
       rw [hcb] at d0 HCL HCS
       have hopl := hE1.op q (by rw [HG.out.len]; exact hqn) f (by rw [HG.out.len]; exact hfn)
       rw [hcb] at hopl
       have hcn := hE1.cnt f (by rw [HG.out.len]; exact hfn)
       obtain ⟨KN, hK⟩ : ∃ KN : Nat, l[f]!.cnt = (KN : Int) := ⟨(l[f]!.cnt).toNat, by omega⟩
       obtain ⟨c0, _, _, _⟩ := hs1.mks.cellsAt (i := f) (by rw [hs1.ll]; exact hfn)
       rw [hK] at c0 HCL hcn
       rw [Int.toNat_natCast] at HCL
       obtain ⟨_, _, hcap, _, hgw, hspw⟩ := hs1.hAt hfn
       clear hs1 hk1 hE1 hvc hcb hfrz hK
       cases cb with
       | true =>
         have HN := Lib.hid (show FinI w0 w wr V t L1 M b q (f + 1) from by
          unfold FinI
          rw [HES.out, HCS.out rfl]
          exact ⟨⟨vr1, HS1.out⟩, HK1.out, HE1.out⟩)
         clear b0 c0 hopl
         go_wp2
         go_roundg (V.n - (f + 1))
         case measure => omega
         case rel => exact ⟨f + 1, by omega, by omega, by go_num, (show FinI _ _ _ _ _ _ _ _ _ _ from HN.out)⟩
       | false =>
         have hlen := hopl rfl
         have HCO := Lib.hid (HCL.out rfl)
         obtain ⟨B, O, C, vv, ve, hve, hlC, hB, hn0, hv0, he0, hV, hE0⟩ := proc_at HG.out.tr f (by rw [HG.out.len]; exact hfn)
         have he0 := HS1.out.ext.cl he0
         have HEV := Lib.hid hE0
         obtain ⟨ea, ec, rfl, hec⟩ := hE0.sh
         have h64 := valid_64 HG.out.val (p := f) (by rw [HG.out.len]; exact hfn)
         have HRE := Lib.hid (fun W (hW : Ext w0 W) m => receiverP_calls V.tv t m W (HG.out.tr.ext hW) (valid_small HG.out.val))
         rw [hve] at b0 HRE
         rw [HG.out.len] at b0 hlC HRE
         generalize hne : t[f]!.events.length = ne at *
         have HNE := Lib.hid hne
         have hk64 : KN ≤ 64 := by omega
         have hKz : (0 : Int) ≤ (KN : Int) := by omega
         have hKc : (KN : Int) ≤ (ec : Int) := by omega
         have HVT := Lib.hid hve
         clear hve hn0 hv0 hV hE0 hopl hne
         go_upto_region 14 with (fail)
         clear k1 d0
         go_quiet (fail)
         have HXQ := Lib.hid ((Ext.rf wr).drN nq)
         generalize wr.drewN nq = wq at *
         clear b0 b2 c0 he0
         have HC0 : Hid (ChI w0 w wq V t l M q f 0) := Lib.hid ⟨⟨vr1, by rw [show lostTo t q f 0 = [] from rfl, chM_nil]; exact HS1.out.grow HXQ.out⟩, HK1.out.tr (KeepT.of HXQ.out)⟩
         go_wp2
         go_loopg [96] KN (fun g s96 wr => ∃ j : Nat, j ≤ KN ∧ KN - j ≤ g ∧ s96 = .int .i64 j ∧ Aside (ChI w0 w wr V t l M q f j))
         case atStart => exact ⟨0, Nat.zero_le _, by omega, rfl, (show ChI _ _ _ _ _ _ _ _ _ _ from HC0.out)⟩
         case round =>
          obtain ⟨j, hj, hgj, rfl, HC⟩ := hrel
          clear HC0
          by_cases hjK : j < KN
          case neg =>
           have hjz : ¬ (j : Int) < (KN : Int) := by omega
           have HJE := Lib.hid (show j = KN by omega)
           obtain ⟨⟨vr2, hs2⟩, hk2⟩ := HC.out
           rw [HJE.out] at hs2
           have HS2 := Lib.hid hs2
           have hb2 := cellOf hs2.box 2
           simp only [List.getElem?_toArray, List.getElem?_cons_zero, List.getElem?_cons_succ, SV.lv, SV.mv] at hb2
           obtain ⟨_, k1, _, _⟩ := hs2.mks.cellsAt (i := q) (by rw [hs2.ll]; exact hqn)
           obtain ⟨vg', vo', vk', hvc', _, _, _, d0, hfrz⟩ := hs2.mks.boolAt (j := f) hqn hfn
           rw [HVC.out] at k1 hvc'
           simp only [Value.slice.injEq, Option.some.injEq, Addr.mk.injEq, true_and, and_true] at hvc'
           obtain ⟨⟨rfl, rfl⟩, rfl⟩ := hvc'
           have f0 := hfrz (vo + f)
           have HN := Lib.hid (show FinI w0 w (wr.setCell ⟨vg, vo + f, none⟩ (.bool true)) V t L1 M b q (f + 1) from by
            unfold FinI
            rw [HES.out]
            refine ⟨⟨vr2, ?_⟩, hk2.tr (hs2.keepB hqn HVC.out (vo + f) (.bool true)), HEI.out⟩
            rw [HCO.out]
            exact hs2.setB hqn hfn HVC.out)
           clear hs2 hk2 hfrz
           go_wp2
           go_roundg (V.n - (f + 1))
           case measure => omega
           case rel => exact ⟨f + 1, by omega, by omega, by go_num, (show FinI _ _ _ _ _ _ _ _ _ _ from HN.out)⟩
          case pos =>
           have hjz : (j : Int) < (KN : Int) := by omega
           have hjz0 : (0 : Int) ≤ (j : Int) := by omega
           obtain ⟨⟨vr2, hs2⟩, hk2⟩ := HC.out
           have HS2 := Lib.hid hs2
           have HK2 := Lib.hid hk2
           have HXE := Lib.hid hs2.ext
           clear hs2 hk2
           obtain ⟨EB, EO, EC, va, hee, hlE, hEB, k0, k1, k2, k3, k4, ha⟩ := event_at HEV.out j (by rw [HNE.out]; omega)
           simp only [Value.slice.injEq] at hee
           obtain ⟨rfl, hzz, rfl⟩ := hee
           obtain ⟨va1, va2, rfl, _⟩ := ha.sh
           have m0 := HXE.out.cl k0
           have m1 := HXE.out.cl k1
           have m2 := HXE.out.cl k2
           have m3 := HXE.out.cl k3
           have m4 := HXE.out.cl k4
           have HEVE : Hid (ev t (f, j) = t[f]!.events[j]!) := Lib.hid rfl
           have HLK := Lib.hid (lostB_kind (t := t) (q := q) (x := (f, j)))
           have HLP := Lib.hid (lostB_peer (t := t) (q := q) (x := (f, j)))
           have HLF := Lib.hid (fun fe => lostB_find (t := t) (q := q) (x := (f, j)) (fe := fe))
           rw [HEVE.out] at HLK HLP HLF
           have HLM : Hid ((ev t (f, j)).msg = t[f]!.events[j]!.msg) := Lib.hid rfl
           generalize t[f]!.events[j]! = y at *
           generalize y.asg.length = nb at *
           clear k0 k1 k2 k3 k4 hzz ha
           have HB6 := Lib.hid (heap_alloc_new wr (e5 (.int .i64 y.kind) (.int .i64 y.peer) (.int .i64 y.msg) (.int .i64 y.time) (.slice va1 nb va2)))
           have HXT := Lib.hid ((Ext.rf wr).al (e5 (.int .i64 y.kind) (.int .i64 y.peer) (.int .i64 y.msg) (.int .i64 y.time) (.slice va1 nb va2)))
           by_cases hck : y.kind = 2
           case neg =>
            have ck : (y.kind != 2) = true := by rw [bne_iff_ne]; exact hck
            have HLB := Lib.hid (HLK.out hck)
            clear hck
            go_wp2
            go_roundg (KN - (j + 1))
            case measure => omega
            case rel => exact ⟨j + 1, by omega, by omega, by go_num, (show ChI _ _ _ _ _ _ _ _ _ _ from by
             obtain ⟨⟨vr, g1⟩, g2⟩ := HC.out
             unfold ChI
             rw [lostTo_no HLB.out]
             exact ⟨⟨vr, g1.grow HXT.out⟩, g2.tr (KeepT.of HXT.out)⟩)⟩
           case pos =>
            have ck : (y.kind != 2) = false := by rw [bne_eq_false_iff_eq]; exact hck
            by_cases hcp : y.peer = (q : Int)
            case neg =>
             have cp : (y.peer != (q : Int)) = true := by rw [bne_iff_ne]; exact hcp
             have HLB := Lib.hid (HLP.out hcp)
             clear hck hcp
             go_wp2
             go_roundg (KN - (j + 1))
             case measure => omega
             case rel => exact ⟨j + 1, by omega, by omega, by go_num, (show ChI _ _ _ _ _ _ _ _ _ _ from by
              obtain ⟨⟨vr, g1⟩, g2⟩ := HC.out
              unfold ChI
              rw [lostTo_no HLB.out]
              exact ⟨⟨vr, g1.grow HXT.out⟩, g2.tr (KeepT.of HXT.out)⟩)⟩
            case pos =>
             have cp : (y.peer != (q : Int)) = false := by rw [bne_eq_false_iff_eq]; exact hcp
             have HFW := Lib.hid (fun W (hW : Ext (wr.alloc (e5 (.int .i64 y.kind) (.int .i64 y.peer) (.int .i64 y.msg) (.int .i64 y.time) (.slice va1 nb va2))) W) => HRE.out W (HXE.out.trans' (HXT.out.trans' hW)) y.msg)
             unfold FndOut at HFW
             have HFV : Hid (fndO t 3 y.msg = findE t 3 y.msg) := Lib.hid (by unfold fndO; rw [if_pos HG.out.val])
             rw [HFV.out] at HFW
             obtain ⟨fe, hfe⟩ : ∃ g, findE t 3 y.msg = g := ⟨_, rfl⟩
             rw [hfe] at HFW
             have HLB := Lib.hid (HLF.out fe hck hcp hfe)
             clear hfe hck hcp
             have HBX2 := Lib.hid HS2.out.box
             rw [HVT.out] at HBX2
             have b0 := cellOf HBX2.out 0
             simp only [List.getElem?_toArray, List.getElem?_cons_zero] at b0
             rw [HG.out.len] at b0
             have l1 : V.sp < wr.heap.size := World.block_lt_of_cell? wr _ b0
             have l2 : V.sp ≠ wr.heap.size := by omega
             go_upto_region 18 with (fail)
             have l3 : wr.heap.size < (wr.alloc (e5 (.int .i64 y.kind) (.int .i64 y.peer) (.int .i64 y.msg) (.int .i64 y.time) (.slice va1 nb va2))).heap.size := by simp
             generalize wr.alloc (e5 (.int .i64 y.kind) (.int .i64 y.peer) (.int .i64 y.msg) (.int .i64 y.time) (.slice va1 nb va2)) = w6 at *
             have t6 := HXT.out.cl b0
             clear b0
             have l4 : V.sp < w6.heap.size := by omega
             have l5 : wr.heap.size ≠ w6.heap.size := by omega
             have l6 : V.sp ≠ w6.heap.size := by omega
             have k0 := cellOf HB6.out 0
             have k1 := cellOf HB6.out 1
             have k2 := cellOf HB6.out 2
             simp only [List.getElem?_toArray, List.getElem?_cons_zero, List.getElem?_cons_succ] at k0 k1 k2
             go_cut [9] (fun s9 wx => s9 = .bool fe.isSome ∧ Aside (Ext w6 wx))
             case first =>
              clear m0 m1 m2 m3 m4
              go_region_with (first
               | (refine (HFW.out _ (Ext.rf _).dr).mono ?_; rintro e w7 ⟨rfl, hE7⟩; have HE7 := Lib.hid hE7; clear hE7)
               | (refine (HFW.out _ ((Ext.rf _).al (idO 0 0)).dr).mono ?_; rintro e w7 ⟨rfl, hE7⟩; have HE7 := Lib.hid hE7; have HZ := Lib.hid (hE7.hp ((Ext.rf _).dr.hp (heap_alloc_new w6 (idO 0 0)))); have q0 := cellOf HZ.out 0; have q1 := cellOf HZ.out 1; have g0 := freeOf HZ.out 0; have g1 := freeOf HZ.out 1; simp only [List.getElem?_toArray, List.getElem?_cons_zero, List.getElem?_cons_succ] at q0 q1; clear hE7))
              all_goals (go_wp2; go_meet)
              all_goals
               first
               | exact ⟨rfl, (Ext.rf _).dr.trans' (HE7.out.al _)⟩
               | exact ⟨rfl, id_ext (((Ext.rf w6).al (idO 0 0)).dr.trans' HE7.out) (Nat.le_refl _) _ _⟩
             case rest =>
              obtain ⟨rfl, HX9⟩ := hcut
              have HXC := Lib.hid (HXT.out.trans' HX9.out)
              have HYC := Lib.hid (HX9.out.hp HB6.out)
              clear t6 k0 k1 k2 m0 m1 m2 m3 m4
              cases fe with
              | some x =>
                have hsn : (Option.isSome (some x : Option Eid)) = true := rfl
                go_wp2
                go_roundg (KN - (j + 1))
                case measure => omega
                case rel => exact ⟨j + 1, by omega, by omega, by go_num, (show ChI _ _ _ _ _ _ _ _ _ _ from by
                 obtain ⟨⟨vr, g1⟩, g2⟩ := HC.out
                 unfold ChI
                 rw [lostTo_no HLB.out]
                 exact ⟨⟨vr, g1.grow HXC.out⟩, g2.tr (KeepT.of HXC.out)⟩)⟩
              | none =>
                have hsn : (Option.isSome (none : Option Eid)) = false := rfl
                have HSC := Lib.hid (HS2.out.grow HXC.out)
                have HKC := Lib.hid (HK2.out.tr (KeepT.of HXC.out))
                have HBXC := Lib.hid HSC.out.box
                have b2 := cellOf HBXC.out 2
                simp only [List.getElem?_toArray, List.getElem?_cons_zero, List.getElem?_cons_succ, SV.lv, SV.mv] at b2
                obtain ⟨_, _, k2, _⟩ := HSC.out.mks.cellsAt (i := q) (by rw [HSC.out.ll]; exact hqn)
                obtain ⟨hg, ho, hk, hvh, hhg0, hhgw, hhnc, e0, hhf⟩ := HSC.out.mks.hdrAt (j := f) hqn hfn
                rw [hvh] at k2
                have HVH := Lib.hid hvh
                have HRW := Lib.hid (HSC.out.mks.cha q hqn f hfn)
                have HQL : Hid (q < l.length) := Lib.hid (by have h := HSC.out.ll; rw [chM_len] at h; omega)
                have HFL : Hid (f < l[q]!.chan.length) := Lib.hid (by have h := (HSC.out.mks.shp q hqn).2; rw [chM_at HQL.out] at h; simp only [List.length_set] at h; omega)
                have HLN : Hid (((chM l q f (lostTo t q f j))[q]!.chan[f]!).length ≤ b + 64) := Lib.hid (by
                 rw [chM_at HQL.out]
                 simp only
                 rw [setG_at HFL.out, List.length_append]
                 have := lostTo_len t q f j
                 omega)
                obtain ⟨ra, rc, hrv, _⟩ := HRW.out.any
                have HRV := Lib.hid hrv
                rw [hrv] at e0
                obtain ⟨L, hL⟩ : ∃ L, ((chM l q f (lostTo t q f j))[q]!.chan[f]!).length = L := ⟨_, rfl⟩
                have HLL := Lib.hid hL
                have hlen2 := HLN.out
                rw [hL] at e0 hlen2 HRV
                have y2 := cellOf HYC.out 2
                simp only [List.getElem?_toArray, List.getElem?_cons_zero, List.getElem?_cons_succ] at y2
                obtain ⟨ii, hii, iz0, iz1, iz2⟩ := info_partsM info_intG
                have HNS := Lib.hid (chM_snoc (xs := lostTo t q f j) (x := y.msg) HQL.out HFL.out)
                clear hvh hrv hL hhf hlen hcn
                go_upto_region 20 with (fail)
                obtain ⟨wG, rfl⟩ : ∃ z, z = wc := ⟨_, rfl⟩
                refine wp_region_tail (fun W => W.cell? ⟨V.sp, 2, none⟩ = some (.slice (some ⟨V.g, V.o, none⟩) V.n V.cap) ∧ W.cell? ⟨V.g, V.o + q * 3 + 2, none⟩ = some (.slice (some ⟨hg, ho, none⟩) V.n hk) ∧ W.cell? ⟨hg, ho + f, none⟩ = some (.slice ra L rc) ∧ W.cell? ⟨wr.heap.size, 2, none⟩ = some (.int .i64 y.msg)) 25 (by kernel_rfl) ⟨b2, k2, e0, y2⟩ (fun hHeld => ?_)
                refine tkA 0 121 (v := ?_) rfl rfl (by kernel_rfl) (fun _ _ _ h => h) ?_ (by assumption) ?_
                rotate_left
                ·(intro w hSw; (try dsimp only at hSw); go_simp; try (with_reducible rfl))
                try simp only [Act.put]
                try simp only [List.setIfInBounds_toArray]
                try simp only [List.set_cons_zero, List.set_cons_succ]
                refine tkA 1 122 (v := ?_) rfl rfl (by kernel_rfl) (fun _ _ _ h => h) ?_ (by assumption) ?_
                rotate_left
                ·(intro w hSw; (try dsimp only at hSw); go_simp; try (with_reducible rfl))
                try simp only [Act.put]
                try simp only [List.setIfInBounds_toArray]
                try simp only [List.set_cons_zero, List.set_cons_succ]
                refine tkA 2 123 (v := ?_) rfl rfl (by kernel_rfl) (fun _ _ _ h => h) ?_ (by assumption) ?_
                rotate_left
                ·(intro w hSw; (try dsimp only at hSw); go_simp; try (with_reducible rfl))
                try simp only [Act.put]
                try simp only [List.setIfInBounds_toArray]
                try simp only [List.set_cons_zero, List.set_cons_succ]
                refine tkA 3 124 (v := ?_) rfl rfl (by kernel_rfl) (fun _ _ _ h => h) ?_ (by assumption) ?_
                rotate_left
                ·(intro w hSw; (try dsimp only at hSw); go_simp; try (with_reducible rfl))
                try simp only [Act.put]
                try simp only [List.setIfInBounds_toArray]
                try simp only [List.set_cons_zero, List.set_cons_succ]
                refine tkA 4 125 (v := ?_) rfl rfl (by kernel_rfl) (fun _ _ _ h => h) ?_ (by assumption) ?_
                rotate_left
                ·(intro w hSw; (try dsimp only at hSw); go_simp; try (with_reducible rfl))
                try simp only [Act.put]
                try simp only [List.setIfInBounds_toArray]
                try simp only [List.set_cons_zero, List.set_cons_succ]
                refine tkA 5 126 (v := ?_) rfl rfl (by kernel_rfl) (fun _ _ _ h => h) ?_ (by assumption) ?_
                rotate_left
                ·(intro w hSw; (try dsimp only at hSw); go_simp; try (with_reducible rfl))
                try simp only [Act.put]
                try simp only [List.setIfInBounds_toArray]
                try simp only [List.set_cons_zero, List.set_cons_succ]
                refine tkA 6 127 (v := ?_) rfl rfl (by kernel_rfl) (fun _ _ _ h => h) ?_ (by assumption) ?_
                rotate_left
                ·(intro w hSw; (try dsimp only at hSw); go_simp; try (with_reducible rfl))
                try simp only [Act.put]
                try simp only [List.setIfInBounds_toArray]
                try simp only [List.set_cons_zero, List.set_cons_succ]
                refine tkA 7 128 (v := ?_) rfl rfl (by kernel_rfl) (fun _ _ _ h => h) ?_ (by assumption) ?_
                rotate_left
                ·(intro w hSw; (try dsimp only at hSw); go_simp; try (with_reducible rfl))
                try simp only [Act.put]
                try simp only [List.setIfInBounds_toArray]
                try simp only [List.set_cons_zero, List.set_cons_succ]
                refine tkA 8 129 (v := ?_) rfl rfl (by kernel_rfl) (fun _ _ _ h => h) ?_ (by assumption) ?_
                rotate_left
                ·(intro w hSw; (try dsimp only at hSw); go_simp; try (with_reducible rfl))
                try simp only [Act.put]
                try simp only [List.setIfInBounds_toArray]
                try simp only [List.set_cons_zero, List.set_cons_succ]
                refine tkA 9 130 (v := ?_) rfl rfl (by kernel_rfl) (fun _ _ _ h => h) ?_ (by assumption) ?_
                rotate_left
                ·(intro w hSw; (try dsimp only at hSw); go_simp; try (with_reducible rfl))
                try simp only [Act.put]
                try simp only [List.setIfInBounds_toArray]
                try simp only [List.set_cons_zero, List.set_cons_succ]
                refine tkA 10 131 (v := ?_) rfl rfl (by kernel_rfl) (fun _ _ _ h => h) ?_ (by assumption) ?_
                rotate_left
                ·(intro w hSw; (try dsimp only at hSw); go_simp; try (with_reducible rfl))
                try simp only [Act.put]
                try simp only [List.setIfInBounds_toArray]
                try simp only [List.set_cons_zero, List.set_cons_succ]
                refine tkA 11 132 (v := ?_) rfl rfl (by kernel_rfl) (fun _ _ _ h => h) ?_ (by assumption) ?_
                rotate_left
                ·(intro w hSw; (try dsimp only at hSw); go_simp; try (with_reducible rfl))
                try simp only [Act.put]
                try simp only [List.setIfInBounds_toArray]
                try simp only [List.set_cons_zero, List.set_cons_succ]
                refine tkA 12 133 (v := ?_) rfl rfl (by kernel_rfl) (fun _ _ _ h => h) ?_ (by assumption) ?_
                rotate_left
                ·(intro w hSw; (try dsimp only at hSw); go_simp; try (with_reducible rfl))
                try simp only [Act.put]
                try simp only [List.setIfInBounds_toArray]
                try simp only [List.set_cons_zero, List.set_cons_succ]
                refine tkA 13 134 (v := ?_) rfl rfl (by kernel_rfl) (fun _ _ _ h => h) ?_ (by assumption) ?_
                rotate_left
                ·(intro w hSw; (try dsimp only at hSw); go_simp; try (with_reducible rfl))
                try simp only [Act.put]
                try simp only [List.setIfInBounds_toArray]
                try simp only [List.set_cons_zero, List.set_cons_succ]
                refine tkA 14 135 (v := ?_) rfl rfl (by kernel_rfl) (fun _ _ _ h => h) ?_ (by assumption) ?_
                rotate_left
                ·(intro w hSw; (try dsimp only at hSw); go_simp; try (with_reducible rfl))
                try simp only [Act.put]
                try simp only [List.setIfInBounds_toArray]
                try simp only [List.set_cons_zero, List.set_cons_succ]
                refine tkA 15 136 (v := ?_) rfl rfl (by kernel_rfl) (fun _ _ _ h => h) ?_ (by assumption) ?_
                rotate_left
                ·(intro w hSw; (try dsimp only at hSw); go_simp; try (with_reducible rfl))
                try simp only [Act.put]
                try simp only [List.setIfInBounds_toArray]
                try simp only [List.set_cons_zero, List.set_cons_succ]
                refine tkA 16 137 (v := ?_) rfl rfl (by kernel_rfl) (fun _ _ _ h => h) ?_ (by assumption) ?_
                rotate_left
                ·(intro w hSw; (try dsimp only at hSw); go_simp; try (with_reducible rfl))
                try simp only [Act.put]
                try simp only [List.setIfInBounds_toArray]
                try simp only [List.set_cons_zero, List.set_cons_succ]
                refine tkA 17 138 (v := ?_) rfl rfl (by kernel_rfl) (fun _ _ _ h => h) ?_ (by assumption) ?_
                rotate_left
                ·(intro w hSw; (try dsimp only at hSw); go_simp; try (with_reducible rfl))
                try simp only [Act.put]
                try simp only [List.setIfInBounds_toArray]
                try simp only [List.set_cons_zero, List.set_cons_succ]
                refine tkA 18 139 (v := ?_) rfl rfl (by kernel_rfl) (fun _ _ _ h => h) ?_ (by assumption) ?_
                rotate_left
                ·(intro w hSw; (try dsimp only at hSw); go_simp; try (with_reducible rfl))
                try simp only [Act.put]
                try simp only [List.setIfInBounds_toArray]
                try simp only [List.set_cons_zero, List.set_cons_succ]
                refine tkA 19 140 (v := ?_) rfl rfl (by kernel_rfl) (fun _ _ _ h => h) ?_ (by assumption) ?_
                rotate_left
                ·(intro w hSw; (try dsimp only at hSw); go_simp; try (with_reducible rfl))
                try simp only [Act.put]
                try simp only [List.setIfInBounds_toArray]
                try simp only [List.set_cons_zero, List.set_cons_succ]
                refine tkA 20 141 (v := ?_) rfl rfl (by kernel_rfl) (fun _ _ _ h => h) ?_ (by assumption) ?_
                rotate_left
                ·(intro w hSw; (try dsimp only at hSw); go_simp; try (with_reducible rfl))
                try simp only [Act.put]
                try simp only [List.setIfInBounds_toArray]
                try simp only [List.set_cons_zero, List.set_cons_succ]
                refine tkA 21 142 (v := ?_) rfl rfl (by kernel_rfl) (fun _ _ _ h => h) ?_ (by assumption) ?_
                rotate_left
                ·(intro w hSw; (try dsimp only at hSw); go_simp; try (with_reducible rfl))
                try simp only [Act.put]
                try simp only [List.setIfInBounds_toArray]
                try simp only [List.set_cons_zero, List.set_cons_succ]
                refine wpAnyT_step (i := 22) (by kernel_rfl) rfl (fun K hK => ?_)
                go_simp
                have HXG : Hid (Ext wG (wG.alloc (.cells #[.int .i64 y.msg] 3)).drew) := Lib.hid ((Ext.rf wG).al _).dr
                have HNW : Hid ((wG.alloc (.cells #[.int .i64 y.msg] 3)).drew.heap[wG.heap.size]? = some (.cells #[.int .i64 y.msg] 3)) := Lib.hid (heap_alloc_new wG _)
                generalize (wG.alloc (.cells #[.int .i64 y.msg] 3)).drew = wA at *
                have HSA := Lib.hid (HSC.out.grow HXG.out)
                have HRA2 : Hid (Row wA w0.heap.size 3 1 (.slice ra L rc) L (((chM l q f (lostTo t q f j))[q]!.chan[f]!).map (Value.int .i64))) := Lib.hid (by
                 have h := HRW.out.ext HXG.out
                 rw [HRV.out, HLL.out] at h; exact h)
                have HYA := Lib.hid (HXG.out.hp HYC.out)
                refine hK.out _ _ ?_ (fun hHeld => ?_)
                ·(try dsimp only)
                 exact ⟨HXG.out.cl b2, HXG.out.cl k2, HXG.out.cl e0, HXG.out.cl y2⟩
                clear hK K
                try simp only [Act.put]
                try simp only [List.setIfInBounds_toArray]
                try simp only [List.set_cons_zero, List.set_cons_succ]
                refine wpAnyT_step (i := 23) (by kernel_rfl) rfl (fun K hK => ?_)
                refine step_append_rowN rfl _ _ 25 rfl w0.heap.size 3 ii (.int .i64 0) 1 8 Try.underlying25 hii iz0 iz1 iz2 rfl (by decide) (.slice ra L rc) L (((chM l q f (lostTo t q f j))[q]!.chan[f]!).map (Value.int .i64)) rfl HRA2.out wG.heap.size 1 [.int .i64 y.msg] rfl rfl ⟨_, HNW.out⟩ (by simp [Value.oneCell']) (by unfold maxLen; omega) (by omega) HSA.out.ext.sz ?_
                intro v8 w8 hown8 hgrow8 hblk8
                obtain ⟨x8, y8, rfl, _⟩ := hown8.any
                have HOW := Lib.hid hown8
                have HGR := Lib.hid hgrow8
                have HBL := Lib.hid hblk8
                have hhr := HSA.out.mks.hdr q hqn
                rw [HVH.out] at hhr
                obtain ⟨cuH, frH, hheapH⟩ := row_hp hhr
                obtain ⟨cuG, frG, hheapG⟩ := row_hp HSA.out.mks.row
                have gS := grown_heap HRA2.out hgrow8 HSA.out.box (by decide)
                have gG := grown_heap HRA2.out hgrow8 hheapG (by decide)
                have gH := grown_heap HRA2.out hgrow8 hheapH (by decide)
                have gY := grown_heap HRA2.out hgrow8 HYA.out (by decide)
                have b8 := (cell_same (o := 2) gS).trans (HXG.out.cl b2)
                have k8 := (cell_same (o := V.o + q * 3 + 2) gG).trans (HXG.out.cl k2)
                have e8 := (cell_same (o := ho + f) gH).trans (HXG.out.cl e0)
                have y8' := (cell_same (o := 2) gY).trans (HXG.out.cl y2)
                have hfrz : w8.frozen? ⟨hg, ho + f, none⟩ = false := (hhr.grown hgrow8 (hhr.apart HRA2.out (by decide))).free _
                have HKH := Lib.hid (keep_st (o := ho + f) (u := .slice x8 (L + 1) y8) (gH.trans hheapH) (.inr (.inr (.inr (.inl rfl)))))
                clear hown8 hgrow8 hblk8 gS gG gH gY hheapH hheapG hhr
                refine hK.out _ _ ?_ (fun hHeld => ?_)
                ·(try dsimp only)
                 exact ⟨b8, k8, e8, y8'⟩
                clear hK K
                try simp only [Act.put]
                try simp only [List.setIfInBounds_toArray]
                try simp only [List.set_cons_zero, List.set_cons_succ]
                refine tkA 24 145 (v := ?_) rfl rfl (by kernel_rfl) (fun _ _ _ h => h) ?_ (by assumption) ?_
                rotate_left
                ·(intro w hSw; (try dsimp only at hSw); go_simp; try (with_reducible rfl))
                try simp only [Act.put]
                try simp only [List.setIfInBounds_toArray]
                try simp only [List.set_cons_zero, List.set_cons_succ]
                refine wpAnyT_last (by kernel_rfl) rfl (by kernel_rfl) (fun K hK => ?_)
                go_simp
                refine hK.out _ _ ?_
                go_wp2
                go_roundg (KN - (j + 1))
                case measure => omega
                case rel =>
                 refine ⟨j + 1, by omega, by omega, by go_num, (show ChI _ _ _ _ _ _ _ _ _ _ from ⟨⟨put2 vr2 q f (.slice x8 (L + 1) y8), ?_⟩, ?_⟩)⟩
                 ·rw [lostTo_yes HLB.out, HLM.out, ← HNS.out]
                  exact HSA.out.note hqn hfn HVH.out (by rw [HRV.out]; exact HGR.out) (by rw [HLL.out]; exact HOW.out) (by rw [HRV.out]; exact HBL.out)
                 ·exact (HKC.out.tr (KeepT.of HXG.out)).tr ((keep_grown HRA2.out HGR.out).tr HKH.out)
end Go.Proofs.Ytfagfooggcinoaa
namespace Go.Proofs.Ytfagfooggcinoaa
open Go.RowKit
set_option linter.unusedVariables false
theorem begL_get {n i : Nat} (hi : i < n) : (begL n)[i]! = mk0 n := by
 unfold begL
 rw [getElem!_pos _ i (by rw [List.length_replicate]; exact hi), List.getElem_replicate]
theorem mRow_begin {n f : Nat} (d : Int) (hf : f < n) : mRow n d ⟨begL n, List.replicate n 0⟩ f = List.replicate n ⟨false, false, 0⟩ := by
 refine List.ext_getElem (by simp [mRow]) fun i h1 h2 => ?_
 simp only [mRow, List.getElem_map, List.getElem_range, List.getElem_replicate, mAt]
 rw [if_neg]
 rintro ⟨_, h⟩
 exact h (by rw [begL_get hf]; rfl)
structure SimK (w0 w : World) (sp n : Nat) (d : Int) (tv rv lv mv : Value) (l : List Mk) (vc vh : Nat → Value) (vr : Nat → Nat → Value) (vm : Nat → Value) (k : Nat) : Prop where
 ext : Ext w0 w
 own : w0.heap.size ≤ sp
 box : w.heap[sp]? = some (.cells #[tv, rv, lv, mv, .int .i64 d] 88)
 mks : OwnM w w0.heap.size lv n n l vc vh vr
 mrow : Row w w0.heap.size 89 1 mv k ((List.range k).map vm)
 mr : ∀ f, f < k → Row w w0.heap.size 123 3 (vm f) n (mrCells (List.replicate n ⟨false, false, 0⟩))
 md : ∀ f q, f < k → q < k → f ≠ q → Dis (vm f) (vm q)
theorem SimK.all {w0 w : World} {sp n g o cap mg mo mcap : Nat} {d : Int} {tv rv : Value} {vc vh : Nat → Value} {vr : Nat → Nat → Value} {vm : Nat → Value}
  (h : SimK w0 w sp n d tv rv (.slice (some ⟨g, o, none⟩) n cap) (.slice (some ⟨mg, mo, none⟩) n mcap) (begL n) vc vh vr vm n) :
  SimAt w0 w ⟨sp, g, o, cap, mg, mo, mcap, n, d, tv, rv, vc, vh, vm⟩ (begL n) (mOf n d ⟨begL n, List.replicate n 0⟩) vr := by
 refine ⟨h.ext, h.own, h.box, h.mks, begL_len n, mOf_len _ _ _, h.mrow, fun f hf => ?_, h.md⟩
 rw [mOf_at hf, mRow_begin d hf]
 exact ⟨by simp, h.mr f hf⟩
theorem SimK.zero {w0 wd w7 : World} {n : Nat} {d : Int} {tv rv lv : Value} {vc vh : Nat → Value} {vr : Nat → Nat → Value} (h0 : Ext w0 wd) (hX : Ext wd w7) (hO : OwnM w7 wd.heap.size lv n n (begL n) vc vh vr) :
  SimK w0 (w7.alloc (.cells #[tv, rv, lv, .slice none 0 0, .int .i64 d] 88)) w7.heap.size n d tv rv lv (.slice none 0 0) (begL n) vc vh vr (fun _ => .slice none 0 0) 0 :=
 ⟨(h0.trans' hX).al _, (h0.trans' hX).sz, heap_alloc_new w7 _, (hO.ext ((Ext.rf w7).al _)).mono h0.sz, Row.mkNil _ _ _ _, fun f hf => absurd hf (Nat.not_lt_zero _), fun f q hf => absurd hf (Nat.not_lt_zero _)⟩
theorem SimK.more {w0 w wa w8 : World} {sp n B : Nat} {d : Int} {tv rv lv mv v8 : Value} {l : List Mk} {vc vh : Nat → Value} {vr : Nat → Nat → Value} {vm : Nat → Value} {k : Nat}
  (h : SimK w0 w sp n d tv rv lv mv l vc vh vr vm k) (hx : Ext w wa) (hr : Row wa w.heap.size 123 3 (.slice (some ⟨B, 0, none⟩) n n) n (mrCells (List.replicate n ⟨false, false, 0⟩)))
  (hg : wa.grownBy w8 mv.ownBlock) (ho : Row w8 w0.heap.size 89 1 v8 (k + 1) ((List.range k).map vm ++ [.slice (some ⟨B, 0, none⟩) n n])) :
  SimK w0 (w8.setCell ⟨sp, 3, none⟩ v8) sp n d tv rv lv v8 l vc vh vr (putF vm k (.slice (some ⟨B, 0, none⟩) n n)) (k + 1) := by
 have hm := h.mrow.ext hx
 have hbx := hx.hp h.box
 have hb8 := grown_heap hm hg hbx (by decide)
 have hbx8 := hb8.trans hbx
 have hvm : (List.range (k + 1)).map (putF vm k (.slice (some ⟨B, 0, none⟩) n n)) = (List.range k).map vm ++ [.slice (some ⟨B, 0, none⟩) n n] := by
  rw [List.range_succ, List.map_append]
  congr 1
  ·exact List.map_congr_left fun i hi => putF_ne (by have := List.mem_range.1 hi; omega)
  ·simp only [List.map_cons, List.map_nil, putF_same]
 refine ⟨((h.ext.trans' hx).gr hg (fun z hz => (hm.lt z hz).1)).st (p := ⟨sp, 3, none⟩) h.own v8, h.own, ?_, ?_, ?_, fun f hf => ?_, fun f q hf hq hne => ?_⟩
 ·rw [heap_setCell_same hbx8]; rfl
 ·exact ((h.mks.ext hx).grownO hm (by decide) (by decide) (by decide) (by decide) hg).stO hbx8 (by decide) (by decide) (by decide) (by decide) v8
 ·rw [hvm]; exact ho.stO hbx8 (by decide) v8
 ·by_cases e : f = k
  ·subst e
   rw [putF_same]
   exact ((hr.grown hg (hr.apart hm (by decide))).stO hbx8 (by decide) v8).mono h.ext.sz
  ·rw [putF_ne e]
   have h1 := (h.mr f (by omega)).ext hx
   exact (h1.grown hg (h1.apart hm (by decide))).stO hbx8 (by decide) v8
 ·by_cases e : f = k
  ·subst e
   rw [putF_same, putF_ne (fun e => hne e.symm)]
   exact (dis_new (h.mr q (by omega)) hr (Nat.le_refl _)).symm
  ·by_cases e2 : q = k
   ·subst e2
    rw [putF_same, putF_ne e]
    exact dis_new (h.mr f (by omega)) hr (Nat.le_refl _)
   ·rw [putF_ne e, putF_ne e2]
    exact h.md f q (by omega) (by omega) hne
theorem mrZ_cells (n : Nat) : (madeCells (Value.agg #[.bool false, .bool false, .int .i64 0]).cells (n * 3)).toList = mrCells (List.replicate n ⟨false, false, 0⟩) := by
 rw [made_list]
 have hc : (Value.agg #[.bool false, .bool false, .int .i64 0]).cells = #[.bool false, .bool false, .int .i64 0] := by simp [Value.cells]
 rw [hc]
 apply List.ext_getElem?
 intro j
 by_cases hj : j < n * 3
 ·have e : j = j / 3 * 3 + j % 3 := by omega
  rw [List.getElem?_map, List.getElem?_range hj]
  conv => rhs; rw [e]
  rw [mrCells_get (by rw [List.length_replicate]; omega) (by omega), getElem!_pos (List.replicate n (⟨false, false, 0⟩ : Mr)) _ (by rw [List.length_replicate]; omega), List.getElem_replicate]
  have h3 : j % 3 = 0 ∨ j % 3 = 1 ∨ j % 3 = 2 := by omega
  rcases h3 with h | h | h <;> simp [h, mrC]
 ·rw [List.getElem?_eq_none (by simp; omega), List.getElem?_eq_none (by rw [mrCells_len, List.length_replicate]; omega)]
theorem row_made3 {W : World} {b base n : Nat} {z : Array Value} (hz : z = (Value.agg #[.bool false, .bool false, .int .i64 0]).cells) (h : W.heap[b]? = some (.cells (madeCells z (n * 3)) 123)) (hb : base ≤ b) (hn : n ≤ maxLen) : Row W base 123 3 (.slice (some ⟨b, 0, none⟩) n n) n (mrCells (List.replicate n ⟨false, false, 0⟩)) := by
 refine ⟨by rw [mrCells_len, List.length_replicate], .inr ⟨b, 0, n, _, rfl, hb, h, Nat.le_refl _, hn, by rw [size_madeCells]; omega, ?_⟩⟩
 rw [hz, mrZ_cells, List.drop_zero, List.take_of_length_le (by rw [mrCells_len, List.length_replicate]; omega)]
theorem OwnM.sl2 {w : World} {base n k : Nat} {v : Value} {l : List Mk} {vc vh : Nat → Value} {vr : Nat → Nat → Value} (h : OwnM w base v n k l vc vh vr) (hk : l.length = k) : Sl RMk 3 w v l := by
 subst hk; exact h.sl
theorem slNil {α : Type} [Inhabited α] {R : World → List Value → α → Prop} {k : Nat} {w : World} : Sl R k w (.slice none 0 0) [] := ⟨none, 0, rfl, Nat.le_refl _, fun h => absurd rfl h⟩
end Go.Proofs.Ytfagfooggcinoaa
namespace Go.Proofs.Ytfagfooggcinoaa
open Go.RowKit
set_option linter.unusedVariables false
def fif1 (t : Tr) (p q j : Nat) (s : Int × Bool) : Option (Int × Bool) :=
 if (ev t (p, j)).kind = 2 ∧ (ev t (p, j)).peer = (q : Int) then
  (if eidB (findE t 3 (ev t (p, j)).msg) = 0 then some (s.1, true) else if s.2 = true ∨ eidB (findE t 3 (ev t (p, j)).msg) < s.1 then none else some (eidB (findE t 3 (ev t (p, j)).msg), s.2))
 else some s
def fifS (t : Tr) (p q : Nat) : Nat → Option (Int × Bool)
 | 0 => some (0, false)
 | j + 1 => (fifS t p q j).bind (fif1 t p q j)
def fifoB (t : Tr) : Bool := (List.range t.length).all fun p => (List.range t.length).all fun q => (fifS t p q t[p]!.events.length).isSome
theorem fifS_none {t : Tr} {p q j : Nat} (h : fifS t p q j = none) : ∀ k, j ≤ k → fifS t p q k = none := by
 intro k hk
 induction k with
 | zero => obtain rfl : j = 0 := by omega
           exact h
 | succ k ih =>
   by_cases e : j = k + 1
   ·subst e; exact h
   ·rw [fifS, ih (by omega)]; rfl
theorem fifoB_no {t : Tr} {p q j : Nat} (hp : p < t.length) (hq : q < t.length) (hj : j ≤ t[p]!.events.length) (h : fifS t p q j = none) : fifoB t = false := by
 unfold fifoB
 rw [List.all_eq_false]
 refine ⟨p, List.mem_range.2 hp, ?_⟩
 rw [Bool.not_eq_true, List.all_eq_false]
 exact ⟨q, List.mem_range.2 hq, by rw [fifS_none h _ hj]; simp⟩
theorem fifoB_yes {t : Tr} (h : ∀ p, p < t.length → ∀ q, q < t.length → (fifS t p q t[p]!.events.length).isSome = true) : fifoB t = true := by
 unfold fifoB
 simp only [List.all_eq_true, List.mem_range]
 exact h
theorem fif_skip {t : Tr} {p q j : Nat} {s : Int × Bool} (h : fifS t p q j = some s) (hn : ¬ ((ev t (p, j)).kind = 2 ∧ (ev t (p, j)).peer = (q : Int))) : fifS t p q (j + 1) = some s := by
 rw [fifS, h]; show fif1 t p q j s = _; unfold fif1; rw [if_neg hn]
theorem fif_miss {t : Tr} {p q j : Nat} {s : Int × Bool} (h : fifS t p q j = some s) (hn : (ev t (p, j)).kind = 2 ∧ (ev t (p, j)).peer = (q : Int)) (h0 : eidB (findE t 3 (ev t (p, j)).msg) = 0) : fifS t p q (j + 1) = some (s.1, true) := by
 rw [fifS, h]; show fif1 t p q j s = _; unfold fif1; rw [if_pos hn, if_pos h0]
theorem fif_bad {t : Tr} {p q j : Nat} {s : Int × Bool} (h : fifS t p q j = some s) (hn : (ev t (p, j)).kind = 2 ∧ (ev t (p, j)).peer = (q : Int)) (h0 : eidB (findE t 3 (ev t (p, j)).msg) ≠ 0) (hb : s.2 = true ∨ eidB (findE t 3 (ev t (p, j)).msg) < s.1) : fifS t p q (j + 1) = none := by
 rw [fifS, h]; show fif1 t p q j s = _; unfold fif1; rw [if_pos hn, if_neg h0, if_pos hb]
theorem fif_ok {t : Tr} {p q j : Nat} {s : Int × Bool} (h : fifS t p q j = some s) (hn : (ev t (p, j)).kind = 2 ∧ (ev t (p, j)).peer = (q : Int)) (h0 : eidB (findE t 3 (ev t (p, j)).msg) ≠ 0) (hb : ¬ (s.2 = true ∨ eidB (findE t 3 (ev t (p, j)).msg) < s.1)) : fifS t p q (j + 1) = some (eidB (findE t 3 (ev t (p, j)).msg), s.2) := by
 rw [fifS, h]; show fif1 t p q j s = _; unfold fif1; rw [if_pos hn, if_neg h0, if_neg hb]
set_option maxHeartbeats 8000000 in
set_option maxRecDepth 100000 in
theorem fifoP_calls (v : Value) (t : Tr) (w : World) (h : TrAt w v t) (hs : LooseTr t) : Calls Try.prog 45 #[.agg #[v]] w fun e w' => e = .returned (.bool (validT t && fifoB t)) ∧ Ext w w' := by
 have HT := Lib.hid h
 have HV := Lib.hid (fun W (hW : Ext w W) => validP_calls v t W (h.ext hW) hs)
 obtain ⟨ta, tc, rfl, htc⟩ := h.sh
 have HX1 := Lib.hid ((Ext.rf w).al (.cells #[.slice ta t.length tc] 24))
 have HB1 := Lib.hid (heap_alloc_new w (.cells #[.slice ta t.length tc] 24))
 have hn1 := hs.1
 cases hv : validT t with
 | false =>
   rw [hv] at HV
   have t0 := cellOf HB1.out 0
   simp only [List.getElem?_toArray, List.getElem?_cons_zero] at t0
   clear h hs hv htc hn1
   generalize t.length = N at *
   go_enter Try.func45, Try.ntmps45
   go_wp2_with fail
   refine (HV.out _ HX1.out).mono ?_
   rintro e w2 ⟨rfl, hX2⟩
   go_wp2
   go_ret
   exact ⟨rfl, HX1.out.trans' hX2⟩
 | true =>
   rw [hv] at HV
   have hsm := valid_small hv
   have HVV := Lib.hid hv
   have hvp := validT_parts2.1 hv
   have HF : Hid (∀ x, Inn t x → formedB t.length x.1 (ev t x) = true) := Lib.hid (fun x hx => (eventB_parts.1 ((shapeB_parts2.1 hvp.1).2.2.2 x.1 hx.1 x.2 hx.2)).1)
   have HM := Lib.hid (fun W (hW : Ext w W) => messageP_calls (.slice ta t.length tc) t W (HT.out.ext hW) hsm HF.out)
   have HPB := Lib.hid hvp.2.1
   have HFN := Lib.hid (fun p q j hp hq hj h => fifoB_no (t := t) (p := p) (q := q) (j := j) hp hq hj h)
   have HFY := Lib.hid (fun h => fifoB_yes (t := t) h)
   have HLEN := Lib.hid (fun p (hp : p < t.length) => (hsm.2 p hp).2.1)
   have HS8 := Lib.hid hsm
   generalize fifoB t = ans at *
   generalize hN : t.length = N at *
   have HN := Lib.hid hN
   have t0 := cellOf HB1.out 0
   simp only [List.getElem?_toArray, List.getElem?_cons_zero] at t0
   clear h hs hv htc hsm hvp hN
   go_enter Try.func45, Try.ntmps45
   go_wp2_with fail
   refine (HV.out _ HX1.out).mono ?_
   rintro e w2 ⟨rfl, hX2⟩
   have HX2 := Lib.hid (HX1.out.trans' hX2)
   have HB2 := Lib.hid (hX2.hp HB1.out)
   have t2 := cellOf HB2.out 0
   simp only [List.getElem?_toArray, List.getElem?_cons_zero] at t2
   have hlw : w.heap.size < w2.heap.size := by have := hX2.sz; simp at this; omega
   clear t0 hX2
   go_wp2_with fail
   refine (HM.out _ HX2.out).mono ?_
   rintro e w3 ⟨pv, a, b, E, rfl, hE, hX3, hL⟩
   obtain ⟨LB, hpv, hlt⟩ := hL (hE.2 HPB.out)
   obtain rfl := hE.2 HPB.out
   subst hpv
   have HX3 := Lib.hid (HX2.out.trans' hX3)
   have HB3 := Lib.hid (hX3.hp HB2.out)
   have HLT := Lib.hid hlt
   have t3 := cellOf HB3.out 0
   simp only [List.getElem?_toArray, List.getElem?_cons_zero] at t3
   clear t2 hE hX3 hL hlt
   have HXD := Lib.hid ((Ext.rf w3).al (idO a b))
   have l1 : w.heap.size < w3.heap.size := World.block_lt_of_cell? w3 _ t3
   have l2 : w.heap.size ≠ w3.heap.size := by omega
   have HXW : Hid (Ext w (w3.alloc (idO a b))) := Lib.hid (HX3.out.trans' HXD.out)
   have t4 := HXD.out.cl t3
   have HLT4 := Lib.hid (HLT.out.ext HXD.out)
   have HB4 := Lib.hid (HXD.out.hp HB3.out)
   go_upto_region 4 with (fail)
   generalize w3.alloc (idO a b) = w4 at *
   clear t3
   go_wp2
   clear t4
   go_loopg [6, 25] N (fun g _ s25 wr => ∃ p : Nat, p ≤ N ∧ N - p ≤ g ∧ s25 = .int .i64 p ∧ Aside (∀ x, x < p → ∀ y, y < N → (fifS t x y t[x]!.events.length).isSome = true) ∧ Aside (Ext w4 wr))
   case atStart => exact ⟨0, Nat.zero_le _, by omega, rfl, (show Aside _ from fun x hx => absurd hx (Nat.not_lt_zero _)), Ext.rf _⟩
   case round =>
    obtain ⟨p, hp, hgp, rfl, HA, HX⟩ := hrel
    by_cases hpn : p < N
    case neg =>
     have hpz : ¬ (p : Int) < (N : Int) := by omega
     have HQ := Lib.hid (HFY.out (fun x hx y hy => HA.out x (by omega) y hy))
     go_wp2
     go_ret
     exact ⟨by rw [HQ.out]; rfl, HXW.out.trans' HX.out⟩
    case pos =>
     have hpz : (p : Int) < (N : Int) := by omega
     have hpz0 : (0 : Int) ≤ (p : Int) := by omega
     have t5 := cellOf (HX.out.hp HB4.out) 0
     simp only [List.getElem?_toArray, List.getElem?_cons_zero] at t5
     obtain ⟨B, O, C, vv, ve, hve, hlC, hB, hn0, hv0, he0, hV, hE0⟩ := proc_at HT.out p (by rw [HN.out]; exact hpn)
     simp only [Value.slice.injEq] at hve
     obtain ⟨rfl, hzz, rfl⟩ := hve
     have HEV := Lib.hid hE0
     obtain ⟨ea, ec, rfl, hec⟩ := hE0.sh
     have hen := HLEN.out p hpn
     have HPE := Lib.hid he0
     generalize hne : t[p]!.events.length = ne at *
     have HNE := Lib.hid hne
     clear hn0 hv0 hV hE0 hne hzz he0
     go_wp2
     clear t5
     obtain ⟨wp, rfl⟩ : ∃ z, z = wr := ⟨_, rfl⟩
     go_loopg [7, 31] N (fun g _ s31 wr => ∃ q : Nat, q ≤ N ∧ N - q ≤ g ∧ s31 = .int .i64 q ∧ Aside (∀ y, y < q → (fifS t p y ne).isSome = true) ∧ Aside (Ext w4 wr))
     case atStart => exact ⟨0, Nat.zero_le _, by omega, rfl, (show Aside _ from fun x hx => absurd hx (Nat.not_lt_zero _)), HX.out⟩
     case round =>
      obtain ⟨q, hq, hgq, rfl, HC, HXQ⟩ := hrel
      clear HX
      by_cases hqn : q < N
      case neg =>
       have hqz : ¬ (q : Int) < (N : Int) := by omega
       have HA2 : Hid (∀ x, x < p + 1 → ∀ y, y < N → (fifS t x y t[x]!.events.length).isSome = true) := Lib.hid (fun x hx y hy => by
        by_cases e : x = p
        ·subst e; rw [HNE.out]; exact HC.out y (by omega)
        ·exact HA.out x (by omega) y hy)
       go_wp2
       go_roundg (N - (p + 1))
       case measure => omega
       case rel => exact ⟨p + 1, by omega, by omega, by go_num, (show Aside _ from HA2.out), (show Ext _ _ from HXQ.out)⟩
      case pos =>
       have hqz : (q : Int) < (N : Int) := by omega
       have hqz0 : (0 : Int) ≤ (q : Int) := by omega
       have t5 := cellOf (HXQ.out.hp HB4.out) 0
       simp only [List.getElem?_toArray, List.getElem?_cons_zero] at t5
       have he5 := (HXW.out.trans' HXQ.out).cl HPE.out
       go_wp2
       clear t5 he5
       obtain ⟨wq, rfl⟩ : ∃ z, z = wr := ⟨_, rfl⟩
       go_loopg [8, 9, 41] ne (fun g s8 s9 s41 wr => ∃ (j : Nat) (last : Int) (miss : Bool), j ≤ ne ∧ ne - j ≤ g ∧ s8 = .int .i64 last ∧ s9 = .bool miss ∧ s41 = .int .i64 j ∧ Aside (fifS t p q j = some (last, miss)) ∧ Aside (Ext w4 wr))
       case atStart => exact ⟨0, 0, false, Nat.zero_le _, by omega, rfl, rfl, rfl, (show Aside _ from rfl), HXQ.out⟩
       case round =>
        obtain ⟨j, last, miss, hj, hgj, rfl, rfl, rfl, HS, HXJ⟩ := hrel
        clear HXQ
        by_cases hjn : j < ne
        case neg =>
         have hjz : ¬ (j : Int) < (ne : Int) := by omega
         have HJE := Lib.hid (show j = ne by omega)
         have HC2 : Hid (∀ y, y < q + 1 → (fifS t p y ne).isSome = true) := Lib.hid (fun y hy => by
          by_cases e : y = q
          ·subst e; rw [← HJE.out, HS.out]; rfl
          ·exact HC.out y (by omega))
         go_wp2
         go_roundg (N - (q + 1))
         case measure => omega
         case rel => exact ⟨q + 1, by omega, by omega, by go_num, (show Aside _ from HC2.out), (show Ext _ _ from HXJ.out)⟩
        case pos =>
         have hjz : (j : Int) < (ne : Int) := by omega
         have hjz0 : (0 : Int) ≤ (j : Int) := by omega
         obtain ⟨EB, EO, EC, va, hee, hlE, hEB, k0, k1, k2, k3, k4, ha⟩ := event_at HEV.out j (by rw [HNE.out]; omega)
         simp only [Value.slice.injEq] at hee
         obtain ⟨rfl, hzz, rfl⟩ := hee
         obtain ⟨va1, va2, rfl, _⟩ := ha.sh
         have HXV := Lib.hid (HXW.out.trans' HXJ.out)
         have m0 := HXV.out.cl k0
         have m1 := HXV.out.cl k1
         have m2 := HXV.out.cl k2
         have m3 := HXV.out.cl k3
         have m4 := HXV.out.cl k4
         have HFJ := Lib.hid (HF.out (p, j) ⟨by rw [HN.out]; exact hpn, by rw [HNE.out]; exact hjn⟩)
         have HFA := Lib.hid (fif_skip HS.out)
         have HFB := Lib.hid (fif_miss HS.out)
         have HFC := Lib.hid (fif_bad HS.out)
         have HFD := Lib.hid (fif_ok HS.out)
         rw [show ev t (p, j) = t[p]!.events[j]! from rfl] at HFJ HFA HFB HFC HFD
         generalize t[p]!.events[j]! = y at *
         generalize y.asg.length = nb at *
         clear k0 k1 k2 k3 k4 hzz ha
         have HB6 := Lib.hid (heap_alloc_new wr (e5 (.int .i64 y.kind) (.int .i64 y.peer) (.int .i64 y.msg) (.int .i64 y.time) (.slice va1 nb va2)))
         have HXT := Lib.hid (HXJ.out.al (e5 (.int .i64 y.kind) (.int .i64 y.peer) (.int .i64 y.msg) (.int .i64 y.time) (.slice va1 nb va2)))
         by_cases hck : y.kind = 2
         case neg =>
          have ck : (y.kind != 2) = true := by rw [bne_iff_ne]; exact hck
          have HN2 := Lib.hid (HFA.out (fun h => hck h.1))
          clear hck
          go_wp2
          go_roundg (ne - (j + 1))
          case measure => omega
          case rel => exact ⟨j + 1, last, miss, by omega, by omega, rfl, rfl, by go_num, (show Aside _ from HN2.out), (show Ext _ _ from HXT.out)⟩
         case pos =>
          have ck : (y.kind != 2) = false := by rw [bne_eq_false_iff_eq]; exact hck
          by_cases hcp : y.peer = (q : Int)
          case neg =>
           have cp : (y.peer != (q : Int)) = true := by rw [bne_iff_ne]; exact hcp
           have HN2 := Lib.hid (HFA.out (fun h => hcp h.2))
           clear hck hcp
           go_wp2
           go_roundg (ne - (j + 1))
           case measure => omega
           case rel => exact ⟨j + 1, last, miss, by omega, by omega, rfl, rfl, by go_num, (show Aside _ from HN2.out), (show Ext _ _ from HXT.out)⟩
          case pos =>
           have cp : (y.peer != (q : Int)) = false := by rw [bne_eq_false_iff_eq]; exact hcp
           have hmr : 0 ≤ y.msg ∧ y.msg ≤ 199 := by
            have h := HFJ.out
            unfold formedB at h
            rw [if_neg (by omega)] at h
            simp only [Bool.and_eq_true, decide_eq_true_eq] at h
            exact ⟨h.2.2.2.2.1, h.2.2.2.2.2⟩
           obtain ⟨m, hm⟩ : ∃ m : Nat, y.msg = (m : Int) := ⟨y.msg.toNat, by omega⟩
           rw [hm] at HFB HFC HFD hmr m2 HB6 HXT
           obtain ⟨cs, hcs, hla⟩ := HLT4.out.ext HXJ.out
           have l0 : wr.cell? ⟨LB, m * 4 + 2 + 1, none⟩ = some (.int .i64 (eidB (findE t 3 (m : Int)))) := by
            have h := (hla.2 m (by omega)).2.2.2
            simp only [World.cell?, hcs]
            exact h
           have hLBw : LB < wr.heap.size := World.block_lt_of_cell? wr _ l0
           have hLBn : LB ≠ wr.heap.size := by omega
           have hmz : (m : Int) < 200 := by omega
           have hmz0 : (0 : Int) ≤ (m : Int) := by omega
           have HBB := Lib.hid (HFB.out ⟨hck, hcp⟩)
           have HBC := Lib.hid (HFC.out ⟨hck, hcp⟩)
           have HBD := Lib.hid (HFD.out ⟨hck, hcp⟩)
           generalize eidB (findE t 3 (m : Int)) = z at *
           clear hck hcp hmr hm hcs hla
           have HXL := Lib.hid ((Ext.rf wr).al (e5 (.int .i64 y.kind) (.int .i64 y.peer) (.int .i64 m) (.int .i64 y.time) (.slice va1 nb va2)))
           have l7 := HXL.out.cl l0
           have y2 := cellOf HB6.out 2
           simp only [List.getElem?_toArray, List.getElem?_cons_zero, List.getElem?_cons_succ] at y2
           go_upto_region 15 with (fail)
           generalize wr.alloc (e5 (.int .i64 y.kind) (.int .i64 y.peer) (.int .i64 m) (.int .i64 y.time) (.slice va1 nb va2)) = w6 at *
           clear m0 m1 m2 m3 m4 l0
           go_quiet (fail)
           have HXT := Lib.hid (HXT.out.drN nq)
           generalize w6.drewN nq = w7 at *
           clear y2 l7
           by_cases hz : z = 0
           case pos =>
            have z1 : (z == 0) = true := by rw [beq_iff_eq]; exact hz
            have HN2 := Lib.hid (HBB.out hz)
            clear hz
            go_wp2
            go_roundg (ne - (j + 1))
            case measure => omega
            case rel => exact ⟨j + 1, last, true, by omega, by omega, rfl, rfl, by go_num, (show Aside _ from HN2.out), (show Ext _ _ from HXT.out)⟩
           case neg =>
            have z1 : (z == 0) = false := by rw [beq_eq_false_iff_ne]; exact hz
            cases miss with
            | true =>
              have HQ := Lib.hid (HFN.out p q (j + 1) hpn hqn (by rw [HNE.out]; omega) (HBC.out hz (.inl rfl)))
              clear hz
              go_wp2
              go_ret
              exact ⟨by rw [HQ.out]; rfl, HXW.out.trans' HXT.out⟩
            | false =>
              by_cases hzl : z < last
              case pos =>
               have d1 : decide (z < last) = true := decide_eq_true hzl
               have HQ := Lib.hid (HFN.out p q (j + 1) hpn hqn (by rw [HNE.out]; omega) (HBC.out hz (.inr hzl)))
               clear hz hzl
               go_wp2
               go_ret
               exact ⟨by rw [HQ.out]; rfl, HXW.out.trans' HXT.out⟩
              case neg =>
               have d1 : decide (z < last) = false := decide_eq_false hzl
               have HN2 := Lib.hid (HBD.out hz (by simp; omega))
               clear hz hzl
               go_wp2
               go_roundg (ne - (j + 1))
               case measure => omega
               case rel => exact ⟨j + 1, z, false, by omega, by omega, rfl, rfl, by go_num, (show Aside _ from HN2.out), (show Ext _ _ from HXT.out)⟩
end Go.Proofs.Ytfagfooggcinoaa
namespace Go.Proofs.Ytfagfooggcinoaa
open Go.RowKit
set_option linter.unusedVariables false
theorem shape_peers {t : Tr} (hv : validT t = true) {x : Eid} (hx : Inn t x) (hk : (ev t x).kind ≠ 1) : 0 ≤ (ev t x).peer ∧ (ev t x).peer < t.length ∧ (ev t x).peer ≠ x.1 ∧ 0 ≤ (ev t x).msg ∧ (ev t x).msg ≤ 199 := by
 have hf := (eventB_parts.1 ((shapeB_parts2.1 (validT_parts2.1 hv).1).2.2.2 x.1 hx.1 x.2 hx.2)).1
 have hf : formedB t.length x.1 (ev t x) = true := hf
 unfold formedB at hf
 rw [if_neg hk] at hf
 simp only [Bool.and_eq_true, decide_eq_true_eq] at hf
 exact ⟨hf.2.1, hf.2.2.1, hf.2.2.2.1, hf.2.2.2.2.1, hf.2.2.2.2.2⟩
theorem send_peer {t : Tr} (hv : validT t = true) {x : Eid} (hx : Inn t x) (hk : (ev t x).kind = 3) : ∃ s, findE t 2 (ev t x).msg = some s ∧ (ev t x).peer = (s.1 : Int) ∧ (ev t s).peer = (x.1 : Int) ∧ Inn t s ∧ s.1 ≠ x.1 := by
 obtain ⟨h1, h2, _⟩ := validT_parts2.1 hv
 have hp := shape_peers hv hx (by rw [hk]; decide)
 have hs := (pairB_at h2 hx (by rw [hk]; decide)).2 hk
 unfold sendsB at hs
 rw [List.any_eq_true] at hs
 obtain ⟨s, hs1, hs2⟩ := hs
 obtain ⟨j, hj, rfl⟩ := List.getElem_of_mem hs1
 simp only [Bool.and_eq_true, decide_eq_true_eq] at hs2
 have he : ev t ((ev t x).peer.toNat, j) = t[(ev t x).peer.toNat]!.events[j] := by unfold ev; simp only; rw [getElem!_pos _ j hj]
 have hin : Inn t ((ev t x).peer.toNat, j) := ⟨by simp only; omega, hj⟩
 have hpa := (pairB_at h2 hin (by rw [he, hs2.1]; decide)).1
 rw [he, hs2.1, hs2.2.1] at hpa
 exact ⟨_, hpa, by simp only; omega, by rw [he]; exact hs2.2.2, hin, by simp only; omega⟩
theorem send_first {t : Tr} (hv : validT t = true) {m : Int} {s : Eid} (hs : findE t 2 m = some s) : firstAt (fun e : Ev => decide (e.kind = 2) && decide (e.msg = m)) t[s.1]!.events = (s.2 : Int) := by
 obtain ⟨h1, h2, _⟩ := validT_parts2.1 hv
 obtain ⟨hi, hk, hm⟩ := findE_some hs
 refine firstAt_hit _ _ s.2 hi.2 ?_ (fun j hj => ?_)
 ·show (decide ((ev t s).kind = 2) && decide ((ev t s).msg = m)) = true
  rw [hk, hm]; simp
 ·have hin : Inn t (s.1, j) := ⟨hi.1, by have := hi.2; simp only; omega⟩
  show (decide ((ev t (s.1, j)).kind = 2) && decide ((ev t (s.1, j)).msg = m)) = false
  by_cases a : (ev t (s.1, j)).kind = 2
  ·by_cases c : (ev t (s.1, j)).msg = m
   ·have hpa := (pairB_at h2 hin (by rw [a]; decide)).1
    rw [a, c, hs] at hpa
    have e : s = (s.1, j) := Option.some.inj hpa
    have : s.2 = j := by rw [e]
    omega
   ·simp [c]
  ·simp [a]
theorem enters_116 : ∀ args w, (callFunc 116 args).run Try.prog w = .ok (.enter 116 args) w := enters_of Try.func116 (by kernel_rfl) rfl
set_option maxHeartbeats 1000000 in
theorem sender1_calls (vs : List Value) (x : Ev) (b1 : Nat) (m : Int) (w : World) (hx : REv w vs x) (hc1 : w.cell? ⟨b1, 2, none⟩ = some (.int .i64 m)) :
  Calls Try.prog 116 #[.agg vs.toArray, .pointer (some ⟨b1, 0, none⟩)] w fun e w' => e = .returned (.bool (decide (x.kind = 2) && decide (x.msg = m))) ∧ Ext w w' := by
 obtain ⟨va, rfl, ha⟩ := hx
 obtain ⟨ua, uc, rfl, huc⟩ := ha.sh
 have hbl1 := World.block_lt_of_cell? w _ hc1
 have hbn1 : b1 ≠ w.heap.size := Nat.ne_of_lt hbl1
 generalize x.asg.length = na at *
 clear ha
 have hx0 := cell_new w #[.int .i64 x.kind, .int .i64 x.peer, .int .i64 x.msg, .int .i64 x.time, .slice ua na uc] 56 0 _ rfl
 have hx2 := cell_new w #[.int .i64 x.kind, .int .i64 x.peer, .int .i64 x.msg, .int .i64 x.time, .slice ua na uc] 56 2 _ rfl
 obtain ⟨c1, hd1⟩ : ∃ b, (x.kind == 2) = b := ⟨_, rfl⟩
 obtain ⟨c2, hd2⟩ : ∃ b, (x.msg == m) = b := ⟨_, rfl⟩
 have HR : Hid ((decide (x.kind = 2) && decide (x.msg = m)) = (c1 && c2)) := Lib.hid (by rw [← hd1, ← hd2]; rfl)
 rw [HR.out]
 cases c1 <;> cases c2
 all_goals
  go_enter Try.func116, Try.ntmps116
  go_wp2
  go_ret
  exact ⟨rfl, (by repeat (first | refine Ext.st ?_ (by first | exact Nat.le_refl _ | exact Nat.le_succ _ | assumption | omega) _ | refine Ext.al ?_ _ | refine Ext.dr ?_ | refine Ext.drN ?_ _ | exact Ext.rf _))⟩
set_option maxHeartbeats 4000000 in
set_option maxRecDepth 100000 in
theorem sender_calls (v : Value) (t : Tr) (kd tm m : Int) (va : Value) (w : World) (h : TrAt w v t) (hv : validT t = true) (s : Eid) (hs : findE t 2 m = some s) (hva : ∃ a n c, va = .slice a n c) :
  Calls Try.prog 95 #[.agg #[v], .agg #[.int .i64 kd, .int .i64 s.1, .int .i64 m, .int .i64 tm, va]] w fun e w' => e = .returned (.tuple #[.agg #[.int .i64 s.1, .int .i64 ((s.2 : Int) + 1)], .bool true]) ∧ Ext w w' := by
 obtain ⟨hi, hk, hm⟩ := findE_some hs
 have hsm := valid_small hv
 have hsf := send_first hv hs
 obtain ⟨p, i⟩ := s
 simp only at hi hsf ⊢
 obtain ⟨B, O, C, vv, ve, rfl, hlC, hB, hn0, hv0, he0, hV, hE0⟩ := proc_at h p hi.1
 have hn := hsm.1
 have hen := (hsm.2 p hi.1).2.1
 have hil := hi.2
 have hpn := hi.1
 simp only at hil hpn
 have HA := Lib.hid hE0
 obtain ⟨ea, ec, rfl, hec⟩ := hE0.sh
 obtain ⟨va1, va2, va3, rfl⟩ := hva
 have HX0 := Lib.hid (((Ext.rf _).al (e5 (.int .i64 kd) (.int .i64 p) (.int .i64 m) (.int .i64 tm) (.slice va1 va2 va3))).hp (heap_alloc_new w (.cells #[.slice (some ⟨B, O, none⟩) t.length C] 24)))
 have HX1 := Lib.hid (heap_new_eq (w := w.alloc (.cells #[.slice (some ⟨B, O, none⟩) t.length C] 24)) (o := e5 (.int .i64 kd) (.int .i64 p) (.int .i64 m) (.int .i64 tm) (.slice va1 va2 va3)) (b := w.heap.size + 1) (by simp))
 have HE2 : Hid (Ext w ((w.alloc (.cells #[.slice (some ⟨B, O, none⟩) t.length C] 24)).alloc (e5 (.int .i64 kd) (.int .i64 p) (.int .i64 m) (.int .i64 tm) (.slice va1 va2 va3)))) := Lib.hid (((Ext.rf w).al _).al _)
 have hsz2 : ((w.alloc (.cells #[.slice (some ⟨B, O, none⟩) t.length C] 24)).alloc (e5 (.int .i64 kd) (.int .i64 p) (.int .i64 m) (.int .i64 tm) (.slice va1 va2 va3))).heap.size = w.heap.size + 2 := by simp
 have HIF := Lib.hid (fun W (hW : Ext w W) (hc : W.cell? ⟨w.heap.size + 1, 2, none⟩ = some (.int .i64 m)) =>
  indexFunc_evs REv rev_lasts 116 #[.pointer (some ⟨w.heap.size + 1, 0, none⟩)] enters_116 (fun e => decide (e.kind = 2) && decide (e.msg = m)) _ t[p]!.events W (HA.out.ext rev_lasts hW) hen
   (fun y hy W2 vs hW2 hR => sender1_calls vs y _ m W2 hR (hW2.cl hc)))
 rw [hsf] at HIF
 have HP := Lib.hid he0
 have hpz : (0 : Int) ≤ (p : Int) := by omega
 have hpi : (p : Int) < (t.length : Int) := by omega
 generalize t.length = n at *
 generalize t[p]!.events.length = ne at *
 clear h hs hv hn0 hv0 he0 hV hE0 hi hsm hsf
 go_enter Try.func95, Try.ntmps95
 go_upto_region 1 with (fail)
 generalize hw2 : (w.alloc (.cells #[.slice (some ⟨B, O, none⟩) n C] 24)).alloc (e5 (.int .i64 kd) (.int .i64 p) (.int .i64 m) (.int .i64 tm) (.slice va1 va2 va3)) = w2 at *
 clear hw2
 have HX2 := Lib.hid (heap_alloc_new w2 (idO 0 0))
 have HE3 := Lib.hid (HE2.out.al (idO 0 0))
 have HXT := Lib.hid (((Ext.rf w2).al (idO 0 0)).hp HX0.out)
 have HXE := Lib.hid (((Ext.rf w2).al (idO 0 0)).hp HX1.out)
 have he1 := HE3.out.cl HP.out
 have t0 := cellOf HXT.out 0
 have y1 := cellOf HXE.out 1
 have y2 := cellOf HXE.out 2
 simp only [List.getElem?_toArray, List.getElem?_cons_zero, List.getElem?_cons_succ] at t0 y1 y2
 generalize hw3 : w2.alloc (idO 0 0) = w3 at *
 clear hw3
 have HI := Lib.hid (HIF.out _ HE3.out y2)
 rw [hsz2] at HX2
 clear hsz2
 go_wp2_with fail
 refine HI.out.mono ?_
 rintro e w4 ⟨rfl, hE4⟩
 have HE4 := Lib.hid (HE3.out.trans' hE4)
 have HZ1 := Lib.hid (hE4.hp HX2.out)
 have z1 := hE4.cl y1
 have q0 := cellOf HZ1.out 0
 have q1 := cellOf HZ1.out 1
 have g0 := freeOf HZ1.out 0
 have g1 := freeOf HZ1.out 1
 simp only [List.getElem?_toArray, List.getElem?_cons_zero, List.getElem?_cons_succ] at q0 q1
 have hw : IntKind.i64.wrap ((i : Int) + 1) = (i : Int) + 1 := IntWalk.i64_in _ (by omega)
 have hge : (0 : Int) ≤ (i : Int) := by omega
 clear t0 y1 y2 he1 hE4
 go_wp2
 clear q0 q1 g0 g1
 have r0 := cellOf (id_set HZ1.out (.int .i64 (p : Int)) (.int .i64 ((i : Int) + 1))) 0
 have r1 := cellOf (id_set HZ1.out (.int .i64 (p : Int)) (.int .i64 ((i : Int) + 1))) 1
 simp only [List.getElem?_toArray, List.getElem?_cons_zero, List.getElem?_cons_succ] at r0 r1
 refine bodyPost_ret (v := .tuple #[.agg #[.int .i64 (p : Int), .int .i64 ((i : Int) + 1)], .bool true]) (by simp [results, Try.results95, go_sem, r0, r1]) rfl ?_
 exact ⟨rfl, id_ext HE4.out (by omega) _ _⟩
end Go.Proofs.Ytfagfooggcinoaa
