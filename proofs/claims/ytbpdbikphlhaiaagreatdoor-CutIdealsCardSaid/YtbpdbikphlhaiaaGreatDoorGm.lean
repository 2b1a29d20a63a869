import Derived.Test.YtbpdbikphlhaiaaGreatDoorGa
import Derived.Test.YtbpdbikphlhaiaaGreatDoorProg
import Derived.Test.YtbpdbikphlhaiaaGreatDoorGj
import Derived.Test.YtbpdbikphlhaiaaGreatDoorGl
import Derived.BigQuiet
import Derived.Deep.QuietTactic
import Derived.Deep.LoopGhost
import Derived.Shelf.Abstract
import Derived.Deep.DeepCutAuto
import Derived.BigRegion
namespace Go.Proofs.YtbpdbikphlhaiaaGreatDoor
open Go.RowKit
set_option linter.unusedVariables false
attribute [local go_sem ↓] Go.wp_at_zero Go.wp_at_succ
structure OrdI (w W : World) (t : Tr) (v : Value) (D b1 b2 : Nat) (ea : Option Addr) (N ec : Nat) : Prop where
 kb : W.heap[D]? = some (.cells #[v, .map (some b1), .map (some b2)] 69)
 em : ∃ m, EvM W b1 m t 2 (ids t)
 es : Row W w.heap.size 39 2 (.slice ea N ec) N ((ids t).flatMap eidC)
 rb : W.heap[w.heap.size + 1]? = some (.cells #[.slice none 0 0] 32)
 x : Ext w W
theorem OrdI.ext {w W W' : World} {t : Tr} {v : Value} {D b1 b2 : Nat} {ea : Option Addr} {N ec : Nat} (h : OrdI w W t v D b1 b2 ea N ec) (x : Ext W W') : OrdI w W' t v D b1 b2 ea N ec := by
 obtain ⟨m, hm⟩ := h.em
 exact ⟨x.hp h.kb, ⟨m, hm.ext x⟩, h.es.ext x, x.hp h.rb, h.x.trans' x⟩
theorem info_intsO : (Tryz.prog.info? 25).map (fun i => (i.zero, i.size, i.bytes)) = some (some (.slice none 0 0), 1, 24) := by kernel_rfl
theorem made_nils (n : Nat) : (madeCells (Value.slice none 0 0).cells (n * 1)).toList = List.replicate n (.slice none 0 0) := by
 rw [show (Value.slice none 0 0).cells = #[.slice none 0 0] from rfl, Nat.mul_one, toList_madeCells_one]
noncomputable def mixJ (t : Tr) (j a : Nat) : Nat → List Nat := fun i => if i < a then laterJ t (j + 1) i else laterJ t j i
theorem mixJ_zero (t : Tr) (j : Nat) : mixJ t j 0 = laterJ t j := funext fun i => if_neg (Nat.not_lt_zero _)
theorem mixJ_all {t : Tr} {j N i : Nat} (h : i < N) : laterJ t (j + 1) i = mixJ t j N i := (if_pos h).symm
theorem mixJ_yes {t : Tr} {j a i : Nat} (h : Hb t (ids t)[a]! (ids t)[j]!) : mixJ t j (a + 1) i = updL (mixJ t j a) a (mixJ t j a a ++ [j]) i := by
 simp only [mixJ, updL]
 by_cases e : i = a
 ·subst e
  rw [if_pos (by omega), if_pos rfl, if_neg (by omega), laterJ_yes h]
 ·rw [if_neg e]
  by_cases h2 : i < a
  ·rw [if_pos (by omega), if_pos h2]
  ·rw [if_neg (by omega), if_neg h2]
theorem mixJ_no {t : Tr} {j a i : Nat} (h : ¬ Hb t (ids t)[a]! (ids t)[j]!) : mixJ t j (a + 1) i = mixJ t j a i := by
 simp only [mixJ]
 by_cases e : i = a
 ·subst e
  rw [if_pos (by omega), if_neg (by omega), laterJ_no h]
 ·by_cases h2 : i < a
  ·rw [if_pos (by omega), if_pos h2]
  ·rw [if_neg (by omega), if_neg h2]
theorem mixJ_at (t : Tr) (j a : Nat) : mixJ t j a a = laterJ t j a := if_neg (by omega)
theorem EvM.ne {w : World} {b m : Nat} {t : Tr} {k : Int} {pre : List Eid} (h : EvM w b m t k pre) {D : Nat} {cs : Array Value} {T : TypeId} {fr : Nat × Nat} (hD : w.heap[D]? = some (.cells cs T fr)) : b ≠ D := by
 rintro rfl
 obtain ⟨_, ⟨es, clock, hb, _⟩, _⟩ := h
 rw [hD] at hb; cases hb
theorem ordI_late {w w3 wk we : World} {t : Tr} {v : Value} {b1 b2 m N ec : Nat} {ea : Option Addr} (hx3 : Ext w w3) (hke : Ext wk we) (h3e : Ext w3 we) (hm : EvM wk b1 m t 2 (ids t)) (hr : Row we w.heap.size 39 2 (.slice ea N ec) N ((ids t).flatMap eidC)) (hrb : w3.heap[w.heap.size + 1]? = some (.cells #[.slice none 0 0] 32)) :
  OrdI w (we.alloc (.cells #[v, .map (some b1), .map (some b2)] 69)) t v we.heap.size b1 b2 ea N ec :=
 ⟨heap_alloc_new _ _, ⟨m, (hm.ext hke).ext ((Ext.rf _).al _)⟩, hr.al _, ((Ext.rf _).al _).hp (h3e.hp hrb), (hx3.trans' h3e).al _⟩
theorem ordI_early {w w3 wk we : World} {t : Tr} {v : Value} {D b1 b2 m N ec : Nat} {ea : Option Addr} (hx3 : Ext w w3) (hke : Ext wk we) (h3e : Ext w3 we) (hm : EvM wk b1 m t 2 (ids t)) (hr : Row we w.heap.size 39 2 (.slice ea N ec) N ((ids t).flatMap eidC)) (hrb : w3.heap[w.heap.size + 1]? = some (.cells #[.slice none 0 0] 32))
  (hD : we.heap[D]? = some (.cells #[.slice none 0 0, .map none, .map none] 69)) (hDge : w3.heap.size ≤ D) :
  OrdI w (((we.setCell ⟨D, 0, none⟩ v).setCell ⟨D, 1, none⟩ (.map (some b1))).setCell ⟨D, 2, none⟩ (.map (some b2))) t v D b1 b2 ea N ec := by
 have h31 : w.heap.size + 1 < w3.heap.size := (Array.getElem?_eq_some_iff.1 hrb).1
 have hne := (hm.ext hke).ne hD
 have g1 := heap_setCell_same (o := 0) (u := v) hD
 have g2 := heap_setCell_same (o := 1) (u := .map (some b1)) g1
 refine ⟨?_, ⟨m, (((hm.ext hke).st (p := ⟨D, 0, none⟩) hne _).st (p := ⟨D, 1, none⟩) hne _).st (p := ⟨D, 2, none⟩) hne _⟩, ((hr.stT hD (by decide) _).stT g1 (by decide) _).stT g2 (by decide) _, ?_, ?_⟩
 ·rw [heap_setCell_same g2]; simp
 ·rw [Below.heap_setCell _ ⟨D, 2, none⟩ _ _ (by simp only; omega), Below.heap_setCell _ ⟨D, 1, none⟩ _ _ (by simp only; omega), Below.heap_setCell _ ⟨D, 0, none⟩ _ _ (by simp only; omega)]
  exact h3e.hp hrb
 ·exact (((hx3.trans' h3e).st (p := ⟨D, 0, none⟩) (by show w.heap.size ≤ D; omega) _).st (p := ⟨D, 1, none⟩) (by show w.heap.size ≤ D; omega) _).st (p := ⟨D, 2, none⟩) (by show w.heap.size ≤ D; omega) _
theorem trI_early {w we : World} {D : Nat} {v u0 u1 u2 : Value} (h : we.heap[w.heap.size]? = some (.cells #[v] 24)) (hD : w.heap.size < D) : (((we.setCell ⟨D, 0, none⟩ u0).setCell ⟨D, 1, none⟩ u1).setCell ⟨D, 2, none⟩ u2).heap[w.heap.size]? = some (.cells #[v] 24) := by
 rw [Below.heap_setCell _ ⟨D, 2, none⟩ _ _ (by simp only; omega), Below.heap_setCell _ ⟨D, 1, none⟩ _ _ (by simp only; omega), Below.heap_setCell _ ⟨D, 0, none⟩ _ _ (by simp only; omega)]
 exact h
def EoI (w W : World) (N : Nat) (M : List Nat) : Prop := ∃ v vw, W.heap[w.heap.size]? = some (.cells #[v] 32) ∧ OwnRel W (w.heap.size + 1) v N M vw ∧ Ext w W ∧ w.heap.size + 1 ≤ W.heap.size
theorem box_step {W W8 : World} {base lb N ml k g : Nat} {v u : Value} {xs ys : List Value} {cs : Array Value} {T : TypeId} {fr : Nat × Nat} (hb : W.heap[g]? = some (.cells cs T fr)) (hr : Row W base 3 1 v ml xs) (hg : W.grownBy W8 v.ownBlock) (hrow : Row W8 lb 25 1 (.slice (some ⟨lb, 0, none⟩) N N) N ys) (h1 : T ≠ 3) (h2 : T ≠ 25) :
  (W8.setCell ⟨lb, k, none⟩ u).heap[g]? = some (.cells cs T fr) := by
 have h8 := grownKeep hg (hr.notBox hb h1) hb
 have hne : lb ≠ g := fun e => hrow.notBox h8 h2 (by rw [e]; rfl)
 rw [Below.heap_setCell _ ⟨lb, k, none⟩ _ _ (fun e => hne e.symm)]
 exact h8
theorem OrdI.step {w W W8 : World} {t : Tr} {v0 : Value} {D b1 b2 : Nat} {ea : Option Addr} {N0 ec : Nat} {base lb N ml k : Nat} {v u : Value} {xs ys : List Value} (h : OrdI w W t v0 D b1 b2 ea N0 ec) (hr : Row W base 3 1 v ml xs) (hg : W.grownBy W8 v.ownBlock) (hrow : Row W8 lb 25 1 (.slice (some ⟨lb, 0, none⟩) N N) N ys) (hbase : w.heap.size ≤ base) (hlb : w.heap.size ≤ lb) :
  OrdI w (W8.setCell ⟨lb, k, none⟩ u) t v0 D b1 b2 ea N0 ec := by
 obtain ⟨m, hm⟩ := h.em
 have hn1 : v.ownBlock ≠ some b1 := fun e => by
  rcases hr.2 with ⟨rfl, _⟩ | ⟨g', off, cap, cur, rfl, _, hg', _⟩
  ·cases e
  ·simp only [Value.ownBlock, Option.some.injEq] at e
   subst e
   exact hm.ne hg' rfl
 have hm8 := hm.grown hg (fun e => hn1 e.symm)
 have hlbh : N = 0 ∨ ∃ cur fr, W8.heap[lb]? = some (.cells cur 25 fr) := by
  obtain ⟨cur, fr, hh⟩ := row_heap hrow
  exact .inr ⟨cur, fr, hh⟩
 obtain ⟨cur, fr, hh⟩ := row_heap hrow
 refine ⟨box_step h.kb hr hg hrow (by decide) (by decide), ⟨m, hm8.st (p := ⟨lb, k, none⟩) (hm8.ne hh) u⟩, ((h.es.grown hg (h.es.apart hr (by decide))).stT hh (by decide) u), box_step h.rb hr hg hrow (by decide) (by decide), (h.x.gr hg (fun q hq => Nat.le_trans hbase (hr.lt q hq).1)).st (p := ⟨lb, k, none⟩) hlb u⟩
set_option maxHeartbeats 16000000 in
set_option maxRecDepth 100000 in
theorem order_calls (v : Value) (t : Tr) (w : World) (h : TrAt w v t) (hv : validT t = true) (hN : (ids t).length ≤ 60) :
  Calls Tryz.prog 10 #[.agg #[v]] w fun e w' => ∃ v' vw, e = .returned (.tuple #[.agg #[v'], .int .i64 0]) ∧ OwnRel w' w.heap.size v' (ids t).length (ordM t) vw ∧ Ext w w' := by
 have HKC := Lib.hid (fun W (hW : Ext w W) => knows_calls v t W (h.ext hW) hv)
 have HEC := Lib.hid (fun W (hW : Ext w W) => eventsC_calls v t W (h.ext hW) hv)
 have HCC := Lib.hid (fun W (hW : Ext w W) => check0_calls v t W (h.ext hW) hv)
 have HPC := Lib.hid (fun W (hW : Ext w W) (b1 b2 m p i : Nat) (hx : Inn t (p, i)) (hm : EvM W b1 m t 2 (ids t)) => past_calls v t b1 b2 m p i W (h.ext hW) hv hx hm)
 have HCY := Lib.hid (validT_parts2.1 hv).2.2
 obtain ⟨ta, tc, rfl, htc⟩ := h.sh
 generalize hln : t.length = n at *
 have HX0 := Lib.hid (((Ext.rf _).al (.cells #[.slice none 0 0] 32)).hp (heap_alloc_new w (.cells #[.slice ta n tc] 24)))
 have HX1 := Lib.hid (heap_new_eq (w := w.alloc (.cells #[.slice ta n tc] 24)) (o := .cells #[.slice none 0 0] 32) (b := w.heap.size + 1) (by simp))
 have HE2 := Lib.hid (((Ext.rf w).al (.cells #[.slice ta n tc] 24)).al (.cells #[.slice none 0 0] 32))
 have HL := Lib.hid hln
 clear h hv hln htc
 go_enter Tryz.func10, Tryz.ntmps10
 go_upto_region 1 with (fail)
 generalize (w.alloc (.cells #[.slice ta n tc] 24)).alloc (.cells #[.slice none 0 0] 32) = w2 at *
 have t0 := cellOf HX0.out 0
 simp only [List.getElem?_toArray, List.getElem?_cons_zero] at t0
 go_wp2_with fail
 refine (HCC.out _ HE2.out).mono ?_
 rintro e w3 ⟨rfl, hX3⟩
 have HE3 := Lib.hid (HE2.out.trans' hX3)
 have HX0 := Lib.hid (hX3.hp HX0.out)
 have HX1 := Lib.hid (hX3.hp HX1.out)
 have t0 := cellOf HX0.out 0
 simp only [List.getElem?_toArray, List.getElem?_cons_zero] at t0
 clear hX3
 go_upto_region 4 with (fail)
 have HT0 := Lib.hid t0
 have hb3 := World.block_lt_of_cell? w3 _ t0
 go_cut [5, 6] (fun s5 s6 wx => ∃ (D b1 b2 : Nat) (ea : Option Addr) (ec : Nat), s5 = .pointer (some ⟨D, 0, none⟩) ∧ s6 = .slice ea (ids t).length ec ∧ Aside (OrdI w wx t (.slice ta n tc) D b1 b2 ea (ids t).length ec) ∧ Aside (wx.heap[w.heap.size]? = some (.cells #[.slice ta n tc] 24)))
 case first =>
  go_wp2
  go_region_with (first | (go_at_call 27; refine (HKC.out _ (HE3.out.trans' (by first | exact (Ext.rf w3) | exact ((Ext.rf w3)).dr | exact ((Ext.rf w3)).dr.dr | exact ((Ext.rf w3)).al _ | exact (((Ext.rf w3)).al _).dr | exact (((Ext.rf w3)).dr.al _) | exact (((Ext.rf w3)).dr.al _).dr | exact HE3E.out | exact (HE3E.out).dr | exact (HE3E.out).dr.dr | exact (HE3E.out).al _ | exact ((HE3E.out).al _).dr | exact ((HE3E.out).dr.al _) | exact ((HE3E.out).dr.al _).dr))).mono ?_; rintro e wk ⟨b1, b2, mk, rfl, hm, hXk⟩; have HM := Lib.hid hm; have HXK := Lib.hid hXk; have HK3 := Lib.hid (show Ext w3 wk from Ext.trans' (by first | exact (Ext.rf w3) | exact ((Ext.rf w3)).dr | exact ((Ext.rf w3)).dr.dr | exact ((Ext.rf w3)).al _ | exact (((Ext.rf w3)).al _).dr | exact (((Ext.rf w3)).dr.al _) | exact (((Ext.rf w3)).dr.al _).dr | exact HE3E.out | exact (HE3E.out).dr | exact (HE3E.out).dr.dr | exact (HE3E.out).al _ | exact ((HE3E.out).al _).dr | exact ((HE3E.out).dr.al _) | exact ((HE3E.out).dr.al _).dr) hXk); have t0 := HK3.out.cl HT0.out; have hbk := World.block_lt_of_cell? wk _ t0; (first | (have HDB := Lib.hid (hXk.hp HDB.out); have d0 := cellOf HDB.out 0; have d1 := cellOf HDB.out 1; have d2 := cellOf HDB.out 2; have g0 := freeOf HDB.out 0; have g1 := freeOf HDB.out 1; have g2 := freeOf HDB.out 2; simp only [List.getElem?_toArray, List.getElem?_cons_zero, List.getElem?_cons_succ] at d0 d1 d2) | (have HDB := Lib.hid (hXk.hp (heap_alloc_new we (.cells #[.slice none 0 0, .map none, .map none] 69))); have d0 := cellOf HDB.out 0; have d1 := cellOf HDB.out 1; have d2 := cellOf HDB.out 2; have g0 := freeOf HDB.out 0; have g1 := freeOf HDB.out 1; have g2 := freeOf HDB.out 2; simp only [List.getElem?_toArray, List.getElem?_cons_zero, List.getElem?_cons_succ] at d0 d1 d2) | (have HDB := Lib.hid (hXk.hp (heap_alloc_new w3 (.cells #[.slice none 0 0, .map none, .map none] 69))); have d0 := cellOf HDB.out 0; have d1 := cellOf HDB.out 1; have d2 := cellOf HDB.out 2; have g0 := freeOf HDB.out 0; have g1 := freeOf HDB.out 1; have g2 := freeOf HDB.out 2; simp only [List.getElem?_toArray, List.getElem?_cons_zero, List.getElem?_cons_succ] at d0 d1 d2) | skip); clear hm hXk) | (go_at_call 28; refine (HEC.out _ (HE3.out.trans' (by first | exact (Ext.rf w3) | exact ((Ext.rf w3)).dr | exact ((Ext.rf w3)).dr.dr | exact ((Ext.rf w3)).al _ | exact (((Ext.rf w3)).al _).dr | exact (((Ext.rf w3)).dr.al _) | exact (((Ext.rf w3)).dr.al _).dr | exact HK3.out | exact (HK3.out).dr | exact (HK3.out).dr.dr | exact (HK3.out).al _ | exact ((HK3.out).al _).dr | exact ((HK3.out).dr.al _) | exact ((HK3.out).dr.al _).dr))).mono ?_; rintro e we ⟨ev, rfl, hRe, hXe⟩; obtain ⟨ea, ec, rfl, _⟩ := hRe.any; have HRE := Lib.hid hRe; have HXE := Lib.hid hXe; have HKE := Lib.hid (show Ext wk we from by first | exact hXe | exact ((Ext.rf _).al _).trans' hXe); have HRW := Lib.hid (hRe.mono (show w.heap.size ≤ _ from by first | exact (HE3.out.trans' HK3.out).sz | exact ((HE3.out.trans' HK3.out).al _).sz)); have HE3E := Lib.hid (show Ext w3 we from Ext.trans' (by first | exact (Ext.rf w3) | exact ((Ext.rf w3)).dr | exact ((Ext.rf w3)).dr.dr | exact ((Ext.rf w3)).al _ | exact (((Ext.rf w3)).al _).dr | exact (((Ext.rf w3)).dr.al _) | exact (((Ext.rf w3)).dr.al _).dr | exact HK3.out | exact (HK3.out).dr | exact (HK3.out).dr.dr | exact (HK3.out).al _ | exact ((HK3.out).al _).dr | exact ((HK3.out).dr.al _) | exact ((HK3.out).dr.al _).dr) hXe); have t0 := HE3E.out.cl HT0.out; have hbe := World.block_lt_of_cell? we _ t0; (first | (have HDB := Lib.hid (hXe.hp HDB.out); have d0 := cellOf HDB.out 0; have d1 := cellOf HDB.out 1; have d2 := cellOf HDB.out 2; have g0 := freeOf HDB.out 0; have g1 := freeOf HDB.out 1; have g2 := freeOf HDB.out 2; simp only [List.getElem?_toArray, List.getElem?_cons_zero, List.getElem?_cons_succ] at d0 d1 d2) | (have HDB := Lib.hid (hXe.hp (heap_alloc_new wk (.cells #[.slice none 0 0, .map none, .map none] 69))); have d0 := cellOf HDB.out 0; have d1 := cellOf HDB.out 1; have d2 := cellOf HDB.out 2; have g0 := freeOf HDB.out 0; have g1 := freeOf HDB.out 1; have g2 := freeOf HDB.out 2; simp only [List.getElem?_toArray, List.getElem?_cons_zero, List.getElem?_cons_succ] at d0 d1 d2) | (have HDB := Lib.hid (hXe.hp (heap_alloc_new w3 (.cells #[.slice none 0 0, .map none, .map none] 69))); have d0 := cellOf HDB.out 0; have d1 := cellOf HDB.out 1; have d2 := cellOf HDB.out 2; have g0 := freeOf HDB.out 0; have g1 := freeOf HDB.out 1; have g2 := freeOf HDB.out 2; simp only [List.getElem?_toArray, List.getElem?_cons_zero, List.getElem?_cons_succ] at d0 d1 d2) | skip); clear hRe hXe))
  all_goals
   go_wp2
   simp only [List.getElem_toArray, List.getElem_cons_succ, List.getElem_cons_zero]
   simp only [Act.put, List.setIfInBounds_toArray, List.set_cons_zero, List.set_cons_succ]
   go_meet
  all_goals first
   | exact ⟨_, b1, b2, ea, ec, rfl, rfl, (show OrdI _ _ _ _ _ _ _ _ _ _ from ordI_early HE3.out HKE.out HE3E.out HM.out HRW.out HX1.out HDB.out (by first | exact Nat.le_refl w3.heap.size | exact HK3.out.sz)), (show _ = _ from trI_early (HE3E.out.hp HX0.out) (by first | exact hb3 | exact hbk))⟩
   | exact ⟨_, b1, b2, ea, ec, rfl, rfl, (show OrdI _ _ _ _ _ _ _ _ _ _ from ordI_late HE3.out HKE.out HE3E.out HM.out HRW.out HX1.out), (show _ = _ from ((Ext.rf we).al _).hp (HE3E.out.hp HX0.out))⟩
 case rest =>
  obtain ⟨D, b1, b2, ea, ec, h5, h6, HI, HTB⟩ := hcut
  subst h5
  subst h6
  obtain ⟨N, hNe⟩ : ∃ N, (ids t).length = N := ⟨_, rfl⟩
  have HNE := Lib.hid hNe
  rw [hNe] at hN HI ⊢
  obtain ⟨io, hio, oz0, oz1, oz2⟩ := info_parts info_intsO
  obtain ⟨ii, hii, jz0, jz1, jz2⟩ := info_parts info_intB
  obtain ⟨lb, hlb⟩ : ∃ b, wc.heap.size = b := ⟨_, rfl⟩
  have HLB := Lib.hid hlb
  clear hNe hlb HX0 HX1 HE3 HT0 hb3 t0 HKC HEC HCC HE2
  go_wp2_with (first | (at_make; refine wpList_make_full _ rfl _ _ 73 rfl wc.heap.size 25 io (.slice none 0 0) 1 Tryz.underlying73 hio oz0 oz1 .i64 .i64 _ _ N rfl rfl rfl rfl (by rw [oz2]; omega) (by unfold maxLen; omega) (Nat.le_refl _) ?_; intro w5 hown5 hgrow5; have HLA := Lib.hid (Row.ofOwns hown5); rw [made_nils] at HLA; have HX5 := Lib.hid (show Ext wc w5 from (Ext.rf wc).gr hgrow5 (by simp)); clear hown5 hgrow5))
  obtain ⟨hdr0, hh0⟩ : ∃ h : Nat → Value, h = fun _ => .slice none 0 0 := ⟨_, rfl⟩
  have HL0 := Lib.hid (show LatO w5 wc.heap.size (.slice (some ⟨wc.heap.size, 0, none⟩) N N) N (laterJ t 0) hdr0 from by
   rw [hh0]
   exact (LatO.start HLA.out).congr (fun i _ => rfl))
  have HI5 := Lib.hid (HI.out.ext HX5.out)
  have hbase : w.heap.size ≤ lb := by have := HI.out.x.sz; have := HLB.out; omega
  rw [HLB.out] at HL0 ⊢
  clear hh0 HLA
  go_loopg [33] N (fun g s33 wr => ∃ j : Nat, j ≤ N ∧ N - j ≤ g ∧ s33 = .int .i64 j ∧ (∃ hd, Aside (LatO wr lb (.slice (some ⟨lb, 0, none⟩) N N) N (laterJ t j) hd)) ∧ Aside (OrdI w wr t (.slice ta n tc) D b1 b2 ea N ec) ∧ Aside (lb ≤ wr.heap.size))
  case atStart => exact ⟨0, Nat.zero_le _, by omega, rfl, ⟨hdr0, HL0⟩, HI5, (show _ ≤ _ from by have := HX5.out.sz; have := HLB.out; omega)⟩
  case round =>
   obtain ⟨j, hj, hg, rfl, ⟨hd, HLA⟩, HIO, HSZ⟩ := hrel
   clear HL0 HI5
   have hes := HIO.out.es
   by_cases hlt : j < N
   ·have hltz : (j : Int) < (N : Int) := by omega
    have hjz : (0 : Int) ≤ (j : Int) := by omega
    obtain ⟨eb, eo, ec', hea, _, _, _⟩ := hes.shape (by omega)
    simp only [Value.slice.injEq, true_and] at hea
    obtain ⟨rfl, rfl⟩ := hea
    have hjl : j < (ids t).length := by rw [HNE.out]; exact hlt
    have c0 := (hes.cell (j * 2) (by omega)).trans (eids_at (ids t) j hjl).1
    have c1 := (hes.cell (j * 2 + 1) (by omega)).trans (eids_at (ids t) j hjl).2
    rw [← Nat.add_assoc] at c1
    have HIN := Lib.hid (ids_inn hjl).1
    obtain ⟨y, hy⟩ : ∃ y, (ids t)[j]! = y := ⟨_, rfl⟩
    rw [hy] at c0 c1 HIN
    have HY := Lib.hid hy
    obtain ⟨y1, y2⟩ := y
    simp only at c0 c1
    obtain ⟨iy, hiy⟩ : ∃ z : Int, (y2 : Int) + 1 = z := ⟨_, rfl⟩
    rw [hiy] at c1
    have HIY := Lib.hid hiy
    have k0 := cellOf HIO.out.kb 0
    have k1 := cellOf HIO.out.kb 1
    have k2 := cellOf HIO.out.kb 2
    simp only [List.getElem?_toArray, List.getElem?_cons_zero, List.getElem?_cons_succ] at k0 k1 k2
    have HIO2 := Lib.hid (HIO.out.ext ((Ext.rf wr).al (.cells #[.int .i64 y1, .int .i64 iy] 39)))
    have HLA2 := Lib.hid (HLA.out.ext ((Ext.rf wr).al (.cells #[.int .i64 y1, .int .i64 iy] 39)))
    have HBX := Lib.hid (heap_alloc_new wr (.cells #[.int .i64 y1, .int .i64 iy] 39))
    have HPST : Hid (∀ W, Ext w W → (∃ m, EvM W b1 m t 2 (ids t)) → Calls Tryz.prog 29 #[.agg #[.slice ta n tc, .map (some b1), .map (some b2)], .agg #[.int .i64 y1, .int .i64 iy]] W fun e w' => ∃ C u, PstI t (y1, y2) C [] ∧ e = .returned u ∧ Row w' W.heap.size 3 1 u C.length (C.map (Value.int .i64)) ∧ Ext W w') := Lib.hid (fun W hW hm => by
     obtain ⟨m, hm⟩ := hm
     have := HPC.out W hW b1 b2 m y1 y2 HIN.out hm
     rw [HIY.out] at this
     exact this)
    have hDw : D < wr.heap.size := (Array.getElem?_eq_some_iff.1 HIO.out.kb).1
    clear hiy hy hjl hes
    go_upto_region 9 with (fail)
    generalize hwx : wr.alloc (.cells #[.int .i64 y1, .int .i64 iy] 39) = wx at *
    generalize hBB : wr.heap.size = bx at *
    have hbxw : bx < wx.heap.size := (Array.getElem?_eq_some_iff.1 HBX.out).1
    clear hwx
    have k0 := cellOf HIO2.out.kb 0
    have k1 := cellOf HIO2.out.kb 1
    have k2 := cellOf HIO2.out.kb 2
    have x0 := cellOf HBX.out 0
    have x1 := cellOf HBX.out 1
    simp only [List.getElem?_toArray, List.getElem?_cons_zero, List.getElem?_cons_succ] at k0 k1 k2 x0 x1
    go_wp2_with fail
    clear k0 k1 k2 x0 x1 c0 c1
    refine (HPST.out wx HIO2.out.x HIO2.out.em).mono ?_
    rintro e w6 ⟨C, u, hP, rfl, hRC, hX6⟩
    have HPS := Lib.hid hP
    have hCl : C.length = n := by have := hP.rg.1; rw [HL.out] at this; exact this
    have hn1 : 0 < n := by have := HIN.out.1; rw [HL.out] at this; simp only at this; omega
    rw [hCl] at hRC
    obtain ⟨cb, co, cc, rfl, hcb, hcs, hcc⟩ := hRC.shape hn1
    have HRC6 := Lib.hid hRC
    have HIO6 := Lib.hid (HIO2.out.ext hX6)
    have HLA6 := Lib.hid (HLA2.out.ext hX6)
    have HBX6 := Lib.hid (hX6.hp HBX.out)
    have HNE6 : Hid (∀ a, a < N → (hd a).ownBlock ≠ some cb) := Lib.hid (fun a ha e => by
     have := ((HLA2.out.rows a ha).lt cb e).2; omega)
    have HSZ6 : Hid (lb ≤ w6.heap.size ∧ cb < w6.heap.size) := Lib.hid ⟨by have h1 := hX6.sz; have h2 := HSZ.out; omega, hcs⟩
    have HCL := Lib.hid hCl
    clear hP hRC hX6 hCl hcs HIO2 HLA2 HBX hcc hcb
    obtain ⟨wo, rfl⟩ : ∃ x, x = wr := ⟨_, rfl⟩
    go_wp2
    go_loopg [43] N (fun g s43 wr => ∃ i : Nat, i ≤ N ∧ N - i ≤ g ∧ s43 = .int .i64 i ∧ (∃ hd, Aside (LatO wr lb (.slice (some ⟨lb, 0, none⟩) N N) N (mixJ t j i) hd) ∧ Aside (∀ a, a < N → (hd a).ownBlock ≠ some cb)) ∧ Aside (OrdI w wr t (.slice ta n tc) D b1 b2 (some ⟨eb, eo, none⟩) N ec) ∧ Aside (Row wr wx.heap.size 3 1 (.slice (some ⟨cb, co, none⟩) n cc) n (C.map (Value.int .i64))) ∧ Aside (wr.heap[bx]? = some (.cells #[.int .i64 y1, .int .i64 iy] 39)) ∧ Aside (lb ≤ wr.heap.size ∧ cb < wr.heap.size))
    case atStart => exact ⟨0, Nat.zero_le _, by omega, rfl, ⟨hd, (show LatO _ _ _ _ _ _ from by rw [mixJ_zero]; exact HLA6.out), HNE6⟩, HIO6, HRC6, HBX6, HSZ6⟩
    case round =>
     obtain ⟨i, hi, hgi, rfl, ⟨hd, HLA, HNC⟩, HIO, HRC, HBX, HSZ⟩ := hrel
     clear HLA6 HNE6 HIO6 HRC6 HBX6 HSZ6
     have hes := HIO.out.es
     by_cases hli : i < N
     ·have hliz : (i : Int) < (N : Int) := by omega
      have hiz : (0 : Int) ≤ (i : Int) := by omega
      have hil : i < (ids t).length := by rw [HNE.out]; exact hli
      have c0 := (hes.cell (i * 2) (by omega)).trans (eids_at (ids t) i hil).1
      have c1 := (hes.cell (i * 2 + 1) (by omega)).trans (eids_at (ids t) i hil).2
      rw [← Nat.add_assoc] at c1
      have HXN := Lib.hid (ids_inn hil).1
      obtain ⟨x, hx⟩ : ∃ x, (ids t)[i]! = x := ⟨_, rfl⟩
      rw [hx] at c0 c1 HXN
      have HX := Lib.hid hx
      have HLT := Lib.hid (later_iff (x := x) HCY.out HPS.out)
      obtain ⟨x1, x2⟩ := x
      simp only at c0 c1
      obtain ⟨ix, hix⟩ : ∃ z : Int, (x2 : Int) + 1 = z := ⟨_, rfl⟩
      rw [hix] at c1
      have hxn : x1 < n := by have := HXN.out.1; rw [HL.out] at this; exact this
      obtain ⟨cv, hcv⟩ : ∃ z : Int, C[x1]! = z := ⟨_, rfl⟩
      have hcx := HRC.out.cell x1 (by omega)
      rw [List.getElem?_map, List.getElem?_eq_getElem (by rw [HCL.out]; exact hxn), ← getElem!_pos C x1 (by rw [HCL.out]; exact hxn), hcv] at hcx
      simp only [Option.map_some] at hcx
      have HINC : Hid (InC C (x1, x2) ↔ ix ≤ cv) := Lib.hid (by
       unfold InC
       rw [← hcv, ← hix, HCL.out]
       simp only
       omega)
      have hx1z : (0 : Int) ≤ (x1 : Int) := by omega
      have hx1n : (x1 : Int) < (n : Int) := by omega
      have y0 := cellOf HBX.out 0
      have yy1 := cellOf HBX.out 1
      simp only [List.getElem?_toArray, List.getElem?_cons_zero, List.getElem?_cons_succ] at y0 yy1
      have hbxw : bx < wr.heap.size := (Array.getElem?_eq_some_iff.1 HBX.out).1
      have hcbw : cb < wr.heap.size := HSZ.out.2
      clear hes hil hx hcv
      go_upto_region 13 with (fail)
      by_cases hq1 : x1 = y1
      ·subst hq1
       by_cases hq2 : ix = iy
       ·have HXY := Lib.hid (show ((x1, x2) : Eid) = (x1, y2) from by
         have h1 := HIY.out
         have h2 : x2 = y2 := by rw [← hix] at hq2; omega
         rw [h2])
        subst hq2
        have HNO := Lib.hid (show ¬ Hb t (ids t)[i]! (ids t)[j]! from by rw [HX.out, HY.out]; exact (fun h => (HLT.out.2 h).1 HXY.out))
        go_wp2
        go_quiet (fail)
        have HX2 := Lib.hid (((Ext.rf wr).al (.cells #[.int .i64 x1, .int .i64 ix] 39)).drN nq)
        have HLA2 := Lib.hid (HLA.out.ext HX2.out)
        have HIO2 := Lib.hid (HIO.out.ext HX2.out)
        have HRC2 := Lib.hid (HRC.out.ext HX2.out)
        have HBX2 := Lib.hid (HX2.out.hp HBX.out)
        have HSZ2 : Hid (lb ≤ ((wr.alloc (.cells #[.int .i64 x1, .int .i64 ix] 39)).drewN nq).heap.size ∧ cb < ((wr.alloc (.cells #[.int .i64 x1, .int .i64 ix] 39)).drewN nq).heap.size) := Lib.hid (by have := HSZ.out; have := HX2.out.sz; omega)
        generalize (wr.alloc (.cells #[.int .i64 x1, .int .i64 ix] 39)).drewN nq = wz at *
        clear HLA HIO HRC HBX HSZ y0 yy1 hcx c0 c1
        go_wp2
        go_roundg (N - (i + 1))
        case measure => omega
        case rel => exact ⟨i + 1, by omega, by omega, by go_num, ⟨hd, (show LatO _ _ _ _ _ _ from HLA2.out.congr (fun a ha => mixJ_no HNO.out)), HNC⟩, HIO2, HRC2, HBX2, HSZ2⟩
       ·have HXY := Lib.hid (show ((x1, x2) : Eid) ≠ (x1, y2) from fun e => by
         have h1 := HIY.out
         simp only [Prod.mk.injEq, true_and] at e
         rw [← hix, e] at hq2; omega)
        by_cases hcv2 : ix ≤ cv
        ·
         have HNO := Lib.hid (show Hb t (ids t)[i]! (ids t)[j]! from by rw [HX.out, HY.out]; exact (HLT.out.1 ⟨HXY.out, HINC.out.2 hcv2⟩))
         go_wp2
         go_quiet (fail)
         have HX2 := Lib.hid (((Ext.rf wr).al (.cells #[.int .i64 x1, .int .i64 ix] 39)).drN nq)
         have HLA2 := Lib.hid (HLA.out.ext HX2.out)
         have HIO2 := Lib.hid (HIO.out.ext HX2.out)
         have HRC2 := Lib.hid (HRC.out.ext HX2.out)
         have HBX2 := Lib.hid (HX2.out.hp HBX.out)
         have HSZ2 : Hid (lb ≤ ((wr.alloc (.cells #[.int .i64 x1, .int .i64 ix] 39)).drewN nq).heap.size ∧ cb < ((wr.alloc (.cells #[.int .i64 x1, .int .i64 ix] 39)).drewN nq).heap.size) := Lib.hid (by have := HSZ.out; have := HX2.out.sz; omega)
         generalize (wr.alloc (.cells #[.int .i64 x1, .int .i64 ix] 39)).drewN nq = wz at *
         clear HLA HIO HRC HBX HSZ y0 yy1 hcx c0 c1
         have hdr := (HLA2.out.row.cell i (by omega)).trans (hd_at hli)
         rw [Nat.zero_add] at hdr
         obtain ⟨ha, hc, hhd, _⟩ := (HLA2.out.rows i hli).any
         have HHD := Lib.hid hhd
         rw [hhd] at hdr
         have hml : (mixJ t j i i).length ≤ 60 := by rw [mixJ_at]; have := laterJ_len t j i; omega
         have hszz : lb ≤ wz.heap.size := HSZ2.out.1
         have HRI := Lib.hid (HLA2.out.rows i hli)
         have HLA3 := Lib.hid (HLA2.out.ext ((Ext.rf wz).al (.cells #[.int .i64 (j : Int)] 3)))
         rw [hhd] at HRI
         generalize hml2 : (mixJ t j i i).length = ml at *
         have HML := Lib.hid hml2
         clear hhd hml2 HLA2
         go_wp2_with ((at_builtin; go_loud (refine wpList_append_one rfl _ _ 25 rfl lb 3 ii (.int .i64 0) 1 8 Tryz.underlying25 hii jz0 jz1 jz2 rfl (by decide) _ ml _ rfl (HRI.out.al _) wz.heap.size 1 [.int .i64 j] rfl rfl ⟨_, heap_alloc_new _ _⟩ (by simp [Value.oneCell']) (by unfold maxLen; omega) (by omega) (by simp; omega) ?_; intro v8 w8 hown8 hgrow8 hblk8; obtain ⟨a8, c8, e8, _⟩ := hown8.any; subst e8; have HOWN := Lib.hid hown8; have HG8 := Lib.hid hgrow8; have HK8 := Lib.hid hblk8; have HR8 := Lib.hid (HLA3.out.row.grown (show World.grownBy _ w8 (hd i).ownBlock from by rw [HHD.out]; exact HG8.out) (HLA3.out.row.apart (HLA3.out.rows i hli) (by decide))); have hst := HR8.out.cell i (by omega); have hfr := HR8.out.free i; rw [hd_at hli, Nat.zero_add] at hst; clear hown8 hgrow8 hblk8)))
         have HLA9 := Lib.hid (HLA3.out.app (j := j) (v8 := .slice a8 (ml + 1) c8) hli (by have := HOWN.out; rw [HML.out]; exact this) (by rw [HHD.out]; exact HG8.out) (by rw [HHD.out]; exact HK8.out))
         have HX8 := Lib.hid (show Ext w w8 from (HIO2.out.x.al _).gr HG8.out (fun q hq => Nat.le_trans hbase (HRI.out.lt q hq).1))
         go_roundg (N - (i + 1))
         case measure => omega
         case rel =>
          refine ⟨i + 1, by omega, by omega, by go_num, ⟨updR hd i (.slice a8 (ml + 1) c8), (show LatO _ _ _ _ _ _ from ?_), (show ∀ a, a < N → _ from fun a ha => ?_)⟩, (show OrdI _ _ _ _ _ _ _ _ _ _ from ?_), (show Row _ _ _ _ _ _ _ from ?_), (show _ = _ from ?_), (show _ ∧ _ from ?_)⟩
          ·have h9 := HLA9.out
           rw [Nat.zero_add] at h9
           exact h9.congr (fun a ha => mixJ_yes HNO.out)
          ·by_cases e : a = i
           ·subst e
            rw [updR_at]
            rcases HK8.out with e | ⟨kk, e, hkk⟩
            ·rw [e, ← HHD.out]; exact HNC.out a ha
            ·rw [e]
             intro e2
             simp only [Option.some.injEq] at e2
             rw [World.size_alloc] at hkk
             have := HSZ2.out.2; omega
           ·rw [updR_ne e]; exact HNC.out a ha
          ·exact (HIO2.out.ext ((Ext.rf _).al _)).step (HRI.out.al _) HG8.out HR8.out hbase hbase
          ·obtain ⟨cur, fr, hh⟩ := row_heap HR8.out
           refine ((HRC2.out.al _).grown HG8.out (.inr fun e => HNC.out i hli ?_)).stT hh (by decide) _
           rw [HHD.out]; exact e.symm
          ·exact box_step (((Ext.rf _).al _).hp HBX2.out) (HRI.out.al _) HG8.out HR8.out (by decide) (by decide)
          ·rw [size_setCell]
           have h1 := HG8.out.size
           rw [World.size_alloc] at h1
           have := HSZ2.out; omega
        ·
         have HNO := Lib.hid (show ¬ Hb t (ids t)[i]! (ids t)[j]! from by rw [HX.out, HY.out]; exact (fun h => hcv2 (HINC.out.1 (HLT.out.2 h).2)))
         go_wp2
         go_quiet (fail)
         have HX2 := Lib.hid (((Ext.rf wr).al (.cells #[.int .i64 x1, .int .i64 ix] 39)).drN nq)
         have HLA2 := Lib.hid (HLA.out.ext HX2.out)
         have HIO2 := Lib.hid (HIO.out.ext HX2.out)
         have HRC2 := Lib.hid (HRC.out.ext HX2.out)
         have HBX2 := Lib.hid (HX2.out.hp HBX.out)
         have HSZ2 : Hid (lb ≤ ((wr.alloc (.cells #[.int .i64 x1, .int .i64 ix] 39)).drewN nq).heap.size ∧ cb < ((wr.alloc (.cells #[.int .i64 x1, .int .i64 ix] 39)).drewN nq).heap.size) := Lib.hid (by have := HSZ.out; have := HX2.out.sz; omega)
         generalize (wr.alloc (.cells #[.int .i64 x1, .int .i64 ix] 39)).drewN nq = wz at *
         clear HLA HIO HRC HBX HSZ y0 yy1 hcx c0 c1
         go_wp2
         go_roundg (N - (i + 1))
         case measure => omega
         case rel => exact ⟨i + 1, by omega, by omega, by go_num, ⟨hd, (show LatO _ _ _ _ _ _ from HLA2.out.congr (fun a ha => mixJ_no HNO.out)), HNC⟩, HIO2, HRC2, HBX2, HSZ2⟩
      ·have HXY := Lib.hid (show ((x1, x2) : Eid) ≠ (y1, y2) from fun e => hq1 (by simp only [Prod.mk.injEq] at e; exact e.1))
       have hq3 : ¬ (x1 : Int) = (y1 : Int) := by omega
       by_cases hcv2 : ix ≤ cv
       ·
        have HNO := Lib.hid (show Hb t (ids t)[i]! (ids t)[j]! from by rw [HX.out, HY.out]; exact (HLT.out.1 ⟨HXY.out, HINC.out.2 hcv2⟩))
        go_wp2
        go_quiet (fail)
        have HX2 := Lib.hid (((Ext.rf wr).al (.cells #[.int .i64 x1, .int .i64 ix] 39)).drN nq)
        have HLA2 := Lib.hid (HLA.out.ext HX2.out)
        have HIO2 := Lib.hid (HIO.out.ext HX2.out)
        have HRC2 := Lib.hid (HRC.out.ext HX2.out)
        have HBX2 := Lib.hid (HX2.out.hp HBX.out)
        have HSZ2 : Hid (lb ≤ ((wr.alloc (.cells #[.int .i64 x1, .int .i64 ix] 39)).drewN nq).heap.size ∧ cb < ((wr.alloc (.cells #[.int .i64 x1, .int .i64 ix] 39)).drewN nq).heap.size) := Lib.hid (by have := HSZ.out; have := HX2.out.sz; omega)
        generalize (wr.alloc (.cells #[.int .i64 x1, .int .i64 ix] 39)).drewN nq = wz at *
        clear HLA HIO HRC HBX HSZ y0 yy1 hcx c0 c1
        have hdr := (HLA2.out.row.cell i (by omega)).trans (hd_at hli)
        rw [Nat.zero_add] at hdr
        obtain ⟨ha, hc, hhd, _⟩ := (HLA2.out.rows i hli).any
        have HHD := Lib.hid hhd
        rw [hhd] at hdr
        have hml : (mixJ t j i i).length ≤ 60 := by rw [mixJ_at]; have := laterJ_len t j i; omega
        have hszz : lb ≤ wz.heap.size := HSZ2.out.1
        have HRI := Lib.hid (HLA2.out.rows i hli)
        have HLA3 := Lib.hid (HLA2.out.ext ((Ext.rf wz).al (.cells #[.int .i64 (j : Int)] 3)))
        rw [hhd] at HRI
        generalize hml2 : (mixJ t j i i).length = ml at *
        have HML := Lib.hid hml2
        clear hhd hml2 HLA2
        go_wp2_with ((at_builtin; go_loud (refine wpList_append_one rfl _ _ 25 rfl lb 3 ii (.int .i64 0) 1 8 Tryz.underlying25 hii jz0 jz1 jz2 rfl (by decide) _ ml _ rfl (HRI.out.al _) wz.heap.size 1 [.int .i64 j] rfl rfl ⟨_, heap_alloc_new _ _⟩ (by simp [Value.oneCell']) (by unfold maxLen; omega) (by omega) (by simp; omega) ?_; intro v8 w8 hown8 hgrow8 hblk8; obtain ⟨a8, c8, e8, _⟩ := hown8.any; subst e8; have HOWN := Lib.hid hown8; have HG8 := Lib.hid hgrow8; have HK8 := Lib.hid hblk8; have HR8 := Lib.hid (HLA3.out.row.grown (show World.grownBy _ w8 (hd i).ownBlock from by rw [HHD.out]; exact HG8.out) (HLA3.out.row.apart (HLA3.out.rows i hli) (by decide))); have hst := HR8.out.cell i (by omega); have hfr := HR8.out.free i; rw [hd_at hli, Nat.zero_add] at hst; clear hown8 hgrow8 hblk8)))
        have HLA9 := Lib.hid (HLA3.out.app (j := j) (v8 := .slice a8 (ml + 1) c8) hli (by have := HOWN.out; rw [HML.out]; exact this) (by rw [HHD.out]; exact HG8.out) (by rw [HHD.out]; exact HK8.out))
        have HX8 := Lib.hid (show Ext w w8 from (HIO2.out.x.al _).gr HG8.out (fun q hq => Nat.le_trans hbase (HRI.out.lt q hq).1))
        go_roundg (N - (i + 1))
        case measure => omega
        case rel =>
         refine ⟨i + 1, by omega, by omega, by go_num, ⟨updR hd i (.slice a8 (ml + 1) c8), (show LatO _ _ _ _ _ _ from ?_), (show ∀ a, a < N → _ from fun a ha => ?_)⟩, (show OrdI _ _ _ _ _ _ _ _ _ _ from ?_), (show Row _ _ _ _ _ _ _ from ?_), (show _ = _ from ?_), (show _ ∧ _ from ?_)⟩
         ·have h9 := HLA9.out
          rw [Nat.zero_add] at h9
          exact h9.congr (fun a ha => mixJ_yes HNO.out)
         ·by_cases e : a = i
          ·subst e
           rw [updR_at]
           rcases HK8.out with e | ⟨kk, e, hkk⟩
           ·rw [e, ← HHD.out]; exact HNC.out a ha
           ·rw [e]
            intro e2
            simp only [Option.some.injEq] at e2
            rw [World.size_alloc] at hkk
            have := HSZ2.out.2; omega
          ·rw [updR_ne e]; exact HNC.out a ha
         ·exact (HIO2.out.ext ((Ext.rf _).al _)).step (HRI.out.al _) HG8.out HR8.out hbase hbase
         ·obtain ⟨cur, fr, hh⟩ := row_heap HR8.out
          refine ((HRC2.out.al _).grown HG8.out (.inr fun e => HNC.out i hli ?_)).stT hh (by decide) _
          rw [HHD.out]; exact e.symm
         ·exact box_step (((Ext.rf _).al _).hp HBX2.out) (HRI.out.al _) HG8.out HR8.out (by decide) (by decide)
         ·rw [size_setCell]
          have h1 := HG8.out.size
          rw [World.size_alloc] at h1
          have := HSZ2.out; omega
       ·
        have HNO := Lib.hid (show ¬ Hb t (ids t)[i]! (ids t)[j]! from by rw [HX.out, HY.out]; exact (fun h => hcv2 (HINC.out.1 (HLT.out.2 h).2)))
        go_wp2
        go_quiet (fail)
        have HX2 := Lib.hid (((Ext.rf wr).al (.cells #[.int .i64 x1, .int .i64 ix] 39)).drN nq)
        have HLA2 := Lib.hid (HLA.out.ext HX2.out)
        have HIO2 := Lib.hid (HIO.out.ext HX2.out)
        have HRC2 := Lib.hid (HRC.out.ext HX2.out)
        have HBX2 := Lib.hid (HX2.out.hp HBX.out)
        have HSZ2 : Hid (lb ≤ ((wr.alloc (.cells #[.int .i64 x1, .int .i64 ix] 39)).drewN nq).heap.size ∧ cb < ((wr.alloc (.cells #[.int .i64 x1, .int .i64 ix] 39)).drewN nq).heap.size) := Lib.hid (by have := HSZ.out; have := HX2.out.sz; omega)
        generalize (wr.alloc (.cells #[.int .i64 x1, .int .i64 ix] 39)).drewN nq = wz at *
        clear HLA HIO HRC HBX HSZ y0 yy1 hcx c0 c1
        go_wp2
        go_roundg (N - (i + 1))
        case measure => omega
        case rel => exact ⟨i + 1, by omega, by omega, by go_num, ⟨hd, (show LatO _ _ _ _ _ _ from HLA2.out.congr (fun a ha => mixJ_no HNO.out)), HNC⟩, HIO2, HRC2, HBX2, HSZ2⟩
     ·have hliz : ¬ (i : Int) < (N : Int) := by omega
      obtain rfl : N = i := by omega
      clear hes
      go_wp2
      go_roundg (N - (j + 1))
      case measure => omega
      case rel => exact ⟨j + 1, by omega, by omega, by go_num, ⟨hd, (show LatO _ _ _ _ _ _ from HLA.out.congr (fun a ha => mixJ_all ha))⟩, HIO, (show _ ≤ _ from HSZ.out.1)⟩
   ·have hltz : ¬ (j : Int) < (N : Int) := by omega
    obtain rfl : N = j := by omega
    have HLA := Lib.hid HLA.out
    have HIO := Lib.hid HIO.out
    clear HSZ
    obtain ⟨wo, rfl⟩ : ∃ x, x = wr := ⟨_, rfl⟩
    have HI0 : Hid (EoI wo (wo.alloc (.cells #[.slice none 0 0] 32)) N ((ordM t).take 0)) := Lib.hid ⟨_, fun _ => undef, heap_alloc_new _ _, by rw [List.take_zero]; exact OwnRel.nil _ _ _ _, (Ext.rf wo).al _, by simp⟩
    have HLN : Hid ((ordM t).length = N) := Lib.hid (by rw [ordM_len, HNE.out])
    have HTK : Hid (∀ k, k < N → (ordM t).take (k + 1) = (ordM t).take k ++ [wordOf (laterJ t N k)]) := Lib.hid (fun k hk => by
     rw [ordM_take (by rw [HNE.out]; exact hk), ← laterJ_all, HNE.out])
    have HJL := Lib.hid (fun k => laterJ_len t N k)
    have HJT := Lib.hid (fun k j (h : j ∈ laterJ t N k) => laterJ_lt h)
    obtain ⟨is, his, sz0, sz1, sz2⟩ := info_partsS info_setR
    clear hlt hltz
    go_wp2
    generalize wo.alloc (.cells #[.slice none 0 0] 32) = w9 at *
    go_loopg [75] N (fun g s75 wr => ∃ k : Nat, k ≤ N ∧ N - k ≤ g ∧ s75 = .int .i64 k ∧ Aside (EoI wo wr N ((ordM t).take k)))
    case atStart => exact ⟨0, Nat.zero_le _, by omega, rfl, (show EoI _ _ _ _ from HI0.out)⟩
    case round =>
     obtain ⟨k, hk, hg, rfl, HI⟩ := hrel
     clear HI0
     obtain ⟨v, vw, hb, ho, hX, hs2⟩ := HI.out
     have hMl : ((ordM t).take k).length = k := by rw [List.length_take, HLN.out]; omega
     generalize hM : (ordM t).take k = M at *
     have HM := Lib.hid hM
     obtain ⟨va, vc, hv⟩ := ho.any
     rw [hMl] at hv
     subst hv
     have HB := Lib.hid hb
     have HO := Lib.hid ho
     have HX := Lib.hid hX
     have s0 := cellOf hb 0
     have f0 := freeOf hb 0
     simp only [List.getElem?_toArray, List.getElem?_cons_zero] at s0
     clear hb ho hX hM
     by_cases hlt : k < N
     ·have hltz : (k : Int) < (N : Int) := by omega
      have hkz : (0 : Int) ≤ (k : Int) := by omega
      have hdr := HX.out.cl ((HLA.out.row.cell k (by omega)).trans (hd_at hlt))
      rw [Nat.zero_add] at hdr
      obtain ⟨ha, hc, hhd, _⟩ := (HLA.out.rows k hlt).any
      have HIN := Lib.hid ((HLA.out.rows k hlt).ints)
      rw [hhd] at hdr HIN
      have HOC := Lib.hid (fun W (hW : Ext wo W) => of_calls N (.slice ha (laterJ t N k).length hc) (laterJ t N k) W (HIN.out.ext hW) (by omega) (by omega) (by have := HJL.out k; omega) (fun j hj => HJT.out k j hj))
      have HTK1 := Lib.hid (HTK.out k hlt)
      rw [HM.out] at HTK1
      have hjl := HJL.out k
      generalize (laterJ t N k).length = jl at *
      generalize wordOf (laterJ t N k) = m at *
      go_wp2_with fail
      refine (HOC.out _ HX.out).mono ?_
      rintro e w6 ⟨u, rfl, hR6, hX6⟩
      obtain ⟨ub, uo, uc, rfl, hub, hus, huc⟩ := hR6.shape (by decide)
      have HX7 := Lib.hid (HX.out.trans' (hX6.al (.cells #[.int .i64 (N : Int), .slice (some ⟨ub, uo, none⟩) 1 uc] 42)))
      have HO7 := Lib.hid (HO.out.ext (hX6.al (.cells #[.int .i64 (N : Int), .slice (some ⟨ub, uo, none⟩) 1 uc] 42)))
      have HB7 := Lib.hid ((hX6.al (.cells #[.int .i64 (N : Int), .slice (some ⟨ub, uo, none⟩) 1 uc] 42)).hp HB.out)
      have HU7 := Lib.hid ((hR6.mono hs2).al (.cells #[.int .i64 (N : Int), .slice (some ⟨ub, uo, none⟩) 1 uc] 42))
      have HS7 := Lib.hid (heap_alloc_new w6 (.cells #[.int .i64 (N : Int), .slice (some ⟨ub, uo, none⟩) 1 uc] 42))
      have HUD : Hid (∀ i, i < M.length → (vw i).ownBlock ≠ some ub) := Lib.hid (fun i hi e => by
       have := ((HO.out.word i hi).lt ub e).2; omega)
      have hs7 : wo.heap.size + 1 ≤ (w6.alloc (.cells #[.int .i64 (N : Int), .slice (some ⟨ub, uo, none⟩) 1 uc] 42)).heap.size := by have := hX6.sz; rw [World.size_alloc]; omega
      clear hX6 hR6 hub hus s0 f0 hdr
      go_upto_region 24 with (fail)
      generalize hw7 : w6.alloc (.cells #[.int .i64 (N : Int), .slice (some ⟨ub, uo, none⟩) 1 uc] 42) = w7 at *
      generalize hsb : w6.heap.size = sb at *
      clear hw7 hsb
      have s0 := cellOf HB7.out 0
      have f0 := freeOf HB7.out 0
      have x0 := cellOf HS7.out 0
      have x1 := cellOf HS7.out 1
      simp only [List.getElem?_toArray, List.getElem?_cons_zero, List.getElem?_cons_succ] at s0 x0 x1
      obtain ⟨cs, hr, hcs⟩ := HO7.out.row
      rw [hMl] at hr hcs
      have HR := Lib.hid hr
      have HCS := Lib.hid hcs
      have HE8 := Lib.hid ((Ext.rf w7).al (.cells #[.int .i64 (N : Int), .slice (some ⟨ub, uo, none⟩) 1 uc] 42))
      clear hr hcs
      go_wp2_with ((at_builtin; go_loud (refine wpList_append_one rfl _ _ 30 rfl (wo.heap.size + 1) 42 is (.agg #[.int .i64 0, .slice none 0 0]) 2 32 Tryz.underlying30 his sz0 sz1 sz2 rfl (by decide) _ k cs rfl (HR.out.al _) w7.heap.size 1 [.int .i64 (N : Int), .slice (some ⟨ub, uo, none⟩) 1 uc] rfl rfl ⟨_, heap_alloc_new _ _⟩ (by simp [Value.oneCell']) (by unfold maxLen; omega) (by omega) (by simp; omega) ?_; intro v8 w8 hown8 hgrow8 hblk8; obtain ⟨a8, c8, e8, _⟩ := hown8.any; subst e8; have HOWN := Lib.hid hown8; have HGR := Lib.hid hgrow8; have HB8 := Lib.hid (heap_keptR (HE8.out.hp HB7.out) hgrow8 (fun q hq => by have := (HR.out.lt q hq).1; omega)); have e0 := cellOf HB8.out 0; have f8 := freeOf HB8.out 0; simp only [List.getElem?_toArray, List.getElem?_cons_zero] at e0; clear hown8 hgrow8 hblk8)))
      have hsn := OwnRel.snoc (M := M) (m := m) (N := N) (by rw [hMl]; exact HR.out.ext HE8.out) (by rw [hMl]; exact HCS.out) (fun j hj => (HO7.out.word j hj).ext HE8.out) HO7.out.dis (HU7.out.ext HE8.out) (fun i hi e => HUD.out i hi (by rw [e]; rfl)) HGR.out (by rw [hMl]; exact HOWN.out)
      have HSN := Lib.hid hsn
      clear hsn
      go_roundg (N - (k + 1))
      case measure => omega
      case rel =>
       refine ⟨k + 1, by omega, by omega, by go_num, (show EoI _ _ _ _ from ⟨.slice a8 (k + 1) c8, updR vw M.length (.slice (some ⟨ub, uo, none⟩) 1 uc), ?_, ?_, ?_, ?_⟩)⟩
       ·rw [heap_setCell_same HB8.out]; simp
       ·rw [HTK1.out]
        exact HSN.out.stO HB8.out (by decide) (by decide) _
       ·exact ((HX7.out.trans' HE8.out).gr HGR.out (fun q hq => by have := (HR.out.lt q hq).1; omega)).st (by show wo.heap.size ≤ wo.heap.size; omega) _
       ·rw [size_setCell]
        exact Nat.le_trans (Nat.le_trans hs7 HE8.out.sz) HGR.out.size
     ·have hltz : ¬ (k : Int) < (N : Int) := by omega
      obtain rfl : N = k := by omega
      have HR1 := Lib.hid (HX.out.hp HIO.out.rb)
      have r0 := cellOf HR1.out 0
      have fr0 := freeOf HR1.out 0
      simp only [List.getElem?_toArray, List.getElem?_cons_zero] at r0
      go_wp2
      have z0 := cellOf (heap_setCell_same (o := 0) (u := .slice va N vc) HR1.out) 0
      simp only [Array.setIfInBounds, List.size_toArray, List.length_cons, List.length_nil, Nat.zero_lt_succ] at z0
      refine bodyPost_ret (v := .tuple #[.agg #[.slice va N vc], .int .i64 0]) (by simp [results, Tryz.results10, go_sem, z0]) rfl ?_
      have hO := HO.out
      rw [← HM.out, show (ordM t).take N = ordM t from by rw [← HLN.out]; exact List.take_length] at hO
      refine ⟨_, rfl, ⟨vw, ?_⟩, (HIO.out.x.trans' HX.out).st (by show w.heap.size ≤ w.heap.size + 1; omega) _⟩
      rw [HNE.out]
      exact (hO.mono (by have := HIO.out.x.sz; omega)).stO HR1.out (by decide) (by decide) _
end Go.Proofs.YtbpdbikphlhaiaaGreatDoor
namespace Go.Proofs.YtbpdbikphlhaiaaGreatDoor
open Go.RowKit
set_option linter.unusedVariables false
attribute [local go_sem ↓] Go.wp_at_zero Go.wp_at_succ
theorem ints_nilN (w : World) : Ints w (.slice none 0 0) (intsN []) := (Row.mkNil w 0 3 1).ints
set_option maxHeartbeats 4000000 in
set_option maxRecDepth 100000 in
theorem pempty_calls (a : Option Addr) (N c : Nat) (w : World) (hN : 1 ≤ N) (hN2 : N ≤ 60) :
  Calls Tryz.prog 96 #[.agg #[.slice a N c]] w fun e w' => ∃ u, e = .returned (.agg #[.int .i64 (N : Int), u]) ∧ Row w' w.heap.size 78 1 u 1 [.int .u64 ((0 : Nat) : Int)] ∧ Ext w w' := by
 have HOC := Lib.hid (fun W => of_calls N (.slice none 0 0) [] W (ints_nilN W) hN (by omega) (by simp) (fun j hj => absurd hj (by simp)))
 have HX0 := Lib.hid (((Ext.rf _).al (.cells #[.int .i64 0, .slice none 0 0] 42)).hp (heap_alloc_new w (.cells #[.slice a N c] 32)))
 have HX1 := Lib.hid (heap_new_eq (w := w.alloc (.cells #[.slice a N c] 32)) (o := .cells #[.int .i64 0, .slice none 0 0] 42) (b := w.heap.size + 1) (by simp))
 have HE2 := Lib.hid (((Ext.rf w).al (.cells #[.slice a N c] 32)).al (.cells #[.int .i64 0, .slice none 0 0] 42))
 go_enter Tryz.func96, Tryz.ntmps96
 go_upto_region 1 with (fail)
 generalize (w.alloc (.cells #[.slice a N c] 32)).alloc (.cells #[.int .i64 0, .slice none 0 0] 42) = w2 at *
 have t0 := cellOf HX0.out 0
 simp only [List.getElem?_toArray, List.getElem?_cons_zero] at t0
 go_wp2_with fail
 refine (HOC.out _).mono ?_
 rintro e w3 ⟨u, rfl, hR3, hX3⟩
 obtain ⟨ub, uo, uc, rfl, hub, hus, huc⟩ := hR3.shape (by decide)
 have HE3 := Lib.hid (HE2.out.trans' hX3)
 have HR3 := Lib.hid (hR3.mono HE2.out.sz)
 have HRB := Lib.hid (hX3.hp HX1.out)
 have HE4 := Lib.hid ((Ext.rf w3).al (.cells #[.int .i64 (N : Int), .slice (some ⟨ub, uo, none⟩) 1 uc] 42))
 have r0 := cellOf HRB.out 0
 have r1 := cellOf HRB.out 1
 have f0 := freeOf HRB.out 0
 have f1 := freeOf HRB.out 1
 have hbw : w.heap.size + 1 < w3.heap.size := (Array.getElem?_eq_some_iff.1 HRB.out).1
 simp only [List.getElem?_toArray, List.getElem?_cons_zero, List.getElem?_cons_succ] at r0 r1
 clear t0 hX3 hR3
 go_wp2
 have e1 := ((Ext.rf _).al (.cells #[.int .i64 (N : Int), .slice (some ⟨ub, uo, none⟩) 1 uc] 42)).hp (heap_setCell_same (o := 1) (u := .slice (some ⟨ub, uo, none⟩) 1 uc) (heap_setCell_same (o := 0) (u := .int .i64 (N : Int)) HRB.out))
 have z0 := cellOf e1 0
 have z1 := cellOf e1 1
 simp only [Array.setIfInBounds, List.size_toArray, List.length_cons, List.length_nil, Nat.zero_lt_succ] at z0 z1
 refine bodyPost_ret (v := .agg #[.int .i64 (N : Int), .slice (some ⟨ub, uo, none⟩) 1 uc]) (by simp [results, Tryz.results96, go_sem, z0, z1]) rfl ⟨_, rfl, ?_, ?_⟩
 ·exact ((HR3.out.stT HRB.out (by decide) _).stT (heap_setCell_same HRB.out) (by decide) _).al _
 ·exact ((HE3.out.st (p := ⟨w.heap.size + 1, 0, none⟩) (by show w.heap.size ≤ w.heap.size + 1; omega) _).st (p := ⟨w.heap.size + 1, 1, none⟩) (by show w.heap.size ≤ w.heap.size + 1; omega) _).al _
theorem upTo_snoc (M : List Nat) (l : List Nat) (i : Nat) : upTo M (l ++ [i]) = orW (upTo M l) M[i]! := by unfold upTo orW; rw [List.foldl_append]; rfl
theorem upTo_bnd {N : Nat} {M : List Nat} (h : BndM N M) : ∀ l, upTo M l < 2 ^ N := by
 have key : ∀ (l : List Nat) (m : Nat), m < 2 ^ N → l.foldl (fun m i => m ||| M[i]!) m < 2 ^ N := by
  intro l
  induction l with
  | nil => intro m hm; exact hm
  | cons i l ih => intro m hm; rw [List.foldl_cons]; exact ih _ (Nat.or_lt_two_pow hm (h i))
 exact fun l => key l 0 (Nat.two_pow_pos N)
set_option maxHeartbeats 8000000 in
set_option maxRecDepth 100000 in
theorem above_calls (v : Value) (N b o cs s : Nat) (M : List Nat) (w : World) (h : Sl (RSet N) 2 w v M) (hl : M.length = N) (hb : BndM N M) (hN : 1 ≤ N) (hN2 : N ≤ 60) (hs : w.cell? ⟨b, o, none⟩ = some (.int .u64 (s : Int))) (hcs : 1 ≤ cs) (hsb : s < 2 ^ N) (hT : TabG w) :
  Calls Tryz.prog 78 #[.agg #[v], .agg #[.int .i64 (N : Int), .slice (some ⟨b, o, none⟩) 1 cs]] w fun e w' => ∃ u, e = .returned (.agg #[.int .i64 (N : Int), u]) ∧ Row w' w.heap.size 78 1 u 1 [.int .u64 (upTo M (membW s N) : Int)] ∧ Ext w w' := by
 have HS := Lib.hid h
 have HB := Lib.hid hb
 have HUB := Lib.hid (upTo_bnd hb)
 have HMC := Lib.hid (fun W (hW : Ext w W) => members_calls N b o cs s W (hW.cl hs) hcs hN (by omega) hsb (hT.ext hW))
 obtain ⟨a, c, rfl, hlc⟩ := h.sh
 have HLN := Lib.hid hl
 rw [hl] at HS hlc ⊢
 have HPE := Lib.hid (fun W => pempty_calls a N c W hN hN2)
 have HX0 := Lib.hid ((((Ext.rf _).al (.cells #[.int .i64 (N : Int), .slice (some ⟨b, o, none⟩) 1 cs] 42)).al (.cells #[.int .i64 0, .slice none 0 0] 42)).hp (heap_alloc_new w (.cells #[.slice a N c] 32)))
 have HX1 := Lib.hid (((Ext.rf _).al (.cells #[.int .i64 0, .slice none 0 0] 42)).hp (heap_new_eq (w := w.alloc (.cells #[.slice a N c] 32)) (o := .cells #[.int .i64 (N : Int), .slice (some ⟨b, o, none⟩) 1 cs] 42) (b := w.heap.size + 1) (by simp)))
 have HX2 := Lib.hid (heap_new_eq (w := (w.alloc (.cells #[.slice a N c] 32)).alloc (.cells #[.int .i64 (N : Int), .slice (some ⟨b, o, none⟩) 1 cs] 42)) (o := .cells #[.int .i64 0, .slice none 0 0] 42) (b := w.heap.size + 2) (by simp))
 have HE2 := Lib.hid ((((Ext.rf w).al (.cells #[.slice a N c] 32)).al (.cells #[.int .i64 (N : Int), .slice (some ⟨b, o, none⟩) 1 cs] 42)).al (.cells #[.int .i64 0, .slice none 0 0] 42))
 clear h hl hb hs hsb hT
 go_enter Tryz.func78, Tryz.ntmps78
 go_upto_region 1 with (fail)
 generalize ((w.alloc (.cells #[.slice a N c] 32)).alloc (.cells #[.int .i64 (N : Int), .slice (some ⟨b, o, none⟩) 1 cs] 42)).alloc (.cells #[.int .i64 0, .slice none 0 0] 42) = w2 at *
 have t0 := cellOf HX0.out 0
 simp only [List.getElem?_toArray, List.getElem?_cons_zero] at t0
 go_wp2_with fail
 refine (HPE.out _).mono ?_
 rintro e w3 ⟨u, rfl, hR3, hX3⟩
 obtain ⟨ub, uo, uc, rfl, hub, hus, huc⟩ := hR3.shape (by decide)
 have HE3 := Lib.hid (HE2.out.trans' hX3)
 have HR3 := Lib.hid ((hR3.mono HE2.out.sz).al (.cells #[.int .i64 (N : Int), .slice (some ⟨ub, uo, none⟩) 1 uc] 42))
 have HX0 := Lib.hid (((Ext.rf w3).al (.cells #[.int .i64 (N : Int), .slice (some ⟨ub, uo, none⟩) 1 uc] 42)).hp (hX3.hp HX0.out))
 have HX1 := Lib.hid (((Ext.rf w3).al (.cells #[.int .i64 (N : Int), .slice (some ⟨ub, uo, none⟩) 1 uc] 42)).hp (hX3.hp HX1.out))
 have HX2 := Lib.hid (((Ext.rf w3).al (.cells #[.int .i64 (N : Int), .slice (some ⟨ub, uo, none⟩) 1 uc] 42)).hp (hX3.hp HX2.out))
 have HX3 := Lib.hid (heap_alloc_new w3 (.cells #[.int .i64 (N : Int), .slice (some ⟨ub, uo, none⟩) 1 uc] 42))
 have HE4 := Lib.hid (HE3.out.al (.cells #[.int .i64 (N : Int), .slice (some ⟨ub, uo, none⟩) 1 uc] 42))
 clear t0 hX3 hR3
 go_upto_region 2 with (fail)
 generalize w3.alloc (.cells #[.int .i64 (N : Int), .slice (some ⟨ub, uo, none⟩) 1 uc] 42) = w4 at *
 have hD2 : w.heap.size + 2 < w4.heap.size := (Array.getElem?_eq_some_iff.1 HX2.out).1
 generalize hDD : w3.heap.size = D at *
 have HDU := Lib.hid hus
 have hDs : D < w4.heap.size := (Array.getElem?_eq_some_iff.1 HX3.out).1
 have HD3 : Hid (w.heap.size + 2 ≠ D) := Lib.hid (fun e => by
  have h2 := HX2.out
  rw [e, HX3.out] at h2
  simp only [Option.some.injEq, Obj.cells.injEq, Array.mk.injEq, List.cons.injEq, Value.int.injEq, true_and, and_true] at h2
  omega)
 clear hDD
 have x0 := cellOf HX1.out 0
 have x1 := cellOf HX1.out 1
 simp only [List.getElem?_toArray, List.getElem?_cons_zero, List.getElem?_cons_succ] at x0 x1
 go_wp2_with fail
 refine (HMC.out _ HE4.out).mono ?_
 rintro e w5 ⟨mv, rfl, hR5, hX5⟩
 obtain ⟨ma, mc, rfl, _, hms⟩ := hR5.any
 have HE5 := Lib.hid (HE4.out.trans' hX5)
 have HX0 := Lib.hid (hX5.hp HX0.out)
 have HX2 := Lib.hid (hX5.hp HX2.out)
 have HX3 := Lib.hid (hX5.hp HX3.out)
 have HR5 := Lib.hid (HR3.out.ext hX5)
 obtain ⟨L, hL⟩ : ∃ L, membW s N = L := ⟨_, rfl⟩
 have hll := membW_len s N
 have HLT : Hid (∀ j ∈ membW s N, j < N) := Lib.hid (fun j hj => membW_lt hj)
 rw [hL] at hR5 HLT hll ⊢
 have HLE := Lib.hid hL
 clear hL
 obtain ⟨ll, hLl⟩ : ∃ ll, L.length = ll := ⟨_, rfl⟩
 rw [hLl] at hR5 hll ⊢
 have HM5 := Lib.hid (hR5.mono HE4.out.sz)
 have HLL := Lib.hid hLl
 clear hX5 hR5 hms hLl x0 x1
 go_wp2
 go_loopg [19] ll (fun g s19 wr => ∃ k : Nat, k ≤ ll ∧ ll - k ≤ g ∧ s19 = .int .i64 k ∧ (∃ ub uo uc : Nat, Aside (Row wr w.heap.size 78 1 (.slice (some ⟨ub, uo, none⟩) 1 uc) 1 [.int .u64 (upTo M (L.take k) : Int)]) ∧ Aside (wr.heap[D]? = some (.cells #[.int .i64 (N : Int), .slice (some ⟨ub, uo, none⟩) 1 uc] 42)) ∧ Aside (1 ≤ uc)) ∧ Aside (wr.heap[w.heap.size]? = some (.cells #[.slice a N c] 32)) ∧ Aside (wr.heap[w.heap.size + 2]? = some (.cells #[.int .i64 0, .slice none 0 0] 42)) ∧ Aside (Row wr w.heap.size 3 1 (.slice ma ll mc) ll ((intsN L).map (Value.int .i64))) ∧ Aside (Ext w wr))
 case atStart => exact ⟨0, Nat.zero_le _, by omega, rfl, ⟨ub, uo, uc, (show Row _ _ _ _ _ _ _ from HR5.out), HX3, huc⟩, HX0, HX2, HM5, HE5⟩
 case round =>
  obtain ⟨k, hk, hg, rfl, ⟨ub, uo, uc, HR, HXD, HUC⟩, HXA, HXR, HRM, HEK⟩ := hrel
  have r0 := cellOf HXR.out 0
  have r1 := cellOf HXR.out 1
  have f0 := freeOf HXR.out 0
  have f1 := freeOf HXR.out 1
  have d0 := cellOf HXD.out 0
  have d1 := cellOf HXD.out 1
  have a0 := cellOf HXA.out 0
  simp only [List.getElem?_toArray, List.getElem?_cons_zero, List.getElem?_cons_succ] at r0 r1 d0 d1 a0
  by_cases hlk : k < ll
  ·have hlkz : (k : Int) < (ll : Int) := by omega
   have hkz : (0 : Int) ≤ (k : Int) := by omega
   obtain ⟨b3, o3, hmv, hob, hcell⟩ := ints_at HRM.out.ints k (by rw [intsN_len, HLL.out]; exact hlk)
   rw [intsN_at L (by rw [HLL.out]; exact hlk)] at hcell
   subst hmv
   have hkL : k < L.length := by rw [HLL.out]; exact hlk
   have hjm : L[k]! ∈ L := by rw [getElem!_pos L k hkL]; exact List.getElem_mem _
   have hjN := HLT.out _ hjm
   have HTK : Hid (upTo M (L.take (k + 1)) = orW (upTo M (L.take k)) M[L[k]!]!) := Lib.hid (by
    have e : L.take (k + 1) = L.take k ++ [L[k]!] := by rw [List.take_succ_eq_append_getElem hkL, getElem!_pos L k hkL]
    rw [e, upTo_snoc])
   have hm1 := HUB.out (L.take k)
   generalize L[k]! = j at *
   have hjz : (0 : Int) ≤ (j : Int) := by omega
   have hjNz : (j : Int) < (N : Int) := by omega
   obtain ⟨B, O, C, yb, yo, yc, hve, _, _, k0, k1, yhc, yhb, yh⟩ := rset_at HS.out j (by rw [HLN.out]; omega)
   simp only [Value.slice.injEq] at hve
   obtain ⟨rfl, hzz, rfl⟩ := hve
   clear hzz hkL hjm
   have hjb := HB.out j
   generalize M[j]! = mj at *
   generalize upTo M (L.take k) = mk at *
   have q0 := HEK.out.cl k0
   have q1 := HEK.out.cl k1
   have hu := HR.out.cell 0 (by omega)
   rw [Nat.add_zero] at hu
   simp only [List.getElem?_cons_zero] at hu
   have HUC2 := Lib.hid (fun W (hW : Ext wr W) => unionC_calls N ub uo uc mk yb yo yc mj W (hW.cl hu) (hW.cl (HEK.out.cl yh)) HUC.out yhc hN (by omega) hm1 hjb)
   have hDw : D < wr.heap.size := (Array.getElem?_eq_some_iff.1 HXD.out).1
   clear k0 k1 hu yh
   go_wp2
   go_region_with (refine (HUC2.out _ (by first | exact Ext.rf _ | exact (Ext.rf _).dr | exact (Ext.rf _).dr.dr)).mono ?_; rintro e w7 ⟨u7, rfl, hR7, hX7⟩; obtain ⟨nb, no, nc, rfl, hnb, hns, hnc⟩ := hR7.shape (by decide); have hX7 : Ext wr w7 := (by first | exact hX7 | exact (Ext.rf wr).dr.trans' hX7 | exact (Ext.rf wr).dr.dr.trans' hX7); have HXD7 := Lib.hid (hX7.hp HXD.out); have d0 := cellOf HXD7.out 0; have d1 := cellOf HXD7.out 1; have g0 := freeOf HXD7.out 0; have g1 := freeOf HXD7.out 1; simp only [List.getElem?_toArray, List.getElem?_cons_zero, List.getElem?_cons_succ] at d0 d1)
   all_goals
    have HX7 := Lib.hid hX7
    have HR7 := Lib.hid (hR7.mono (show w.heap.size ≤ _ from by first | exact HEK.out.sz | exact HEK.out.dr.sz | exact HEK.out.dr.dr.sz))
    have HNC := Lib.hid hnc
    clear hX7 hR7 hnb hns hnc q0 q1 a0 r0 r1 f0 f1 d0 d1 g0 g1
    go_wp2
    go_roundg (ll - (k + 1))
   all_goals first
    | omega
    | (refine ⟨k + 1, by omega, by omega, by go_num, ⟨nb, no, nc, (show Row _ _ _ _ _ _ _ from ?_), (show _ = _ from ?_), (show _ ≤ _ from HNC.out)⟩, (show _ = _ from ?_), (show _ = _ from ?_), (show Row _ _ _ _ _ _ _ from ?_), (show Ext _ _ from ?_)⟩
       ·rw [HTK.out]
        exact (HR7.out.stT HXD7.out (by decide) _).stT (heap_setCell_same HXD7.out) (by decide) _
       ·rw [heap_setCell_same (heap_setCell_same HXD7.out)]; simp
       ·rw [Below.heap_setCell _ ⟨D, 1, none⟩ _ _ (by have := HDU.out; have := HE2.out.sz; simp only; omega), Below.heap_setCell _ ⟨D, 0, none⟩ _ _ (by have := HDU.out; have := HE2.out.sz; simp only; omega)]
        exact HX7.out.hp HXA.out
       ·rw [Below.heap_setCell _ ⟨D, 1, none⟩ _ _ HD3.out, Below.heap_setCell _ ⟨D, 0, none⟩ _ _ HD3.out]
        exact HX7.out.hp HXR.out
       ·exact ((HRM.out.ext HX7.out).stT HXD7.out (by decide) _).stT (heap_setCell_same HXD7.out) (by decide) _
       ·exact ((HEK.out.trans' HX7.out).st (p := ⟨D, 0, none⟩) (by have := HDU.out; have := HE2.out.sz; show w.heap.size ≤ D; omega) _).st (p := ⟨D, 1, none⟩) (by have := HDU.out; have := HE2.out.sz; show w.heap.size ≤ D; omega) _)
  ·have hlkz : ¬ (k : Int) < (ll : Int) := by omega
   obtain rfl : ll = k := by omega
   clear a0
   go_wp2
   have e1 := heap_setCell_same (o := 1) (u := .slice (some ⟨ub, uo, none⟩) 1 uc) (heap_setCell_same (o := 0) (u := .int .i64 (N : Int)) HXR.out)
   have z0 := cellOf e1 0
   have z1 := cellOf e1 1
   simp only [Array.setIfInBounds, List.size_toArray, List.length_cons, List.length_nil, Nat.zero_lt_succ] at z0 z1
   refine bodyPost_ret (v := .agg #[.int .i64 (N : Int), .slice (some ⟨ub, uo, none⟩) 1 uc]) (by simp [results, Tryz.results78, go_sem, z0, z1]) rfl ⟨_, rfl, ?_, ?_⟩
   ·have hR := HR.out
    rw [show L.take ll = L from by rw [← HLL.out]; exact List.take_length] at hR
    rw [HLE.out]
    exact (hR.stT HXR.out (by decide) _).stT (heap_setCell_same HXR.out) (by decide) _
   ·exact (HEK.out.st (p := ⟨w.heap.size + 2, 0, none⟩) (by show w.heap.size ≤ w.heap.size + 2; omega) _).st (p := ⟨w.heap.size + 2, 1, none⟩) (by show w.heap.size ≤ w.heap.size + 2; omega) _
end Go.Proofs.YtbpdbikphlhaiaaGreatDoor
namespace Go.Proofs.YtbpdbikphlhaiaaGreatDoor
open Go.RowKit
set_option linter.unusedVariables false
attribute [local go_sem ↓] Go.wp_at_zero Go.wp_at_succ
set_option maxHeartbeats 4000000 in
set_option maxRecDepth 100000 in
theorem pmatching_calls (v : Value) (N b o cs s : Nat) (M : List Nat) (w : World) (h : Sl (RSet N) 2 w v M) (hp : PosM N M) (hN : 1 ≤ N) (hN2 : N ≤ 60) (hs : w.cell? ⟨b, o, none⟩ = some (.int .u64 (s : Int))) (hsb : s < 2 ^ N) (hT : TabG w) :
  Calls Tryz.prog 55 #[.agg #[v], .agg #[.int .i64 (N : Int), .slice (some ⟨b, o, none⟩) 1 cs]] w fun e w' => e = .returned (.bool true) ∧ Ext w w' := by
 have HVC := Lib.hid (fun W (hW : Ext w W) => pvalid_calls v N M W (h.ext (rset_lasts N) hW) hp hN2 (hT.ext hW))
 have HBC := Lib.hid (fun W (hW : Ext w W) => bvalid_calls N b o cs s W (hW.cl hs) hN (by omega) hsb)
 obtain ⟨a, c, rfl, hlc⟩ := h.sh
 rw [hp.len] at HVC hlc ⊢
 have HX0 := Lib.hid (((Ext.rf _).al (.cells #[.int .i64 (N : Int), .slice (some ⟨b, o, none⟩) 1 cs] 42)).hp (heap_alloc_new w (.cells #[.slice a N c] 32)))
 have HX1 := Lib.hid (heap_new_eq (w := w.alloc (.cells #[.slice a N c] 32)) (o := .cells #[.int .i64 (N : Int), .slice (some ⟨b, o, none⟩) 1 cs] 42) (b := w.heap.size + 1) (by simp))
 have HE2 := Lib.hid (((Ext.rf w).al (.cells #[.slice a N c] 32)).al (.cells #[.int .i64 (N : Int), .slice (some ⟨b, o, none⟩) 1 cs] 42))
 clear h hp hs hsb hT
 go_enter Tryz.func55, Tryz.ntmps55
 go_upto_region 1 with (fail)
 generalize (w.alloc (.cells #[.slice a N c] 32)).alloc (.cells #[.int .i64 (N : Int), .slice (some ⟨b, o, none⟩) 1 cs] 42) = w2 at *
 have a0 := cellOf HX0.out 0
 have x0 := cellOf HX1.out 0
 have x1 := cellOf HX1.out 1
 simp only [List.getElem?_toArray, List.getElem?_cons_zero, List.getElem?_cons_succ] at a0 x0 x1
 go_wp2_with fail
 refine (HVC.out _ HE2.out).mono ?_
 rintro e w3 ⟨rfl, hX3⟩
 have HE3 := Lib.hid (HE2.out.trans' hX3)
 have a0 := hX3.cl a0
 have x0 := hX3.cl x0
 have x1 := hX3.cl x1
 clear hX3
 go_wp2_with fail
 refine (HBC.out _ HE3.out).mono ?_
 rintro e w4 ⟨rfl, hX4⟩
 have HE4 := Lib.hid (HE3.out.trans' hX4)
 have a0 := hX4.cl a0
 have x0 := hX4.cl x0
 clear hX4
 go_wp2
 go_ret
 exact ⟨rfl, HE4.out⟩
set_option maxHeartbeats 8000000 in
set_option maxRecDepth 100000 in
theorem up_calls (v : Value) (N b o cs s : Nat) (M : List Nat) (w : World) (h : Sl (RSet N) 2 w v M) (hp : PosM N M) (hN : 1 ≤ N) (hN2 : N ≤ 60) (hs : w.cell? ⟨b, o, none⟩ = some (.int .u64 (s : Int))) (hcs : 1 ≤ cs) (hsb : s < 2 ^ N) (hT : TabG w) :
  Calls Tryz.prog 57 #[.agg #[v], .agg #[.int .i64 (N : Int), .slice (some ⟨b, o, none⟩) 1 cs]] w fun e w' => ∃ u, e = .returned (.tuple #[.agg #[.int .i64 (N : Int), u], .int .i64 0]) ∧ Row w' w.heap.size 78 1 u 1 [.int .u64 (orW s (upTo M (membW s N)) : Int)] ∧ Ext w w' := by
 have HMC := Lib.hid (fun W (hW : Ext w W) => pmatching_calls v N b o cs s M W (h.ext (rset_lasts N) hW) hp hN hN2 (hW.cl hs) hsb (hT.ext hW))
 have HAC := Lib.hid (fun W (hW : Ext w W) => above_calls v N b o cs s M W (h.ext (rset_lasts N) hW) hp.len hp.bnd hN hN2 (hW.cl hs) hcs hsb (hT.ext hW))
 have hub := upTo_bnd hp.bnd (membW s N)
 have HUC := Lib.hid (fun W (hW : Ext w W) (b2 o2 c2 : Nat) (h2 : W.cell? ⟨b2, o2, none⟩ = some (.int .u64 (upTo M (membW s N) : Int))) (hc2 : 1 ≤ c2) => unionC_calls N b o cs s b2 o2 c2 _ W (hW.cl hs) h2 hcs hc2 hN (by omega) hsb hub)
 generalize orW s (upTo M (membW s N)) = r at *
 generalize upTo M (membW s N) = m at *
 obtain ⟨a, c, rfl, hlc⟩ := h.sh
 rw [hp.len] at HMC HAC hlc ⊢
 have HX0 := Lib.hid ((((Ext.rf _).al (.cells #[.int .i64 (N : Int), .slice (some ⟨b, o, none⟩) 1 cs] 42)).al (.cells #[.int .i64 0, .slice none 0 0] 42)).hp (heap_alloc_new w (.cells #[.slice a N c] 32)))
 have HX1 := Lib.hid (((Ext.rf _).al (.cells #[.int .i64 0, .slice none 0 0] 42)).hp (heap_new_eq (w := w.alloc (.cells #[.slice a N c] 32)) (o := .cells #[.int .i64 (N : Int), .slice (some ⟨b, o, none⟩) 1 cs] 42) (b := w.heap.size + 1) (by simp)))
 have HX2 := Lib.hid (heap_new_eq (w := (w.alloc (.cells #[.slice a N c] 32)).alloc (.cells #[.int .i64 (N : Int), .slice (some ⟨b, o, none⟩) 1 cs] 42)) (o := .cells #[.int .i64 0, .slice none 0 0] 42) (b := w.heap.size + 2) (by simp))
 have HE2 := Lib.hid ((((Ext.rf w).al (.cells #[.slice a N c] 32)).al (.cells #[.int .i64 (N : Int), .slice (some ⟨b, o, none⟩) 1 cs] 42)).al (.cells #[.int .i64 0, .slice none 0 0] 42))
 clear h hp hs hsb hT hub
 go_enter Tryz.func57, Tryz.ntmps57
 go_upto_region 1 with (fail)
 generalize ((w.alloc (.cells #[.slice a N c] 32)).alloc (.cells #[.int .i64 (N : Int), .slice (some ⟨b, o, none⟩) 1 cs] 42)).alloc (.cells #[.int .i64 0, .slice none 0 0] 42) = w2 at *
 have a0 := cellOf HX0.out 0
 have x0 := cellOf HX1.out 0
 have x1 := cellOf HX1.out 1
 simp only [List.getElem?_toArray, List.getElem?_cons_zero, List.getElem?_cons_succ] at a0 x0 x1
 go_wp2_with fail
 refine (HMC.out _ HE2.out).mono ?_
 rintro e w3 ⟨rfl, hX3⟩
 have HE3 := Lib.hid (HE2.out.trans' hX3)
 have a0 := hX3.cl a0
 have x0 := hX3.cl x0
 have x1 := hX3.cl x1
 have HX0 := Lib.hid (hX3.hp HX0.out)
 have HX1 := Lib.hid (hX3.hp HX1.out)
 have HX2 := Lib.hid (hX3.hp HX2.out)
 clear hX3
 go_wp2
 go_region_with (first | (go_at_call 78; refine (HAC.out _ (by first | exact HE3.out | exact HE3.out.dr | exact HE3.out.dr.dr)).mono ?_; rintro e w7 ⟨u7, rfl, hR7, hX7⟩; obtain ⟨nb, no, nc, rfl, hnb, hns, hnc⟩ := hR7.shape (by decide); have hX7 : Ext w3 w7 := (by first | exact hX7 | exact (Ext.rf w3).dr.trans' hX7 | exact (Ext.rf w3).dr.dr.trans' hX7); have HX7 := Lib.hid hX7; have HC7 := Lib.hid (show w7.cell? ⟨nb, no, none⟩ = some (.int .u64 (m : Int)) from by simpa using hR7.cell 0 (by omega)); have y0 := hX7.cl a0; have y1 := hX7.cl x0; have y2 := hX7.cl x1; clear hX7 hR7) | (go_at_call 77; refine (HUC.out _ (by first | exact HE3.out.trans' HX7.out | exact (HE3.out.trans' HX7.out).dr | exact (HE3.out.trans' HX7.out).dr.dr) nb no nc HC7.out hnc).mono ?_; rintro e w8 ⟨u8, rfl, hR8, hX8⟩; obtain ⟨mb, mo, mc, rfl, hmb, hms, hmc⟩ := hR8.shape (by decide); have hX8 : Ext w7 w8 := (by first | exact hX8 | exact (Ext.rf w7).dr.trans' hX8 | exact (Ext.rf w7).dr.dr.trans' hX8); have HE8 := Lib.hid (HE3.out.trans' (HX7.out.trans' hX8)); have HRB := Lib.hid (hX8.hp (HX7.out.hp HX2.out)); have r0 := cellOf HRB.out 0; have r1 := cellOf HRB.out 1; have f0 := freeOf HRB.out 0; have f1 := freeOf HRB.out 1; simp only [List.getElem?_toArray, List.getElem?_cons_zero, List.getElem?_cons_succ] at r0 r1; have HR8 := Lib.hid (hR8.mono (show w.heap.size ≤ _ from by first | exact (HE3.out.trans' HX7.out).sz | exact ((HE3.out.trans' HX7.out).dr).sz)); clear hX8 hR8))
 all_goals
  go_wp2
  have e1 := heap_setCell_same (o := 1) (u := .slice (some ⟨mb, mo, none⟩) 1 mc) (heap_setCell_same (o := 0) (u := .int .i64 (N : Int)) HRB.out)
  have z0 := cellOf e1 0
  have z1 := cellOf e1 1
  simp only [Array.setIfInBounds, List.size_toArray, List.length_cons, List.length_nil, Nat.zero_lt_succ] at z0 z1
  refine bodyPost_ret (v := .tuple #[.agg #[.int .i64 (N : Int), .slice (some ⟨mb, mo, none⟩) 1 mc], .int .i64 0]) (by first | (simp [results, Tryz.results57, go_sem, z0, z1]; done) | (simp [results, Tryz.results57, go_sem, World.drew, z0, z1]; done)) rfl ⟨_, rfl, ?_, ?_⟩
  ·first
    | exact (HR8.out.stT HRB.out (by decide) _).stT (heap_setCell_same HRB.out) (by decide) _
    | exact ((HR8.out.stT HRB.out (by decide) _).stT (heap_setCell_same HRB.out) (by decide) _).ext (Ext.rf _).dr
  ·first
    | exact (HE8.out.st (p := ⟨w.heap.size + 2, 0, none⟩) (by show w.heap.size ≤ w.heap.size + 2; omega) _).st (p := ⟨w.heap.size + 2, 1, none⟩) (by show w.heap.size ≤ w.heap.size + 2; omega) _
    | exact ((HE8.out.st (p := ⟨w.heap.size + 2, 0, none⟩) (by show w.heap.size ≤ w.heap.size + 2; omega) _).st (p := ⟨w.heap.size + 2, 1, none⟩) (by show w.heap.size ≤ w.heap.size + 2; omega) _).dr
set_option maxHeartbeats 8000000 in
set_option maxRecDepth 100000 in
theorem down_calls (v : Value) (N b o cs s : Nat) (M : List Nat) (w : World) (h : Sl (RSet N) 2 w v M) (hp : PosM N M) (hN : 1 ≤ N) (hN2 : N ≤ 60) (hs : w.cell? ⟨b, o, none⟩ = some (.int .u64 (s : Int))) (hcs : 1 ≤ cs) (hsb : s < 2 ^ N) (hT : TabG w) :
  Calls Tryz.prog 34 #[.agg #[v], .agg #[.int .i64 (N : Int), .slice (some ⟨b, o, none⟩) 1 cs]] w fun e w' => ∃ u, e = .returned (.tuple #[.agg #[.int .i64 (N : Int), u], .int .i64 0]) ∧ Row w' w.heap.size 78 1 u 1 [.int .u64 (orW s (upTo (invM M N) (membW s N)) : Int)] ∧ Ext w w' := by
 have HMC := Lib.hid (fun W (hW : Ext w W) => pmatching_calls v N b o cs s M W (h.ext (rset_lasts N) hW) hp hN hN2 (hW.cl hs) hsb (hT.ext hW))
 have HIC := Lib.hid (fun W (hW : Ext w W) => inverse_calls v N M W (h.ext (rset_lasts N) hW) hp.len hN2 hp.bnd)
 have HPI := Lib.hid (fun (hb : BndM N (invM M N)) => hp.inv hb)
 have HUC := Lib.hid (fun W (hW : Ext w W) (q : Value) (hq : Sl (RSet N) 2 W q (invM M N)) (hpq : PosM N (invM M N)) => up_calls q N b o cs s (invM M N) W hq hpq hN hN2 (hW.cl hs) hcs hsb (hT.ext hW))
 generalize invM M N = Q at *
 generalize orW s (upTo Q (membW s N)) = r at *
 obtain ⟨a, c, rfl, hlc⟩ := h.sh
 rw [hp.len] at HMC HIC hlc ⊢
 have HX0 := Lib.hid ((((Ext.rf _).al (.cells #[.int .i64 (N : Int), .slice (some ⟨b, o, none⟩) 1 cs] 42)).al (.cells #[.int .i64 0, .slice none 0 0] 42)).hp (heap_alloc_new w (.cells #[.slice a N c] 32)))
 have HX1 := Lib.hid (((Ext.rf _).al (.cells #[.int .i64 0, .slice none 0 0] 42)).hp (heap_new_eq (w := w.alloc (.cells #[.slice a N c] 32)) (o := .cells #[.int .i64 (N : Int), .slice (some ⟨b, o, none⟩) 1 cs] 42) (b := w.heap.size + 1) (by simp)))
 have HX2 := Lib.hid (heap_new_eq (w := (w.alloc (.cells #[.slice a N c] 32)).alloc (.cells #[.int .i64 (N : Int), .slice (some ⟨b, o, none⟩) 1 cs] 42)) (o := .cells #[.int .i64 0, .slice none 0 0] 42) (b := w.heap.size + 2) (by simp))
 have HE2 := Lib.hid ((((Ext.rf w).al (.cells #[.slice a N c] 32)).al (.cells #[.int .i64 (N : Int), .slice (some ⟨b, o, none⟩) 1 cs] 42)).al (.cells #[.int .i64 0, .slice none 0 0] 42))
 clear h hp hs hsb hT
 go_enter Tryz.func34, Tryz.ntmps34
 go_upto_region 1 with (fail)
 generalize ((w.alloc (.cells #[.slice a N c] 32)).alloc (.cells #[.int .i64 (N : Int), .slice (some ⟨b, o, none⟩) 1 cs] 42)).alloc (.cells #[.int .i64 0, .slice none 0 0] 42) = w2 at *
 have a0 := cellOf HX0.out 0
 have x0 := cellOf HX1.out 0
 have x1 := cellOf HX1.out 1
 simp only [List.getElem?_toArray, List.getElem?_cons_zero, List.getElem?_cons_succ] at a0 x0 x1
 go_wp2_with fail
 refine (HMC.out _ HE2.out).mono ?_
 rintro e w3 ⟨rfl, hX3⟩
 have HE3 := Lib.hid (HE2.out.trans' hX3)
 have a0 := hX3.cl a0
 have HX1 := Lib.hid (hX3.hp HX1.out)
 have HX2 := Lib.hid (hX3.hp HX2.out)
 clear hX3 x0 x1
 go_wp2_with fail
 refine (HIC.out _ HE3.out).mono ?_
 rintro e w4 ⟨q, vw, rfl, hO4, hb4, hX4⟩
 have hl4 := (HPI.out hb4).len
 have hsl4 := hO4.sl
 obtain ⟨qa, qc, rfl, hqc⟩ := hsl4.sh
 rw [hl4] at hsl4 hO4 ⊢
 have HSL := Lib.hid (hsl4.ext (rset_lasts N) ((Ext.rf w4).al (.cells #[.slice qa N qc] 32)))
 have HPQ := Lib.hid (HPI.out hb4)
 have HE4 := Lib.hid ((HE3.out.trans' hX4).al (.cells #[.slice qa N qc] 32))
 have HX1 := Lib.hid (((Ext.rf w4).al (.cells #[.slice qa N qc] 32)).hp (hX4.hp HX1.out))
 have HX2 := Lib.hid (((Ext.rf w4).al (.cells #[.slice qa N qc] 32)).hp (hX4.hp HX2.out))
 have x0 := cellOf HX1.out 0
 have x1 := cellOf HX1.out 1
 simp only [List.getElem?_toArray, List.getElem?_cons_zero, List.getElem?_cons_succ] at x0 x1
 clear hO4 hb4 hX4 a0 hl4 hsl4 hqc
 go_upto_region 4 with (fail)
 have hD := heap_alloc_new w4 (.cells #[.slice qa N qc] 32)
 generalize w4.alloc (.cells #[.slice qa N qc] 32) = w5 at *
 generalize w4.heap.size = D at *
 have d0 := cellOf hD 0
 simp only [List.getElem?_toArray, List.getElem?_cons_zero] at d0
 clear hD
 go_wp2_with fail
 refine (HUC.out _ HE4.out _ HSL.out HPQ.out).mono ?_
 rintro e w6 ⟨u, rfl, hR6, hX6⟩
 obtain ⟨mb, mo, mc, rfl, hmb, hms, hmc⟩ := hR6.shape (by decide)
 have HE6 := Lib.hid (HE4.out.trans' hX6)
 have HRB := Lib.hid (hX6.hp HX2.out)
 have HR6 := Lib.hid (hR6.mono HE4.out.sz)
 have r0 := cellOf HRB.out 0
 have r1 := cellOf HRB.out 1
 have f0 := freeOf HRB.out 0
 have f1 := freeOf HRB.out 1
 simp only [List.getElem?_toArray, List.getElem?_cons_zero, List.getElem?_cons_succ] at r0 r1
 clear hX6 hR6 d0 x0 x1
 go_wp2
 have e1 := heap_setCell_same (o := 1) (u := .slice (some ⟨mb, mo, none⟩) 1 mc) (heap_setCell_same (o := 0) (u := .int .i64 (N : Int)) HRB.out)
 have z0 := cellOf e1 0
 have z1 := cellOf e1 1
 simp only [Array.setIfInBounds, List.size_toArray, List.length_cons, List.length_nil, Nat.zero_lt_succ] at z0 z1
 refine bodyPost_ret (v := .tuple #[.agg #[.int .i64 (N : Int), .slice (some ⟨mb, mo, none⟩) 1 mc], .int .i64 0]) (by simp [results, Tryz.results34, go_sem, z0, z1]) rfl ⟨_, rfl, ?_, ?_⟩
 ·exact (HR6.out.stT HRB.out (by decide) _).stT (heap_setCell_same HRB.out) (by decide) _
 ·exact (HE6.out.st (p := ⟨w.heap.size + 2, 0, none⟩) (by show w.heap.size ≤ w.heap.size + 2; omega) _).st (p := ⟨w.heap.size + 2, 1, none⟩) (by show w.heap.size ≤ w.heap.size + 2; omega) _
set_option maxHeartbeats 4000000 in
set_option maxRecDepth 100000 in
theorem equalU_calls (b o c x b2 o2 c2 y : Nat) (w : World) (h : w.cell? ⟨b, o, none⟩ = some (.int .u64 (x : Int))) (h2 : w.cell? ⟨b2, o2, none⟩ = some (.int .u64 (y : Int))) (hc : 1 ≤ c) (hc2 : 1 ≤ c2) :
  Calls Tryz.prog 35 #[.slice (some ⟨b, o, none⟩) 1 c, .slice (some ⟨b2, o2, none⟩) 1 c2] w fun e w' => e = .returned (.bool (decide (x = y))) ∧ Ext w w' := by
 obtain ⟨r, hr⟩ : ∃ r, ((x : Int) != (y : Int)) = r := ⟨_, rfl⟩
 have HR : Hid (decide (x = y) = !r) := Lib.hid (by rw [← hr, Bool.eq_iff_iff]; simp; omega)
 rw [HR.out]
 go_enter Tryz.func35, Tryz.ntmps35
 go_wp2
 have HH := Lib.hid h
 have HH2 := Lib.hid h2
 clear h h2
 go_loopg [13] 1 (fun g s13 wr => ∃ k : Nat, k ≤ 1 ∧ 1 - k ≤ g ∧ s13 = .int .i64 k ∧ Aside (k = 1 → r = false) ∧ Aside (Ext w wr))
 case atStart => exact ⟨0, Nat.zero_le _, by omega, rfl, (fun h => absurd h (by decide)), Ext.rf _⟩
 case round =>
  obtain ⟨k, hk, hg, rfl, HK, HE⟩ := hrel
  by_cases hk0 : k = 0
  ·subst hk0
   have q0 := HE.out.cl HH.out
   have q1 := HE.out.cl HH2.out
   have hz : (0 : Int) < 1 := by decide
   cases r with
   | true =>
     go_wp2
     go_quiet (fail)
     go_wp2
     go_ret
     exact ⟨rfl, HE.out.drN _⟩
   | false =>
     go_wp2
     go_quiet (fail)
     go_wp2
     go_roundg 0
     case measure => omega
     case rel => exact ⟨1, Nat.le_refl _, Nat.le_refl _, by go_num, (by first | exact trivial | exact fun _ => rfl | exact fun _ => trivial), HE.out.drN _⟩
  ·obtain rfl : k = 1 := by omega
   obtain rfl := HK.out rfl
   go_wp2
   go_ret
   exact ⟨rfl, HE.out⟩
set_option maxHeartbeats 8000000 in
set_option maxRecDepth 100000 in
theorem ideal_calls (v : Value) (N b o cs s : Nat) (M : List Nat) (w : World) (h : Sl (RSet N) 2 w v M) (hp : PosM N M) (hN : 1 ≤ N) (hN2 : N ≤ 60) (hs : w.cell? ⟨b, o, none⟩ = some (.int .u64 (s : Int))) (hcs : 1 ≤ cs) (hsb : s < 2 ^ N) (hT : TabG w) :
  Calls Tryz.prog 14 #[.agg #[v], .agg #[.int .i64 (N : Int), .slice (some ⟨b, o, none⟩) 1 cs]] w fun e w' => e = .returned (.bool (decide (orW s (upTo (invM M N) (membW s N)) = s))) ∧ Ext w w' := by
 have HDC := Lib.hid (fun W (hW : Ext w W) => down_calls v N b o cs s M W (h.ext (rset_lasts N) hW) hp hN hN2 (hW.cl hs) hcs hsb (hT.ext hW))
 generalize orW s (upTo (invM M N) (membW s N)) = r at *
 have HS := Lib.hid hs
 obtain ⟨a, c, rfl, hlc⟩ := h.sh
 rw [hp.len] at HDC hlc ⊢
 have HX0 := Lib.hid (((Ext.rf _).al (.cells #[.int .i64 (N : Int), .slice (some ⟨b, o, none⟩) 1 cs] 42)).hp (heap_alloc_new w (.cells #[.slice a N c] 32)))
 have HX1 := Lib.hid (heap_new_eq (w := w.alloc (.cells #[.slice a N c] 32)) (o := .cells #[.int .i64 (N : Int), .slice (some ⟨b, o, none⟩) 1 cs] 42) (b := w.heap.size + 1) (by simp))
 have HE2 := Lib.hid (((Ext.rf w).al (.cells #[.slice a N c] 32)).al (.cells #[.int .i64 (N : Int), .slice (some ⟨b, o, none⟩) 1 cs] 42))
 clear h hp hs hsb hT
 go_enter Tryz.func14, Tryz.ntmps14
 go_upto_region 1 with (fail)
 generalize (w.alloc (.cells #[.slice a N c] 32)).alloc (.cells #[.int .i64 (N : Int), .slice (some ⟨b, o, none⟩) 1 cs] 42) = w2 at *
 have a0 := cellOf HX0.out 0
 have x0 := cellOf HX1.out 0
 have x1 := cellOf HX1.out 1
 simp only [List.getElem?_toArray, List.getElem?_cons_zero, List.getElem?_cons_succ] at a0 x0 x1
 go_wp2_with fail
 refine (HDC.out _ HE2.out).mono ?_
 rintro e w3 ⟨u, rfl, hR3, hX3⟩
 obtain ⟨mb, mo, mc, rfl, hmb, hms, hmc⟩ := hR3.shape (by decide)
 have HE3 := Lib.hid ((HE2.out.trans' hX3).al (.cells #[.int .i64 (N : Int), .slice (some ⟨mb, mo, none⟩) 1 mc] 42))
 have HC3 := Lib.hid (((Ext.rf w3).al (.cells #[.int .i64 (N : Int), .slice (some ⟨mb, mo, none⟩) 1 mc] 42)).cl (show w3.cell? ⟨mb, mo, none⟩ = some (.int .u64 (r : Int)) from by simpa using hR3.cell 0 (by omega)))
 have x1 := hX3.cl x1
 have hbw := World.block_lt_of_cell? w3 _ x1
 clear hX3 hR3 a0 x0
 go_wp2_with fail
 refine (equalU_calls mb mo mc r b o cs s _ HC3.out (HE3.out.cl HS.out) hmc hcs).mono ?_
 rintro e w5 ⟨rfl, hX5⟩
 have HE5 := Lib.hid (HE3.out.trans' hX5)
 clear hX5
 go_wp2
 go_ret
 exact ⟨rfl, HE5.out⟩
end Go.Proofs.YtbpdbikphlhaiaaGreatDoor
