import Derived.Test.YtfcpnggdpaeldaaGreatJa
import Derived.Test.YtfcpnggdpaeldaaGreatProg
import Derived.Test.YtfcpnggdpaeldaaGreatGe
import Derived.Test.YtfcpnggdpaeldaaGreatGf
import Derived.BigQuiet
import Derived.Deep.QuietTactic
import Derived.Deep.LoopGhost
import Derived.Shelf.Abstract
import Derived.Deep.DeepCutAuto
import Derived.Deep.DrawnRows
import Derived.BigRegion
import Derived.IntWalk
import Derived.Laws.EntriesVeiled
import Derived.Maps.Own
import Derived.Maps.OwnOps
import Derived.Maps.Keyed
import Derived.Maps.Views
import Derived.WalkArith
import Derived.Maps.OwnIn
import Derived.DeepKeys4
import Derived.WideKeyPair
import Derived.RangeFuncNested
import Derived.RangeFuncBound
import Derived.RangeFuncCalls
import Derived.RangeFuncLeaves
import Derived.Shelf.RegionOpen
import Derived.OwnWalkIn
import Derived.TacticsInMore
import Derived.LoopNIn
import Derived.LoopIn
import Derived.Sort.LoopGhostIn
import Derived.Sort.CutIn
/-
  An event by its name: the reference's At.
-/
namespace Go.Proofs.YtfcpnggdpaeldaaGreat
open Go.RowKit
set_option linter.unusedVariables false
attribute [local go_sem ↓] Go.wp_at_zero Go.wp_at_succ

abbrev e5 (a b c d : Value) (v : Value) : Obj := .cells #[a, b, c, d, v] 62
theorem e5_set {w : World} {K : Nat} {z0 z1 z2 z3 z4 : Value} (h : w.heap[K]? = some (e5 z0 z1 z2 z3 z4)) (a b c d v : Value) :
    (((((w.setCell ⟨K, 0, none⟩ a).setCell ⟨K, 1, none⟩ b).setCell ⟨K, 2, none⟩ c).setCell ⟨K, 3, none⟩ d).setCell ⟨K, 4, none⟩ v).heap[K]? = some (e5 a b c d v) := by
  have h0 : (w.setCell ⟨K, 0, none⟩ a).heap[K]? = some (e5 a z1 z2 z3 z4) := by rw [heap_setCell_same h]; simp
  have h1 : ((w.setCell ⟨K, 0, none⟩ a).setCell ⟨K, 1, none⟩ b).heap[K]? = some (e5 a b z2 z3 z4) := by rw [heap_setCell_same h0]; simp
  have h2 : (((w.setCell ⟨K, 0, none⟩ a).setCell ⟨K, 1, none⟩ b).setCell ⟨K, 2, none⟩ c).heap[K]? = some (e5 a b c z3 z4) := by rw [heap_setCell_same h1]; simp
  have h3 : ((((w.setCell ⟨K, 0, none⟩ a).setCell ⟨K, 1, none⟩ b).setCell ⟨K, 2, none⟩ c).setCell ⟨K, 3, none⟩ d).heap[K]? = some (e5 a b c d z4) := by rw [heap_setCell_same h2]; simp
  rw [heap_setCell_same h3]; simp
theorem e5_ext {w W : World} {K : Nat} (h : Ext w W) (hK : w.heap.size ≤ K) (a b c d v : Value) : Ext w (((((W.setCell ⟨K, 0, none⟩ a).setCell ⟨K, 1, none⟩ b).setCell ⟨K, 2, none⟩ c).setCell ⟨K, 3, none⟩ d).setCell ⟨K, 4, none⟩ v) :=
  ((((h.st (p := ⟨K, 0, none⟩) hK a).st (p := ⟨K, 1, none⟩) hK b).st (p := ⟨K, 2, none⟩) hK c).st (p := ⟨K, 3, none⟩) hK d).st (p := ⟨K, 4, none⟩) hK v
/-- An event handed back by value. -/
def EvOut (w w' : World) (e : Ending) (y : Ev) : Prop := ∃ a c, e = .returned (.agg #[.int .i64 y.kind, .int .i64 y.peer, .int .i64 y.msg, .int .i64 y.time, .slice a y.asg.length c]) ∧ Ext w w'

set_option maxHeartbeats 4000000 in
set_option maxRecDepth 100000 in
theorem atR_calls (v : Value) (t : Tr) (p i : Nat) (w : World) (h : TrAt w v t) (hs : SmallTr t) (hx : Inn t (p, i)) :
    Calls Tryz.prog 95 #[.agg #[v], .agg #[.int .i64 p, .int .i64 ((i : Int) + 1)]] w fun e w' => EvOut w w' e (ev t (p, i)) := by
  obtain ⟨hp, hi⟩ := hx
  simp only at hp hi
  show Calls _ _ _ _ fun e w' => EvOut w w' e t[p]!.events[i]!
  obtain ⟨B, O, C, vv, ve, rfl, hlC, hB, hn0, hv0, he0, hV, hE0⟩ := proc_at h p hp
  obtain ⟨EB, EO, EC, va, rfl, hlE, hEB, k0, k1, k2, k3, k4, ha⟩ := event_at hE0 i hi
  obtain ⟨ua, uc, rfl, huc⟩ := ha.sh
  have hn := hs.1
  have hen := (hs.2 p hp).2.1
  generalize hxx : t[p]! = x at *
  generalize hev : x.events[i]! = y at *
  generalize hln : t.length = n at *
  generalize hne : x.events.length = ne at *
  generalize hna : y.asg.length = na at *
  have HNA := Lib.hid hna
  have hpz : (0 : Int) ≤ (p : Int) := by omega
  have hpi : (p : Int) < (n : Int) := by omega
  have hiz : (0 : Int) ≤ (i : Int) := by omega
  have hii : (i : Int) < (ne : Int) := by omega
  have hE3 : Ext w (((w.alloc (.cells #[.slice (some ⟨B, O, none⟩) n C] 24)).alloc (.cells #[.int .i64 p, .int .i64 ((i : Int) + 1)] 72)).alloc (e5 (.int .i64 0) (.int .i64 0) (.int .i64 0) (.int .i64 0) (.slice none 0 0))) := (((Ext.rf w).al _).al _).al _
  have HX0 := Lib.hid ((((Ext.rf _).al (.cells #[.int .i64 p, .int .i64 ((i : Int) + 1)] 72)).al (e5 (.int .i64 0) (.int .i64 0) (.int .i64 0) (.int .i64 0) (.slice none 0 0))).hp (heap_alloc_new w (.cells #[.slice (some ⟨B, O, none⟩) n C] 24)))
  have HX1 := Lib.hid (((Ext.rf _).al (e5 (.int .i64 0) (.int .i64 0) (.int .i64 0) (.int .i64 0) (.slice none 0 0))).hp (heap_new_eq (w := w.alloc (.cells #[.slice (some ⟨B, O, none⟩) n C] 24)) (o := .cells #[.int .i64 p, .int .i64 ((i : Int) + 1)] 72) (b := w.heap.size + 1) (by simp)))
  have HX2 := Lib.hid (heap_new_eq (w := (w.alloc (.cells #[.slice (some ⟨B, O, none⟩) n C] 24)).alloc (.cells #[.int .i64 p, .int .i64 ((i : Int) + 1)] 72)) (o := e5 (.int .i64 0) (.int .i64 0) (.int .i64 0) (.int .i64 0) (.slice none 0 0)) (b := w.heap.size + 1 + 1) (by simp))
  have HE3 := Lib.hid hE3
  have he1 := hE3.cl he0
  have m0 := hE3.cl k0
  have m1 := hE3.cl k1
  have m2 := hE3.cl k2
  have m3 := hE3.cl k3
  have m4 := hE3.cl k4
  clear hn0 hv0 he0 hV hE0 h hs ha hE3 hxx hev hln hne hna k0 k1 k2 k3 k4
  go_enter Tryz.func95, Tryz.ntmps95
  go_wp2
  generalize hw3 : ((w.alloc (.cells #[.slice (some ⟨B, O, none⟩) n C] 24)).alloc (.cells #[.int .i64 p, .int .i64 ((i : Int) + 1)] 72)).alloc (e5 (.int .i64 0) (.int .i64 0) (.int .i64 0) (.int .i64 0) (.slice none 0 0)) = w3 at *
  clear hw3
  have t0 := cellOf HX0.out 0
  have j0 := cellOf HX1.out 0
  have j1 := cellOf HX1.out 1
  simp only [List.getElem?_toArray, List.getElem?_cons_zero, List.getElem?_cons_succ] at t0 j0 j1
  have z0 := cellOf HX2.out 0
  have z1 := cellOf HX2.out 1
  have z2 := cellOf HX2.out 2
  have z3 := cellOf HX2.out 3
  have z4 := cellOf HX2.out 4
  simp only [List.getElem?_toArray, List.getElem?_cons_zero, List.getElem?_cons_succ] at z0 z1 z2 z3 z4
  have g0 := freeOf HX2.out 0
  have g1 := freeOf HX2.out 1
  have g2 := freeOf HX2.out 2
  have g3 := freeOf HX2.out 3
  have g4 := freeOf HX2.out 4
  have w1 : IntKind.i64.wrap ((i : Int) + 1 - 1) = (i : Int) := by rw [IntWalk.i64_in _ (by omega)]; omega
  have w2 : IntKind.i64.wrap (i : Int) = (i : Int) := IntWalk.i64_in _ (by omega)
  go_region
  go_wp2
  clear w1 w2
  have r := e5_set HX2.out (.int .i64 y.kind) (.int .i64 y.peer) (.int .i64 y.msg) (.int .i64 y.time) (.slice ua na uc)
  have HR := Lib.hid r
  clear r t0 j0 j1 z0 z1 z2 z3 z4 g0 g1 g2 g3 g4
  have r0 := cellOf HR.out 0
  have r1 := cellOf HR.out 1
  have r2 := cellOf HR.out 2
  have r3 := cellOf HR.out 3
  have r4 := cellOf HR.out 4
  simp only [List.getElem?_toArray, List.getElem?_cons_zero, List.getElem?_cons_succ] at r0 r1 r2 r3 r4
  refine bodyPost_ret (v := .agg #[.int .i64 y.kind, .int .i64 y.peer, .int .i64 y.msg, .int .i64 y.time, .slice ua na uc]) (by simp [results, Tryz.results95, go_sem, r0, r1, r2, r3, r4]) rfl ?_
  exact ⟨ua, uc, by rw [HNA.out], e5_ext HE3.out.dr (by omega) _ _ _ _ _⟩

end Go.Proofs.YtfcpnggdpaeldaaGreat

/-
  The events directly before an event: the reference's Directly.
-/
namespace Go.Proofs.YtfcpnggdpaeldaaGreat
open Go.RowKit
set_option linter.unusedVariables false
attribute [local go_sem ↓] Go.wp_at_zero Go.wp_at_succ

/-- The two cells of an event's name. -/
def eidC (x : Eid) : List Value := [.int .i64 x.1, .int .i64 ((x.2 : Int) + 1)]
theorem eidC_len (l : List Eid) : (l.flatMap eidC).length = l.length * 2 := by
  induction l with
  | nil => rfl
  | cons a l ih => simp [eidC, ih]; omega
/-- A list of names that the call has made. -/
def EidsOut (w w' : World) (e : Ending) (l : List Eid) : Prop := ∃ v, e = .returned v ∧ Row w' w.heap.size 72 2 v l.length (l.flatMap eidC) ∧ Ext w w'
theorem info_eid : (Tryz.prog.info? 72).map (fun i => (i.zero, i.size, i.bytes)) = some (some (.agg #[.int .i64 0, .int .i64 0]), 2, 16) := by kernel_rfl

set_option maxHeartbeats 4000000 in
set_option maxRecDepth 100000 in
theorem directlyR_calls (v : Value) (t : Tr) (p i : Nat) (w : World) (h : TrAt w v t) (hs : SmallTr t) (hx : Inn t (p, i)) (hsd : (ev t (p, i)).kind = 3 → ∃ s, findE t 2 (ev t (p, i)).msg = some s) :
    Calls Tryz.prog 96 #[.agg #[v], .agg #[.int .i64 p, .int .i64 ((i : Int) + 1)]] w fun e w' => EidsOut w w' e (bef t (p, i)) := by
  obtain ⟨ix, hix⟩ : ∃ x : Int, (i : Int) + 1 = x := ⟨_, rfl⟩
  rw [hix]
  obtain ⟨ie, hie, iz0, iz1, iz2⟩ := info_parts info_eid
  have hi6 : i < 1000000 := by have := (hs.2 p hx.1).2.1; have := hx.2; simp only at this; omega
  have HAT : Hid (∀ W, Ext w W → Calls Tryz.prog 95 #[.agg #[v], .agg #[.int .i64 p, .int .i64 ix]] W fun e w' => EvOut W w' e (ev t (p, i))) := Lib.hid (fun W hW => hix ▸ atR_calls v t p i W (h.ext hW) hs hx)
  have HFI := Lib.hid (fun W (hW : Ext w W) m => findR_calls v t 2 m W (h.ext hW) hs)
  obtain ⟨ta, tc, rfl, htc⟩ := h.sh
  generalize hy : ev t (p, i) = y at *
  generalize hln : t.length = n at *
  have HSD := Lib.hid hsd
  have HY := Lib.hid hy
  have hb1 : 1 ≤ ix := by omega
  have hb2 : ix ≤ 1000000 := by omega
  have HIX := Lib.hid hix
  have HX0 := Lib.hid (((Ext.rf _).al (.cells #[.int .i64 p, .int .i64 ix] 72)).hp (heap_alloc_new w (.cells #[.slice ta n tc] 24)))
  have HX1 := Lib.hid (heap_new_eq (w := w.alloc (.cells #[.slice ta n tc] 24)) (o := .cells #[.int .i64 p, .int .i64 ix] 72) (b := w.heap.size + 1) (by simp))
  have HE2 : Hid (Ext w ((w.alloc (.cells #[.slice ta n tc] 24)).alloc (.cells #[.int .i64 p, .int .i64 ix] 72))) := Lib.hid (((Ext.rf w).al _).al _)
  clear h hs hx hsd hy hln hix hi6
  obtain ⟨bt, hbt⟩ : ∃ b, decide (1 < ix) = b := ⟨_, rfl⟩
  go_enter Tryz.func96, Tryz.ntmps96
  go_upto_if 9 with (fail)
  generalize hw2 : (w.alloc (.cells #[.slice ta n tc] 24)).alloc (.cells #[.int .i64 p, .int .i64 ix] 72) = w2 at *
  clear hw2
  have HBT := Lib.hid hbt
  clear hbt
  go_cut [5] (fun s5 wx => ∃ L : List Eid, Aside (L = if 0 < i then [(p, i - 1)] else []) ∧ Aside (Row wx w.heap.size 72 2 s5 L.length (L.flatMap eidC)) ∧ Aside (Ext w2 wx))
  case first =>
    cases bt with
    | false =>
      have HI := Lib.hid (show ¬ 0 < i from by have h9 : ¬ 1 < ix := of_decide_eq_false HBT.out; have := HIX.out; omega)
      go_wp2
      go_meet
      exact ⟨[], (show _ = _ from by rw [if_neg HI.out]), Row.mkNil _ _ _ _, Ext.rf _⟩
    | true =>
      have HI := Lib.hid (show 0 < i from by have h9 : 1 < ix := of_decide_eq_true HBT.out; have := HIX.out; omega)
      have j0 := cellOf HX1.out 0
      have j1 := cellOf HX1.out 1
      simp only [List.getElem?_toArray, List.getElem?_cons_zero, List.getElem?_cons_succ] at j0 j1
      have hsz := HE2.out.sz
      go_wp2_with ((at_builtin; go_loud (refine wpList_append_one rfl _ _ 128 rfl w.heap.size 72 ie (.agg #[.int .i64 0, .int .i64 0]) 2 16 Tryz.underlying128 hie iz0 iz1 iz2 rfl (by decide) _ 0 [] rfl (Row.mkNil _ _ _ _) w2.heap.size 1 [.int .i64 p, .int .i64 (ix - 1)] rfl rfl ⟨_, heap_alloc_new _ _⟩ (by simp [Value.oneCell']) (by unfold maxLen; omega) (by omega) (by simp; omega) ?_; intro v5 w5 hown5 hgrow5 hblk5; have HOWN := Lib.hid hown5; have HGR := Lib.hid (show (w2.alloc (.cells #[.int .i64 p, .int .i64 (ix - 1)] 72)).grownBy w5 none from hgrow5); clear hown5 hgrow5 hblk5)))
      go_meet
      refine ⟨[(p, i - 1)], (show _ = _ from by rw [if_pos HI.out]), (show Row _ _ _ _ _ _ _ from ?_), ((Ext.rf w2).al _).gr HGR.out (by simp)⟩
      have := HOWN.out
      have e : ix - 1 = ((i - 1 : Nat) : Int) + 1 := by have := HIX.out; have := HI.out; omega
      rw [e] at this
      simpa [eidC] using this
  case rest =>
    obtain ⟨L, HL, HR, HE⟩ := hcut
    have HEW := Lib.hid (HE2.out.trans' HE.out)
    have HXA := Lib.hid (HE.out.hp HX0.out)
    have HXB := Lib.hid (HE.out.hp HX1.out)
    have t0 := cellOf HXA.out 0
    have j0 := cellOf HXB.out 0
    have j1 := cellOf HXB.out 1
    simp only [List.getElem?_toArray, List.getElem?_cons_zero, List.getElem?_cons_succ] at t0 j0 j1
    go_wp2_with fail
    refine (HAT.out _ HEW.out).mono ?_
    rintro e w3 ⟨ua, uc, rfl, hE3⟩
    generalize y.asg.length = na
    have HE3 := Lib.hid hE3
    have HXA3 := Lib.hid (hE3.hp HXA.out)
    have HR3 := Lib.hid (HR.out.ext hE3)
    clear hE3 t0 j0 j1
    obtain ⟨kd, hkd⟩ : ∃ k, y.kind = k := ⟨_, rfl⟩
    obtain ⟨ms, hms⟩ : ∃ k, y.msg = k := ⟨_, rfl⟩
    rw [hkd, hms]
    have HKD := Lib.hid hkd
    have HMS := Lib.hid hms
    clear hkd hms
    have HB4 := Lib.hid (heap_alloc_new w3 (e5 (.int .i64 kd) (.int .i64 y.peer) (.int .i64 ms) (.int .i64 y.time) (.slice ua na uc)))
    have HXA4 := Lib.hid (((Ext.rf w3).al (e5 (.int .i64 kd) (.int .i64 y.peer) (.int .i64 ms) (.int .i64 y.time) (.slice ua na uc))).hp HXA3.out)
    have HE4 := Lib.hid ((HEW.out.trans' HE3.out).al (e5 (.int .i64 kd) (.int .i64 y.peer) (.int .i64 ms) (.int .i64 y.time) (.slice ua na uc)))
    have HR4 := Lib.hid (HR3.out.al (e5 (.int .i64 kd) (.int .i64 y.peer) (.int .i64 ms) (.int .i64 y.time) (.slice ua na uc)))
    have HBEF : Hid (bef t (p, i) = L ++ (if kd = 3 then (findE t 2 ms).toList else [])) := Lib.hid (by
      unfold bef; rw [HY.out, HKD.out, HMS.out, HL.out])
    by_cases h3 : kd = 3
    · obtain ⟨s, hs⟩ := HSD.out (HKD.out.trans h3)
      rw [HMS.out] at hs
      have c3 : (kd == 3) = true := by simp [h3]
      have HB2 : Hid (bef t (p, i) = L ++ [s]) := Lib.hid (by rw [HBEF.out, if_pos h3, hs]; rfl)
      have HFS : Hid (∀ W, Ext w W → Calls Tryz.prog 92 #[.agg #[.slice ta n tc], .int .i64 2, .int .i64 ms] W fun e w' => e = .returned (.agg #[.int .i64 s.1, .int .i64 ((s.2 : Int) + 1)]) ∧ Ext W w') := Lib.hid (fun W hW => by have := HFI.out W hW ms; rw [hs] at this; exact this)
      clear h3 hs
      obtain ⟨s1, hs1⟩ : ∃ z : Int, (s.1 : Int) = z := ⟨_, rfl⟩
      obtain ⟨s2, hs2⟩ : ∃ z : Int, (s.2 : Int) + 1 = z := ⟨_, rfl⟩
      rw [hs1, hs2] at HFS
      have HS12 := Lib.hid (And.intro hs1 hs2)
      clear hs1 hs2
      have t3 := cellOf HXA3.out 0
      simp only [List.getElem?_toArray, List.getElem?_cons_zero] at t3
      have q3 : w.heap.size < w3.heap.size := (Array.getElem?_eq_some_iff.1 HXA3.out).1
      have q3n : w.heap.size ≠ w3.heap.size := by omega
      go_wp2_with fail
      clear t3
      refine (HFS.out _ HE4.out).mono ?_
      rintro e w5 ⟨rfl, hE5⟩
      have HE5 := Lib.hid (HE4.out.trans' hE5)
      have HR5 := Lib.hid (HR4.out.ext hE5)
      have hsz5 := HE5.out.sz
      clear hE5
      have hLn : L.length ≤ 1 := by rw [HL.out]; split <;> simp
      generalize hLL : L.length = ln at *
      have HLL := Lib.hid hLL
      clear hLL
      go_wp2_with ((at_builtin; go_loud (refine wpList_append_one rfl _ _ 128 rfl w.heap.size 72 ie (.agg #[.int .i64 0, .int .i64 0]) 2 16 Tryz.underlying128 hie iz0 iz1 iz2 rfl (by decide) _ ln _ rfl (HR5.out.al _) w5.heap.size 1 [.int .i64 s1, .int .i64 s2] rfl rfl ⟨_, heap_alloc_new _ _⟩ (by simp [Value.oneCell']) (by unfold maxLen; omega) (by omega) (by simp; omega) ?_; intro v6 w6 hown6 hgrow6 hblk6; have HOWN := Lib.hid hown6; have HE6 := Lib.hid (show Ext w w6 from (HE5.out.al (.cells #[.int .i64 s1, .int .i64 s2] 72)).gr hgrow6 (fun q hq => (HR5.out.lt q hq).1)); clear hown6 hgrow6 hblk6)))
      go_ret
      refine ⟨_, rfl, ?_, HE6.out⟩
      rw [HB2.out, List.length_append, List.flatMap_append, HLL.out]
      have := HOWN.out
      rw [← HS12.out.1, ← HS12.out.2] at this
      simpa [eidC] using this
    · have c3 : (kd == 3) = false := by simp [h3]
      have HB2 : Hid (bef t (p, i) = L) := Lib.hid (by rw [HBEF.out, if_neg h3, List.append_nil])
      clear h3
      go_wp2
      go_ret
      exact ⟨_, rfl, by rw [HB2.out]; exact HR4.out, HE4.out⟩

end Go.Proofs.YtfcpnggdpaeldaaGreat

/-
  A map from numbers to yes or no that the call has made: what it says at the numbers below a bound. No program is named here.
-/
namespace Go.Proofs.YtfcpnggdpaeldaaGreat
open Go.RowKit Go.Maps
set_option linter.unusedVariables false

/-- Block b says F at the numbers below N; at most n stores were made. -/
def BMap (w : World) (P : Program) (k e : TypeId) (b n N : Nat) (F : List Bool) : Prop :=
  ∃ D : DataW Unit, w.ownsMap P k (plainElem P e) b n D ∧ IsMap D ∧ ∀ y : Int, 0 ≤ y → y < (N : Int) → D.atKey (.int .i64 y) (.lit (.bool false)) = .lit (.bool F[y.toNat]!)

variable {P : Program} {k e t : TypeId} {b n N : Nat} {F : List Bool} {w : World}

theorem BMap.made (w : World) (hF : ∀ i : Nat, i < N → F[i]! = false) : BMap (w.alloc (.map #[] 0)) P k e w.heap.size 0 N F :=
  ⟨.map [], World.ownsMap_made _ _ _ _, isMap_empty, fun y h0 h1 => by rw [hF y.toNat (by omega)]; rfl⟩

theorem BMap.lt (h : BMap w P k e b n N F) : b < w.heap.size := by obtain ⟨D, h, _⟩ := h; exact h.lt

theorem BMap.ext {w' : World} (h : BMap w P k e b n N F) (x : Ext w w') : BMap w' P k e b n N F := by
  obtain ⟨D, ⟨es, clock, hb, r⟩, h2⟩ := h
  exact ⟨D, ⟨es, clock, x.hp hb, r⟩, h2⟩

theorem BMap.mono (h : BMap w P k e b n N F) {n' : Nat} (hn : n ≤ n') : BMap w P k e b n' N F := by
  obtain ⟨D, h, r⟩ := h
  exact ⟨D, h.mono hn, r⟩

theorem BMap.grown {w' : World} {row : Option Nat} (h : BMap w P k e b n N F) (hg : w.grownBy w' row) (hne : some b ≠ row) : BMap w' P k e b n N F := by
  obtain ⟨D, h, r⟩ := h
  exact ⟨D, h.kept hg hne, r⟩

theorem wf_at {y : Int} {N : Nat} (h0 : 0 ≤ y) (h1 : y < (N : Int)) (hN : N ≤ 1000000) : (Lit.int .i64 y).wf = true := by
  simp [Lit.wf, IntKind.min, IntKind.max, IntKind.signed, IntKind.bits]; omega

theorem BMap.look (h : BMap w P k e b n N F) (hk : P.underlying k = some (.int .i64)) (ht : P.underlying t = some (.map k e)) (he : P.underlying e = some .bool) (hz : ∀ w, (zeroValue e).run P w = .ok (.bool false) w)
    (y : Int) (h0 : 0 ≤ y) (h1 : y < (N : Int)) (hN : N ≤ 1000000) : (Instr.lookup t (.map (some b)) (.int .i64 y) false).run P w = .ok (.bool F[y.toNat]!) w := by
  obtain ⟨D, h, _, hD⟩ := h
  obtain ⟨v, ps, hr, hv⟩ := h.lookup (int_keyed hk) ht (hz w) (plainElem_bool he false) (keyOf_int_mk hk (wf_at h0 h1 hN))
  rw [hD y h0 h1] at hv
  unfold plainElem at hv
  rw [he] at hv
  cases v <;> simp at hv
  rw [hr, hv.1]; simp

theorem wpList_look_b {ops : Array Oper} {rest : List Oper} {o : Oper} {a : Act} {Q : Exit → Act → World → Prop}
    (hg : o.guard = none) (m x : Operand) (t : TypeId) (hop : o.op = Op.lookup t m x false) (k e : TypeId) (b n N : Nat) (F : List Bool) (hown : BMap w P k e b n N F)
    (hk : P.underlying k = some (.int .i64)) (ht : P.underlying t = some (.map k e)) (he : P.underlying e = some .bool) (hz : ∀ w, (zeroValue e).run P w = .ok (.bool false) w)
    (y : Int) (h0 : 0 ≤ y) (h1 : y < (N : Int)) (hN : N ≤ 1000000) (hm : a.eval m = .map (some b)) (hx : a.eval x = .int .i64 y)
    (hK : wpList P ops Q rest (a.put o.dst (.bool F[y.toNat]!)) w) :
    wpList P ops Q (o :: rest) a w := by
  refine wpList_plain hg fun K' hK' => ?_
  have hrun := hown.look hk ht he hz y h0 h1 hN
  unfold Oper.wp
  simp [execOp, hop, hm, hx, hrun, Result.andThen]
  exact hK' _ _ (by simpa using hK)

theorem wpList_put_b {ops : Array Oper} {rest : List Oper} {o : Oper} {a : Act} {Q : Exit → Act → World → Prop}
    (hg : o.guard = none) (m x v : Operand) (t : TypeId) (hop : o.op = Op.mapUpdate t m x v) (k e : TypeId) (b n N : Nat) (F : List Bool) (hown : BMap w P k e b n N F) (hn : n < maxLen) (hF : F.length = N)
    (hk : P.underlying k = some (.int .i64)) (ht : P.underlying t = some (.map k e)) (he : P.underlying e = some .bool)
    (y : Int) (h0 : 0 ≤ y) (h1 : y < (N : Int)) (hN : N ≤ 1000000) (hm : a.eval m = .map (some b)) (hx : a.eval x = .int .i64 y) (hv : a.eval v = .bool true)
    (hK : ∀ w', BMap w' P k e b (n + 1) N (F.set y.toNat true) → w.grownBy w' (some b) → wpList P ops Q rest (a.put o.dst undef) w') :
    wpList P ops Q (o :: rest) a w := by
  obtain ⟨D, h, hi, hD⟩ := hown
  refine wpList_mapUpdate_own w hg m x v t hop k e (int_keyed hk) ht _ b n D hm h hn _ _ (.int .i64 y) hx hv (keyOf_int_mk hk (wf_at h0 h1 hN)) (.lit (.bool true)) [] (plainElem_bool he true) ?_
  intro w' h' hg'
  refine hK w' ⟨_, h', hi.put _ _, fun z hz0 hz1 => ?_⟩ hg'
  have key : ((F.set y.toNat true)[z.toNat]!) = if z = y then true else F[z.toNat]! := by
    rw [getElem!_pos _ _ (by rw [List.length_set, hF]; omega), List.getElem_set, getElem!_pos F _ (by rw [hF]; omega)]
    by_cases e : z = y
    · rw [if_pos (by rw [e]), if_pos e]
    · rw [if_neg (by omega), if_neg e]
  rw [key]
  by_cases e : z = y
  · subst e
    rw [if_pos rfl]
    exact atKey_put_same hi (by trivial) _ _
  · rw [if_neg e, ← hD z hz0 hz1]
    exact atKey_put_other (by simp only [ne_eq, Lit.int.injEq, true_and]; exact e) _ _

end Go.Proofs.YtfcpnggdpaeldaaGreat

/-
  A map from events' names to yes or no that the call has made, in a round of a range over a function; and an append there.
-/
namespace Go.Proofs.YtfcpnggdpaeldaaGreat
open Go.RowKit
set_option linter.unusedVariables false
open Go.Maps

theorem laid_prog : laidOutB Tryz.prog = true := by kernel_rfl
theorem eid_law : WideMaps.KeyLaw Tryz.prog 72 := deep_law_laid laid_prog (m := 3) (by omega) (of_decide_eq_true (by kernel_rfl)) (by kernel_rfl) (by kernel_rfl)
theorem eid_keyed : Keyed Tryz.prog 72 := Keyed.of_law eid_law
/-- The key that a name is read as. -/
def ekey (x : Eid) : Lit := .string (keyBytes [.int .i64 x.1, .int .i64 ((x.2 : Int) + 1)])
theorem wf_i64 {z : Int} (h0 : 0 ≤ z) (h1 : z ≤ 1000000) : (Lit.int .i64 z).wf = true := by
  simp [Lit.wf, IntKind.min, IntKind.max, IntKind.signed, IntKind.bits]; omega
theorem eid_cells : Tryz.prog.cellsOf 72 = 2 := by kernel_rfl
theorem int_cells : Tryz.prog.cellsOf 3 = 1 := by kernel_rfl
theorem eid_kt : Tryz.prog.keyType 72 = true := by kernel_rfl
theorem two_types : 2 ≤ Tryz.prog.types.size := of_decide_eq_true (by kernel_rfl)
theorem ekey_of {x : Eid} (h1 : x.1 < 1000000) (h2 : x.2 < 1000000) : keyOf Tryz.prog 72 (.agg #[.int .i64 x.1, .int .i64 ((x.2 : Int) + 1)]) = some (ekey x) := by
  have wa : (Lit.int .i64 (x.1 : Int)).wf = true := wf_i64 (by omega) (by omega)
  have wb : (Lit.int .i64 ((x.2 : Int) + 1)).wf = true := wf_i64 (by omega) (by omega)
  obtain ⟨m, hm⟩ : ∃ m, Tryz.prog.types.size = m + 2 := ⟨Tryz.prog.types.size - 2, by have := two_types; omega⟩
  unfold keyOf ekey
  simp only [Tryz.underlying72]
  rw [if_pos (by rw [eid_kt]; simp [Value.formed, Tryz.underlying72, eid_cells]), hm]
  simp [Program.keyLits, Tryz.underlying72, Tryz.underlying3, eid_cells, int_cells, Value.cells, wa, wb]
theorem ekey_inj {x y : Eid} (hx1 : x.1 < 1000000) (hx2 : x.2 < 1000000) (hy1 : y.1 < 1000000) (hy2 : y.2 < 1000000) (h : ekey x = ekey y) : x = y := by
  have := eid_keyed.inj (ekey_of hx1 hx2) (h ▸ ekey_of hy1 hy2)
  obtain ⟨a, b⟩ := x
  obtain ⟨c, d⟩ := y
  simp at this
  simp only [Prod.mk.injEq]
  omega
theorem plain_bool_inv {P : Program} {e : TypeId} (he : P.underlying e = some .bool) {v : Value} {c : Bool} {ps : List MemPlace} (h : plainElem (H := Unit) P e v = some (.lit (.bool c), ps)) : v = .bool c := by
  unfold plainElem at h
  rw [he] at h
  cases v <;> simp at h
  rw [h.1]
theorem zero_bool1 (w : World) : (zeroValue 4).run Tryz.prog w = .ok (.bool false) w := by kernel_rfl

/-- Block b says of each event whether it is in S; n stores were made. -/
def EMap (w : World) (b n : Nat) (t : Tr) (S : List Eid) : Prop :=
  ∃ D : DataW Unit, w.ownsMap Tryz.prog 72 (plainElem Tryz.prog 4) b n D ∧ IsMap D ∧ ∀ y, Inn t y → D.atKey (ekey y) (.lit (.bool false)) = .lit (.bool (decide (y ∈ S)))
theorem EMap.made (w : World) (t : Tr) : EMap (w.alloc (.map #[] 0)) w.heap.size 0 t [] :=
  ⟨.map [], World.ownsMap_made _ _ _ _, isMap_empty, fun y _ => by simp; rfl⟩
theorem EMap.ext {w w' : World} {b n : Nat} {t : Tr} {S : List Eid} (h : EMap w b n t S) (x : Ext w w') : EMap w' b n t S := by
  obtain ⟨D, ⟨es, clock, hb, r⟩, h2⟩ := h
  exact ⟨D, ⟨es, clock, x.hp hb, r⟩, h2⟩
theorem EMap.lt {w : World} {b n : Nat} {t : Tr} {S : List Eid} (h : EMap w b n t S) : b < w.heap.size := by obtain ⟨D, h, _⟩ := h; exact h.lt
theorem inn_small {t : Tr} (hs : SmallTr t) {x : Eid} (hx : Inn t x) : x.1 < 1000000 ∧ x.2 < 1000000 := by
  have h1 := hs.1
  have h2 := (hs.2 x.1 hx.1).2.1
  have h3 := hx.1
  have h4 := hx.2
  omega

section
variable {F : Fence} {nF : Nat} {w : World} {ops : Array Oper} {rest : List Oper} {o : Oper} {a : Act} {Q : Exit → Act → World → Prop}
theorem wpListIn_look_e (hg : o.guard = none) (m x : Operand) (hop : o.op = Op.lookup 156 m x false) (b n : Nat) (t : Tr) (S : List Eid) (hown : EMap w b n t S) (hs : SmallTr t)
    (y : Eid) (hy : Inn t y) (hm : a.eval m = .map (some b)) (hx : a.eval x = .agg #[.int .i64 y.1, .int .i64 ((y.2 : Int) + 1)])
    (hK : wpListIn F nF Tryz.prog ops Q rest (a.put o.dst (.bool (decide (y ∈ S)))) w) :
    wpListIn F nF Tryz.prog ops Q (o :: rest) a w := by
  refine wpListIn_plain hg fun K' hK' => ?_
  obtain ⟨D, h, _, hD⟩ := hown
  obtain ⟨v, ps, hr, hv⟩ := h.lookup eid_keyed Tryz.underlying156 (zero_bool1 w) (plainElem_bool Tryz.underlying4 false) (ekey_of (inn_small hs hy).1 (inn_small hs hy).2)
  rw [hD y hy] at hv
  obtain rfl := plain_bool_inv Tryz.underlying4 hv
  have hrun : (Instr.lookup 156 (.map (some b)) (.agg #[.int .i64 y.1, .int .i64 ((y.2 : Int) + 1)]) false).run Tryz.prog w = .ok (.bool (decide (y ∈ S))) w := by rw [hr]
  unfold Oper.wpIn
  refine ⟨by simp [Oper.about, hop], ?_⟩
  rw [Oper.semAt_plain F _ _ (by rw [hop]; intro c hc'; cases hc')]
  simp [execOp, hop, hm, hx, hrun, Result.andThen]
  exact hK' _ _ (by simpa using hK)

theorem wpListIn_put_e (hg : o.guard = none) (m x v : Operand) (hop : o.op = Op.mapUpdate 156 m x v) (b n : Nat) (t : Tr) (S : List Eid) (hown : EMap w b n t S) (hs : SmallTr t) (hn : n < maxLen)
    (y : Eid) (hy : Inn t y) (hm : a.eval m = .map (some b)) (hx : a.eval x = .agg #[.int .i64 y.1, .int .i64 ((y.2 : Int) + 1)]) (hv : a.eval v = .bool true)
    (hK : ∀ w', EMap w' b (n + 1) t (y :: S) → w.grownBy w' (some b) → wpListIn F nF Tryz.prog ops Q rest (a.put o.dst undef) w') :
    wpListIn F nF Tryz.prog ops Q (o :: rest) a w := by
  obtain ⟨D, h, hi, hD⟩ := hown
  refine wpListIn_mapUpdate_own w hg m x v 156 hop 72 4 eid_keyed Tryz.underlying156 _ b n D hm h hn _ _ (ekey y) hx hv (ekey_of (inn_small hs hy).1 (inn_small hs hy).2) (.lit (.bool true)) [] (plainElem_bool Tryz.underlying4 true) ?_
  intro w' h' hg'
  refine hK w' ⟨_, h', hi.put _ _, fun z hz => ?_⟩ hg'
  by_cases e : z = y
  · subst e
    rw [atKey_put_same hi (by trivial)]
    simp
  · rw [atKey_put_other (fun e2 => e (ekey_inj (inn_small hs hz).1 (inn_small hs hz).2 (inn_small hs hy).1 (inn_small hs hy).2 e2)), hD z hz]
    simp [e]

theorem wpListIn_append_rowI {P : Program} (hgd : o.guard = none) (s x : Operand) (t : TypeId)
    (ho : o.op = .call { callee := .builtin .append, args := #[s, x], argTypes := #[t, t] })
    (base : Nat) (e : TypeId) (i : TypeInfo) (z : Value) (size bytes : Nat) (ht : P.underlying t = some (.slice e)) (hi : P.info? e = some i) (hz : i.zero = some z)
    (hsize : i.size = size) (hby : i.bytes = bytes) (hzs : z.cells.size = size) (hsz : 0 < size)
    (v : Value) (n : Nat) (xs : List Value) (hs : a.eval s = v) (hown : Row w base e size v n xs)
    (k c : Nat) (news : List Value) (hx : a.eval x = .slice (some ⟨k, 0, none⟩) 1 c) (hl : news.length = size) (hnews : ∃ fr, w.heap[k]? = some (.cells news.toArray e fr)) (h1 : ∀ u ∈ news, u.oneCell' = true)
    (h63 : n + 1 ≤ maxLen) (hbytes : (n + 1) * bytes ≤ 140737488355328) (hbase : base ≤ w.heap.size)
    (h : ∀ v' w', Row w' base e size v' (n + 1) (xs ++ news) → w.grownBy w' v.ownBlock → (v'.ownBlock = v.ownBlock ∨ ∃ k, v'.ownBlock = some k ∧ w.heap.size ≤ k) → wpListIn F nF P ops Q rest (a.put o.dst v') w') : wpListIn F nF P ops Q (o :: rest) a w := by
  refine wpListIn_plain hgd fun K' hK' => ?_
  obtain ⟨v', w', hr, h2, h3, h4⟩ := run_append_row (P := P) w base t o.type e i z size bytes ht hi hz hsize hby hzs hsz v n xs hown (some ⟨k, 0, none⟩) 1 c news (by omega)
    (fun _ => ⟨_, rfl, fun j u hj => by
      obtain ⟨fr, hf⟩ := hnews
      have := (List.getElem?_eq_some_iff.1 hj)
      simp [Addr.add_lit, World.cell?, hf, hj]⟩) h1 h63 hbytes hbase
  unfold Oper.wpIn
  refine ⟨by simp [Oper.about, ho, resolve, Target.leads, Sem.run_pure], ?_⟩
  rw [Oper.semAt_plain F _ _ (by rw [ho]; intro c hc'; cases hc')]
  unfold execOp
  simp only [ho, resolve, invoke, builtin, Sem.run_bind, Sem.run_pure, Result.andThen_ok, List.map_toArray, List.map_cons, List.map_nil, hs, hx, hr]
  exact hK' _ _ (h v' w' h2 h3 h4)
end

/-- A row without its last element. -/
theorem Row.init {w : World} {base : Nat} {e : TypeId} {size n cap : Nat} {ad : Option Addr} {xs : List Value} (h : Row w base e size (.slice ad (n + 1) cap) (n + 1) xs) : Row w base e size (.slice ad n cap) n (xs.take (n * size)) := by
  obtain ⟨hl, h⟩ := h
  refine ⟨by rw [List.length_take, hl, Nat.add_mul]; omega, ?_⟩
  rcases h with ⟨h, h0⟩ | ⟨g, off, cap', cur, hv, h2, h3, h4, h5, h6, h7⟩
  · omega
  · simp only [Value.slice.injEq] at hv
    obtain ⟨rfl, _, rfl⟩ := hv
    refine .inr ⟨g, off, cap, cur, rfl, h2, h3, by omega, h5, h6, ?_⟩
    rw [← h7, List.take_take, Nat.min_eq_left (Nat.mul_le_mul_right _ (by omega))]

end Go.Proofs.YtfcpnggdpaeldaaGreat

/-
  The events of a trace, one after the other: the program's iterator.
-/
namespace Go.Proofs.YtfcpnggdpaeldaaGreat
open Go.RowKit
set_option linter.unusedVariables false
open Go.Shelf
attribute [local go_sem] Oper.semAt_some

/-- What a round is handed: an event's name, and the slice of its assignments. -/
abbrev EvA (t : Tr) (w : World) := { x : Eid × Value // Inn t x.1 ∧ Sl RAsg 2 w x.2 (ev t x.1).asg }
/-- Its two values. -/
abbrev encE (t : Tr) (w : World) (x : EvA t w) : Array Value :=
  #[.agg #[.int .i64 (x.1.1.1 : Int), .int .i64 ((x.1.1.2 : Int) + 1)], .agg #[.int .i64 (ev t x.1.1).kind, .int .i64 (ev t x.1.1).peer, .int .i64 (ev t x.1.1).msg, .int .i64 (ev t x.1.1).time, x.1.2]]
/-- The names that have come. -/
def nms {t : Tr} {w : World} (l : List (EvA t w)) : List Eid := l.map fun x => x.1.1
theorem nms_snoc {t : Tr} {w : World} (l : List (EvA t w)) (x : EvA t w) : nms (l ++ [x]) = nms l ++ [x.1.1] := by simp [nms]
theorem nms_len {t : Tr} {w : World} (l : List (EvA t w)) : (nms l).length = l.length := by simp [nms]

abbrev prT (s : ByteArray) (v u : Value) : Obj := .cells #[.string s, v, u] 58
abbrev evO (a b c d : Int) (v : Value) : Obj := .cells #[.int .i64 a, .int .i64 b, .int .i64 c, .int .i64 d, v] 62

set_option maxRecDepth 100000 in
set_option maxHeartbeats 4000000 in
theorem events1_in (n : Nat) (hn : 1 ≤ n) (l Bn n₀ : Nat) (v : Value) (t : Tr) (w : World) (hT : TrAt w v t) (hs : SmallTr t) (hn₀ : n₀ = w.heap.size) (J Jx : List (EvA t w) → World → Prop)
    (W : World) (hW : Below n₀ w W) (hJ : AbidesFrom W.heap.size J)
    (hY : ∀ pre x W1, J pre W1 → pre.length < (ids t).length → YieldAt Fence.wide (n - 1) Tryz.prog l (encE t w x) W1 fun e W' =>
      (e = .returned (.bool true) ∧ J (pre ++ [x]) W' ∧ Below n₀ W1 W') ∨ (e = .returned (.bool false) ∧ Jx (pre ++ [x]) W'))
    (hBn : W.cell? ⟨Bn, 0, none⟩ = some v) (h0 : J [] W) :
    CallsIn Fence.wide n Tryz.prog 114 #[.func (.yield l) #[] #[], .pointer (some ⟨Bn, 0, none⟩)] W fun e W' => (∃ v, e = .returned v) ∧
      ((∃ xs, nms xs = ids t ∧ J xs W') ∨ (∃ pre, nms pre <+: ids t ∧ Jx pre W')) := by
  have HT := Lib.hid hT
  have HS := Lib.hid hs
  have HW := Lib.hid hW
  have HJ := Lib.hid hJ
  have HY := Lib.hid hY
  have H0 := Lib.hid h0
  have HN := Lib.hid hn₀
  obtain ⟨ta, tc, rfl, htc⟩ := hT.sh
  have hn1 := hs.1
  have HNS : Hid (Below w.heap.size w W) := Lib.hid (hn₀ ▸ hW)
  generalize hln : t.length = N at *
  have HL := Lib.hid hln
  clear hT hs hW hJ hY h0 hn₀ hln
  refine callsIn_of_wp Tryz.func114 rfl trivial ?_ rfl
  simp only [Tryz.ntmps114, List.size_toArray, List.length_cons, List.length_nil, Nat.reduceAdd, Nat.reduceSub, Array.replicate_succ, Array.replicate_zero, List.push_toArray, List.append_toArray, List.nil_append, List.cons_append]
  gi_wp2
  gi_loopg [10] N (fun g s10 wr => ∃ p : Nat, p ≤ N ∧ N - p ≤ g ∧ s10 = .int .i64 p ∧ Aside (∃ pre, nms pre = idsTo t p 0 ∧ J pre wr) ∧ Aside (Below n₀ W wr))
  case atStart => exact ⟨0, Nat.zero_le _, by omega, rfl, (show Aside _ from ⟨[], rfl, H0.out⟩), (show Below _ _ _ from Below.refl _ _)⟩
  case round =>
    obtain ⟨p, hp, hg, rfl, HPre, HB⟩ := hrel
    by_cases hlt : p < N
    · have hltz : (p : Int) < (N : Int) := by omega
      have hpz : (0 : Int) ≤ (p : Int) := by omega
      obtain ⟨B, O, C, vv, ve, hve, hlC, hB, hn0, hv0, he0, hV, hE0⟩ := proc_at HT.out p (by rw [HL.out]; exact hlt)
      simp only [Value.slice.injEq] at hve
      obtain ⟨rfl, hzz, rfl⟩ := hve
      obtain ⟨xa, xc, rfl, hvc⟩ := hV.sh
      obtain ⟨ea, ec, rfl, hec⟩ := hE0.sh
      have hen := (HS.out.2 p (by rw [HL.out]; exact hlt)).2.1
      have HE0 := Lib.hid hE0
      have HBW : Hid (Below w.heap.size w wr) := Lib.hid (HNS.out.trans (HN.out ▸ HB.out))
      have hn1 := (HBW.out.cell (p := ⟨B, O + p * 3, none⟩) hB).trans hn0
      have hv1 := (HBW.out.cell (p := ⟨B, O + p * 3 + 1, none⟩) hB).trans hv0
      have he1 := (HBW.out.cell (p := ⟨B, O + p * 3 + 2, none⟩) hB).trans he0
      have HPL := Lib.hid (show p < t.length from by rw [HL.out]; exact hlt)
      generalize hx : t[p]! = x at *
      generalize hnv : x.vars.length = nv at *
      generalize hne : x.events.length = ne at *
      have HX := Lib.hid hx
      have HNE := Lib.hid hne
      clear hn0 hv0 he0 hV hE0 hzz hx hnv hne
      gi_wp2
      obtain ⟨wo, rfl⟩ : ∃ x, x = wr := ⟨_, rfl⟩
      have HBX := Lib.hid (heap_alloc_new wo (prT x.name (.slice xa nv xc) (.slice ea ne ec)))
      gi_loopg [18] ne (fun g s18 wr => ∃ i : Nat, i ≤ ne ∧ ne - i ≤ g ∧ s18 = .int .i64 i ∧ Aside (∃ pre, nms pre = idsTo t p i ∧ J pre wr) ∧ Aside (Below n₀ W wr ∧ wo.heap.size < wr.heap.size))
      case atStart =>
        refine ⟨0, Nat.zero_le _, by omega, rfl, (show Aside _ from ?_), (show Aside _ from ?_)⟩
        · obtain ⟨pre, h1, h2⟩ := HPre.out
          exact ⟨pre, h1, HJ.out pre _ _ none h2 (World.grownBy_alloc _ _ none) (fun r e => by cases e)⟩
        · exact ⟨HB.out.alloc (by have := HW.out.size; have := HB.out.size; have := HN.out; omega) _, by simp⟩
      case round =>
        obtain ⟨i, hi, hg2, rfl, HPre2, HB2⟩ := hrel
        by_cases hlti : i < ne
        · have hltz2 : (i : Int) < (ne : Int) := by omega
          have hiz : (0 : Int) ≤ (i : Int) := by omega
          obtain ⟨EB, EO, EC, va, hee, hlE, hEB, k0, k1, k2, k3, k4, hA⟩ := event_at HE0.out i (by rw [HNE.out]; exact hlti)
          simp only [Value.slice.injEq] at hee
          obtain ⟨rfl, hzz, rfl⟩ := hee
          obtain ⟨ua, uc, rfl, huc⟩ := hA.sh
          have HBV : Hid (Below w.heap.size w wr) := Lib.hid (HNS.out.trans (HN.out ▸ HB2.out.1))
          have m0 := (HBV.out.cell (p := ⟨EB, EO + i * 5, none⟩) hEB).trans k0
          have m1 := (HBV.out.cell (p := ⟨EB, EO + i * 5 + 1, none⟩) hEB).trans k1
          have m2 := (HBV.out.cell (p := ⟨EB, EO + i * 5 + 2, none⟩) hEB).trans k2
          have m3 := (HBV.out.cell (p := ⟨EB, EO + i * 5 + 3, none⟩) hEB).trans k3
          have m4 := (HBV.out.cell (p := ⟨EB, EO + i * 5 + 4, none⟩) hEB).trans k4
          have hin : Inn t (p, i) := ⟨HPL.out, by show i < t[p]!.events.length; rw [HX.out, HNE.out]; exact hlti⟩
          have hEVE : ev t (p, i) = x.events[i]! := by show t[p]!.events[i]! = _; rw [HX.out]
          have HHY : Hid (∃ pre, nms pre = idsTo t p i ∧ YieldAt Fence.wide (n - 1) Tryz.prog l (encE t w ⟨((p, i), .slice ua x.events[i]!.asg.length uc), hin, by rw [hEVE]; exact hA⟩) (wr.alloc (evO x.events[i]!.kind x.events[i]!.peer x.events[i]!.msg x.events[i]!.time (.slice ua x.events[i]!.asg.length uc))) fun e W' =>
              (e = .returned (.bool true) ∧ (∃ pre', nms pre' = idsTo t p (i + 1) ∧ J pre' W') ∧ Below n₀ (wr.alloc (evO x.events[i]!.kind x.events[i]!.peer x.events[i]!.msg x.events[i]!.time (.slice ua x.events[i]!.asg.length uc))) W') ∨ (e = .returned (.bool false) ∧ ∃ pre', nms pre' <+: ids t ∧ Jx pre' W')) := Lib.hid (by
            obtain ⟨pre, h1, h2⟩ := HPre2.out
            refine ⟨pre, h1, ?_⟩
            have hpf : nms (pre ++ [⟨((p, i), .slice ua x.events[i]!.asg.length uc), hin, by rw [hEVE]; exact hA⟩]) <+: ids t := by rw [nms_snoc, h1, ← idsTo_succ]; exact idsTo_ids HPL.out (by rw [HX.out, HNE.out]; omega)
            refine (HY.out pre ⟨((p, i), .slice ua x.events[i]!.asg.length uc), hin, by rw [hEVE]; exact hA⟩ _ (HJ.out pre _ _ none h2 (World.grownBy_alloc _ _ none) (fun r e => by cases e)) ?_).mono ?_
            · have := hpf.length_le; rw [nms_len] at this; simp at this; omega
            · rintro e W' (⟨rfl, hj, hk⟩ | ⟨rfl, hj⟩)
              · exact .inl ⟨rfl, ⟨_, by rw [nms_snoc, h1, ← idsTo_succ], hj⟩, hk⟩
              · exact .inr ⟨rfl, _, hpf, hj⟩)
          obtain ⟨pre, _, fn, tmps, assign, body, hy, hR⟩ := HHY.out
          simp only [encE, hEVE] at hy
          generalize hev : x.events[i]! = y at *
          generalize y.asg.length = na at *
          clear HHY hEVE k0 k1 k2 k3 k4 hzz hev
          have HR := Lib.hid hR
          clear hR hin hA
          gi_wp2
          refine HR.out.mono ?_
          rintro e W3 (⟨rfl, hJ3, hk3⟩ | ⟨rfl, hJx3⟩)
          · gi_wp2
            gi_roundg (ne - (i + 1))
            case measure => omega
            case rel =>
              refine ⟨i + 1, by omega, by omega, by go_num, (show Aside _ from hJ3), (show Aside _ from ⟨HB2.out.1.trans ((Below.alloc (Below.refl n₀ wr) (by have := HW.out.size; have := HB2.out.1.size; have := HN.out; omega) _).trans hk3), ?_⟩)⟩
              have := hk3.size; have := HB2.out.2; simp at *; omega
          · gi_wp2
            refine bodyPost_ret (results_none rfl _ _ _) rfl ?_
            exact ⟨⟨_, rfl⟩, .inr hJx3⟩
        · have hltz2 : ¬ (i : Int) < (ne : Int) := by omega
          obtain rfl : i = ne := by omega
          gi_wp2
          gi_roundg (N - (p + 1))
          case measure => omega
          case rel =>
            refine ⟨p + 1, by omega, by omega, by go_num, (show Aside _ from ?_), (show Below _ _ _ from HB2.out.1)⟩
            obtain ⟨pre, h1, h2⟩ := HPre2.out
            exact ⟨pre, by rw [h1, ← idsTo_next, HX.out, HNE.out], h2⟩
    · have hltz : ¬ (p : Int) < (N : Int) := by omega
      obtain rfl : p = N := by omega
      gi_wp2
      go_end0
      obtain ⟨pre, h1, h2⟩ := HPre.out
      exact ⟨⟨_, rfl⟩, .inl ⟨pre, by rw [h1]; unfold ids; rw [HL.out], h2⟩⟩


theorem events_in (n : Nat) (v : Value) (w : World) : CallsIn Fence.wide n Tryz.prog 103 #[.agg #[v]] w fun e w' =>
    e = .returned (.func (.func 114) #[] #[.pointer (some ⟨w.heap.size, 0, none⟩)]) ∧ w' = w.alloc (.cells #[v] 24) := by
  refine callsIn_of_wp Tryz.func103 rfl trivial ?_ rfl
  simp only [Tryz.ntmps103, List.size_toArray, List.length_cons, List.length_nil, Nat.reduceAdd, Nat.reduceSub, Array.replicate_succ, Array.replicate_zero, List.push_toArray, List.append_toArray, List.nil_append, List.cons_append]
  gi_wp2
  go_ret
  exact ⟨rfl, rfl⟩

theorem enters_114 : ∀ args w, (callFunc 114 args).run Tryz.prog w = .ok (.enter 114 args) w := enters_of Tryz.func114 (by kernel_rfl) rfl

/-- The events of a trace, in their order: all; or the first few, where a round has said 'no more'. -/
theorem events_stops (n : Nat) (hn : 1 ≤ n) (Bn : Nat) (v : Value) (t : Tr) (w w0 : World) (hT : TrAt w v t) (hs : SmallTr t) (h0 : Below w.heap.size w w0) (hBl : Bn < w0.heap.size) (hBn : w0.cell? ⟨Bn, 0, none⟩ = some v) :
    SeqStopsK Fence.wide n Tryz.prog 114 #[.pointer (some ⟨Bn, 0, none⟩)] (encE t w) (Below w.heap.size) (fun xs => nms xs = ids t) (fun pre => nms pre <+: ids t) (ids t).length w0 := fun l J Jx W hW hJ _ hY hJ0 =>
  events1_in n hn l Bn w.heap.size v t w hT hs rfl J Jx W (h0.trans (hW.mono h0.size)) hJ hY ((hW.cell (p := ⟨Bn, 0, none⟩) hBl).trans hBn) hJ0

end Go.Proofs.YtfcpnggdpaeldaaGreat
