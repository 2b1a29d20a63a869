import Derived.Test.YtfcpnggdpaeldaaGreatJa
import Derived.Test.YtfcpnggdpaeldaaGreatProg
import Derived.Test.YtfcpnggdpaeldaaGreatGn
import Derived.Test.YtfcpnggdpaeldaaGreatGe
import Derived.BigQuiet
import Derived.Deep.QuietTactic
import Derived.Deep.LoopGhost
import Derived.Shelf.Abstract
import Derived.RangeFuncNested
import Derived.RangeFuncBound
import Derived.RangeFuncCalls
import Derived.RangeFuncLeaves
import Derived.Shelf.RegionOpen
import Derived.OwnWalkIn
import Derived.TacticsInMore
import Derived.LoopNIn
import Derived.LoopIn
import Derived.Sort.LoopGhostIn
import Derived.Sort.CutIn
/-
  The event of a kind with a number in a valid trace: the program's find.
-/
namespace Go.Proofs.YtfcpnggdpaeldaaGreat
open Go.RowKit
set_option linter.unusedVariables false
open Go.Shelf
attribute [local go_sem] Oper.semAt_some

/-- What is found: nothing in a trace that is not valid. -/
noncomputable def fndO (t : Tr) (k m : Int) : Option Eid := if validT t = true then findE t k m else none
def FndOut (t : Tr) (k m : Int) (w w' : World) (e : Ending) : Prop := e = .returned (.tuple #[.agg #[.int .i64 (eidA (fndO t k m)), .int .i64 (eidB (fndO t k m))], .bool (fndO t k m).isSome]) ∧ Ext w w'
/-- Between two rounds. -/
def FndI (t : Tr) (w : World) (kd m : Int) (pre : List (EvA t w)) (W : World) : Prop :=
  (W.heap[w.heap.size + 1]? = some (.cells #[.int .i64 kd] 3) ∧ W.heap[w.heap.size + 1 + 1]? = some (.cells #[.int .i64 m] 3) ∧ W.heap[w.heap.size + 1 + 1 + 1]? = some (idO 0 0) ∧ W.heap[w.heap.size + 1 + 1 + 1 + 1]? = some (.cells #[.bool false] 4)) ∧
  firstIn (nms pre) t kd m = none ∧ Ext w W ∧ w.heap.size + 6 ≤ W.heap.size
/-- A round has left by a return. -/
def FndX (t : Tr) (w : World) (kd m : Int) (c : Code) (pre : List (EvA t w)) (W : World) : Prop :=
  c = .ret ∧ (∃ l x, nms pre = l ++ [x] ∧ firstIn (nms pre) t kd m = some x ∧ W.heap[w.heap.size + 1 + 1 + 1]? = some (idO (x.1 : Int) ((x.2 : Int) + 1)) ∧ W.heap[w.heap.size + 1 + 1 + 1 + 1]? = some (.cells #[.bool true] 4)) ∧ Ext w W
theorem fndI_own (t : Tr) (w : World) (kd m : Int) (B : Nat) (hB : w.heap.size ≤ B) : OwnFrom B (FndI t w kd m) := fun s A A' row hs hg hr => by
  obtain ⟨⟨h0, h1, h2, h3⟩, ho, hE, hz⟩ := hs
  have hr' := fun r e => (hr r e).2
  exact ⟨⟨heap_kept h0 hg hr', heap_kept h1 hg hr', heap_kept h2 hg hr', heap_kept h3 hg hr'⟩, ho, ownFrom_below (β := Unit) (Nat.le_refl _) hB () A A' row hE hg hr, Nat.le_trans hz hg.size⟩
theorem fndX_own (t : Tr) (w : World) (kd m : Int) (c : Code) (B : Nat) (hB : w.heap.size ≤ B) : OwnFrom B (FndX t w kd m c) := fun s A A' row hs hg hr => by
  obtain ⟨hc, ⟨l, x, e1, e2, h1, h2⟩, hE⟩ := hs
  have hr' := fun r e => (hr r e).2
  exact ⟨hc, ⟨l, x, e1, e2, heap_kept h1 hg hr', heap_kept h2 hg hr'⟩, ownFrom_below (β := Unit) (Nat.le_refl _) hB () A A' row hE hg hr⟩
theorem firstIn_pre {pre : List Eid} {t : Tr} {k m : Int} {x : Eid} (hp : pre <+: ids t) (h : firstIn pre t k m = some x) : findE t k m = some x := by
  obtain ⟨post, hp⟩ := hp
  unfold findE firstIn at *
  rw [← hp, List.find?_append, h]; rfl

theorem res3_ext {w W : World} (h : Ext w W) (p q e : Value) : Ext w (((W.setCell ⟨w.heap.size + 1 + 1 + 1, 0, none⟩ p).setCell ⟨w.heap.size + 1 + 1 + 1, 1, none⟩ q).setCell ⟨w.heap.size + 1 + 1 + 1 + 1, 0, none⟩ e) :=
  ((h.st (p := ⟨w.heap.size + 1 + 1 + 1, 0, none⟩) (by simp; omega) _).st (p := ⟨w.heap.size + 1 + 1 + 1, 1, none⟩) (by simp; omega) _).st (p := ⟨w.heap.size + 1 + 1 + 1 + 1, 0, none⟩) (by simp; omega) _
set_option maxHeartbeats 8000000 in
set_option maxRecDepth 100000 in
theorem findP_calls (v : Value) (t : Tr) (kd m : Int) (w : World) (h : TrAt w v t) (hs : SmallTr t) : Calls Tryz.prog 98 #[.agg #[v], .int .i64 kd, .int .i64 m] w fun e w' => FndOut t kd m w w' e := by
  have HT := Lib.hid h
  have HS := Lib.hid hs
  have HVC := Lib.hid (fun W (hW : Ext w W) => validP_calls v t W (h.ext hW) hs.loose)
  obtain ⟨ta, tc, rfl, htc⟩ := h.sh
  have hn1 := hs.1
  obtain ⟨vt, hvt⟩ : ∃ b, validT t = b := ⟨_, rfl⟩
  rw [hvt] at HVC
  have HVT := Lib.hid hvt
  generalize hln : t.length = N at *
  have HB := Lib.hid (fun i o => allocs_at [.cells #[.slice ta N tc] 24, .cells #[.int .i64 kd] 3, .cells #[.int .i64 m] 3, idO 0 0, .cells #[.bool false] 4] w i o)
  have hE5 : Ext w (((((w.alloc (.cells #[.slice ta N tc] 24)).alloc (.cells #[.int .i64 kd] 3)).alloc (.cells #[.int .i64 m] 3)).alloc (idO 0 0)).alloc (.cells #[.bool false] 4)) := (by repeat (first | refine Ext.st ?_ (by first | exact Nat.le_refl _ | exact Nat.le_succ _ | assumption | omega) _ | refine Ext.al ?_ _ | refine Ext.dr ?_ | refine Ext.drN ?_ _ | exact Ext.rf _))
  clear h hs hln hvt
  refine (callsIn_wide (n := 9)).1 ?_
  refine callsIn_of_wp_marks Tryz.func98 rfl trivial ?_ rfl
  simp only [Tryz.ntmps98, List.size_toArray, List.length_cons, List.length_nil, Nat.reduceAdd, Nat.reduceSub, Array.replicate_succ, Array.replicate_zero, List.push_toArray, List.append_toArray, List.nil_append, List.cons_append]
  gi_wp2_with fail
  obtain ⟨w3, hw3⟩ : ∃ z, ((((w.alloc (.cells #[.slice ta N tc] 24)).alloc (.cells #[.int .i64 kd] 3)).alloc (.cells #[.int .i64 m] 3)).alloc (idO 0 0)).alloc (.cells #[.bool false] 4) = z := ⟨_, rfl⟩
  have HB : Hid (∀ i o, _ → w3.heap[w.heap.size + i]? = some o) := Lib.hid (fun i o h => hw3 ▸ HB.out i o h)
  have hsz3 : w3.heap.size = w.heap.size + 5 := by rw [← hw3]; simp
  rw [hw3] at hE5 ⊢
  clear hw3
  have HE3 := Lib.hid hE5
  clear hE5
  refine ⟨trivial, ((callsIn_wide (n := 9 - 1)).2 (HVC.out _ HE3.out)).mono ?_⟩
  rintro e w4 ⟨rfl, hX4⟩
  have HE4 := Lib.hid (HE3.out.trans' hX4)
  have HY0 := Lib.hid (hX4.hp (HB.out 0 _ rfl))
  have HY1 := Lib.hid (hX4.hp (HB.out 1 _ rfl))
  have HY2 := Lib.hid (hX4.hp (HB.out 2 _ rfl))
  have HY3 := Lib.hid (hX4.hp (HB.out 3 _ rfl))
  have HY4 := Lib.hid (hX4.hp (HB.out 4 _ rfl))
  have hsz4 : w.heap.size + 5 ≤ w4.heap.size := by have := hX4.size; omega
  clear hX4 HB hsz3
  have t0 := cellOf HY0.out 0
  have c3 := cellOf HY3.out 0
  have c3b := cellOf HY3.out 1
  have c4 := cellOf HY4.out 0
  have f3 := freeOf HY3.out 0
  have f3b := freeOf HY3.out 1
  have f4 := freeOf HY4.out 0
  simp only [List.getElem?_toArray, List.getElem?_cons_zero, List.getElem?_cons_succ, Nat.add_zero] at t0 c3 c3b c4
  cases vt with
  | false =>
    have HF0 := Lib.hid (show fndO t kd m = none from by unfold fndO; rw [if_neg (by rw [HVT.out]; decide)])
    gi_wp2
    obtain ⟨r1, r2, ro⟩ := two_res (k := w.heap.size + 1 + 1) HY3.out HY4.out (.int .i64 0) (.int .i64 0) (.bool false)
    have hE9 := res3_ext HE4.out (.int .i64 0) (.int .i64 0) (.bool false)
    have s1 := cellOf r1 0
    have s1b := cellOf r1 1
    have s2 := cellOf r2 0
    simp only [List.getElem?_toArray, List.getElem?_cons_zero, List.getElem?_cons_succ] at s1 s1b s2
    exact ⟨.tuple #[.agg #[.int .i64 0, .int .i64 0], .bool false], by simp [results, Tryz.results98, go_sem, s1, s1b, s2], ⟨by rw [HF0.out]; rfl, hE9⟩⟩
  | true =>
  have HF1 := Lib.hid (show fndO t kd m = findE t kd m from by unfold fndO; rw [if_pos HVT.out])
  gi_wp2_with fail
  refine ⟨trivial, (events_in 8 _ _).mono ?_⟩
  rintro e w' ⟨rfl, rfl⟩
  gi_wp2
  clear t0 c3 c3b c4 f3 f3b f4
  have hE0 : Ext w (w4.alloc (.cells #[.slice ta N tc] 24)) := HE4.out.al _
  have hXT : Ext w4 (w4.alloc (.cells #[.slice ta N tc] 24)) := (Ext.rf w4).al _
  have hc6 : (w4.alloc (.cells #[.slice ta N tc] 24)).cell? ⟨w4.heap.size, 0, none⟩ = some (.slice ta N tc) := cell_new _ _ _ _ _ rfl
  have hsz : (w4.alloc (.cells #[.slice ta N tc] 24)).heap.size = w4.heap.size + 1 := by simp
  have hi0 : FndI t w kd m [] (w4.alloc (.cells #[.slice ta N tc] 24)) := ⟨⟨hXT.hp HY1.out, hXT.hp HY2.out, hXT.hp HY3.out, hXT.hp HY4.out⟩, rfl, hE0, by omega⟩
  obtain ⟨W0, hW0⟩ : ∃ W0, w4.alloc (.cells #[.slice ta N tc] 24) = W0 := ⟨_, rfl⟩
  rw [hW0] at hE0 hc6 hsz hi0 ⊢
  clear hW0 hXT
  refine wpIn_rangeFunc_ownH rfl (by decide) (gf := 114) (lb := #[.pointer (some ⟨w4.heap.size, 0, none⟩)]) rfl trivial enters_114
    (events_stops 8 (by decide) w4.heap.size _ t w W0 HT.out HS.out hE0 (by omega) hc6) belowK_t (belowK_b (by omega)) (Below.refl _ _) (fun _ => rfl)
    (FndI t w kd m) (FndX t w kd m) (fndI_own t w _ _ _ (by omega)) (fun c => fndX_own t w _ _ c _ (by omega)) hi0
    (fun x a' W => ∃ Bx ua uc, w.heap.size + 6 ≤ Bx ∧ x.1.2 = .slice ua (ev t x.1.1).asg.length uc ∧ W.heap[Bx]? = some (idO (x.1.1.1 : Int) ((x.1.1.2 : Int) + 1)) ∧ W.heap[Bx + 1]? = some (evO (ev t x.1.1).kind (ev t x.1.1).peer (ev t x.1.1).msg (ev t x.1.1).time (.slice ua (ev t x.1.1).asg.length uc)) ∧ a' = { tmps := #[.agg #[.slice ta N tc], .int .i64 kd, .int .i64 m, .pointer (some ⟨w.heap.size, 0, none⟩), .pointer (some ⟨w.heap.size + 1, 0, none⟩), .pointer (some ⟨w.heap.size + 1 + 1, 0, none⟩), .pointer (some ⟨w.heap.size + 1 + 1 + 1, 0, none⟩), .pointer (some ⟨w.heap.size + 1 + 1 + 1 + 1, 0, none⟩), .pointer (some ⟨Bx, 0, none⟩), .pointer (some ⟨Bx + 1, 0, none⟩), .agg #[.slice ta N tc], .bool true, .bool false, undef, .agg #[.slice ta N tc], .func (.func 114) #[] #[.pointer (some ⟨w4.heap.size, 0, none⟩)], .agg #[.int .i64 (x.1.1.1 : Int), .int .i64 ((x.1.1.2 : Int) + 1)], .agg #[.int .i64 (ev t x.1.1).kind, .int .i64 (ev t x.1.1).peer, .int .i64 (ev t x.1.1).msg, .int .i64 (ev t x.1.1).time, .slice ua (ev t x.1.1).asg.length uc], undef, undef, undef, undef, undef, undef, undef, undef, undef, undef, undef, undef], defers := [] })
    (fun x a' s A A' row hs hg hr => by obtain ⟨Bx, ua, uc, h0, hv, h1, h2, h3⟩ := hs; exact ⟨Bx, ua, uc, h0, hv, heap_kept h1 hg (fun r e => (hr r e).2), heap_kept h2 hg (fun r e => (hr r e).2), h3⟩)
    ?assign ?body ?done ?stop
  case assign =>
    rintro l pre x W K hi hK
    obtain ⟨ua, uc, hva, huc⟩ := x.2.2.sh
    have HK := Lib.hid hK
    have HI := Lib.hid hi
    have HVA := Lib.hid hva
    have hWs := hi.2.2.1.sz
    have hW7 := hi.2.2.2
    simp only [encE]
    rw [hva]
    generalize hkd : (ev t x.1.1).kind = k1
    generalize hpe : (ev t x.1.1).peer = pe
    generalize hms : (ev t x.1.1).msg = ms
    generalize hti : (ev t x.1.1).time = ti
    generalize hna : (ev t x.1.1).asg.length = na
    generalize hxp : (x.1.1.1 : Int) = xp
    generalize hxi : (x.1.1.2 : Int) = xi
    have HG := Lib.hid (And.intro hkd (And.intro hpe (And.intro hms (And.intro hti (And.intro hna (And.intro hxp hxi))))))
    clear hK hi hva hkd hpe hms hti hna hxp hxi huc hi0 hc6
    gi_wp2
    obtain ⟨rfl, rfl, rfl, rfl, rfl, rfl, rfl⟩ := HG.out
    have g0 := heap_alloc_new W (idO (x.1.1.1 : Int) ((x.1.1.2 : Int) + 1))
    have g1 := heap_new_eq (w := W.alloc (idO (x.1.1.1 : Int) ((x.1.1.2 : Int) + 1))) (o := evO (ev t x.1.1).kind (ev t x.1.1).peer (ev t x.1.1).msg (ev t x.1.1).time (.slice ua (ev t x.1.1).asg.length uc)) (b := W.heap.size + 1) (by simp)
    refine HK.out _ _ (((KeepsOthers.alloc _ _).trans (KeepsOthers.alloc _ _)).from _) (((Below.refl w.heap.size W).alloc hWs _).alloc (by simp; omega) _) ((fndI_own t w _ _ w.heap.size (Nat.le_refl _)).alloc _ ((fndI_own t w _ _ w.heap.size (Nat.le_refl _)).alloc _ HI.out)) ⟨W.heap.size, ua, uc, hW7, HVA.out, ((Ext.rf _).al _).hp g0, g1, rfl⟩
  case body =>
    rintro l pre x a' W hl ⟨r, hr⟩ hI ⟨Bx, ua, uc, hB7, hva, hb0, hb1, rfl⟩ hlt
    obtain ⟨⟨i1, i2, i3, i4⟩, hok, hE, hz⟩ := hI
    have HOK := Lib.hid hok
    have HEW := Lib.hid hE
    have h1 := Lib.hid i1
    have h2 := Lib.hid i2
    have h3 := Lib.hid i3
    have h4 := Lib.hid i4
    have hx := Lib.hid hb0
    have hy := Lib.hid hb1
    have HSNC := Lib.hid (firstIn_snoc (nms pre) t kd m x.1.1)
    clear hr hlt hva hok hE i1 i2 i3 i4 hb0 hb1 hi0 hc6
    have k1 := cellOf h1.out 0
    have k2 := cellOf h2.out 0
    have c3 := cellOf h3.out 0
    have c3b := cellOf h3.out 1
    have c4 := cellOf h4.out 0
    have f3 := freeOf h3.out 0
    have f3b := freeOf h3.out 1
    have f4 := freeOf h4.out 0
    have x0 := cellOf hx.out 0
    have x1 := cellOf hx.out 1
    have y0 := cellOf hy.out 0
    have y2 := cellOf hy.out 2
    simp only [List.getElem?_toArray, List.getElem?_cons_zero, List.getElem?_cons_succ] at k1 k2 c3 c3b c4 x0 x1 y0 y2
    generalize hxx : x.1.1 = xx at *
    have HXX := Lib.hid hxx
    generalize ev t xx = y at *
    generalize y.asg.length = na at *
    obtain ⟨xp, xi⟩ := xx
    simp only at *
    clear hxx
    obtain ⟨b1, hb1⟩ : ∃ b, (y.kind == kd) = b := ⟨_, rfl⟩
    obtain ⟨b2, hb2⟩ : ∃ b, (y.msg == m) = b := ⟨_, rfl⟩
    have HFI : Hid (firstIn (nms pre ++ [(xp, xi)]) t kd m = if (b1 && b2) = true then some (xp, xi) else none) := Lib.hid (by
      rw [HSNC.out, HOK.out, ← hb1, ← hb2]; simp)
    clear HSNC
    cases b1 with
    | true =>
      cases b2 with
      | true =>
        gi_wp2
        obtain ⟨r1, r2, ro⟩ := two_res (k := w.heap.size + 1 + 1) h3.out h4.out (.int .i64 (xp : Int)) (.int .i64 ((xi : Int) + 1)) (.bool true)
        exact ⟨(((KeepsOthers.setCell _ _ _).trans ((KeepsOthers.setCell _ _ _).trans (KeepsOthers.setCell _ _ _))).from _), rfl, ⟨nms pre, (xp, xi), by rw [nms_snoc, HXX.out], by rw [nms_snoc, HXX.out, HFI.out]; rfl, r1, r2⟩, res3_ext HEW.out _ _ _⟩
      | false =>
        gi_wp2
        exact ⟨KeepsFrom.refl _ _, Below.refl _ _, ⟨h1.out, h2.out, h3.out, h4.out⟩, by rw [nms_snoc, HXX.out, HFI.out]; rfl, HEW.out, hz⟩
    | false =>
      gi_wp2
      exact ⟨KeepsFrom.refl _ _, Below.refl _ _, ⟨h1.out, h2.out, h3.out, h4.out⟩, by rw [nms_snoc, HXX.out, HFI.out]; rfl, HEW.out, hz⟩
  case done =>
    rintro D ys W hD hys hI hK
    obtain ⟨⟨i1, i2, i3, i4⟩, hok, hE, hz⟩ := hI
    have h3 := Lib.hid i3
    have h4 := Lib.hid i4
    have HOK := Lib.hid (show findE t kd m = none from by unfold findE; rw [← hys]; exact hok)
    have HEW := Lib.hid hE
    have HKD := Lib.hid hK
    have c3 := cellOf i3 0
    have c3b := cellOf i3 1
    have c4 := cellOf i4 0
    have f3 := freeOf i3 0
    have f3b := freeOf i3 1
    have f4 := freeOf i4 0
    simp only [List.getElem?_toArray, List.getElem?_cons_zero, List.getElem?_cons_succ] at c3 c3b c4
    clear hi0 hc6 hys hok hE hK i1 i2 i3 i4
    gi_wp2
    obtain ⟨r1, r2, ro⟩ := two_res (k := w.heap.size + 1 + 1) h3.out h4.out (.int .i64 0) (.int .i64 0) (.bool false)
    have hE9 := res3_ext HEW.out (.int .i64 0) (.int .i64 0) (.bool false)
    have hK4 := (ro D (by omega) (by omega)).trans HKD.out
    refine ⟨by simp, .inl ⟨_, _, rfl, run_takeDeferred hK4, ?_⟩⟩
    obtain ⟨s1, s1b, s2, hE5⟩ := ret_marks (k := w.heap.size + 1 + 1) r1 r2 hK4 hE9 (by omega)
    exact ⟨.tuple #[.agg #[.int .i64 0, .int .i64 0], .bool false], by simp [results, Tryz.results98, go_sem, s1, s1b, s2], ⟨by rw [HF1.out, HOK.out]; rfl, hE5⟩⟩
  case stop =>
    rintro D c pre W hD hpre ⟨rfl, ⟨l0, x0, e1, e2, i3, i4⟩, hE⟩ hK
    have h3 := Lib.hid i3
    have h4 := Lib.hid i4
    have HFX := Lib.hid (firstIn_pre hpre e2)
    have HEW := Lib.hid hE
    have HKD := Lib.hid hK
    clear hi0 hc6 hpre e1 e2 hE hK i3 i4
    gi_wp2
    refine ⟨by simp, .inl ⟨_, _, rfl, run_takeDeferred HKD.out, ?_⟩⟩
    obtain ⟨s1, s1b, s2, hE5⟩ := ret_marks (k := w.heap.size + 1 + 1) h3.out h4.out HKD.out HEW.out (by omega)
    exact ⟨.tuple #[.agg #[.int .i64 (x0.1 : Int), .int .i64 ((x0.2 : Int) + 1)], .bool true], by simp [results, Tryz.results98, go_sem, s1, s1b, s2], ⟨by rw [HF1.out, HFX.out]; rfl, hE5⟩⟩

end Go.Proofs.YtfcpnggdpaeldaaGreat

/-
  Who sends a number: the program's Sender.
-/
namespace Go.Proofs.YtfcpnggdpaeldaaGreat
open Go.RowKit
set_option linter.unusedVariables false

set_option maxHeartbeats 2000000 in
theorem senderP_calls (v : Value) (t : Tr) (m : Int) (w : World) (h : TrAt w v t) (hs : SmallTr t) : Calls Tryz.prog 80 #[.agg #[v], .int .i64 m] w fun e w' => FndOut t 2 m w w' e := by
  have HFC := Lib.hid (fun W (hW : Ext w W) => findP_calls v t 2 m W (h.ext hW) hs)
  obtain ⟨ta, tc, rfl, htc⟩ := h.sh
  generalize t.length = N at *
  have HX1 := Lib.hid (heap_new_eq (w := w.alloc (.cells #[.slice ta N tc] 24)) (o := idO 0 0) (b := w.heap.size + 1) (by simp))
  have HE2 : Hid (Ext w ((w.alloc (.cells #[.slice ta N tc] 24)).alloc (idO 0 0))) := Lib.hid (((Ext.rf w).al _).al _)
  clear h hs
  go_enter Tryz.func80, Tryz.ntmps80
  go_wp2_with fail
  generalize hw2 : (w.alloc (.cells #[.slice ta N tc] 24)).alloc (idO 0 0) = w2 at *
  clear hw2
  refine (HFC.out _ HE2.out).mono ?_
  rintro e w3 ⟨rfl, hX⟩
  have HZ1 := Lib.hid (hX.hp HX1.out)
  have HE3 := Lib.hid (HE2.out.trans' hX)
  clear hX
  generalize hA : eidA (fndO t 2 m) = za at *
  generalize hB : eidB (fndO t 2 m) = zb at *
  generalize hC : (fndO t 2 m).isSome = zc at *
  have HABC := Lib.hid (And.intro hA (And.intro hB hC))
  clear hA hB hC
  have q0 := cellOf HZ1.out 0
  have q1 := cellOf HZ1.out 1
  have g0 := freeOf HZ1.out 0
  have g1 := freeOf HZ1.out 1
  simp only [List.getElem?_toArray, List.getElem?_cons_zero, List.getElem?_cons_succ] at q0 q1
  go_wp2
  clear q0 q1 g0 g1
  have r0 := cellOf (id_set HZ1.out (.int .i64 za) (.int .i64 zb)) 0
  have r1 := cellOf (id_set HZ1.out (.int .i64 za) (.int .i64 zb)) 1
  simp only [List.getElem?_toArray, List.getElem?_cons_zero, List.getElem?_cons_succ] at r0 r1
  refine bodyPost_ret (v := .tuple #[.agg #[.int .i64 za, .int .i64 zb], .bool zc]) (by simp [results, Tryz.results80, go_sem, r0, r1]) rfl ?_
  exact ⟨by rw [HABC.out.1, HABC.out.2.1, HABC.out.2.2], id_ext HE3.out (by omega) _ _⟩

end Go.Proofs.YtfcpnggdpaeldaaGreat

/-
  Counts of events and consistent cuts, in plain words: what is missing in a cut, how it is repaired, and that the cuts are a lattice. No program is named here.
-/
namespace Go.Proofs.YtfcpnggdpaeldaaGreat
open Go.RowKit
set_option linter.unusedVariables false

/-! ### The events within counts, in order -/
def idsCTo (c : List Int) (p i : Nat) : List Eid := ((List.range p).flatMap fun q => (List.range c[q]!.toNat).map fun j => (q, j)) ++ (List.range i).map fun j => (p, j)
theorem idsCTo_zero (c : List Int) : idsCTo c 0 0 = [] := rfl
theorem idsCTo_succ (c : List Int) (p i : Nat) : idsCTo c p (i + 1) = idsCTo c p i ++ [(p, i)] := by
  simp [idsCTo, List.range_succ, List.append_assoc]
theorem idsCTo_next (c : List Int) (p : Nat) : idsCTo c p c[p]!.toNat = idsCTo c (p + 1) 0 := by
  simp [idsCTo, List.range_succ, List.flatMap_append]
theorem mem_idsCTo {c : List Int} {p i : Nat} {x : Eid} : x ∈ idsCTo c p i ↔ (x.1 < p ∧ x.2 < c[x.1]!.toNat) ∨ (x.1 = p ∧ x.2 < i) := by
  obtain ⟨q, j⟩ := x
  simp only [idsCTo, List.mem_append, List.mem_flatMap, List.mem_map, List.mem_range, Prod.mk.injEq]
  constructor
  · rintro (⟨q', h1, j', h2, rfl, rfl⟩ | ⟨j', h, rfl, rfl⟩)
    · exact .inl ⟨h1, h2⟩
    · exact .inr ⟨rfl, h⟩
  · rintro (⟨h1, h2⟩ | ⟨rfl, h⟩)
    · exact .inl ⟨q, h1, j, h2, rfl, rfl⟩
    · exact .inr ⟨j, h, rfl, rfl⟩
theorem idsCTo_grow (c : List Int) (p i : Nat) : ∀ k, i ≤ k → idsCTo c p i <+: idsCTo c p k := by
  intro k hk
  induction k with
  | zero => obtain rfl : i = 0 := by omega
            exact List.prefix_rfl
  | succ k ih =>
    by_cases e : i = k + 1
    · subst e; exact List.prefix_rfl
    · rw [idsCTo_succ]; exact (ih (by omega)).trans (List.prefix_append _ _)
theorem idsCTo_row (c : List Int) (p : Nat) : ∀ q, p ≤ q → idsCTo c p 0 <+: idsCTo c q 0 := by
  intro q hq
  induction q with
  | zero => obtain rfl : p = 0 := by omega
            exact List.prefix_rfl
  | succ q ih =>
    by_cases e : p = q + 1
    · subst e; exact List.prefix_rfl
    · rw [← idsCTo_next]; exact (ih (by omega)).trans (idsCTo_grow c q 0 _ (by omega))
theorem idsCTo_ids {c : List Int} {p i : Nat} (hp : p < c.length) (hi : i ≤ c[p]!.toNat) : idsCTo c p i <+: idsCTo c c.length 0 := by
  refine (idsCTo_grow c p i _ hi).trans ?_
  rw [idsCTo_next]
  exact idsCTo_row c (p + 1) c.length (by omega)

/-! ### What is missing -/
/-- The event is within the counts. -/
def InC (c : List Int) (x : Eid) : Prop := x.1 < c.length ∧ (x.2 : Int) < c[x.1]!
/-- The event is no receive, or its message is sent within the counts. -/
def sentB (t : Tr) (c : List Int) (x : Eid) : Bool :=
  !decide ((ev t x).kind = 3) || (match findE t 2 (ev t x).msg with | some s => decide ((s.2 : Int) + 1 ≤ c[s.1]!) | none => true)
theorem sentB_other {t : Tr} {c : List Int} {x : Eid} (h : (ev t x).kind ≠ 3) : sentB t c x = true := by simp [sentB, h]
theorem sentB_recv {t : Tr} {c : List Int} {x s : Eid} (h : (ev t x).kind = 3) (hs : findE t 2 (ev t x).msg = some s) : sentB t c x = decide ((s.2 : Int) + 1 ≤ c[s.1]!) := by simp [sentB, h, hs]
/-- The first of the events that are received and not sent. -/
def missTo (t : Tr) (c : List Int) (p i : Nat) : Option Eid := (idsCTo c p i).find? fun x => !sentB t c x
def missE (t : Tr) (c : List Int) : Option Eid := missTo t c c.length 0
theorem missTo_zero (t : Tr) (c : List Int) : missTo t c 0 0 = none := rfl
theorem missTo_next {t : Tr} {c : List Int} {p k : Nat} (h : missTo t c p k = none) (hk : k = c[p]!.toNat) : missTo t c (p + 1) 0 = none := by
  unfold missTo at *; rw [← idsCTo_next, ← hk]; exact h
theorem missTo_succ {t : Tr} {c : List Int} {p i : Nat} (h : missTo t c p i = none) (hs : sentB t c (p, i) = true) : missTo t c p (i + 1) = none := by
  unfold missTo at *; rw [idsCTo_succ, List.find?_append, h]; simp [hs]
theorem missTo_hit {t : Tr} {c : List Int} {p i : Nat} (h : missTo t c p i = none) (hs : sentB t c (p, i) = false) (hp : p < c.length) (hi : (i : Int) < c[p]!) : missE t c = some (p, i) := by
  obtain ⟨post, hpost⟩ := idsCTo_ids (c := c) (p := p) (i := i + 1) hp (by omega)
  unfold missE missTo at *
  rw [← hpost, List.find?_append, idsCTo_succ, List.find?_append, h]
  simp [hs]
theorem missE_some {t : Tr} {c : List Int} {x : Eid} (h : missE t c = some x) : InC c x ∧ sentB t c x = false := by
  unfold missE missTo at h
  have h1 := List.mem_of_find?_eq_some h
  have h2 := List.find?_some h
  rw [mem_idsCTo] at h1
  refine ⟨?_, by simpa using h2⟩
  unfold InC; omega
theorem missE_none {t : Tr} {c : List Int} : missE t c = none ↔ ∀ x, InC c x → sentB t c x = true := by
  unfold missE missTo
  rw [List.find?_eq_none]
  constructor
  · intro h x hx
    have := h x (mem_idsCTo.2 (.inl ⟨hx.1, by have := hx.2; omega⟩))
    simpa using this
  · intro h x hx
    rw [mem_idsCTo] at hx
    have := h x ⟨by omega, by omega⟩
    simp [this]

/-! ### Counts in range, and consistent cuts -/
def rangeB (t : Tr) (c : List Int) : Bool := (List.range c.length).all fun p => decide (0 ≤ c[p]!) && decide (c[p]! ≤ (t[p]!.events.length : Int))
theorem rangeB_iff {t : Tr} {c : List Int} : rangeB t c = true ↔ ∀ p, p < c.length → 0 ≤ c[p]! ∧ c[p]! ≤ (t[p]!.events.length : Int) := by
  simp only [rangeB, List.all_eq_true, List.mem_range, Bool.and_eq_true, decide_eq_true_eq]
def fitsB (t : Tr) (c : List Int) : Bool := decide (c.length = t.length)
/-- Counts that fit and are in range. -/
def RangeC (t : Tr) (c : List Int) : Prop := c.length = t.length ∧ rangeB t c = true
/-- A consistent cut of a trace. -/
def ConsC (t : Tr) (c : List Int) : Prop := RangeC t c ∧ missE t c = none
noncomputable def consB (t : Tr) (c : List Int) : Bool := validT t && (fitsB t c && (rangeB t c && (missE t c).isNone))
theorem consB_iff {t : Tr} {c : List Int} : consB t c = true ↔ validT t = true ∧ ConsC t c := by
  simp only [consB, fitsB, ConsC, RangeC, Bool.and_eq_true, decide_eq_true_eq, Option.isNone_iff_eq_none, and_assoc]
theorem RangeC.at {t : Tr} {c : List Int} (h : RangeC t c) {p : Nat} (hp : p < t.length) : 0 ≤ c[p]! ∧ c[p]! ≤ (t[p]!.events.length : Int) := rangeB_iff.1 h.2 p (by rw [h.1]; exact hp)
theorem RangeC.inn {t : Tr} {c : List Int} (h : RangeC t c) {x : Eid} (hx : InC c x) : Inn t x := by
  have h1 := h.1
  have h2 := h.at (p := x.1) (by have := hx.1; omega)
  have h3 := hx.2
  exact ⟨by have := hx.1; omega, by omega⟩

/-! ### What is changed at a place -/
theorem setC_at {c : List Int} {p : Nat} {v : Int} (hp : p < c.length) : (c.set p v)[p]! = v := by
  rw [getElem!_pos _ p (by simpa using hp)]; simp
theorem setC_ne {c : List Int} {p q : Nat} {v : Int} (h : q ≠ p) : (c.set p v)[q]! = c[q]! := by
  by_cases hq : q < c.length
  · rw [getElem!_pos _ q (by simpa using hq), getElem!_pos c q hq, List.getElem_set_ne (by omega)]
  · rw [getElem!_neg _ q (by simpa using hq), getElem!_neg c q hq]
theorem set_range {t : Tr} {c : List Int} (h : RangeC t c) {p : Nat} {v : Int} (h0 : 0 ≤ v) (h1 : v ≤ (t[p]!.events.length : Int)) : RangeC t (c.set p v) := by
  refine ⟨by rw [List.length_set]; exact h.1, rangeB_iff.2 fun q hq => ?_⟩
  rw [List.length_set] at hq
  by_cases e : q = p
  · subst e; rw [setC_at hq]; exact ⟨h0, h1⟩
  · rw [setC_ne e]; exact rangeB_iff.1 h.2 q hq

/-! ### Repairing -/
def upS (t : Tr) (c : List Int) (x : Eid) : List Int := match findE t 2 (ev t x).msg with | some s => c.set s.1 ((s.2 : Int) + 1) | none => c
def dnS (_t : Tr) (c : List Int) (x : Eid) : List Int := c.set x.1 (x.2 : Int)
/-- After n steps nothing is missing any more. -/
def FixN (t : Tr) (f : List Int → Eid → List Int) : Nat → List Int → List Int → Prop
  | 0, c, d => missE t c = none ∧ d = c
  | n + 1, c, d => ∃ x, missE t c = some x ∧ FixN t f n (f c x) d
theorem FixN.same {t : Tr} {f : List Int → Eid → List Int} {n m : Nat} {c d e : List Int} (h : FixN t f n c d) (k : FixN t f m c e) : d = e ∧ n = m := by
  induction n generalizing m c with
  | zero =>
    cases m with
    | zero => exact ⟨h.2.trans k.2.symm, rfl⟩
    | succ m => obtain ⟨x, hx, _⟩ := k; rw [h.1] at hx; cases hx
  | succ n ih =>
    obtain ⟨x, hx, h⟩ := h
    cases m with
    | zero => rw [k.1] at hx; cases hx
    | succ m =>
      obtain ⟨y, hy, k⟩ := k
      obtain rfl : x = y := Option.some.inj (hx.symm.trans hy)
      obtain ⟨h1, h2⟩ := ih h k
      exact ⟨h1, by omega⟩
/-- A sum of numbers, one for each of n places. -/
def sumTo (f : Nat → Nat) : Nat → Nat
  | 0 => 0
  | n + 1 => sumTo f n + f n
theorem sumTo_le {f g : Nat → Nat} : ∀ n, (∀ i, i < n → f i ≤ g i) → sumTo f n ≤ sumTo g n
  | 0, _ => Nat.le_refl _
  | n + 1, h => Nat.add_le_add (sumTo_le n fun i hi => h i (by omega)) (h n (by omega))
theorem sumTo_lt {f g : Nat → Nat} : ∀ n, (∀ i, i < n → f i ≤ g i) → (∃ i, i < n ∧ f i < g i) → sumTo f n < sumTo g n
  | 0, _, ⟨i, hi, _⟩ => absurd hi (Nat.not_lt_zero _)
  | n + 1, h, ⟨i, hi, hlt⟩ => by
    unfold sumTo
    have h1 := sumTo_le n fun i hi => h i (by omega)
    have h2 := h n (by omega)
    by_cases e : i = n
    · subst e; omega
    · have := sumTo_lt n (fun i hi => h i (by omega)) ⟨i, by omega, hlt⟩; omega
theorem upS_eq {t : Tr} {c : List Int} {x s : Eid} (h : findE t 2 (ev t x).msg = some s) : upS t c x = c.set s.1 ((s.2 : Int) + 1) := by unfold upS; rw [h]
/-- What is missing is a receive whose send is behind the counts. -/
theorem miss_parts {t : Tr} {c : List Int} {x : Eid} (h : missE t c = some x) : InC c x ∧ (ev t x).kind = 3 ∧ ∃ s, findE t 2 (ev t x).msg = some s ∧ c[s.1]! < (s.2 : Int) + 1 ∧ Inn t s := by
  obtain ⟨h1, h2⟩ := missE_some h
  by_cases hk : (ev t x).kind = 3
  · refine ⟨h1, hk, ?_⟩
    cases hf : findE t 2 (ev t x).msg with
    | none => simp [sentB, hk, hf] at h2
    | some s =>
      rw [sentB_recv hk hf] at h2
      exact ⟨s, rfl, by simpa using h2, (findE_some hf).1⟩
  · rw [sentB_other hk] at h2; cases h2
theorem upS_range {t : Tr} {c : List Int} {x : Eid} (hr : RangeC t c) (h : missE t c = some x) : RangeC t (upS t c x) := by
  obtain ⟨_, _, s, hs, _, hi⟩ := miss_parts h
  rw [upS_eq hs]
  exact set_range hr (by omega) (by have := hi.2; omega)
theorem dnS_range {t : Tr} {c : List Int} {x : Eid} (hr : RangeC t c) (h : missE t c = some x) : RangeC t (dnS t c x) := by
  obtain ⟨h1, _⟩ := miss_parts h
  exact set_range hr (by omega) (by have := (hr.inn h1).2; omega)
theorem up_ends {t : Tr} : ∀ (m : Nat) (c : List Int), RangeC t c → sumTo (fun p => t[p]!.events.length - c[p]!.toNat) t.length ≤ m → ∃ n d, n ≤ m ∧ FixN t (upS t) n c d := by
  intro m
  induction m with
  | zero =>
    intro c hr hm
    cases h : missE t c with
    | none => exact ⟨0, c, Nat.le_refl _, h, rfl⟩
    | some x =>
      exfalso
      obtain ⟨_, _, s, hs, hlt, hi⟩ := miss_parts h
      have := sumTo_lt (f := fun _ => 0) (g := fun p => t[p]!.events.length - c[p]!.toNat) t.length (fun _ _ => Nat.zero_le _) ⟨s.1, hi.1, by have := hi.2; have := (hr.at hi.1).1; omega⟩
      omega
  | succ m ih =>
    intro c hr hm
    cases h : missE t c with
    | none => exact ⟨0, c, Nat.zero_le _, h, rfl⟩
    | some x =>
      obtain ⟨_, _, s, hs, hlt, hi⟩ := miss_parts h
      have hcl : s.1 < c.length := by have := hi.1; have := hr.1; omega
      have h2 := sumTo_lt (f := fun p => t[p]!.events.length - (upS t c x)[p]!.toNat) (g := fun p => t[p]!.events.length - c[p]!.toNat) t.length
        (fun p hp => by
          simp only [upS_eq hs]
          by_cases e : p = s.1
          · subst e; rw [setC_at hcl]; omega
          · rw [setC_ne e]; omega)
        ⟨s.1, hi.1, by simp only [upS_eq hs]; rw [setC_at hcl]; have := hi.2; have := (hr.at hi.1).1; omega⟩
      obtain ⟨n, d, hn, hf⟩ := ih (upS t c x) (upS_range hr h) (by omega)
      exact ⟨n + 1, d, by omega, x, h, hf⟩
theorem dn_ends {t : Tr} : ∀ (m : Nat) (c : List Int), RangeC t c → sumTo (fun p => c[p]!.toNat) t.length ≤ m → ∃ n d, n ≤ m ∧ FixN t (dnS t) n c d := by
  intro m
  induction m with
  | zero =>
    intro c hr hm
    cases h : missE t c with
    | none => exact ⟨0, c, Nat.le_refl _, h, rfl⟩
    | some x =>
      exfalso
      obtain ⟨h1, _⟩ := miss_parts h
      have := sumTo_lt (f := fun _ => 0) (g := fun p => c[p]!.toNat) t.length (fun _ _ => Nat.zero_le _) ⟨x.1, (hr.inn h1).1, by have := h1.2; omega⟩
      omega
  | succ m ih =>
    intro c hr hm
    cases h : missE t c with
    | none => exact ⟨0, c, Nat.zero_le _, h, rfl⟩
    | some x =>
      obtain ⟨h1, _⟩ := miss_parts h
      have h2 := sumTo_lt (f := fun p => (dnS t c x)[p]!.toNat) (g := fun p => c[p]!.toNat) t.length
        (fun p hp => by
          unfold dnS
          by_cases e : p = x.1
          · subst e; rw [setC_at h1.1]; have := h1.2; omega
          · rw [setC_ne e]; omega)
        ⟨x.1, (hr.inn h1).1, by unfold dnS; rw [setC_at h1.1]; have := h1.2; omega⟩
      obtain ⟨n, d, hn, hf⟩ := ih (dnS t c x) (dnS_range hr h) (by omega)
      exact ⟨n + 1, d, by omega, x, h, hf⟩
theorem sumTo_bound {f : Nat → Nat} {b : Nat} : ∀ n, (∀ i, i < n → f i ≤ b) → sumTo f n ≤ n * b
  | 0, _ => Nat.zero_le _
  | n + 1, h => by
    unfold sumTo; rw [Nat.add_mul]
    have := sumTo_bound n fun i hi => h i (by omega)
    have := h n (by omega)
    omega

/-! ### The order of counts -/
def LeC (a b : List Int) : Prop := ∀ p, p < a.length → a[p]! ≤ b[p]!
def leCB (a b : List Int) : Bool := decide (a.length = b.length) && (List.range a.length).all fun p => decide (a[p]! ≤ b[p]!)
theorem leCB_iff {a b : List Int} : leCB a b = true ↔ a.length = b.length ∧ LeC a b := by
  simp only [leCB, LeC, Bool.and_eq_true, decide_eq_true_eq, List.all_eq_true, List.mem_range]
theorem LeC.refl (a : List Int) : LeC a a := fun _ _ => Int.le_refl _
theorem LeC.trans {a b c : List Int} (h : LeC a b) (k : LeC b c) (hl : a.length = b.length) : LeC a c := fun p hp => Int.le_trans (h p hp) (k p (by omega))
theorem list_ext {a b : List Int} (hl : a.length = b.length) (h : ∀ p, p < a.length → a[p]! = b[p]!) : a = b := by
  refine List.ext_getElem hl fun i h1 h2 => ?_
  have := h i h1
  rwa [getElem!_pos a i h1, getElem!_pos b i h2] at this
theorem LeC.antisymm {a b : List Int} (h : LeC a b) (k : LeC b a) (hl : a.length = b.length) : a = b :=
  list_ext hl fun p hp => Int.le_antisymm (h p hp) (k p (by omega))

/-- What the closing yields: the least consistent cut that contains the counts. -/
theorem up_least {t : Tr} {n : Nat} {c d : List Int} (h : FixN t (upS t) n c d) (hr : RangeC t c) : ConsC t d ∧ LeC c d ∧ ∀ e, ConsC t e → LeC c e → LeC d e := by
  induction n generalizing c with
  | zero => obtain ⟨h1, rfl⟩ := h; exact ⟨⟨hr, h1⟩, LeC.refl _, fun e _ he => he⟩
  | succ n ih =>
    obtain ⟨x, hx, h⟩ := h
    obtain ⟨h1, hk, s, hs, hlt, hi⟩ := miss_parts hx
    have hcl : s.1 < c.length := by have := hi.1; have := hr.1; omega
    obtain ⟨k1, k2, k3⟩ := ih h (upS_range hr hx)
    have e1 := upS_eq (c := c) hs
    refine ⟨k1, ?_, fun e he hce => k3 e he ?_⟩
    · refine LeC.trans (b := upS t c x) (fun p hp => ?_) k2 (by rw [e1, List.length_set])
      rw [e1]
      by_cases e : p = s.1
      · subst e; rw [setC_at hcl]; omega
      · rw [setC_ne e]; omega
    · intro p hp
      rw [e1] at hp ⊢
      rw [List.length_set] at hp
      by_cases ep : p = s.1
      · subst ep
        rw [setC_at hcl]
        have hin : InC e x := ⟨by have := h1.1; have := hr.1; have := he.1.1; omega, by have := hce x.1 h1.1; have := h1.2; omega⟩
        have := missE_none.1 he.2 x hin
        rw [sentB_recv hk hs] at this
        simpa using this
      · rw [setC_ne ep]; exact hce p hp
/-- What the opening yields: the greatest consistent cut within the counts. -/
theorem dn_greatest {t : Tr} {n : Nat} {c d : List Int} (h : FixN t (dnS t) n c d) (hr : RangeC t c) : ConsC t d ∧ LeC d c ∧ ∀ e, ConsC t e → LeC e c → LeC e d := by
  induction n generalizing c with
  | zero => obtain ⟨h1, rfl⟩ := h; exact ⟨⟨hr, h1⟩, LeC.refl _, fun e _ he => he⟩
  | succ n ih =>
    obtain ⟨x, hx, h⟩ := h
    obtain ⟨h1, hk, s, hs, hlt, hi⟩ := miss_parts hx
    have hcl : s.1 < c.length := by have := hi.1; have := hr.1; omega
    obtain ⟨k1, k2, k3⟩ := ih h (dnS_range hr hx)
    have hdl : d.length = c.length := k1.1.1.trans hr.1.symm
    refine ⟨k1, ?_, fun e he hec => k3 e he ?_⟩
    · refine LeC.trans (b := dnS t c x) k2 (fun p hp => ?_) (by rw [hdl]; unfold dnS; rw [List.length_set])
      unfold dnS at hp ⊢
      rw [List.length_set] at hp
      by_cases e : p = x.1
      · subst e; rw [setC_at h1.1]; have := h1.2; omega
      · rw [setC_ne e]; omega
    · intro p hp
      unfold dnS
      by_cases ep : p = x.1
      · subst ep
        rw [setC_at h1.1]
        by_cases hgt : (x.2 : Int) < e[x.1]!
        · exfalso
          have hin : InC e x := ⟨hp, hgt⟩
          have := missE_none.1 he.2 x hin
          rw [sentB_recv hk hs] at this
          have h5 := of_decide_eq_true this
          have := hec s.1 (by have := he.1.1; have := hr.1; omega)
          omega
        · omega
      · rw [setC_ne ep]; exact hec p hp

/-! ### Joins and meets -/
def zipC (f : Int → Int → Int) (a b : List Int) : List Int := (List.range a.length).map fun p => f a[p]! b[p]!
theorem zipC_len (f : Int → Int → Int) (a b : List Int) : (zipC f a b).length = a.length := by simp [zipC]
theorem zipC_at {f : Int → Int → Int} {a b : List Int} {p : Nat} (hp : p < a.length) : (zipC f a b)[p]! = f a[p]! b[p]! := by
  rw [getElem!_pos _ p (by rw [zipC_len]; exact hp)]; simp [zipC]
def joinC := zipC max
def meetC := zipC min
theorem join_range {t : Tr} {a b : List Int} (ha : RangeC t a) (hb : RangeC t b) : RangeC t (joinC a b) := by
  refine ⟨by rw [joinC, zipC_len]; exact ha.1, rangeB_iff.2 fun p hp => ?_⟩
  rw [joinC, zipC_len] at hp
  have hp' : p < t.length := by have := ha.1; omega
  rw [joinC, zipC_at hp]
  have := ha.at hp'; have := hb.at hp'
  omega
theorem meet_range {t : Tr} {a b : List Int} (ha : RangeC t a) (hb : RangeC t b) : RangeC t (meetC a b) := by
  refine ⟨by rw [meetC, zipC_len]; exact ha.1, rangeB_iff.2 fun p hp => ?_⟩
  rw [meetC, zipC_len] at hp
  have hp' : p < t.length := by have := ha.1; omega
  rw [meetC, zipC_at hp]
  have := ha.at hp'; have := hb.at hp'
  omega
/-- Where the counts are greater, what is sent is still sent. -/
theorem sentB_mono {t : Tr} {a b : List Int} (hr : RangeC t a) (h : LeC a b) {x : Eid} (hx : sentB t a x = true) : sentB t b x = true := by
  by_cases hk : (ev t x).kind = 3
  · cases hf : findE t 2 (ev t x).msg with
    | none => simp [sentB, hf]
    | some s =>
      rw [sentB_recv hk hf] at hx ⊢
      have h1 := of_decide_eq_true hx
      have := h s.1 (by have := (findE_some hf).1.1; have := hr.1; omega)
      exact decide_eq_true (by omega)
  · exact sentB_other hk
theorem join_cons {t : Tr} {a b : List Int} (ha : ConsC t a) (hb : ConsC t b) : ConsC t (joinC a b) := by
  refine ⟨join_range ha.1 hb.1, missE_none.2 fun x hx => ?_⟩
  have hxl : x.1 < a.length := by have := hx.1; rwa [joinC, zipC_len] at this
  have hlb : b.length = a.length := hb.1.1.trans ha.1.1.symm
  have h2 := hx.2
  rw [joinC, zipC_at hxl] at h2
  by_cases h : (x.2 : Int) < a[x.1]!
  · refine sentB_mono ha.1 (fun p hp => ?_) (missE_none.1 ha.2 x ⟨hxl, h⟩)
    rw [joinC, zipC_at hp]; omega
  · refine sentB_mono hb.1 (fun p hp => ?_) (missE_none.1 hb.2 x ⟨by omega, by omega⟩)
    rw [joinC, zipC_at (by omega)]; omega
theorem meet_cons {t : Tr} {a b : List Int} (ha : ConsC t a) (hb : ConsC t b) : ConsC t (meetC a b) := by
  refine ⟨meet_range ha.1 hb.1, missE_none.2 fun x hx => ?_⟩
  have hxl : x.1 < a.length := by have := hx.1; rwa [meetC, zipC_len] at this
  have hlb : b.length = a.length := hb.1.1.trans ha.1.1.symm
  have h2 := hx.2
  rw [meetC, zipC_at hxl] at h2
  have ka := missE_none.1 ha.2 x ⟨hxl, by omega⟩
  have kb := missE_none.1 hb.2 x ⟨by omega, by omega⟩
  by_cases hk : (ev t x).kind = 3
  · cases hf : findE t 2 (ev t x).msg with
    | none => simp [sentB, hf]
    | some s =>
      rw [sentB_recv hk hf] at ka kb ⊢
      have h1 := of_decide_eq_true ka
      have h2 := of_decide_eq_true kb
      have hsl : s.1 < a.length := by have := (findE_some hf).1.1; have := ha.1.1; omega
      rw [meetC, zipC_at hsl]
      exact decide_eq_true (by omega)
  · exact sentB_other hk

end Go.Proofs.YtfcpnggdpaeldaaGreat

/-
  Lists of lists of numbers, as they are read. No program is named here.
-/
namespace Go.Proofs.YtfcpnggdpaeldaaGreat
open Go.RowKit
set_option linter.unusedVariables false

def RInts (w : World) (cs : List Value) (x : List Int) : Prop := ∃ u, cs = [u] ∧ Ints w u x
theorem rints_lasts : Lasts RInts := fun _ _ _ _ ⟨u, h, hb⟩ e => ⟨u, h, hb.ext e⟩
def RQueue (w : World) (cs : List Value) (x : List (List Int)) : Prop := ∃ u, cs = [u] ∧ Sl RInts 1 w u x
theorem rqueue_lasts : Lasts RQueue := fun _ _ _ _ ⟨u, h, hb⟩ e => ⟨u, h, hb.ext rints_lasts e⟩
def RBool (w : World) (cs : List Value) (x : Bool) : Prop := cs = [.bool x]
theorem rbool_lasts : Lasts RBool := fun _ _ _ _ h _ => h

theorem Sl.at1 {α : Type} [Inhabited α] {R : World → List Value → α → Prop} {w : World} {v : Value} {l : List α} (h : Sl R 1 w v l) (k : Nat) (hk : k < l.length) :
    ∃ b off c cv, v = .slice (some ⟨b, off, none⟩) l.length c ∧ l.length ≤ c ∧ b < w.heap.size ∧ w.cell? ⟨b, off + k, none⟩ = some cv ∧ R w [cv] l[k]! := by
  obtain ⟨a, c, rfl, hlc, h⟩ := h
  obtain ⟨b, off, rfl, hb, hc⟩ := h (by intro e; simp [e] at hk)
  obtain ⟨vs, h1, h2, h3⟩ := hc k hk
  match vs, h1 with
  | [cv], _ => exact ⟨b, off, c, cv, rfl, hlc, hb, by have := h3 0 (by omega); simpa using this, h2⟩
theorem Ints.at1 {w : World} {v : Value} {l : List Int} (h : Ints w v l) (k : Nat) (hk : k < l.length) :
    ∃ b off c, v = .slice (some ⟨b, off, none⟩) l.length c ∧ l.length ≤ c ∧ b < w.heap.size ∧ w.cell? ⟨b, off + k, none⟩ = some (.int .i64 l[k]!) := by
  obtain ⟨a, c, rfl, hlc, h⟩ := h
  obtain ⟨b, off, rfl, hb, hc⟩ := h (by intro e; simp [e] at hk)
  exact ⟨b, off, c, rfl, hlc, hb, hc k hk⟩
theorem Sl.shape {α : Type} [Inhabited α] {R : World → List Value → α → Prop} {k : Nat} {w : World} {v : Value} {l : List α} (h : Sl R k w v l) : ∃ a c, v = .slice a l.length c ∧ l.length ≤ c := by
  obtain ⟨a, c, h1, h2, _⟩ := h; exact ⟨a, c, h1, h2⟩

end Go.Proofs.YtfcpnggdpaeldaaGreat
