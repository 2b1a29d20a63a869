import Derived.Test.YtfcpnggdpaeldaaGa
import Derived.Test.YtfcpnggdpaeldaaProg
import Derived.Test.YtfcpnggdpaeldaaGb
import Derived.Test.YtfcpnggdpaeldaaGd
import Derived.Test.YtfcpnggdpaeldaaGc
import Derived.BigQuiet
import Derived.Deep.QuietTactic
import Derived.Deep.LoopGhost
import Derived.Shelf.Abstract
import Derived.Deep.DeepCutAuto
import Derived.Deep.DrawnRows
import Derived.RangeFuncNested
import Derived.RangeFuncBound
import Derived.RangeFuncCalls
import Derived.RangeFuncLeaves
import Derived.Shelf.RegionOpen
import Derived.OwnWalkIn
import Derived.TacticsInMore
import Derived.LoopNIn
import Derived.LoopIn
import Derived.Sort.LoopGhostIn
import Derived.Sort.CutIn
/-
  Whether a process sends a number to another one: the program's sends.
-/
namespace Go.Proofs.Ytfcpnggdpaeldaa
open Go.RowKit
set_option linter.unusedVariables false
attribute [local go_sem ↓] Go.wp_at_zero Go.wp_at_succ

set_option maxHeartbeats 400000 in
theorem indexFunc_evs {α : Type} [Inhabited α] (R : World → List Value → α → Prop) (hLasts : Lasts R) (g : Nat) (cb : Array Value) (eg : ∀ args w, (callFunc g args).run Try.prog w = .ok (.enter g args) w) (p : α → Bool) (v : Value) (l : List α) (w : World)
    (hv : Sl R 5 w v l) (hn : l.length ≤ 1000000) (hp : SaysOf Try.prog R encAgg g cb p l w) :
    Calls Try.prog 69 #[v, .func (.func g) #[] cb] w fun e w' => e = .returned (.int .i64 (firstAt p l)) ∧ Ext w w' := by
  obtain ⟨a, c, rfl, hlc, hv⟩ := hv
  have HLC := Lib.hid hlc; clear hlc
  have HV := Lib.hid hv; clear hv
  have HP := Lib.hid hp; clear hp
  have HT := Lib.hid hLasts; clear hLasts
  generalize hln : l.length = n at hn
  have HL := Lib.hid hln; clear hln
  go_enter Try.func69, Try.ntmps69
  go_wp2
  go_loopg [5, 8] n (fun m _ s8 wr => ∃ k : Nat, k ≤ n ∧ n - k ≤ m ∧ s8 = .int .i64 k ∧ Ext w wr ∧ Aside (∀ j, j < k → p l[j]! = false))
  case atStart => exact ⟨0, Nat.zero_le _, by omega, rfl, Below.refl _ _, (fun j hj => absurd hj (Nat.not_lt_zero _))⟩
  case round =>
    obtain ⟨k, hk, hm, rfl, he, A⟩ := hrel
    have HE := Lib.hid he; clear he
    by_cases hlt : k < n
    · obtain ⟨b, off, rfl, hb, hc⟩ := HV.out (by intro e; have := HL.out; simp [e] at this; omega)
      obtain ⟨vs, hvs, hR, hcell⟩ := hc k (by rw [HL.out]; exact hlt)
      obtain ⟨c0, c1, c2, c3, c4, rfl⟩ : ∃ c0 c1 c2 c3 c4, vs = [c0, c1, c2, c3, c4] := by match vs, hvs with | [c0, c1, c2, c3, c4], _ => exact ⟨c0, c1, c2, c3, c4, rfl⟩
      have d0 : wr.cell? ⟨b, off + k * 5, none⟩ = some c0 := (HE.out.cell hb).trans (hcell 0 (by omega))
      have d1 : wr.cell? ⟨b, off + k * 5 + 1, none⟩ = some c1 := (HE.out.cell hb).trans (hcell 1 (by omega))
      have d2 : wr.cell? ⟨b, off + k * 5 + 2, none⟩ = some c2 := (HE.out.cell hb).trans (hcell 2 (by omega))
      have d3 : wr.cell? ⟨b, off + k * 5 + 3, none⟩ = some c3 := (HE.out.cell hb).trans (hcell 3 (by omega))
      have d4 : wr.cell? ⟨b, off + k * 5 + 4, none⟩ = some c4 := (HE.out.cell hb).trans (hcell 4 (by omega))
      have hltz : (k : Int) < (n : Int) := by omega
      clear hc hcell
      have hcall := HP.out _ (mem_at l k (by rw [HL.out]; exact hlt)) wr _ HE.out (HT.out _ _ _ _ hR HE.out)
      unfold encAgg at hcall
      generalize hy : l[k]! = y at hcall hR
      have B := Lib.hid hy
      clear hy hR hvs HV HT HP
      cases hq : p y with
      | true =>
        rw [hq] at hcall
        have HQ := Lib.hid hq; clear hq
        go_wp2_with (go_at_fn g; refine hcall.mono ?_; rintro e w' ⟨rfl, he'⟩)
        go_ret
        exact ⟨by rw [firstAt_hit p l k (by rw [HL.out]; omega) (by rw [B.out]; exact HQ.out) A.out]; rfl, HE.out.trans' he'⟩
      | false =>
        rw [hq] at hcall
        have HQ := Lib.hid hq; clear hq
        go_wp2_with (go_at_fn g; refine hcall.mono ?_; rintro e w' ⟨rfl, he'⟩)
        go_roundg (n - (k + 1))
        case measure => omega
        case rel =>
          refine ⟨k + 1, by omega, by omega, by go_num, HE.out.trans' he', (show Aside _ from fun j hj => ?_)⟩
          by_cases e : j = k
          · subst e
            rw [B.out]; exact HQ.out
          · exact A.out j (by omega)
    · have hltz : ¬ (k : Int) < (n : Int) := by omega
      go_wp2
      go_ret
      exact ⟨by rw [firstAt_miss p l (fun j hj => A.out j (by rw [HL.out] at hj; omega))]; rfl, HE.out⟩

theorem enters_69 : ∀ args w, (callFunc 69 args).run Try.prog w = .ok (.enter 69 args) w := enters_of Try.func69 (by kernel_rfl) rfl

set_option maxHeartbeats 400000 in
theorem containsFunc_evs {α : Type} [Inhabited α] (R : World → List Value → α → Prop) (hLasts : Lasts R) (g : Nat) (cb : Array Value) (eg : ∀ args w, (callFunc g args).run Try.prog w = .ok (.enter g args) w) (p : α → Bool) (v : Value) (l : List α) (w : World)
    (hv : Sl R 5 w v l) (hn : l.length ≤ 1000000) (hp : SaysOf Try.prog R encAgg g cb p l w) :
    Calls Try.prog 40 #[v, .func (.func g) #[] cb] w fun e w' => e = .returned (.bool (l.any p)) ∧ Ext w w' := by
  have HI := Lib.hid (indexFunc_evs R hLasts g cb eg p v l w hv hn hp)
  clear hv hp eg hLasts
  rw [← firstAt_any]
  go_enter Try.func40, Try.ntmps40
  go_wp2_with (go_at_call 69; refine HI.out.mono ?_; rintro e w' ⟨rfl, he'⟩)
  go_ret
  exact ⟨rfl, he'⟩

theorem enters_112 : ∀ args w, (callFunc 112 args).run Try.prog w = .ok (.enter 112 args) w := enters_of Try.func112 (by kernel_rfl) rfl

set_option maxHeartbeats 1000000 in
theorem sends1_calls (vs : List Value) (x : Ev) (b1 b2 : Nat) (m q : Int) (w : World) (hx : REv w vs x) (hc1 : w.cell? ⟨b1, 0, none⟩ = some (.int .i64 m)) (hc2 : w.cell? ⟨b2, 0, none⟩ = some (.int .i64 q)) :
    Calls Try.prog 112 #[.agg vs.toArray, .pointer (some ⟨b1, 0, none⟩), .pointer (some ⟨b2, 0, none⟩)] w fun e w' => e = .returned (.bool (decide (x.kind = 2) && (decide (x.msg = m) && decide (x.peer = q)))) ∧ Ext w w' := by
  obtain ⟨va, rfl, ha⟩ := hx
  obtain ⟨ua, uc, rfl, huc⟩ := ha.sh
  have hbl1 := World.block_lt_of_cell? w _ hc1
  have hbn1 : b1 ≠ w.heap.size := Nat.ne_of_lt hbl1
  have hbl2 := World.block_lt_of_cell? w _ hc2
  have hbn2 : b2 ≠ w.heap.size := Nat.ne_of_lt hbl2
  generalize x.asg.length = na at *
  clear ha
  have hx0 := cell_new w #[.int .i64 x.kind, .int .i64 x.peer, .int .i64 x.msg, .int .i64 x.time, .slice ua na uc] 55 0 _ rfl
  have hx1 := cell_new w #[.int .i64 x.kind, .int .i64 x.peer, .int .i64 x.msg, .int .i64 x.time, .slice ua na uc] 55 1 _ rfl
  have hx2 := cell_new w #[.int .i64 x.kind, .int .i64 x.peer, .int .i64 x.msg, .int .i64 x.time, .slice ua na uc] 55 2 _ rfl
  obtain ⟨c1, hd1⟩ : ∃ b, (x.kind == 2) = b := ⟨_, rfl⟩
  obtain ⟨c2, hd2⟩ : ∃ b, (x.msg == m) = b := ⟨_, rfl⟩
  obtain ⟨c3, hd3⟩ : ∃ b, (x.peer == q) = b := ⟨_, rfl⟩
  have HR : Hid ((decide (x.kind = 2) && (decide (x.msg = m) && decide (x.peer = q))) = (c1 && (c2 && c3))) := Lib.hid (by rw [← hd1, ← hd2, ← hd3]; rfl)
  rw [HR.out]
  cases c1 <;> cases c2 <;> cases c3
  all_goals
    go_enter Try.func112, Try.ntmps112
    go_wp2
    go_ret
    exact ⟨rfl, (by repeat (first | refine Ext.st ?_ (by first | exact Nat.le_refl _ | exact Nat.le_succ _ | assumption | omega) _ | refine Ext.al ?_ _ | refine Ext.dr ?_ | refine Ext.drN ?_ _ | exact Ext.rf _))⟩

set_option maxHeartbeats 2000000 in
theorem sends_calls (v : Value) (t : Tr) (p : Nat) (m q : Int) (w : World) (h : TrAt w v t) (hs : SmallTr t) (hp : p < t.length) :
    Calls Try.prog 105 #[.agg #[v], .int .i64 p, .int .i64 m, .int .i64 q] w fun e w' => e = .returned (.bool (sendsB t p m q)) ∧ Ext w w' := by
  obtain ⟨B, O, C, vv, ve, rfl, hlC, hB, hn0, hv0, he0, hV, hE0⟩ := proc_at h p hp
  have hn := hs.1
  have hen := (hs.2 p hp).2.1
  have HA := Lib.hid hE0
  obtain ⟨ea, ec, rfl, hec⟩ := hE0.sh
  have HSB : Hid (sendsB t p m q = t[p]!.events.any fun s => decide (s.kind = 2) && (decide (s.msg = m) && decide (s.peer = q))) := Lib.hid rfl
  generalize sendsB t p m q = sb at *
  generalize hx : t[p]! = x at *
  generalize t.length = n at *
  have hE3 : Ext w (((w.alloc (.cells #[.slice (some ⟨B, O, none⟩) n C] 24)).alloc (.cells #[.int .i64 m] 3)).alloc (.cells #[.int .i64 q] 3)) := (((Ext.rf w).al _).al _).al _
  have he1 := hE3.cl he0
  have HX0 := Lib.hid ((((Ext.rf _).al (.cells #[.int .i64 m] 3)).al (.cells #[.int .i64 q] 3)).hp (heap_alloc_new w (.cells #[.slice (some ⟨B, O, none⟩) n C] 24)))
  have HX1 := Lib.hid (((Ext.rf _).al (.cells #[.int .i64 q] 3)).hp (heap_new_eq (w := w.alloc (.cells #[.slice (some ⟨B, O, none⟩) n C] 24)) (o := .cells #[.int .i64 m] 3) (b := w.heap.size + 1) (by simp)))
  have HX2 := Lib.hid (heap_new_eq (w := (w.alloc (.cells #[.slice (some ⟨B, O, none⟩) n C] 24)).alloc (.cells #[.int .i64 m] 3)) (o := .cells #[.int .i64 q] 3) (b := w.heap.size + 1 + 1) (by simp))
  have HE3 := Lib.hid hE3
  have hpz : (0 : Int) ≤ (p : Int) := by omega
  have hpi : (p : Int) < (n : Int) := by omega
  have HCF := Lib.hid (fun W (hW : Ext w W) (hc1 : W.cell? ⟨w.heap.size + 1, 0, none⟩ = some (.int .i64 m)) (hc2 : W.cell? ⟨w.heap.size + 1 + 1, 0, none⟩ = some (.int .i64 q)) =>
    containsFunc_evs REv rev_lasts 112 #[.pointer (some ⟨w.heap.size + 1, 0, none⟩), .pointer (some ⟨w.heap.size + 1 + 1, 0, none⟩)] enters_112 (fun s => decide (s.kind = 2) && (decide (s.msg = m) && decide (s.peer = q))) _ x.events W (HA.out.ext rev_lasts hW) hen
      (fun y hy W2 vs hW2 hR => sends1_calls vs y _ _ m q W2 hR (hW2.cl hc1) (hW2.cl hc2)))
  generalize hne : x.events.length = ne at *
  clear h hs hE3 hn0 hv0 he0 hV hE0 hx
  rw [HSB.out]
  generalize (x.events.any fun s => decide (s.kind = 2) && (decide (s.msg = m) && decide (s.peer = q))) = sc at *
  clear HSB
  clear hne
  go_enter Try.func105, Try.ntmps105
  go_wp2_with fail
  generalize hw3 : ((w.alloc (.cells #[.slice (some ⟨B, O, none⟩) n C] 24)).alloc (.cells #[.int .i64 m] 3)).alloc (.cells #[.int .i64 q] 3) = w3 at *
  clear hw3
  refine (HCF.out _ HE3.out (by have := cellOf HX1.out 0; simpa using this) (by have := cellOf HX2.out 0; simpa using this)).mono ?_
  rintro e w4 ⟨rfl, hE4⟩
  go_wp2
  go_ret
  exact ⟨rfl, HE3.out.trans' hE4⟩

end Go.Proofs.Ytfcpnggdpaeldaa

/-
  The messages of a trace in pairs: the program's messageFault.
-/
namespace Go.Proofs.Ytfcpnggdpaeldaa
open Go.RowKit
set_option linter.unusedVariables false
open Go.Shelf
attribute [local go_sem] Oper.semAt_some

/-- Between two rounds. -/
def MsgI (t : Tr) (w : World) (v : Value) (pre : List (EvA t w)) (W : World) : Prop :=
  (W.heap[w.heap.size]? = some (.cells #[v] 24) ∧ W.heap[w.heap.size + 1]? = some (.cells #[.pointer none] 130) ∧ W.heap[w.heap.size + 1 + 1]? = some (idO 0 0) ∧
    W.heap[w.heap.size + 1 + 1 + 1]? = some (.cells #[.int .i64 0] 27) ∧ W.heap[w.heap.size + 1 + 1 + 1 + 1 + 1]? = some (.cells #[.pointer (some ⟨w.heap.size + 1 + 1 + 1 + 1, 0, none⟩)] 130)) ∧
  Lett W (w.heap.size + 1 + 1 + 1 + 1) t (nms pre) ∧ okPre t (nms pre) ∧ Ext w W ∧ w.heap.size + 7 ≤ W.heap.size
/-- A round has left by a return. -/
def MsgX (t : Tr) (w : World) (c : Code) (pre : List (EvA t w)) (W : World) : Prop :=
  c = .ret ∧ (∃ l x, nms pre = l ++ [x] ∧ pairStep t l x = false) ∧ (∃ a b E : Int, E ≠ 0 ∧ W.heap[w.heap.size + 1]? = some (.cells #[.pointer none] 130) ∧ W.heap[w.heap.size + 1 + 1]? = some (idO a b) ∧
    W.heap[w.heap.size + 1 + 1 + 1]? = some (.cells #[.int .i64 E] 27)) ∧ Ext w W
theorem msgI_own (t : Tr) (w : World) (v : Value) (B : Nat) (hB : w.heap.size ≤ B) : OwnFrom B (MsgI t w v) := fun s A A' row hs hg hr => by
  obtain ⟨⟨h0, h1, h2, h3, h5⟩, hL, ho, hE, hz⟩ := hs
  have hr' := fun r e => (hr r e).2
  exact ⟨⟨heap_kept h0 hg hr', heap_kept h1 hg hr', heap_kept h2 hg hr', heap_kept h3 hg hr', heap_kept h5 hg hr'⟩, hL.kept hg hr', ho, ownFrom_below (β := Unit) (Nat.le_refl _) hB () A A' row hE hg hr, Nat.le_trans hz hg.size⟩
theorem msgX_own (t : Tr) (w : World) (c : Code) (B : Nat) (hB : w.heap.size ≤ B) : OwnFrom B (MsgX t w c) := fun s A A' row hs hg hr => by
  obtain ⟨hc, hx, ⟨a, b, E, hE0, h1, h2, h3⟩, hE⟩ := hs
  have hr' := fun r e => (hr r e).2
  exact ⟨hc, hx, ⟨a, b, E, hE0, heap_kept h1 hg hr', heap_kept h2 hg hr', heap_kept h3 hg hr'⟩, ownFrom_below (β := Unit) (Nat.le_refl _) hB () A A' row hE hg hr⟩
theorem MsgI.al {t : Tr} {w : World} {v : Value} {pre : List (EvA t w)} {W : World} (h : MsgI t w v pre W) (o : Obj) : MsgI t w v pre (W.alloc o) := (msgI_own t w v w.heap.size (Nat.le_refl _)).alloc o h

theorem ext_keeps {B : Nat} {W W' : World} (h : Ext W W') : KeepsFrom B W W' := ⟨h.size, fun k o hk hko ho => h.hp hko⟩
theorem pairStep_send {t : Tr} {pre : List Eid} {x : Eid} {m : Int} (hk : (ev t x).kind = 2) (hm : (ev t x).msg = m) : pairStep t pre x = (firstIn pre t 2 m).isNone := by
  unfold pairStep; rw [hk, hm]; simp
theorem pairStep_recv {t : Tr} {pre : List Eid} {x : Eid} {m : Int} {q : Nat} (hk : (ev t x).kind = 3) (hm : (ev t x).msg = m) (hq : (ev t x).peer = q) : pairStep t pre x = ((firstIn pre t 3 m).isNone && sendsB t q m x.1) := by
  unfold pairStep; rw [hk, hm, hq]; simp
theorem pairStep_loc {t : Tr} {pre : List Eid} {x : Eid} (hk : (ev t x).kind = 1) : pairStep t pre x = true := by
  unfold pairStep; rw [hk]; simp
theorem three_set {W : World} {k : Nat} {a b c d : Value} {T1 T3 : TypeId} (h1 : W.heap[k + 1]? = some (.cells #[a] T1)) (h2 : W.heap[k + 1 + 1]? = some (.cells #[b, c] 87)) (h3 : W.heap[k + 1 + 1 + 1]? = some (.cells #[d] T3)) (u p q e : Value) :
    ((((W.setCell ⟨k + 1, 0, none⟩ u).setCell ⟨k + 1 + 1, 0, none⟩ p).setCell ⟨k + 1 + 1, 1, none⟩ q).setCell ⟨k + 1 + 1 + 1, 0, none⟩ e).heap[k + 1]? = some (.cells #[u] T1) ∧
    ((((W.setCell ⟨k + 1, 0, none⟩ u).setCell ⟨k + 1 + 1, 0, none⟩ p).setCell ⟨k + 1 + 1, 1, none⟩ q).setCell ⟨k + 1 + 1 + 1, 0, none⟩ e).heap[k + 1 + 1]? = some (.cells #[p, q] 87) ∧
    ((((W.setCell ⟨k + 1, 0, none⟩ u).setCell ⟨k + 1 + 1, 0, none⟩ p).setCell ⟨k + 1 + 1, 1, none⟩ q).setCell ⟨k + 1 + 1 + 1, 0, none⟩ e).heap[k + 1 + 1 + 1]? = some (.cells #[e] T3) ∧
    ∀ j, j ≠ k + 1 → j ≠ k + 1 + 1 → j ≠ k + 1 + 1 + 1 → ((((W.setCell ⟨k + 1, 0, none⟩ u).setCell ⟨k + 1 + 1, 0, none⟩ p).setCell ⟨k + 1 + 1, 1, none⟩ q).setCell ⟨k + 1 + 1 + 1, 0, none⟩ e).heap[j]? = W.heap[j]? := by
  have a1 : (W.setCell ⟨k + 1, 0, none⟩ u).heap[k + 1]? = some (.cells #[u] T1) := by rw [heap_setCell_same h1]; simp
  have o : ∀ (V : World) (j i : Nat) (z : Value) (n : Nat), n ≠ j → (V.setCell ⟨j, i, none⟩ z).heap[n]? = V.heap[n]? := fun V j i z n hn => Below.heap_setCell V ⟨j, i, none⟩ z n hn
  have a2 : (W.setCell ⟨k + 1, 0, none⟩ u).heap[k + 1 + 1]? = some (.cells #[b, c] 87) := by rw [o _ _ _ _ _ (by omega)]; exact h2
  have a3 : (W.setCell ⟨k + 1, 0, none⟩ u).heap[k + 1 + 1 + 1]? = some (.cells #[d] T3) := by rw [o _ _ _ _ _ (by omega)]; exact h3
  have b2 := id_set a2 p q
  refine ⟨?_, ?_, ?_, fun j j1 j2 j3 => by rw [o _ _ _ _ _ j3, o _ _ _ _ _ j2, o _ _ _ _ _ j2, o _ _ _ _ _ j1]⟩
  · rw [o _ _ _ _ _ (by omega), o _ _ _ _ _ (by omega), o _ _ _ _ _ (by omega)]; exact a1
  · rw [o _ _ _ _ _ (by omega)]; exact b2
  · rw [heap_setCell_same (by rw [o _ _ _ _ _ (by omega), o _ _ _ _ _ (by omega)]; exact a3)]; simp

theorem formedB_cases {n p : Nat} {kd pe ms ti : Int} {al : List Asg} (h : formedB n p ⟨kd, pe, ms, ti, al⟩ = true) : (kd = 1 ∧ pe = 0 ∧ ms = 0) ∨ (kd = 2 ∧ 0 ≤ pe ∧ pe < n ∧ ∃ m : Nat, ms = m ∧ m ≤ 199) ∨ (kd = 3 ∧ 0 ≤ pe ∧ pe < n ∧ ∃ m : Nat, ms = m ∧ m ≤ 199) := by
  unfold formedB at h
  by_cases h1 : kd = 1
  · simp [h1] at h; exact .inl ⟨h1, h⟩
  · simp [h1] at h
    obtain ⟨h2, h3, h4, h5, h6, h7⟩ := h
    have hm : ∃ m : Nat, ms = m ∧ m ≤ 199 := ⟨ms.toNat, by omega, by omega⟩
    rcases h2 with h2 | h2
    · exact .inr (.inl ⟨h2, h3, h4, hm⟩)
    · exact .inr (.inr ⟨h2, h3, h4, hm⟩)
theorem two_set {W : World} {b i j : Nat} {cs : Array Value} {T : TypeId} (h : W.heap[b]? = some (.cells cs T)) (u v : Value) :
    ((W.setCell ⟨b, i, none⟩ u).setCell ⟨b, j, none⟩ v).heap[b]? = some (.cells ((cs.setIfInBounds i u).setIfInBounds j v) T) ∧ ∀ k, k ≠ b → ((W.setCell ⟨b, i, none⟩ u).setCell ⟨b, j, none⟩ v).heap[k]? = W.heap[k]? := by
  refine ⟨heap_setCell_same (heap_setCell_same h), fun k hk => ?_⟩
  rw [Below.heap_setCell _ ⟨b, j, none⟩ v k hk, Below.heap_setCell _ ⟨b, i, none⟩ u k hk]
set_option maxHeartbeats 8000000 in
set_option maxRecDepth 100000 in
theorem messageP_calls (v : Value) (t : Tr) (w : World) (h : TrAt w v t) (hs : SmallTr t) (hf : ∀ x, Inn t x → formedB t.length x.1 (ev t x) = true) :
    Calls Try.prog 91 #[.agg #[v]] w fun e w' => MsgOut t w w' e := by
  have HT := Lib.hid h
  have HS := Lib.hid hs
  have HF := Lib.hid hf
  obtain ⟨ta, tc, rfl, htc⟩ := h.sh
  have hn1 := hs.1
  generalize hln : t.length = N at *
  have HL := Lib.hid hln
  clear h hs hf hln
  have hmix : Try.prog.follows Departure.mixedOrders = true := by kernel_rfl
  refine (callsIn_wide (n := 9)).1 ?_
  refine callsIn_of_wp_marks Try.func91 rfl trivial ?_ rfl
  simp only [Try.ntmps91, List.size_toArray, List.length_cons, List.length_nil, Nat.reduceAdd, Nat.reduceSub, Array.replicate_succ, Array.replicate_zero, List.push_toArray, List.append_toArray, List.nil_append, List.cons_append]
  gi_wp2_with fail
  refine ⟨trivial, (events_in 8 _ _).mono ?_⟩
  rintro e w' ⟨rfl, rfl⟩
  gi_wp2
  obtain ⟨W0, hW0⟩ : ∃ W0, ((((((w.alloc (.cells #[.slice ta N tc] 24)).alloc (.cells #[.pointer none] 130)).alloc (idO 0 0)).alloc (.cells #[.int .i64 0] 27)).alloc (.cells Try.zeroCells143 143)).alloc (.cells #[.pointer (some ⟨w.heap.size + 1 + 1 + 1 + 1, 0, none⟩)] 130)).alloc (.cells #[.slice ta N tc] 24) = W0 := ⟨_, rfl⟩
  have HB := Lib.hid (fun i o => allocs_at [.cells #[.slice ta N tc] 24, .cells #[.pointer none] 130, idO 0 0, .cells #[.int .i64 0] 27, .cells Try.zeroCells143 143, .cells #[.pointer (some ⟨w.heap.size + 1 + 1 + 1 + 1, 0, none⟩)] 130, .cells #[.slice ta N tc] 24] w i o)
  have HB : Hid (∀ i o, _ → W0.heap[w.heap.size + i]? = some o) := Lib.hid (fun i o h => hW0 ▸ HB.out i o h)
  have hsz : W0.heap.size = w.heap.size + 7 := by rw [← hW0]; simp
  have hE0 : Ext w W0 := by rw [← hW0]; exact (by repeat (first | refine Ext.st ?_ (by first | exact Nat.le_refl _ | exact Nat.le_succ _ | assumption | omega) _ | refine Ext.al ?_ _ | refine Ext.dr ?_ | refine Ext.drN ?_ _ | exact Ext.rf _))
  rw [hW0]
  clear hW0
  have HE0 := Lib.hid hE0
  have hi0 : MsgI t w (.slice ta N tc) [] W0 := ⟨⟨HB.out 0 _ rfl, HB.out 1 _ rfl, HB.out 2 _ rfl, HB.out 3 _ rfl, HB.out 5 _ rfl⟩, ⟨_, HB.out 4 _ rfl, LettA.start t⟩, okPre_nil t, hE0, by omega⟩
  have hc6 : W0.cell? ⟨w.heap.size + 1 + 1 + 1 + 1 + 1 + 1, 0, none⟩ = some (.slice ta N tc) := by have := cellOf (HB.out 6 _ rfl) 0; simpa using this
  refine wpIn_rangeFunc_ownH rfl (by decide) (gf := 101) (lb := #[.pointer (some ⟨w.heap.size + 1 + 1 + 1 + 1 + 1 + 1, 0, none⟩)]) rfl trivial enters_101
    (events_stops 8 (by decide) (w.heap.size + 1 + 1 + 1 + 1 + 1 + 1) _ t w W0 HT.out HS.out hE0 (by omega) hc6) belowK_t (belowK_b (by omega)) (Below.refl _ _) (fun _ => rfl)
    (MsgI t w (.slice ta N tc)) (MsgX t w) (msgI_own t w _ _ (by omega)) (fun c => msgX_own t w c _ (by omega)) hi0
    (fun x a' W => ∃ Bx ua uc, w.heap.size + 7 ≤ Bx ∧ x.1.2 = .slice ua (ev t x.1.1).asg.length uc ∧ W.heap[Bx]? = some (idO (x.1.1.1 : Int) ((x.1.1.2 : Int) + 1)) ∧ W.heap[Bx + 1]? = some (evO (ev t x.1.1).kind (ev t x.1.1).peer (ev t x.1.1).msg (ev t x.1.1).time (.slice ua (ev t x.1.1).asg.length uc)) ∧ a' = { tmps := #[.agg #[.slice ta N tc], .pointer (some ⟨w.heap.size, 0, none⟩), .pointer (some ⟨w.heap.size + 1, 0, none⟩), .pointer (some ⟨w.heap.size + 1 + 1, 0, none⟩), .pointer (some ⟨w.heap.size + 1 + 1 + 1, 0, none⟩), .pointer (some ⟨w.heap.size + 1 + 1 + 1 + 1 + 1, 0, none⟩), .pointer (some ⟨Bx, 0, none⟩), .pointer (some ⟨Bx + 1, 0, none⟩), undef, .agg Try.zeroCells143, .pointer (some ⟨w.heap.size + 1 + 1 + 1 + 1, 0, none⟩), .agg #[.slice ta N tc], .func (.func 101) #[] #[.pointer (some ⟨w.heap.size + 1 + 1 + 1 + 1 + 1 + 1, 0, none⟩)], .agg #[.int .i64 (x.1.1.1 : Int), .int .i64 ((x.1.1.2 : Int) + 1)], .agg #[.int .i64 (ev t x.1.1).kind, .int .i64 (ev t x.1.1).peer, .int .i64 (ev t x.1.1).msg, .int .i64 (ev t x.1.1).time, .slice ua (ev t x.1.1).asg.length uc], undef, undef, undef, undef, undef, undef, undef, undef, undef, undef, undef, undef, undef, undef, undef, undef, undef, undef, undef, undef, undef, undef, undef, undef, undef, undef, undef, undef, undef, undef, undef, undef, undef, undef, undef, undef, undef, undef, undef, undef, undef, undef, undef, undef, undef, undef, undef, undef, undef], defers := [] })
    (fun x a' s A A' row hs hg hr => by obtain ⟨Bx, ua, uc, h0, hv, h1, h2, h3⟩ := hs; exact ⟨Bx, ua, uc, h0, hv, heap_kept h1 hg (fun r e => (hr r e).2), heap_kept h2 hg (fun r e => (hr r e).2), h3⟩)
    ?assign ?body ?done ?stop
  case assign =>
    rintro l pre x W K hi hK
    obtain ⟨ua, uc, hva, huc⟩ := x.2.2.sh
    have HK := Lib.hid hK
    have HI := Lib.hid hi
    have HVA := Lib.hid hva
    have hWs := hi.2.2.2.1.sz
    have hW7 := hi.2.2.2.2
    simp only [encE]
    rw [hva]
    generalize hkd : (ev t x.1.1).kind = kd
    generalize hpe : (ev t x.1.1).peer = pe
    generalize hms : (ev t x.1.1).msg = ms
    generalize hti : (ev t x.1.1).time = ti
    generalize hna : (ev t x.1.1).asg.length = na
    generalize hxp : (x.1.1.1 : Int) = xp
    generalize hxi : (x.1.1.2 : Int) = xi
    have HG := Lib.hid (And.intro hkd (And.intro hpe (And.intro hms (And.intro hti (And.intro hna (And.intro hxp hxi))))))
    clear hK hi hva hkd hpe hms hti hna hxp hxi huc
    gi_wp2
    obtain ⟨rfl, rfl, rfl, rfl, rfl, rfl, rfl⟩ := HG.out
    have g0 := heap_alloc_new W (idO (x.1.1.1 : Int) ((x.1.1.2 : Int) + 1))
    have g1 := heap_new_eq (w := W.alloc (idO (x.1.1.1 : Int) ((x.1.1.2 : Int) + 1))) (o := evO (ev t x.1.1).kind (ev t x.1.1).peer (ev t x.1.1).msg (ev t x.1.1).time (.slice ua (ev t x.1.1).asg.length uc)) (b := W.heap.size + 1) (by simp)
    refine HK.out _ _ (((KeepsOthers.alloc _ _).trans (KeepsOthers.alloc _ _)).from _) (((Below.refl w.heap.size W).alloc hWs _).alloc (by simp; omega) _) ((HI.out.al _).al _) ⟨W.heap.size, ua, uc, hW7, HVA.out, ((Ext.rf _).al _).hp g0, g1, rfl⟩
  case body =>
    rintro l pre x a' W hl ⟨r, hr⟩ hI ⟨Bx, ua, uc, hB7, hva, hb0, hb1, rfl⟩ hlt
    obtain ⟨⟨i0, i1, i2, i3, i5⟩, ⟨cs, hcs, hL⟩, hok, hE, hz⟩ := hI
    have HVA := Lib.hid hva
    have HIN := Lib.hid x.2.1
    have HFM := Lib.hid (HF.out x.1.1 x.2.1)
    have HPRE := Lib.hid hok
    have HLA := Lib.hid hL
    have HEW := Lib.hid hE
    have h0 := Lib.hid i0
    have h1 := Lib.hid i1
    have h2 := Lib.hid i2
    have h3 := Lib.hid i3
    have h5 := Lib.hid i5
    have hc := Lib.hid hcs
    have hx := Lib.hid hb0
    have hy := Lib.hid hb1
    clear hr hlt hva hok hL hE i0 i1 i2 i3 i5 hcs hb0 hb1 hi0 hc6 HB
    generalize hxx : x.1.1 = xx at *
    obtain ⟨xp, xi⟩ := xx
    simp only at *
    have HXX := Lib.hid hxx
    generalize hyy : ev t (xp, xi) = y at *
    obtain ⟨kd, pe, ms, ti, al⟩ := y
    simp only at *
    have HY := Lib.hid hyy
    generalize al.length = na at *
    have hfo := formedB_cases HFM.out
    clear hxx hyy
    rcases hfo with ⟨rfl, _, _⟩ | ⟨rfl, hp0, hp1, m, rfl, hm9⟩ | ⟨rfl, hp0, hp1, m, rfl, hm9⟩
    ·
      have c1 := cellOf h1.out 0
      have c2 := cellOf h2.out 0
      have c2b := cellOf h2.out 1
      have c3 := cellOf h3.out 0
      have c5 := cellOf h5.out 0
      have f1 := freeOf h1.out 0
      have f2 := freeOf h2.out 0
      have f2b := freeOf h2.out 1
      have f3 := freeOf h3.out 0
      have x0 := cellOf hx.out 0
      have x1 := cellOf hx.out 1
      have y0 := cellOf hy.out 0
      have y1 := cellOf hy.out 1
      have y2 := cellOf hy.out 2
      have t0 := cellOf h0.out 0
      simp only [List.getElem?_toArray, List.getElem?_cons_zero, List.getElem?_cons_succ] at c1 c2 c2b c3 c5 x0 x1 y0 y1 y2 t0
      gi_wp2
      exact ⟨KeepsFrom.refl _ _, Below.refl _ _, ⟨h0.out, h1.out, h2.out, h3.out, h5.out⟩, ⟨cs, hc.out, by rw [nms_snoc, HXX.out]; exact HLA.out.local (by rw [HY.out])⟩,
        by rw [nms_snoc, HXX.out]; exact okPre_snoc HPRE.out (pairStep_loc (by rw [HY.out])), HEW.out, hz⟩
    ·
      have c1 := cellOf h1.out 0
      have c2 := cellOf h2.out 0
      have c2b := cellOf h2.out 1
      have c3 := cellOf h3.out 0
      have c5 := cellOf h5.out 0
      have f1 := freeOf h1.out 0
      have f2 := freeOf h2.out 0
      have f2b := freeOf h2.out 1
      have f3 := freeOf h3.out 0
      have x0 := cellOf hx.out 0
      have x1 := cellOf hx.out 1
      have y0 := cellOf hy.out 0
      have y1 := cellOf hy.out 1
      have y2 := cellOf hy.out 2
      have t0 := cellOf h0.out 0
      simp only [List.getElem?_toArray, List.getElem?_cons_zero, List.getElem?_cons_succ] at c1 c2 c2b c3 c5 x0 x1 y0 y1 y2 t0
      have hmz : (0 : Int) ≤ (m : Int) := by omega
      have hm2 : (m : Int) < 200 := by omega
      have hm3 : m < 200 := by omega
      have HK2 := Lib.hid (show (ev t (xp, xi)).kind = 2 from by rw [HY.out])
      have HM2 := Lib.hid (show (ev t (xp, xi)).msg = (m : Int) from by rw [HY.out])
      have lA := (cellOf hc.out (m * 4)).trans (HLA.out.2 m hm9).1
      have lB := (cellOf hc.out (m * 4 + 1)).trans (HLA.out.2 m hm9).2.1
      have fA := freeOf hc.out (m * 4)
      have fB := freeOf hc.out (m * 4 + 1)
      obtain ⟨o, ho⟩ : ∃ o, firstIn (nms pre) t 2 m = o := ⟨_, rfl⟩
      rw [ho] at lA lB
      have HO := Lib.hid ho
      clear ho
      cases o with
      | some z =>
        have hzb : 0 < eidB (some z) := by show (0 : Int) < (z.2 : Int) + 1; omega
        generalize eidA (some z) = za at *
        generalize eidB (some z) = zb at *
        have HST := Lib.hid (show pairStep t (nms pre) (xp, xi) = false from by rw [pairStep_send HK2.out HM2.out, HO.out]; rfl)
        gi_wp2
        gi_region_with_o (fail)
        all_goals
          gi_wp2
          have HT3 := three_set h1.out h2.out h3.out (.pointer none) (.int .i64 xp) (.int .i64 ((xi : Int) + 1)) (.int .i64 8)
          refine ⟨?_, rfl, ⟨nms pre, (xp, xi), by rw [nms_snoc, HXX.out], HST.out⟩, ⟨(xp : Int), (xi : Int) + 1, 8, by decide, HT3.1, HT3.2.1, HT3.2.2.1⟩, ?_⟩
          · exact (KeepsFrom.refl _ _).trans (((((KeepsOthers.setCell _ _ _).trans (KeepsOthers.setCell _ _ _)).trans (KeepsOthers.setCell _ _ _)).trans ((KeepsOthers.setCell _ _ _).trans (KeepsOthers.drew _))).from _)
          · exact ((((HEW.out.st (p := ⟨w.heap.size + 1, 0, none⟩) (by simp) _).st (p := ⟨w.heap.size + 1 + 1, 0, none⟩) (by simp; omega) _).st (p := ⟨w.heap.size + 1 + 1, 1, none⟩) (by simp; omega) _).st (p := ⟨w.heap.size + 1 + 1 + 1, 0, none⟩) (by simp; omega) _).dr
      | none =>
        have HST := Lib.hid (show pairStep t (nms pre) (xp, xi) = true from by rw [pairStep_send HK2.out HM2.out, HO.out]; rfl)
        simp only [eidA, eidB] at lA lB
        gi_wp2
        gi_region_with_o (fail)
        all_goals
          gi_wp2
          have HT2 := two_set (i := m * 4) (j := m * 4 + 1) hc.out (.int .i64 xp) (.int .i64 ((xi : Int) + 1))
          refine ⟨?_, ?_, ⟨(HT2.2 _ (by omega)).trans h0.out, (HT2.2 _ (by omega)).trans h1.out, (HT2.2 _ (by omega)).trans h2.out, (HT2.2 _ (by omega)).trans h3.out, (HT2.2 _ (by omega)).trans h5.out⟩, ⟨_, HT2.1, by rw [nms_snoc, HXX.out]; exact HLA.out.send HK2.out HM2.out hm9 HO.out⟩, by rw [nms_snoc, HXX.out]; exact okPre_snoc HPRE.out HST.out, ?_, ?_⟩
          · exact (KeepsFrom.refl _ _).trans (((KeepsOthers.setCell _ _ _).trans ((KeepsOthers.setCell _ _ _).trans (KeepsOthers.drew _))).from _)
          · exact (Below.refl _ _).trans ((((Below.refl w.heap.size _).setCell (p := ⟨w.heap.size + 1 + 1 + 1 + 1, m * 4, none⟩) (by simp; omega) _).setCell (p := ⟨w.heap.size + 1 + 1 + 1 + 1, m * 4 + 1, none⟩) (by simp; omega) _).drew)
          · exact ((HEW.out.st (p := ⟨w.heap.size + 1 + 1 + 1 + 1, m * 4, none⟩) (by simp; omega) _).st (p := ⟨w.heap.size + 1 + 1 + 1 + 1, m * 4 + 1, none⟩) (by simp; omega) _).dr
          · rw [World.size_drew, size_setCell, size_setCell]; exact hz
    ·
      have c1 := cellOf h1.out 0
      have c2 := cellOf h2.out 0
      have c2b := cellOf h2.out 1
      have c3 := cellOf h3.out 0
      have c5 := cellOf h5.out 0
      have f1 := freeOf h1.out 0
      have f2 := freeOf h2.out 0
      have f2b := freeOf h2.out 1
      have f3 := freeOf h3.out 0
      have x0 := cellOf hx.out 0
      have x1 := cellOf hx.out 1
      have y0 := cellOf hy.out 0
      have y1 := cellOf hy.out 1
      have y2 := cellOf hy.out 2
      have t0 := cellOf h0.out 0
      simp only [List.getElem?_toArray, List.getElem?_cons_zero, List.getElem?_cons_succ] at c1 c2 c2b c3 c5 x0 x1 y0 y1 y2 t0
      have hmz : (0 : Int) ≤ (m : Int) := by omega
      have hm2 : (m : Int) < 200 := by omega
      have hm3 : m < 200 := by omega
      obtain ⟨q, rfl⟩ : ∃ q : Nat, pe = q := ⟨pe.toNat, by omega⟩
      have hqN : q < N := by omega
      have HK3 := Lib.hid (show (ev t (xp, xi)).kind = 3 from by rw [HY.out])
      have HM3 := Lib.hid (show (ev t (xp, xi)).msg = (m : Int) from by rw [HY.out])
      have HQ3 := Lib.hid (show (ev t (xp, xi)).peer = (q : Int) from by rw [HY.out])
      have lA := (cellOf hc.out (m * 4 + 2)).trans (HLA.out.2 m hm9).2.2.1
      have lB := (cellOf hc.out (m * 4 + 3)).trans (HLA.out.2 m hm9).2.2.2
      have fA := freeOf hc.out (m * 4 + 2)
      have fB := freeOf hc.out (m * 4 + 3)
      obtain ⟨o, ho⟩ : ∃ o, firstIn (nms pre) t 3 m = o := ⟨_, rfl⟩
      rw [ho] at lA lB
      have HO := Lib.hid ho
      clear ho
      cases o with
      | some z =>
        have hzb : 0 < eidB (some z) := by show (0 : Int) < (z.2 : Int) + 1; omega
        generalize eidA (some z) = za at *
        generalize eidB (some z) = zb at *
        have HST := Lib.hid (show pairStep t (nms pre) (xp, xi) = false from by rw [pairStep_recv HK3.out HM3.out HQ3.out, HO.out]; rfl)
        gi_wp2
        gi_region_with_o (fail)
        all_goals
          gi_wp2
          have HT3 := three_set h1.out h2.out h3.out (.pointer none) (.int .i64 xp) (.int .i64 ((xi : Int) + 1)) (.int .i64 8)
          refine ⟨?_, rfl, ⟨nms pre, (xp, xi), by rw [nms_snoc, HXX.out], HST.out⟩, ⟨(xp : Int), (xi : Int) + 1, 8, by decide, HT3.1, HT3.2.1, HT3.2.2.1⟩, ?_⟩
          · exact (KeepsFrom.refl _ _).trans (((((KeepsOthers.setCell _ _ _).trans (KeepsOthers.setCell _ _ _)).trans (KeepsOthers.setCell _ _ _)).trans ((KeepsOthers.setCell _ _ _).trans (KeepsOthers.drew _))).from _)
          · exact ((((HEW.out.st (p := ⟨w.heap.size + 1, 0, none⟩) (by simp) _).st (p := ⟨w.heap.size + 1 + 1, 0, none⟩) (by simp; omega) _).st (p := ⟨w.heap.size + 1 + 1, 1, none⟩) (by simp; omega) _).st (p := ⟨w.heap.size + 1 + 1 + 1, 0, none⟩) (by simp; omega) _).dr
      | none =>
        simp only [eidA, eidB] at lA lB
        have HSE := Lib.hid (sends_calls (.slice ta N tc) t q (m : Int) (xp : Int) W (HT.out.ext HEW.out) HS.out (by rw [HL.out]; exact hqN))
        gi_wp2_with fail
        clear c1 c2 c2b c3 c5 f1 f2 f2b f3 x0 x1 y0 y1 y2 t0 lA lB fA fB
        refine ⟨trivial, (CallsIn.inRound l ((callsIn_wide (n := 9 - 1 - 1 - 1)).2 HSE.out)).mono ?_⟩
        rintro e W3 ⟨rfl, hE3⟩
        have h1 := Lib.hid (hE3.hp h1.out)
        have h2 := Lib.hid (hE3.hp h2.out)
        have h3 := Lib.hid (hE3.hp h3.out)
        have h5 := Lib.hid (hE3.hp h5.out)
        have h0 := Lib.hid (hE3.hp h0.out)
        have hx := Lib.hid (hE3.hp hx.out)
        have hy := Lib.hid (hE3.hp hy.out)
        have hc := Lib.hid (hE3.hp hc.out)
        have HE3 := Lib.hid hE3
        have HZ3 := Lib.hid (Nat.le_trans hz hE3.size)
        clear hE3
        have c1 := cellOf h1.out 0
        have c2 := cellOf h2.out 0
        have c2b := cellOf h2.out 1
        have c3 := cellOf h3.out 0
        have c5 := cellOf h5.out 0
        have f1 := freeOf h1.out 0
        have f2 := freeOf h2.out 0
        have f2b := freeOf h2.out 1
        have f3 := freeOf h3.out 0
        have x0 := cellOf hx.out 0
        have x1 := cellOf hx.out 1
        have y0 := cellOf hy.out 0
        have y1 := cellOf hy.out 1
        have y2 := cellOf hy.out 2
        have t0 := cellOf h0.out 0
        simp only [List.getElem?_toArray, List.getElem?_cons_zero, List.getElem?_cons_succ] at c1 c2 c2b c3 c5 x0 x1 y0 y1 y2 t0
        have lA := (cellOf hc.out (m * 4 + 2)).trans (HLA.out.2 m hm9).2.2.1
        have lB := (cellOf hc.out (m * 4 + 3)).trans (HLA.out.2 m hm9).2.2.2
        rw [HO.out] at lA lB
        simp only [eidA, eidB] at lA lB
        have fA := freeOf hc.out (m * 4 + 2)
        have fB := freeOf hc.out (m * 4 + 3)
        obtain ⟨sb, hsb⟩ : ∃ b, sendsB t q (m : Int) (xp : Int) = b := ⟨_, rfl⟩
        rw [hsb]
        have HSB := Lib.hid hsb
        clear hsb
        cases sb with
        | false =>
          have HST := Lib.hid (show pairStep t (nms pre) (xp, xi) = false from by rw [pairStep_recv HK3.out HM3.out HQ3.out, HO.out]; exact HSB.out)
          gi_wp2
          gi_region_with_o (fail)
          all_goals
            gi_wp2
            have HT3 := three_set h1.out h2.out h3.out (.pointer none) (.int .i64 xp) (.int .i64 ((xi : Int) + 1)) (.int .i64 7)
            refine ⟨?_, rfl, ⟨nms pre, (xp, xi), by rw [nms_snoc, HXX.out], HST.out⟩, ⟨(xp : Int), (xi : Int) + 1, 7, by decide, HT3.1, HT3.2.1, HT3.2.2.1⟩, ?_⟩
            · exact (ext_keeps HE3.out).trans (((((KeepsOthers.setCell _ _ _).trans (KeepsOthers.setCell _ _ _)).trans (KeepsOthers.setCell _ _ _)).trans ((KeepsOthers.setCell _ _ _).trans (KeepsOthers.drew _))).from _)
            · exact (((((HEW.out.trans' HE3.out).st (p := ⟨w.heap.size + 1, 0, none⟩) (by simp) _).st (p := ⟨w.heap.size + 1 + 1, 0, none⟩) (by simp; omega) _).st (p := ⟨w.heap.size + 1 + 1, 1, none⟩) (by simp; omega) _).st (p := ⟨w.heap.size + 1 + 1 + 1, 0, none⟩) (by simp; omega) _).dr
        | true =>
          have HST := Lib.hid (show pairStep t (nms pre) (xp, xi) = true from by rw [pairStep_recv HK3.out HM3.out HQ3.out, HO.out]; exact HSB.out)
          gi_wp2
          gi_region_with_o (fail)
          all_goals
            gi_wp2
            have HT2 := two_set (i := m * 4 + 2) (j := m * 4 + 3) hc.out (.int .i64 xp) (.int .i64 ((xi : Int) + 1))
            refine ⟨?_, ?_, ⟨(HT2.2 _ (by omega)).trans h0.out, (HT2.2 _ (by omega)).trans h1.out, (HT2.2 _ (by omega)).trans h2.out, (HT2.2 _ (by omega)).trans h3.out, (HT2.2 _ (by omega)).trans h5.out⟩, ⟨_, HT2.1, by rw [nms_snoc, HXX.out]; exact HLA.out.recv HK3.out HM3.out hm9 HO.out⟩, by rw [nms_snoc, HXX.out]; exact okPre_snoc HPRE.out HST.out, ?_, ?_⟩
            · exact (ext_keeps HE3.out).trans (((KeepsOthers.setCell _ _ _).trans ((KeepsOthers.setCell _ _ _).trans (KeepsOthers.drew _))).from _)
            · exact (HE3.out.mono HEW.out.size).trans ((((Below.refl w.heap.size _).setCell (p := ⟨w.heap.size + 1 + 1 + 1 + 1, m * 4 + 2, none⟩) (by simp; omega) _).setCell (p := ⟨w.heap.size + 1 + 1 + 1 + 1, m * 4 + 3, none⟩) (by simp; omega) _).drew)
            · exact (((HEW.out.trans' HE3.out).st (p := ⟨w.heap.size + 1 + 1 + 1 + 1, m * 4 + 2, none⟩) (by simp; omega) _).st (p := ⟨w.heap.size + 1 + 1 + 1 + 1, m * 4 + 3, none⟩) (by simp; omega) _).dr
            · rw [World.size_drew, size_setCell, size_setCell]; exact HZ3.out
  case done =>
    rintro D ys W hD hys hI hK
    obtain ⟨⟨i0, i1, i2, i3, i5⟩, hL, hok, hE, hz⟩ := hI
    have h1 := Lib.hid i1
    have h2 := Lib.hid i2
    have h3 := Lib.hid i3
    have HL2 := Lib.hid hL
    have HOK := Lib.hid hok
    have HEW := Lib.hid hE
    have HKD := Lib.hid hK
    have HYS := Lib.hid hys
    have c1 := cellOf i1 0
    have c2 := cellOf i2 0
    have c2b := cellOf i2 1
    have c3 := cellOf i3 0
    have c5 := cellOf i5 0
    have f1 := freeOf i1 0
    have f2 := freeOf i2 0
    have f2b := freeOf i2 1
    have f3 := freeOf i3 0
    simp only [List.getElem?_toArray, List.getElem?_cons_zero, List.getElem?_cons_succ] at c1 c2 c2b c3 c5
    clear hi0 hc6 HB hys hok hL hE hK i0 i1 i2 i3 i5
    gi_wp2
    obtain ⟨r1, r2, r3, ro⟩ := three_set h1.out h2.out h3.out (.pointer (some ⟨w.heap.size + 1 + 1 + 1 + 1, 0, none⟩)) (.int .i64 0) (.int .i64 0) (.int .i64 0)
    have hE4 : Ext w ((((W.setCell ⟨w.heap.size + 1, 0, none⟩ (.pointer (some ⟨w.heap.size + 1 + 1 + 1 + 1, 0, none⟩))).setCell ⟨w.heap.size + 1 + 1, 0, none⟩ (.int .i64 0)).setCell ⟨w.heap.size + 1 + 1, 1, none⟩ (.int .i64 0)).setCell ⟨w.heap.size + 1 + 1 + 1, 0, none⟩ (.int .i64 0)) :=
      (((HEW.out.st (p := ⟨w.heap.size + 1, 0, none⟩) (by simp) _).st (p := ⟨w.heap.size + 1 + 1, 0, none⟩) (by simp; omega) _).st (p := ⟨w.heap.size + 1 + 1, 1, none⟩) (by simp; omega) _).st (p := ⟨w.heap.size + 1 + 1 + 1, 0, none⟩) (by simp; omega) _
    have hK4 := (ro D (by omega) (by omega) (by omega)).trans HKD.out
    obtain ⟨cs, hcs, hLA⟩ := HL2.out
    have hc4 := (ro (w.heap.size + 1 + 1 + 1 + 1) (by omega) (by omega) (by omega)).trans hcs
    generalize (((W.setCell ⟨w.heap.size + 1, 0, none⟩ (.pointer (some ⟨w.heap.size + 1 + 1 + 1 + 1, 0, none⟩))).setCell ⟨w.heap.size + 1 + 1, 0, none⟩ (.int .i64 0)).setCell ⟨w.heap.size + 1 + 1, 1, none⟩ (.int .i64 0)).setCell ⟨w.heap.size + 1 + 1 + 1, 0, none⟩ (.int .i64 0) = W4 at *
    clear c1 c2 c2b c3 c5 f1 f2 f2b f3
    refine ⟨by simp, .inl ⟨_, _, rfl, run_takeDeferred hK4, ?_⟩⟩
    have hg := grownBy_putObj' W4 D (.deferred none)
    have hr : ∀ r, some D = some r → ∃ o : Obj, W4.heap[r]? = some o ∧ o.isCells = false := fun r e => by cases e; exact ⟨_, hK4, rfl⟩
    have s1 := cellOf (heap_kept r1 hg hr) 0
    have s2 := cellOf (heap_kept r2 hg hr) 0
    have s2b := cellOf (heap_kept r2 hg hr) 1
    have s3 := cellOf (heap_kept r3 hg hr) 0
    have s4 := heap_kept hc4 hg hr
    simp only [List.getElem?_toArray, List.getElem?_cons_zero, List.getElem?_cons_succ] at s1 s2 s2b s3
    have hE5 : Ext w (W4.putObj D (.deferred none)) := (hE4.grown hg hE4.size (fun k e => by cases e; omega))
    refine ⟨.tuple #[.pointer (some ⟨w.heap.size + 1 + 1 + 1 + 1, 0, none⟩), .agg #[.int .i64 0, .int .i64 0], .int .i64 0], by simp [results, Try.results91, go_sem, s1, s2, s2b, s3], ⟨some ⟨w.heap.size + 1 + 1 + 1 + 1, 0, none⟩, 0, 0, 0, rfl, ⟨fun _ => pairB_yes (HYS.out ▸ HOK.out), fun _ => rfl⟩, hE5, fun _ => ⟨_, rfl, cs, s4, HYS.out ▸ hLA⟩⟩⟩
  case stop =>
    rintro D c pre W hD hpre ⟨rfl, hx, ⟨a, b, E, hE0, i1, i2, i3⟩, hE⟩ hK
    have h1 := Lib.hid i1
    have h2 := Lib.hid i2
    have h3 := Lib.hid i3
    have HEW := Lib.hid hE
    have HKD := Lib.hid hK
    have HX := Lib.hid hx
    have HPR := Lib.hid hpre
    clear hi0 hc6 HB hx hpre hE hK i1 i2 i3
    gi_wp2
    refine ⟨by simp, .inl ⟨_, _, rfl, run_takeDeferred HKD.out, ?_⟩⟩
    have hg := grownBy_putObj' W D (.deferred none)
    have hr : ∀ r, some D = some r → ∃ o : Obj, W.heap[r]? = some o ∧ o.isCells = false := fun r e => by cases e; exact ⟨_, HKD.out, rfl⟩
    have s1 := cellOf (heap_kept h1.out hg hr) 0
    have s2 := cellOf (heap_kept h2.out hg hr) 0
    have s2b := cellOf (heap_kept h2.out hg hr) 1
    have s3 := cellOf (heap_kept h3.out hg hr) 0
    simp only [List.getElem?_toArray, List.getElem?_cons_zero, List.getElem?_cons_succ] at s1 s2 s2b s3
    have hE5 : Ext w (W.putObj D (.deferred none)) := (HEW.out.grown hg HEW.out.size (fun k e => by cases e; omega))
    refine ⟨.tuple #[.pointer none, .agg #[.int .i64 a, .int .i64 b], .int .i64 E], by simp [results, Try.results91, go_sem, s1, s2, s2b, s3], ⟨none, a, b, E, rfl, ⟨fun h => absurd h hE0, fun h => ?_⟩, hE5, fun h => absurd h hE0⟩⟩
    obtain ⟨l0, x0, hx1, hx2⟩ := HX.out
    rw [pairB_no (hx1 ▸ HPR.out) hx2] at h
    exact absurd h (by decide)

end Go.Proofs.Ytfcpnggdpaeldaa

/-
  Whether a trace is valid: the program's Fault.
-/
namespace Go.Proofs.Ytfcpnggdpaeldaa
open Go.RowKit
set_option linter.unusedVariables false
open Go.Shelf
attribute [local go_sem] Oper.semAt_some

/-- What the search for a fault hands back. -/
def FaultOut (t : Tr) (w w' : World) (e : Ending) : Prop := ∃ (a b E : Int), e = .returned (.tuple #[.agg #[.int .i64 a, .int .i64 b], .int .i64 E]) ∧ (E = 0 ↔ validT t = true) ∧ Ext w w'
theorem shapeB_parts {t : Tr} : shapeB t = true ↔ 1 ≤ t.length ∧ t.length ≤ 8 ∧ (∀ p, p < t.length → headB t p = true) ∧ ∀ p, p < t.length → ∀ i, i < t[p]!.events.length → eventB t p i = true := by
  simp only [shapeB, Bool.and_eq_true, decide_eq_true_eq, range_all]
theorem validT_parts {t : Tr} : validT t = true ↔ shapeB t = true ∧ pairB t = true ∧ ¬ Cyc t := by
  simp only [validT, Bool.and_eq_true, decide_eq_true_eq]
theorem ids_le {t : Tr} (h : shapeB t = true) : (ids t).length ≤ 1000 := by
  obtain ⟨_, h8, hh, _⟩ := shapeB_parts.1 h
  unfold ids idsTo
  simp only [List.range_zero, List.map_nil, List.append_nil, List.length_flatMap, List.length_map, List.length_range]
  have key : ∀ n, n ≤ t.length → ((List.range n).map fun q => t[q]!.events.length).sum ≤ 64 * n := by
    intro n
    induction n with
    | zero => intro _; simp
    | succ n ih =>
      intro hn
      rw [List.range_succ, List.map_append, List.sum_append]
      have := ih (by omega)
      have := (headB_parts.1 (hh n (by omega))).2.2.2.2
      simp only [List.map_cons, List.map_nil, List.sum_cons, List.sum_nil]
      omega
  have := key t.length (Nat.le_refl _)
  omega
/-- Between two rounds. -/
def FltI (t : Tr) (w : World) (v : Value) (pre : List (EvA t w)) (W : World) : Prop :=
  (W.heap[w.heap.size]? = some (.cells #[v] 24) ∧ W.heap[w.heap.size + 1]? = some (idO 0 0) ∧ W.heap[w.heap.size + 1 + 1]? = some (.cells #[.int .i64 0] 27)) ∧
  (∀ y, y ∈ nms pre → eventB t y.1 y.2 = true) ∧ Ext w W ∧ w.heap.size + 4 ≤ W.heap.size
/-- A round has left by a return. -/
def FltX (t : Tr) (w : World) (c : Code) (pre : List (EvA t w)) (W : World) : Prop :=
  c = .ret ∧ shapeB t = false ∧ (∃ a b E : Int, E ≠ 0 ∧ W.heap[w.heap.size + 1]? = some (idO a b) ∧ W.heap[w.heap.size + 1 + 1]? = some (.cells #[.int .i64 E] 27)) ∧ Ext w W
theorem fltI_own (t : Tr) (w : World) (v : Value) (B : Nat) (hB : w.heap.size ≤ B) : OwnFrom B (FltI t w v) := fun s A A' row hs hg hr => by
  obtain ⟨⟨h0, h1, h2⟩, ho, hE, hz⟩ := hs
  have hr' := fun r e => (hr r e).2
  exact ⟨⟨heap_kept h0 hg hr', heap_kept h1 hg hr', heap_kept h2 hg hr'⟩, ho, ownFrom_below (β := Unit) (Nat.le_refl _) hB () A A' row hE hg hr, Nat.le_trans hz hg.size⟩
theorem fltX_own (t : Tr) (w : World) (c : Code) (B : Nat) (hB : w.heap.size ≤ B) : OwnFrom B (FltX t w c) := fun s A A' row hs hg hr => by
  obtain ⟨hc, hx, ⟨a, b, E, hE0, h1, h2⟩, hE⟩ := hs
  have hr' := fun r e => (hr r e).2
  exact ⟨hc, hx, ⟨a, b, E, hE0, heap_kept h1 hg hr', heap_kept h2 hg hr'⟩, ownFrom_below (β := Unit) (Nat.le_refl _) hB () A A' row hE hg hr⟩

theorem two_res {W : World} {k : Nat} {b c d : Value} {T3 : TypeId} (h2 : W.heap[k + 1]? = some (.cells #[b, c] 87)) (h3 : W.heap[k + 1 + 1]? = some (.cells #[d] T3)) (p q e : Value) :
    (((W.setCell ⟨k + 1, 0, none⟩ p).setCell ⟨k + 1, 1, none⟩ q).setCell ⟨k + 1 + 1, 0, none⟩ e).heap[k + 1]? = some (.cells #[p, q] 87) ∧
    (((W.setCell ⟨k + 1, 0, none⟩ p).setCell ⟨k + 1, 1, none⟩ q).setCell ⟨k + 1 + 1, 0, none⟩ e).heap[k + 1 + 1]? = some (.cells #[e] T3) ∧
    ∀ j, j ≠ k + 1 → j ≠ k + 1 + 1 → (((W.setCell ⟨k + 1, 0, none⟩ p).setCell ⟨k + 1, 1, none⟩ q).setCell ⟨k + 1 + 1, 0, none⟩ e).heap[j]? = W.heap[j]? := by
  have o : ∀ (V : World) (j i : Nat) (z : Value) (n : Nat), n ≠ j → (V.setCell ⟨j, i, none⟩ z).heap[n]? = V.heap[n]? := fun V j i z n hn => Below.heap_setCell V ⟨j, i, none⟩ z n hn
  refine ⟨?_, ?_, fun j j1 j2 => by rw [o _ _ _ _ _ j2, o _ _ _ _ _ j1, o _ _ _ _ _ j1]⟩
  · rw [o _ _ _ _ _ (by omega)]; exact id_set h2 p q
  · rw [heap_setCell_same (by rw [o _ _ _ _ _ (by omega), o _ _ _ _ _ (by omega)]; exact h3)]; simp
theorem res_ext {w W : World} (h : Ext w W) (p q e : Value) : Ext w (((W.setCell ⟨w.heap.size + 1, 0, none⟩ p).setCell ⟨w.heap.size + 1, 1, none⟩ q).setCell ⟨w.heap.size + 1 + 1, 0, none⟩ e) :=
  ((h.st (p := ⟨w.heap.size + 1, 0, none⟩) (by simp) _).st (p := ⟨w.heap.size + 1, 1, none⟩) (by simp) _).st (p := ⟨w.heap.size + 1 + 1, 0, none⟩) (by simp; omega) _
theorem ret_marks {W4 w : World} {k D : Nat} {p q e : Value} {T3 : TypeId} (r1 : W4.heap[k + 1]? = some (.cells #[p, q] 87)) (r2 : W4.heap[k + 1 + 1]? = some (.cells #[e] T3)) (hK : W4.heap[D]? = some (.deferred (some []))) (hE : Ext w W4) (hD : w.heap.size ≤ D) :
    (W4.putObj D (.deferred none)).cell? ⟨k + 1, 0, none⟩ = some p ∧ (W4.putObj D (.deferred none)).cell? ⟨k + 1, 1, none⟩ = some q ∧ (W4.putObj D (.deferred none)).cell? ⟨k + 1 + 1, 0, none⟩ = some e ∧ Ext w (W4.putObj D (.deferred none)) := by
  have hg := grownBy_putObj' W4 D (.deferred none)
  have hr : ∀ r, some D = some r → ∃ o : Obj, W4.heap[r]? = some o ∧ o.isCells = false := fun r e => by cases e; exact ⟨_, hK, rfl⟩
  have s1 := cellOf (heap_kept r1 hg hr) 0
  have s1b := cellOf (heap_kept r1 hg hr) 1
  have s2 := cellOf (heap_kept r2 hg hr) 0
  simp only [List.getElem?_toArray, List.getElem?_cons_zero, List.getElem?_cons_succ] at s1 s1b s2
  exact ⟨s1, s1b, s2, hE.grown hg hE.size (fun k e => by cases e; omega)⟩
set_option maxHeartbeats 8000000 in
set_option maxRecDepth 100000 in
theorem faultP_calls (v : Value) (t : Tr) (w : World) (h : TrAt w v t) (hs : LooseTr t) : Calls Try.prog 76 #[.agg #[v]] w fun e w' => FaultOut t w w' e := by
  have HT := Lib.hid h
  have HS0 := Lib.hid hs
  obtain ⟨ta, tc, rfl, htc⟩ := h.sh
  have hn1 := hs.1
  have HVP := Lib.hid (@validT_parts t)
  have HSP := Lib.hid (@shapeB_parts t)
  obtain ⟨vt, hvt⟩ : ∃ b, validT t = b := ⟨_, rfl⟩
  rw [hvt] at HVP
  have HVT := Lib.hid hvt
  generalize hln : t.length = N at *
  have HL := Lib.hid hln
  have HPF := Lib.hid (fun W (hW : Ext w W) p (hp : p < N) => procFaultP_calls (.slice ta N tc) t p W (h.ext hW) hs (by rw [hln]; exact hp))
  have HX0 := Lib.hid ((((Ext.rf _).al (idO 0 0)).al (.cells #[.int .i64 0] 27)).hp (heap_alloc_new w (.cells #[.slice ta N tc] 24)))
  have HX1 := Lib.hid (((Ext.rf _).al (.cells #[.int .i64 0] 27)).hp (heap_new_eq (w := w.alloc (.cells #[.slice ta N tc] 24)) (o := idO 0 0) (b := w.heap.size + 1) (by simp)))
  have HX2 := Lib.hid (heap_new_eq (w := (w.alloc (.cells #[.slice ta N tc] 24)).alloc (idO 0 0)) (o := .cells #[.int .i64 0] 27) (b := w.heap.size + 1 + 1) (by simp))
  have HE3 : Hid (Ext w (((w.alloc (.cells #[.slice ta N tc] 24)).alloc (idO 0 0)).alloc (.cells #[.int .i64 0] 27))) := Lib.hid ((((Ext.rf w).al _).al _).al _)
  clear h hs hvt hln
  have HIN := Lib.hid (inP_calls (N : Int) 1 8)
  obtain ⟨bi, hbi⟩ : ∃ b, (decide (1 ≤ (N : Int)) && decide ((N : Int) ≤ 8)) = b := ⟨_, rfl⟩
  rw [hbi] at HIN
  have HBI := Lib.hid hbi
  clear hbi
  refine (callsIn_wide (n := 9)).1 ?_
  refine callsIn_of_wp_marks Try.func76 rfl trivial ?_ rfl
  simp only [Try.ntmps76, List.size_toArray, List.length_cons, List.length_nil, Nat.reduceAdd, Nat.reduceSub, Array.replicate_succ, Array.replicate_zero, List.push_toArray, List.append_toArray, List.nil_append, List.cons_append]
  gi_wp2_with fail
  generalize hw3 : ((w.alloc (.cells #[.slice ta N tc] 24)).alloc (idO 0 0)).alloc (.cells #[.int .i64 0] 27) = w3 at *
  clear hw3
  refine ⟨trivial, ((callsIn_wide (n := 9 - 1)).2 (HIN.out _)).mono ?_⟩
  rintro e w4 ⟨rfl, rfl⟩
  have c1 := cellOf HX1.out 0
  have c1b := cellOf HX1.out 1
  have c2 := cellOf HX2.out 0
  have f1 := freeOf HX1.out 0
  have f1b := freeOf HX1.out 1
  have f2 := freeOf HX2.out 0
  have t0 := cellOf HX0.out 0
  simp only [List.getElem?_toArray, List.getElem?_cons_zero, List.getElem?_cons_succ] at c1 c1b c2 t0
  cases bi with
  | false =>
    obtain rfl : vt = false := by
      rw [Bool.eq_false_iff]; intro hv; have h9 := HSP.out.1 (HVP.out.1 hv).1; have := HBI.out; simp at this; omega
    gi_wp2
    obtain ⟨r1, r2, ro⟩ := two_res HX1.out HX2.out (.int .i64 0) (.int .i64 0) (.int .i64 1)
    have hE9 := res_ext HE3.out (.int .i64 0) (.int .i64 0) (.int .i64 1)
    have s1 := cellOf r1 0
    have s1b := cellOf r1 1
    have s2 := cellOf r2 0
    simp only [List.getElem?_toArray, List.getElem?_cons_zero, List.getElem?_cons_succ] at s1 s1b s2
    exact ⟨.tuple #[.agg #[.int .i64 0, .int .i64 0], .int .i64 1], by simp [results, Try.results76, go_sem, s1, s1b, s2], ⟨_, _, _, rfl, ⟨fun h => absurd h (by decide), fun h => by rw [HVT.out] at h; exact absurd h (by decide)⟩, hE9⟩⟩
  | true =>
  have HN8 := Lib.hid (show 1 ≤ N ∧ N ≤ 8 from by have := HBI.out; simp at this; omega)
  gi_wp2
  gi_loopg [23] N (fun g s23 wr => ∃ p : Nat, p ≤ N ∧ N - p ≤ g ∧ s23 = .int .i64 p ∧ Aside (∀ q, q < p → headB t q = true) ∧ Aside (Ext w4 wr))
  case atStart => exact ⟨0, Nat.zero_le _, by omega, rfl, (fun j hj => absurd hj (Nat.not_lt_zero _)), Ext.rf _⟩
  case round =>
    obtain ⟨p, hp, hg, rfl, A, HEK⟩ := hrel
    have HEW := Lib.hid (HE3.out.trans' HEK.out)
    have HY0 := Lib.hid (HEK.out.hp HX0.out)
    have HY1 := Lib.hid (HEK.out.hp HX1.out)
    have HY2 := Lib.hid (HEK.out.hp HX2.out)
    clear c1 c1b c2 f1 f1b f2 t0
    have c1 := cellOf HY1.out 0
    have c1b := cellOf HY1.out 1
    have c2 := cellOf HY2.out 0
    have f1 := freeOf HY1.out 0
    have f1b := freeOf HY1.out 1
    have f2 := freeOf HY2.out 0
    have t0 := cellOf HY0.out 0
    simp only [List.getElem?_toArray, List.getElem?_cons_zero, List.getElem?_cons_succ] at c1 c1b c2 t0
    by_cases hlt : p < N
    · have hltz : (p : Int) < (N : Int) := by omega
      have hpz : (0 : Int) ≤ (p : Int) := by omega
      have HPC := Lib.hid (HPF.out wr HEW.out p hlt)
      have HHB := Lib.hid (fun hv : vt = true => (HSP.out.1 (HVP.out.1 hv).1).2.2.1 p hlt)
      gi_wp2_with fail
      refine ⟨trivial, ((callsIn_wide (n := 9 - 1)).2 HPC.out).mono ?_⟩
      rintro e w5 ⟨E, rfl, hE5, hX5⟩
      have HYE := Lib.hid hE5
      have HZ1 := Lib.hid (hX5.hp HY1.out)
      have HZ2 := Lib.hid (hX5.hp HY2.out)
      have HE5 := Lib.hid (HEW.out.trans' hX5)
      have HEK5 := Lib.hid (HEK.out.trans' hX5)
      clear c1 c1b c2 f1 f1b f2 t0 hE5 hX5
      have c1 := cellOf HZ1.out 0
      have c1b := cellOf HZ1.out 1
      have c2 := cellOf HZ2.out 0
      have f1 := freeOf HZ1.out 0
      have f1b := freeOf HZ1.out 1
      have f2 := freeOf HZ2.out 0
      simp only [List.getElem?_toArray, List.getElem?_cons_zero, List.getElem?_cons_succ] at c1 c1b c2
      by_cases hE0 : E = 0
      · subst hE0
        have HBP := Lib.hid (HYE.out.1 rfl)
        gi_wp2
        gi_roundg (N - (p + 1))
        case measure => omega
        case rel =>
          refine ⟨p + 1, by omega, by omega, by go_num, (show Aside _ from fun q hq => ?_), (show Ext _ _ from HEK5.out)⟩
          by_cases e : q = p
          · subst e; exact HBP.out
          · exact A.out q (by omega)
      · have c9 : (E != 0) = true := by simp [hE0]
        obtain rfl : vt = false := by
          rw [Bool.eq_false_iff]; intro hv; exact hE0 (HYE.out.2 (HHB.out hv))
        have HNE := Lib.hid hE0
        clear hE0
        gi_wp2
        obtain ⟨r1, r2, ro⟩ := two_res HZ1.out HZ2.out (.int .i64 p) (.int .i64 0) (.int .i64 E)
        have hE9 := res_ext HE5.out (.int .i64 p) (.int .i64 0) (.int .i64 E)
        have s1 := cellOf r1 0
        have s1b := cellOf r1 1
        have s2 := cellOf r2 0
        simp only [List.getElem?_toArray, List.getElem?_cons_zero, List.getElem?_cons_succ] at s1 s1b s2
        exact ⟨.tuple #[.agg #[.int .i64 p, .int .i64 0], .int .i64 E], by simp [results, Try.results76, go_sem, s1, s1b, s2], ⟨_, _, _, rfl, ⟨fun h => absurd h HNE.out, fun h => by rw [HVT.out] at h; exact absurd h (by decide)⟩, hE9⟩⟩
    · have hltz : ¬ (p : Int) < (N : Int) := by omega
      obtain rfl : N = p := by omega
      have HS := Lib.hid (HS0.out.small (fun q hq => A.out q (by rw [HL.out] at hq; exact hq)))
      gi_wp2_with fail
      refine ⟨trivial, (events_in 8 _ _).mono ?_⟩
      rintro e w' ⟨rfl, rfl⟩
      gi_wp2
      clear c1 c1b c2 f1 f1b f2 t0
      have hE0 : Ext w (wr.alloc (.cells #[.slice ta N tc] 24)) := HEW.out.al _
      have hXT : Ext wr (wr.alloc (.cells #[.slice ta N tc] 24)) := (Ext.rf wr).al _
      have hc6 : (wr.alloc (.cells #[.slice ta N tc] 24)).cell? ⟨wr.heap.size, 0, none⟩ = some (.slice ta N tc) := cell_new _ _ _ _ _ rfl
      have hwr3 : w.heap.size + 3 ≤ wr.heap.size := by
        have := (Array.getElem?_eq_some_iff.1 HY2.out).1
        omega
      have hsz : (wr.alloc (.cells #[.slice ta N tc] 24)).heap.size = wr.heap.size + 1 := by simp
      have hi0 : FltI t w (.slice ta N tc) [] (wr.alloc (.cells #[.slice ta N tc] 24)) := ⟨⟨hXT.hp HY0.out, hXT.hp HY1.out, hXT.hp HY2.out⟩, fun y hy => by simp [nms] at hy, hE0, by omega⟩
      obtain ⟨W0, hW0⟩ : ∃ W0, wr.alloc (.cells #[.slice ta N tc] 24) = W0 := ⟨_, rfl⟩
      rw [hW0] at hE0 hc6 hsz hi0 ⊢
      clear hW0 hXT
      refine wpIn_rangeFunc_ownH rfl (by decide) (gf := 101) (lb := #[.pointer (some ⟨wr.heap.size, 0, none⟩)]) rfl trivial enters_101
        (events_stops 8 (by decide) wr.heap.size _ t w W0 HT.out HS.out hE0 (by omega) hc6) belowK_t (belowK_b (by omega)) (Below.refl _ _) (fun _ => rfl)
        (FltI t w (.slice ta N tc)) (FltX t w) (fltI_own t w _ _ (by omega)) (fun c => fltX_own t w c _ (by omega)) hi0
        (fun x a' W => ∃ Bx ua uc, w.heap.size + 4 ≤ Bx ∧ x.1.2 = .slice ua (ev t x.1.1).asg.length uc ∧ W.heap[Bx]? = some (idO (x.1.1.1 : Int) ((x.1.1.2 : Int) + 1)) ∧ W.heap[Bx + 1]? = some (evO (ev t x.1.1).kind (ev t x.1.1).peer (ev t x.1.1).msg (ev t x.1.1).time (.slice ua (ev t x.1.1).asg.length uc)) ∧ a' = { tmps := #[.agg #[.slice ta N tc], .pointer (some ⟨w.heap.size, 0, none⟩), .pointer (some ⟨w.heap.size + 1, 0, none⟩), .pointer (some ⟨w.heap.size + 1 + 1, 0, none⟩), u4, u5, .pointer (some ⟨Bx, 0, none⟩), .pointer (some ⟨Bx + 1, 0, none⟩), undef, undef, undef, undef, undef, undef, .pointer (some ⟨w.heap.size, 0, none⟩), .slice ta N tc, .int .i64 (N : Int), .bool true, .bool false, undef, .pointer (some ⟨w.heap.size, 0, none⟩), .slice ta N tc, .int .i64 (N : Int), .int .i64 (N : Int), .bool false, u25, u26, u27, u28, u29, u30, u31, u32, u33, u34, .agg #[.slice ta N tc], .func (.func 101) #[] #[.pointer (some ⟨wr.heap.size, 0, none⟩)], .agg #[.int .i64 (x.1.1.1 : Int), .int .i64 ((x.1.1.2 : Int) + 1)], .agg #[.int .i64 (ev t x.1.1).kind, .int .i64 (ev t x.1.1).peer, .int .i64 (ev t x.1.1).msg, .int .i64 (ev t x.1.1).time, .slice ua (ev t x.1.1).asg.length uc], undef, undef, undef, undef, undef, undef, undef, undef, undef, undef, undef, undef, undef, undef, undef, undef, undef, undef, undef, undef, undef, undef, undef, undef, undef, undef, undef], defers := [] })
        (fun x a' s A A' row hs hg hr => by obtain ⟨Bx, ua, uc, h0, hv, h1, h2, h3⟩ := hs; exact ⟨Bx, ua, uc, h0, hv, heap_kept h1 hg (fun r e => (hr r e).2), heap_kept h2 hg (fun r e => (hr r e).2), h3⟩)
        ?assign ?body ?done ?stop
      case assign =>
        rintro l pre x W K hi hK
        obtain ⟨ua, uc, hva, huc⟩ := x.2.2.sh
        have HK := Lib.hid hK
        have HI := Lib.hid hi
        have HVA := Lib.hid hva
        have hWs := hi.2.2.1.sz
        have hW7 := hi.2.2.2
        simp only [encE]
        rw [hva]
        generalize hkd : (ev t x.1.1).kind = kd
        generalize hpe : (ev t x.1.1).peer = pe
        generalize hms : (ev t x.1.1).msg = ms
        generalize hti : (ev t x.1.1).time = ti
        generalize hna : (ev t x.1.1).asg.length = na
        generalize hxp : (x.1.1.1 : Int) = xp
        generalize hxi : (x.1.1.2 : Int) = xi
        have HG := Lib.hid (And.intro hkd (And.intro hpe (And.intro hms (And.intro hti (And.intro hna (And.intro hxp hxi))))))
        clear hK hi hva hkd hpe hms hti hna hxp hxi huc hi0 hc6
        gi_wp2
        obtain ⟨rfl, rfl, rfl, rfl, rfl, rfl, rfl⟩ := HG.out
        have g0 := heap_alloc_new W (idO (x.1.1.1 : Int) ((x.1.1.2 : Int) + 1))
        have g1 := heap_new_eq (w := W.alloc (idO (x.1.1.1 : Int) ((x.1.1.2 : Int) + 1))) (o := evO (ev t x.1.1).kind (ev t x.1.1).peer (ev t x.1.1).msg (ev t x.1.1).time (.slice ua (ev t x.1.1).asg.length uc)) (b := W.heap.size + 1) (by simp)
        refine HK.out _ _ (((KeepsOthers.alloc _ _).trans (KeepsOthers.alloc _ _)).from _) (((Below.refl w.heap.size W).alloc hWs _).alloc (by simp; omega) _) ((fltI_own t w _ w.heap.size (Nat.le_refl _)).alloc _ ((fltI_own t w _ w.heap.size (Nat.le_refl _)).alloc _ HI.out)) ⟨W.heap.size, ua, uc, hW7, HVA.out, ((Ext.rf _).al _).hp g0, g1, rfl⟩
      case body =>
        rintro l pre x a' W hl ⟨r, hr⟩ hI ⟨Bx, ua, uc, hB7, hva, hb0, hb1, rfl⟩ hlt
        obtain ⟨⟨i0, i1, i2⟩, hok, hE, hz⟩ := hI
        have hA := x.2.2
        rw [hva] at hA
        have hin := x.2.1
        have hcall := eventFaultP_calls (.slice ta N tc) (.slice ua (ev t x.1.1).asg.length uc) t x.1.1.1 x.1.1.2 ((x.1.1.2 : Int) + 1) rfl (ev t x.1.1) W (HT.out.ext hE) HS.out hin.1 hin.2 rfl (hA.ext rasg_lasts hE)
        have HCALL := Lib.hid hcall
        have HIN := Lib.hid hin
        have HOK := Lib.hid hok
        have HEW := Lib.hid hE
        have h0 := Lib.hid i0
        have h1 := Lib.hid i1
        have h2 := Lib.hid i2
        have hx := Lib.hid hb0
        have hy := Lib.hid hb1
        clear hr hlt hva hok hE i0 i1 i2 hb0 hb1 hi0 hc6 hA hin hcall
        have c1 := cellOf h1.out 0
        have c1b := cellOf h1.out 1
        have c2 := cellOf h2.out 0
        have f1 := freeOf h1.out 0
        have f1b := freeOf h1.out 1
        have f2 := freeOf h2.out 0
        have t0 := cellOf h0.out 0
        have x0 := cellOf hx.out 0
        have x1 := cellOf hx.out 1
        have y0 := cellOf hy.out 0
        have y1 := cellOf hy.out 1
        have y2 := cellOf hy.out 2
        have y3 := cellOf hy.out 3
        have y4 := cellOf hy.out 4
        simp only [List.getElem?_toArray, List.getElem?_cons_zero, List.getElem?_cons_succ] at c1 c1b c2 t0 x0 x1 y0 y1 y2 y3 y4
        generalize hxx : x.1.1 = xx at *
        have HXX := Lib.hid hxx
        generalize ev t xx = y at *
        generalize y.asg.length = na at *
        obtain ⟨xp, xi⟩ := xx
        simp only at *
        clear hxx
        gi_wp2_with fail
        clear c1 c1b c2 f1 f1b f2 t0 x0 x1 y0 y1 y2 y3 y4
        refine ⟨trivial, (CallsIn.inRound l ((callsIn_wide (n := 9 - 1 - 1 - 1)).2 HCALL.out)).mono ?_⟩
        rintro e W3 ⟨E, rfl, hE5, hX5⟩
        have HYE := Lib.hid hE5
        have HX5 := Lib.hid hX5
        have HZ0 := Lib.hid (hX5.hp h0.out)
        have HZ1 := Lib.hid (hX5.hp h1.out)
        have HZ2 := Lib.hid (hX5.hp h2.out)
        have HZX := Lib.hid (hX5.hp hx.out)
        have HE5 := Lib.hid (HEW.out.trans' hX5)
        clear hE5 hX5
        by_cases hE0 : E = 0
        · subst hE0
          have HBP := Lib.hid (HYE.out.1 rfl)
          gi_wp2
          exact ⟨ext_keeps HX5.out, HX5.out.mono HEW.out.size, ⟨HZ0.out, HZ1.out, HZ2.out⟩, fun y hy => by
            rw [nms_snoc, HXX.out] at hy
            rcases List.mem_append.1 hy with hy | hy
            · exact HOK.out y hy
            · rw [List.mem_singleton] at hy; subst hy; exact HBP.out, HE5.out, Nat.le_trans hz HX5.out.size⟩
        · have c9 : (E != 0) = true := by simp [hE0]
          have HNE := Lib.hid hE0
          have HSF := Lib.hid (show shapeB t = false from by
            rw [Bool.eq_false_iff]; intro hv
            have := (HSP.out.1 hv).2.2.2 xp (by rw [← HL.out]; exact HIN.out.1) xi HIN.out.2
            exact hE0 (HYE.out.2 this))
          clear hE0
          have c1 := cellOf HZ1.out 0
          have c1b := cellOf HZ1.out 1
          have c2 := cellOf HZ2.out 0
          have f1 := freeOf HZ1.out 0
          have f1b := freeOf HZ1.out 1
          have f2 := freeOf HZ2.out 0
          have x0 := cellOf HZX.out 0
          have x1 := cellOf HZX.out 1
          simp only [List.getElem?_toArray, List.getElem?_cons_zero, List.getElem?_cons_succ] at c1 c1b c2 x0 x1
          gi_wp2
          obtain ⟨r1, r2, ro⟩ := two_res HZ1.out HZ2.out (.int .i64 (xp : Int)) (.int .i64 ((xi : Int) + 1)) (.int .i64 E)
          exact ⟨(ext_keeps HX5.out).trans (((KeepsOthers.setCell _ _ _).trans ((KeepsOthers.setCell _ _ _).trans (KeepsOthers.setCell _ _ _))).from _), rfl, HSF.out, ⟨_, _, E, HNE.out, r1, r2⟩, res_ext HE5.out _ _ _⟩
      case done =>
        rintro D ys W hD hys hI hK
        obtain ⟨⟨i0, i1, i2⟩, hok, hE, hz⟩ := hI
        have HSH := Lib.hid (show shapeB t = true from HSP.out.2 ⟨HN8.out.1, HN8.out.2, A.out, fun q hq j hj => hok (q, j) (by rw [hys]; exact mem_ids.2 ⟨by simp only; rw [HL.out]; exact hq, hj⟩)⟩)
        have HFO := Lib.hid (show ∀ x, Inn t x → formedB t.length x.1 (ev t x) = true from fun x hx => (eventB_parts.1 ((HSP.out.1 HSH.out).2.2.2 x.1 (by have := hx.1; rw [HL.out] at this; exact this) x.2 hx.2)).1)
        have HMC := Lib.hid (messageP_calls (.slice ta N tc) t W (HT.out.ext hE) HS.out HFO.out)
        have h0 := Lib.hid i0
        have h1 := Lib.hid i1
        have h2 := Lib.hid i2
        have HEW := Lib.hid hE
        have HKD := Lib.hid hK
        have t0 := cellOf i0 0
        simp only [List.getElem?_toArray, List.getElem?_cons_zero] at t0
        clear hi0 hc6 hys hok hE hK i0 i1 i2
        gi_wp2_with fail
        clear t0
        refine ⟨trivial, ((callsIn_wide (n := 9 - 1)).2 HMC.out).mono ?_⟩
        rintro e W2 ⟨pv, a, b, E, rfl, hE5, hX5, hL5⟩
        have HYE := Lib.hid hE5
        have HLT := Lib.hid hL5
        have HZ0 := Lib.hid (hX5.hp h0.out)
        have HZ1 := Lib.hid (hX5.hp h1.out)
        have HZ2 := Lib.hid (hX5.hp h2.out)
        have HKD2 := Lib.hid (hX5.hp HKD.out)
        have HE5 := Lib.hid (HEW.out.trans' hX5)
        have hW2 : w.heap.size + 4 ≤ W2.heap.size := Nat.le_trans hz hX5.size
        clear hE5 hX5 hL5
        have HXT := Lib.hid ((Ext.rf W2).al (idO a b))
        have HB6 := Lib.hid (heap_alloc_new W2 (idO a b))
        have c1 := cellOf HZ1.out 0
        have c1b := cellOf HZ1.out 1
        have c2 := cellOf HZ2.out 0
        have f1 := freeOf HZ1.out 0
        have f1b := freeOf HZ1.out 1
        have f2 := freeOf HZ2.out 0
        have t0 := cellOf HZ0.out 0
        simp only [List.getElem?_toArray, List.getElem?_cons_zero, List.getElem?_cons_succ] at c1 c1b c2 t0
        have n1 : w.heap.size + 1 < W2.heap.size := by omega
        have n2 : w.heap.size + 1 ≠ W2.heap.size := by omega
        have n3 : w.heap.size + 1 + 1 < W2.heap.size := by omega
        have n4 : w.heap.size + 1 + 1 ≠ W2.heap.size := by omega
        have n5 : w.heap.size < W2.heap.size := by omega
        have n6 : w.heap.size ≠ W2.heap.size := by omega
        by_cases hE0 : E = 0
        · subst hE0
          obtain ⟨LB, rfl, hlet⟩ := HLT.out rfl
          have HPB := Lib.hid (HYE.out.1 rfl)
          have HCC := Lib.hid (cyclicP_calls (.slice ta N tc) t LB (W2.alloc (idO a b)) ((HT.out.ext HE5.out).ext HXT.out) HS.out HFO.out HPB.out (hlet.ext HXT.out) (by have := ids_le HSH.out; omega))
          clear hlet
          gi_wp2_with fail
          clear c1 c1b c2 f1 f1b f2 t0 n1 n2 n3 n4 n5 n6
          refine ⟨trivial, ((callsIn_wide (n := 9 - 1)).2 HCC.out).mono ?_⟩
          rintro e W5 ⟨a2, b2, cy, rfl, hcy, hX6⟩
          have HCY := Lib.hid hcy
          have HQ1 := Lib.hid (hX6.hp (HXT.out.hp HZ1.out))
          have HQ2 := Lib.hid (hX6.hp (HXT.out.hp HZ2.out))
          have HQK := Lib.hid (hX6.hp (HXT.out.hp HKD2.out))
          have HQE := Lib.hid (HE5.out.trans' (HXT.out.trans' hX6))
          have hW5 : w.heap.size + 4 ≤ W5.heap.size := Nat.le_trans hW2 (Nat.le_trans HXT.out.size hX6.size)
          clear hcy hX6
          have HXT2 := Lib.hid ((Ext.rf W5).al (idO a2 b2))
          have HB7 := Lib.hid (heap_alloc_new W5 (idO a2 b2))
          have c1 := cellOf HQ1.out 0
          have c1b := cellOf HQ1.out 1
          have c2 := cellOf HQ2.out 0
          have f1 := freeOf HQ1.out 0
          have f1b := freeOf HQ1.out 1
          have f2 := freeOf HQ2.out 0
          simp only [List.getElem?_toArray, List.getElem?_cons_zero, List.getElem?_cons_succ] at c1 c1b c2
          have n1 : w.heap.size + 1 < W5.heap.size := by omega
          have n2 : w.heap.size + 1 ≠ W5.heap.size := by omega
          have n3 : w.heap.size + 1 + 1 < W5.heap.size := by omega
          have n4 : w.heap.size + 1 + 1 ≠ W5.heap.size := by omega
          cases cy with
          | true =>
            have HVF := Lib.hid (show validT t = false from by
              rw [Bool.eq_false_iff]; intro hv; exact (validT_parts.1 hv).2.2 (HCY.out.1 rfl))
            gi_wp2
            obtain ⟨q1, q2, qo⟩ := two_res HQ1.out HQ2.out (.int .i64 a2) (.int .i64 b2) (.int .i64 10)
            have hE8 := res_ext HQE.out (.int .i64 a2) (.int .i64 b2) (.int .i64 10)
            have hK8 := (qo D (by omega) (by omega)).trans HQK.out
            have r1 := ((Ext.rf _).al (idO a2 b2)).hp q1
            have r2 := ((Ext.rf _).al (idO a2 b2)).hp q2
            have hK4 := ((Ext.rf _).al (idO a2 b2)).hp hK8
            have hE9 := hE8.al (idO a2 b2)
            refine ⟨by simp, .inl ⟨_, _, rfl, run_takeDeferred hK4, ?_⟩⟩
            obtain ⟨s1, s1b, s2, hE5⟩ := ret_marks r1 r2 hK4 hE9 (by omega)
            exact ⟨.tuple #[.agg #[.int .i64 a2, .int .i64 b2], .int .i64 10], by simp [results, Try.results76, go_sem, s1, s1b, s2], ⟨_, _, _, rfl, ⟨fun h => absurd h (by decide), fun h => by rw [HVF.out] at h; exact absurd h (by decide)⟩, hE5⟩⟩
          | false =>
            have HVF := Lib.hid (show validT t = true from validT_parts.2 ⟨HSH.out, HPB.out, fun hc => by have := HCY.out.2 hc; exact absurd this (by decide)⟩)
            gi_wp2
            obtain ⟨q1, q2, qo⟩ := two_res HQ1.out HQ2.out (.int .i64 0) (.int .i64 0) (.int .i64 0)
            have hE8 := res_ext HQE.out (.int .i64 0) (.int .i64 0) (.int .i64 0)
            have hK8 := (qo D (by omega) (by omega)).trans HQK.out
            have r1 := ((Ext.rf _).al (idO a2 b2)).hp q1
            have r2 := ((Ext.rf _).al (idO a2 b2)).hp q2
            have hK4 := ((Ext.rf _).al (idO a2 b2)).hp hK8
            have hE9 := hE8.al (idO a2 b2)
            refine ⟨by simp, .inl ⟨_, _, rfl, run_takeDeferred hK4, ?_⟩⟩
            obtain ⟨s1, s1b, s2, hE5⟩ := ret_marks r1 r2 hK4 hE9 (by omega)
            exact ⟨.tuple #[.agg #[.int .i64 0, .int .i64 0], .int .i64 0], by simp [results, Try.results76, go_sem, s1, s1b, s2], ⟨_, _, _, rfl, ⟨fun _ => HVF.out, fun _ => rfl⟩, hE5⟩⟩
        · have c9 : (E != 0) = true := by simp [hE0]
          have HNE := Lib.hid hE0
          have HVF := Lib.hid (show validT t = false from by
            rw [Bool.eq_false_iff]; intro hv; exact HNE.out (HYE.out.2 (validT_parts.1 hv).2.1))
          clear hE0
          gi_wp2
          obtain ⟨q1, q2, qo⟩ := two_res HZ1.out HZ2.out (.int .i64 a) (.int .i64 b) (.int .i64 E)
          have hE8 := res_ext HE5.out (.int .i64 a) (.int .i64 b) (.int .i64 E)
          have hK8 := (qo D (by omega) (by omega)).trans HKD2.out
          have r1 := ((Ext.rf _).al (idO a b)).hp q1
          have r2 := ((Ext.rf _).al (idO a b)).hp q2
          have hK4 := ((Ext.rf _).al (idO a b)).hp hK8
          have hE9 := hE8.al (idO a b)
          refine ⟨by simp, .inl ⟨_, _, rfl, run_takeDeferred hK4, ?_⟩⟩
          obtain ⟨s1, s1b, s2, hE5⟩ := ret_marks r1 r2 hK4 hE9 (by omega)
          exact ⟨.tuple #[.agg #[.int .i64 a, .int .i64 b], .int .i64 E], by simp [results, Try.results76, go_sem, s1, s1b, s2], ⟨_, _, _, rfl, ⟨fun h => absurd h HNE.out, fun h => by rw [HVF.out] at h; exact absurd h (by decide)⟩, hE5⟩⟩
      case stop =>
        rintro D c pre W hD hpre ⟨rfl, hsh, ⟨a, b, E, hE0, i1, i2⟩, hE⟩ hK
        have h1 := Lib.hid i1
        have h2 := Lib.hid i2
        have HEW := Lib.hid hE
        have HKD := Lib.hid hK
        have HSH := Lib.hid hsh
        clear hi0 hc6 hsh hpre hE hK i1 i2
        gi_wp2
        refine ⟨by simp, .inl ⟨_, _, rfl, run_takeDeferred HKD.out, ?_⟩⟩
        have hg := grownBy_putObj' W D (.deferred none)
        have hr : ∀ r, some D = some r → ∃ o : Obj, W.heap[r]? = some o ∧ o.isCells = false := fun r e => by cases e; exact ⟨_, HKD.out, rfl⟩
        have s1 := cellOf (heap_kept h1.out hg hr) 0
        have s1b := cellOf (heap_kept h1.out hg hr) 1
        have s2 := cellOf (heap_kept h2.out hg hr) 0
        simp only [List.getElem?_toArray, List.getElem?_cons_zero, List.getElem?_cons_succ] at s1 s1b s2
        have hE5 : Ext w (W.putObj D (.deferred none)) := (HEW.out.grown hg HEW.out.size (fun k e => by cases e; omega))
        refine ⟨.tuple #[.agg #[.int .i64 a, .int .i64 b], .int .i64 E], by simp [results, Try.results76, go_sem, s1, s1b, s2], ⟨a, b, E, rfl, ⟨fun h => absurd h hE0, fun h => ?_⟩, hE5⟩⟩
        have := (validT_parts.1 h).1
        rw [HSH.out] at this
        exact absurd this (by decide)

set_option maxHeartbeats 2000000 in
theorem validP_calls (v : Value) (t : Tr) (w : World) (h : TrAt w v t) (hs : LooseTr t) : Calls Try.prog 47 #[.agg #[v]] w fun e w' => e = .returned (.bool (validT t)) ∧ Ext w w' := by
  have HFC := Lib.hid (fun W (hW : Ext w W) => faultP_calls v t W (h.ext hW) hs)
  obtain ⟨ta, tc, rfl, htc⟩ := h.sh
  generalize t.length = N at *
  have HE1 := Lib.hid ((Ext.rf w).al (.cells #[.slice ta N tc] 24))
  clear h hs
  obtain ⟨vt, hvt⟩ : ∃ b, validT t = b := ⟨_, rfl⟩
  rw [hvt]
  have HVT := Lib.hid hvt
  clear hvt
  go_enter Try.func47, Try.ntmps47
  go_wp2_with fail
  refine (HFC.out _ HE1.out).mono ?_
  rintro e w2 ⟨a, b, E, rfl, hE, hX⟩
  rw [HVT.out] at hE
  have HX := Lib.hid (HE1.out.trans' hX)
  have HE := Lib.hid hE
  clear hE hX
  obtain ⟨c, hc⟩ : ∃ c, (E == 0) = c := ⟨_, rfl⟩
  have HC := Lib.hid hc
  go_wp2
  go_ret
  have e : vt = c := by
    have h1 := HE.out
    have h2 := HC.out
    cases c <;> cases vt <;> simp_all
  subst e
  exact ⟨rfl, HX.out.al _⟩

end Go.Proofs.Ytfcpnggdpaeldaa

/-
  The event of a kind with a number in a valid trace: the program's find.
-/
namespace Go.Proofs.Ytfcpnggdpaeldaa
open Go.RowKit
set_option linter.unusedVariables false
open Go.Shelf
attribute [local go_sem] Oper.semAt_some

/-- What is found: nothing in a trace that is not valid. -/
noncomputable def fndO (t : Tr) (k m : Int) : Option Eid := if validT t = true then findE t k m else none
def FndOut (t : Tr) (k m : Int) (w w' : World) (e : Ending) : Prop := e = .returned (.tuple #[.agg #[.int .i64 (eidA (fndO t k m)), .int .i64 (eidB (fndO t k m))], .bool (fndO t k m).isSome]) ∧ Ext w w'
/-- Between two rounds. -/
def FndI (t : Tr) (w : World) (kd m : Int) (pre : List (EvA t w)) (W : World) : Prop :=
  (W.heap[w.heap.size + 1]? = some (.cells #[.int .i64 kd] 3) ∧ W.heap[w.heap.size + 1 + 1]? = some (.cells #[.int .i64 m] 3) ∧ W.heap[w.heap.size + 1 + 1 + 1]? = some (idO 0 0) ∧ W.heap[w.heap.size + 1 + 1 + 1 + 1]? = some (.cells #[.bool false] 4)) ∧
  firstIn (nms pre) t kd m = none ∧ Ext w W ∧ w.heap.size + 6 ≤ W.heap.size
/-- A round has left by a return. -/
def FndX (t : Tr) (w : World) (kd m : Int) (c : Code) (pre : List (EvA t w)) (W : World) : Prop :=
  c = .ret ∧ (∃ l x, nms pre = l ++ [x] ∧ firstIn (nms pre) t kd m = some x ∧ W.heap[w.heap.size + 1 + 1 + 1]? = some (idO (x.1 : Int) ((x.2 : Int) + 1)) ∧ W.heap[w.heap.size + 1 + 1 + 1 + 1]? = some (.cells #[.bool true] 4)) ∧ Ext w W
theorem fndI_own (t : Tr) (w : World) (kd m : Int) (B : Nat) (hB : w.heap.size ≤ B) : OwnFrom B (FndI t w kd m) := fun s A A' row hs hg hr => by
  obtain ⟨⟨h0, h1, h2, h3⟩, ho, hE, hz⟩ := hs
  have hr' := fun r e => (hr r e).2
  exact ⟨⟨heap_kept h0 hg hr', heap_kept h1 hg hr', heap_kept h2 hg hr', heap_kept h3 hg hr'⟩, ho, ownFrom_below (β := Unit) (Nat.le_refl _) hB () A A' row hE hg hr, Nat.le_trans hz hg.size⟩
theorem fndX_own (t : Tr) (w : World) (kd m : Int) (c : Code) (B : Nat) (hB : w.heap.size ≤ B) : OwnFrom B (FndX t w kd m c) := fun s A A' row hs hg hr => by
  obtain ⟨hc, ⟨l, x, e1, e2, h1, h2⟩, hE⟩ := hs
  have hr' := fun r e => (hr r e).2
  exact ⟨hc, ⟨l, x, e1, e2, heap_kept h1 hg hr', heap_kept h2 hg hr'⟩, ownFrom_below (β := Unit) (Nat.le_refl _) hB () A A' row hE hg hr⟩
theorem firstIn_pre {pre : List Eid} {t : Tr} {k m : Int} {x : Eid} (hp : pre <+: ids t) (h : firstIn pre t k m = some x) : findE t k m = some x := by
  obtain ⟨post, hp⟩ := hp
  unfold findE firstIn at *
  rw [← hp, List.find?_append, h]; rfl

theorem res3_ext {w W : World} (h : Ext w W) (p q e : Value) : Ext w (((W.setCell ⟨w.heap.size + 1 + 1 + 1, 0, none⟩ p).setCell ⟨w.heap.size + 1 + 1 + 1, 1, none⟩ q).setCell ⟨w.heap.size + 1 + 1 + 1 + 1, 0, none⟩ e) :=
  ((h.st (p := ⟨w.heap.size + 1 + 1 + 1, 0, none⟩) (by simp; omega) _).st (p := ⟨w.heap.size + 1 + 1 + 1, 1, none⟩) (by simp; omega) _).st (p := ⟨w.heap.size + 1 + 1 + 1 + 1, 0, none⟩) (by simp; omega) _
set_option maxHeartbeats 8000000 in
set_option maxRecDepth 100000 in
theorem findP_calls (v : Value) (t : Tr) (kd m : Int) (w : World) (h : TrAt w v t) (hs : SmallTr t) : Calls Try.prog 114 #[.agg #[v], .int .i64 kd, .int .i64 m] w fun e w' => FndOut t kd m w w' e := by
  have HT := Lib.hid h
  have HS := Lib.hid hs
  have HVC := Lib.hid (fun W (hW : Ext w W) => validP_calls v t W (h.ext hW) hs.loose)
  obtain ⟨ta, tc, rfl, htc⟩ := h.sh
  have hn1 := hs.1
  obtain ⟨vt, hvt⟩ : ∃ b, validT t = b := ⟨_, rfl⟩
  rw [hvt] at HVC
  have HVT := Lib.hid hvt
  generalize hln : t.length = N at *
  have HB := Lib.hid (fun i o => allocs_at [.cells #[.slice ta N tc] 24, .cells #[.int .i64 kd] 3, .cells #[.int .i64 m] 3, idO 0 0, .cells #[.bool false] 4] w i o)
  have hE5 : Ext w (((((w.alloc (.cells #[.slice ta N tc] 24)).alloc (.cells #[.int .i64 kd] 3)).alloc (.cells #[.int .i64 m] 3)).alloc (idO 0 0)).alloc (.cells #[.bool false] 4)) := (by repeat (first | refine Ext.st ?_ (by first | exact Nat.le_refl _ | exact Nat.le_succ _ | assumption | omega) _ | refine Ext.al ?_ _ | refine Ext.dr ?_ | refine Ext.drN ?_ _ | exact Ext.rf _))
  clear h hs hln hvt
  refine (callsIn_wide (n := 9)).1 ?_
  refine callsIn_of_wp_marks Try.func114 rfl trivial ?_ rfl
  simp only [Try.ntmps114, List.size_toArray, List.length_cons, List.length_nil, Nat.reduceAdd, Nat.reduceSub, Array.replicate_succ, Array.replicate_zero, List.push_toArray, List.append_toArray, List.nil_append, List.cons_append]
  gi_wp2_with fail
  obtain ⟨w3, hw3⟩ : ∃ z, ((((w.alloc (.cells #[.slice ta N tc] 24)).alloc (.cells #[.int .i64 kd] 3)).alloc (.cells #[.int .i64 m] 3)).alloc (idO 0 0)).alloc (.cells #[.bool false] 4) = z := ⟨_, rfl⟩
  have HB : Hid (∀ i o, _ → w3.heap[w.heap.size + i]? = some o) := Lib.hid (fun i o h => hw3 ▸ HB.out i o h)
  have hsz3 : w3.heap.size = w.heap.size + 5 := by rw [← hw3]; simp
  rw [hw3] at hE5 ⊢
  clear hw3
  have HE3 := Lib.hid hE5
  clear hE5
  refine ⟨trivial, ((callsIn_wide (n := 9 - 1)).2 (HVC.out _ HE3.out)).mono ?_⟩
  rintro e w4 ⟨rfl, hX4⟩
  have HE4 := Lib.hid (HE3.out.trans' hX4)
  have HY0 := Lib.hid (hX4.hp (HB.out 0 _ rfl))
  have HY1 := Lib.hid (hX4.hp (HB.out 1 _ rfl))
  have HY2 := Lib.hid (hX4.hp (HB.out 2 _ rfl))
  have HY3 := Lib.hid (hX4.hp (HB.out 3 _ rfl))
  have HY4 := Lib.hid (hX4.hp (HB.out 4 _ rfl))
  have hsz4 : w.heap.size + 5 ≤ w4.heap.size := by have := hX4.size; omega
  clear hX4 HB hsz3
  have t0 := cellOf HY0.out 0
  have c3 := cellOf HY3.out 0
  have c3b := cellOf HY3.out 1
  have c4 := cellOf HY4.out 0
  have f3 := freeOf HY3.out 0
  have f3b := freeOf HY3.out 1
  have f4 := freeOf HY4.out 0
  simp only [List.getElem?_toArray, List.getElem?_cons_zero, List.getElem?_cons_succ, Nat.add_zero] at t0 c3 c3b c4
  cases vt with
  | false =>
    have HF0 := Lib.hid (show fndO t kd m = none from by unfold fndO; rw [if_neg (by rw [HVT.out]; decide)])
    gi_wp2
    obtain ⟨r1, r2, ro⟩ := two_res (k := w.heap.size + 1 + 1) HY3.out HY4.out (.int .i64 0) (.int .i64 0) (.bool false)
    have hE9 := res3_ext HE4.out (.int .i64 0) (.int .i64 0) (.bool false)
    have s1 := cellOf r1 0
    have s1b := cellOf r1 1
    have s2 := cellOf r2 0
    simp only [List.getElem?_toArray, List.getElem?_cons_zero, List.getElem?_cons_succ] at s1 s1b s2
    exact ⟨.tuple #[.agg #[.int .i64 0, .int .i64 0], .bool false], by simp [results, Try.results114, go_sem, s1, s1b, s2], ⟨by rw [HF0.out]; rfl, hE9⟩⟩
  | true =>
  have HF1 := Lib.hid (show fndO t kd m = findE t kd m from by unfold fndO; rw [if_pos HVT.out])
  gi_wp2_with fail
  refine ⟨trivial, (events_in 8 _ _).mono ?_⟩
  rintro e w' ⟨rfl, rfl⟩
  gi_wp2
  clear t0 c3 c3b c4 f3 f3b f4
  have hE0 : Ext w (w4.alloc (.cells #[.slice ta N tc] 24)) := HE4.out.al _
  have hXT : Ext w4 (w4.alloc (.cells #[.slice ta N tc] 24)) := (Ext.rf w4).al _
  have hc6 : (w4.alloc (.cells #[.slice ta N tc] 24)).cell? ⟨w4.heap.size, 0, none⟩ = some (.slice ta N tc) := cell_new _ _ _ _ _ rfl
  have hsz : (w4.alloc (.cells #[.slice ta N tc] 24)).heap.size = w4.heap.size + 1 := by simp
  have hi0 : FndI t w kd m [] (w4.alloc (.cells #[.slice ta N tc] 24)) := ⟨⟨hXT.hp HY1.out, hXT.hp HY2.out, hXT.hp HY3.out, hXT.hp HY4.out⟩, rfl, hE0, by omega⟩
  obtain ⟨W0, hW0⟩ : ∃ W0, w4.alloc (.cells #[.slice ta N tc] 24) = W0 := ⟨_, rfl⟩
  rw [hW0] at hE0 hc6 hsz hi0 ⊢
  clear hW0 hXT
  refine wpIn_rangeFunc_ownH rfl (by decide) (gf := 101) (lb := #[.pointer (some ⟨w4.heap.size, 0, none⟩)]) rfl trivial enters_101
    (events_stops 8 (by decide) w4.heap.size _ t w W0 HT.out HS.out hE0 (by omega) hc6) belowK_t (belowK_b (by omega)) (Below.refl _ _) (fun _ => rfl)
    (FndI t w kd m) (FndX t w kd m) (fndI_own t w _ _ _ (by omega)) (fun c => fndX_own t w _ _ c _ (by omega)) hi0
    (fun x a' W => ∃ Bx ua uc, w.heap.size + 6 ≤ Bx ∧ x.1.2 = .slice ua (ev t x.1.1).asg.length uc ∧ W.heap[Bx]? = some (idO (x.1.1.1 : Int) ((x.1.1.2 : Int) + 1)) ∧ W.heap[Bx + 1]? = some (evO (ev t x.1.1).kind (ev t x.1.1).peer (ev t x.1.1).msg (ev t x.1.1).time (.slice ua (ev t x.1.1).asg.length uc)) ∧ a' = { tmps := #[.agg #[.slice ta N tc], .int .i64 kd, .int .i64 m, .pointer (some ⟨w.heap.size, 0, none⟩), .pointer (some ⟨w.heap.size + 1, 0, none⟩), .pointer (some ⟨w.heap.size + 1 + 1, 0, none⟩), .pointer (some ⟨w.heap.size + 1 + 1 + 1, 0, none⟩), .pointer (some ⟨w.heap.size + 1 + 1 + 1 + 1, 0, none⟩), .pointer (some ⟨Bx, 0, none⟩), .pointer (some ⟨Bx + 1, 0, none⟩), .agg #[.slice ta N tc], .bool true, .bool false, undef, .agg #[.slice ta N tc], .func (.func 101) #[] #[.pointer (some ⟨w4.heap.size, 0, none⟩)], .agg #[.int .i64 (x.1.1.1 : Int), .int .i64 ((x.1.1.2 : Int) + 1)], .agg #[.int .i64 (ev t x.1.1).kind, .int .i64 (ev t x.1.1).peer, .int .i64 (ev t x.1.1).msg, .int .i64 (ev t x.1.1).time, .slice ua (ev t x.1.1).asg.length uc], undef, undef, undef, undef, undef, undef, undef, undef, undef, undef, undef, undef], defers := [] })
    (fun x a' s A A' row hs hg hr => by obtain ⟨Bx, ua, uc, h0, hv, h1, h2, h3⟩ := hs; exact ⟨Bx, ua, uc, h0, hv, heap_kept h1 hg (fun r e => (hr r e).2), heap_kept h2 hg (fun r e => (hr r e).2), h3⟩)
    ?assign ?body ?done ?stop
  case assign =>
    rintro l pre x W K hi hK
    obtain ⟨ua, uc, hva, huc⟩ := x.2.2.sh
    have HK := Lib.hid hK
    have HI := Lib.hid hi
    have HVA := Lib.hid hva
    have hWs := hi.2.2.1.sz
    have hW7 := hi.2.2.2
    simp only [encE]
    rw [hva]
    generalize hkd : (ev t x.1.1).kind = k1
    generalize hpe : (ev t x.1.1).peer = pe
    generalize hms : (ev t x.1.1).msg = ms
    generalize hti : (ev t x.1.1).time = ti
    generalize hna : (ev t x.1.1).asg.length = na
    generalize hxp : (x.1.1.1 : Int) = xp
    generalize hxi : (x.1.1.2 : Int) = xi
    have HG := Lib.hid (And.intro hkd (And.intro hpe (And.intro hms (And.intro hti (And.intro hna (And.intro hxp hxi))))))
    clear hK hi hva hkd hpe hms hti hna hxp hxi huc hi0 hc6
    gi_wp2
    obtain ⟨rfl, rfl, rfl, rfl, rfl, rfl, rfl⟩ := HG.out
    have g0 := heap_alloc_new W (idO (x.1.1.1 : Int) ((x.1.1.2 : Int) + 1))
    have g1 := heap_new_eq (w := W.alloc (idO (x.1.1.1 : Int) ((x.1.1.2 : Int) + 1))) (o := evO (ev t x.1.1).kind (ev t x.1.1).peer (ev t x.1.1).msg (ev t x.1.1).time (.slice ua (ev t x.1.1).asg.length uc)) (b := W.heap.size + 1) (by simp)
    refine HK.out _ _ (((KeepsOthers.alloc _ _).trans (KeepsOthers.alloc _ _)).from _) (((Below.refl w.heap.size W).alloc hWs _).alloc (by simp; omega) _) ((fndI_own t w _ _ w.heap.size (Nat.le_refl _)).alloc _ ((fndI_own t w _ _ w.heap.size (Nat.le_refl _)).alloc _ HI.out)) ⟨W.heap.size, ua, uc, hW7, HVA.out, ((Ext.rf _).al _).hp g0, g1, rfl⟩
  case body =>
    rintro l pre x a' W hl ⟨r, hr⟩ hI ⟨Bx, ua, uc, hB7, hva, hb0, hb1, rfl⟩ hlt
    obtain ⟨⟨i1, i2, i3, i4⟩, hok, hE, hz⟩ := hI
    have HOK := Lib.hid hok
    have HEW := Lib.hid hE
    have h1 := Lib.hid i1
    have h2 := Lib.hid i2
    have h3 := Lib.hid i3
    have h4 := Lib.hid i4
    have hx := Lib.hid hb0
    have hy := Lib.hid hb1
    have HSNC := Lib.hid (firstIn_snoc (nms pre) t kd m x.1.1)
    clear hr hlt hva hok hE i1 i2 i3 i4 hb0 hb1 hi0 hc6
    have k1 := cellOf h1.out 0
    have k2 := cellOf h2.out 0
    have c3 := cellOf h3.out 0
    have c3b := cellOf h3.out 1
    have c4 := cellOf h4.out 0
    have f3 := freeOf h3.out 0
    have f3b := freeOf h3.out 1
    have f4 := freeOf h4.out 0
    have x0 := cellOf hx.out 0
    have x1 := cellOf hx.out 1
    have y0 := cellOf hy.out 0
    have y2 := cellOf hy.out 2
    simp only [List.getElem?_toArray, List.getElem?_cons_zero, List.getElem?_cons_succ] at k1 k2 c3 c3b c4 x0 x1 y0 y2
    generalize hxx : x.1.1 = xx at *
    have HXX := Lib.hid hxx
    generalize ev t xx = y at *
    generalize y.asg.length = na at *
    obtain ⟨xp, xi⟩ := xx
    simp only at *
    clear hxx
    obtain ⟨b1, hb1⟩ : ∃ b, (y.kind == kd) = b := ⟨_, rfl⟩
    obtain ⟨b2, hb2⟩ : ∃ b, (y.msg == m) = b := ⟨_, rfl⟩
    have HFI : Hid (firstIn (nms pre ++ [(xp, xi)]) t kd m = if (b1 && b2) = true then some (xp, xi) else none) := Lib.hid (by
      rw [HSNC.out, HOK.out, ← hb1, ← hb2]; simp)
    clear HSNC
    cases b1 with
    | true =>
      cases b2 with
      | true =>
        gi_wp2
        obtain ⟨r1, r2, ro⟩ := two_res (k := w.heap.size + 1 + 1) h3.out h4.out (.int .i64 (xp : Int)) (.int .i64 ((xi : Int) + 1)) (.bool true)
        exact ⟨(((KeepsOthers.setCell _ _ _).trans ((KeepsOthers.setCell _ _ _).trans (KeepsOthers.setCell _ _ _))).from _), rfl, ⟨nms pre, (xp, xi), by rw [nms_snoc, HXX.out], by rw [nms_snoc, HXX.out, HFI.out]; rfl, r1, r2⟩, res3_ext HEW.out _ _ _⟩
      | false =>
        gi_wp2
        exact ⟨KeepsFrom.refl _ _, Below.refl _ _, ⟨h1.out, h2.out, h3.out, h4.out⟩, by rw [nms_snoc, HXX.out, HFI.out]; rfl, HEW.out, hz⟩
    | false =>
      gi_wp2
      exact ⟨KeepsFrom.refl _ _, Below.refl _ _, ⟨h1.out, h2.out, h3.out, h4.out⟩, by rw [nms_snoc, HXX.out, HFI.out]; rfl, HEW.out, hz⟩
  case done =>
    rintro D ys W hD hys hI hK
    obtain ⟨⟨i1, i2, i3, i4⟩, hok, hE, hz⟩ := hI
    have h3 := Lib.hid i3
    have h4 := Lib.hid i4
    have HOK := Lib.hid (show findE t kd m = none from by unfold findE; rw [← hys]; exact hok)
    have HEW := Lib.hid hE
    have HKD := Lib.hid hK
    have c3 := cellOf i3 0
    have c3b := cellOf i3 1
    have c4 := cellOf i4 0
    have f3 := freeOf i3 0
    have f3b := freeOf i3 1
    have f4 := freeOf i4 0
    simp only [List.getElem?_toArray, List.getElem?_cons_zero, List.getElem?_cons_succ] at c3 c3b c4
    clear hi0 hc6 hys hok hE hK i1 i2 i3 i4
    gi_wp2
    obtain ⟨r1, r2, ro⟩ := two_res (k := w.heap.size + 1 + 1) h3.out h4.out (.int .i64 0) (.int .i64 0) (.bool false)
    have hE9 := res3_ext HEW.out (.int .i64 0) (.int .i64 0) (.bool false)
    have hK4 := (ro D (by omega) (by omega)).trans HKD.out
    refine ⟨by simp, .inl ⟨_, _, rfl, run_takeDeferred hK4, ?_⟩⟩
    obtain ⟨s1, s1b, s2, hE5⟩ := ret_marks (k := w.heap.size + 1 + 1) r1 r2 hK4 hE9 (by omega)
    exact ⟨.tuple #[.agg #[.int .i64 0, .int .i64 0], .bool false], by simp [results, Try.results114, go_sem, s1, s1b, s2], ⟨by rw [HF1.out, HOK.out]; rfl, hE5⟩⟩
  case stop =>
    rintro D c pre W hD hpre ⟨rfl, ⟨l0, x0, e1, e2, i3, i4⟩, hE⟩ hK
    have h3 := Lib.hid i3
    have h4 := Lib.hid i4
    have HFX := Lib.hid (firstIn_pre hpre e2)
    have HEW := Lib.hid hE
    have HKD := Lib.hid hK
    clear hi0 hc6 hpre e1 e2 hE hK i3 i4
    gi_wp2
    refine ⟨by simp, .inl ⟨_, _, rfl, run_takeDeferred HKD.out, ?_⟩⟩
    obtain ⟨s1, s1b, s2, hE5⟩ := ret_marks (k := w.heap.size + 1 + 1) h3.out h4.out HKD.out HEW.out (by omega)
    exact ⟨.tuple #[.agg #[.int .i64 (x0.1 : Int), .int .i64 ((x0.2 : Int) + 1)], .bool true], by simp [results, Try.results114, go_sem, s1, s1b, s2], ⟨by rw [HF1.out, HFX.out]; rfl, hE5⟩⟩

end Go.Proofs.Ytfcpnggdpaeldaa

/-
  Who sends a number: the program's Sender.
-/
namespace Go.Proofs.Ytfcpnggdpaeldaa
open Go.RowKit
set_option linter.unusedVariables false

set_option maxHeartbeats 2000000 in
theorem senderP_calls (v : Value) (t : Tr) (m : Int) (w : World) (h : TrAt w v t) (hs : SmallTr t) : Calls Try.prog 113 #[.agg #[v], .int .i64 m] w fun e w' => FndOut t 2 m w w' e := by
  have HFC := Lib.hid (fun W (hW : Ext w W) => findP_calls v t 2 m W (h.ext hW) hs)
  obtain ⟨ta, tc, rfl, htc⟩ := h.sh
  generalize t.length = N at *
  have HX1 := Lib.hid (heap_new_eq (w := w.alloc (.cells #[.slice ta N tc] 24)) (o := idO 0 0) (b := w.heap.size + 1) (by simp))
  have HE2 : Hid (Ext w ((w.alloc (.cells #[.slice ta N tc] 24)).alloc (idO 0 0))) := Lib.hid (((Ext.rf w).al _).al _)
  clear h hs
  go_enter Try.func113, Try.ntmps113
  go_wp2_with fail
  generalize hw2 : (w.alloc (.cells #[.slice ta N tc] 24)).alloc (idO 0 0) = w2 at *
  clear hw2
  refine (HFC.out _ HE2.out).mono ?_
  rintro e w3 ⟨rfl, hX⟩
  have HZ1 := Lib.hid (hX.hp HX1.out)
  have HE3 := Lib.hid (HE2.out.trans' hX)
  clear hX
  generalize hA : eidA (fndO t 2 m) = za at *
  generalize hB : eidB (fndO t 2 m) = zb at *
  generalize hC : (fndO t 2 m).isSome = zc at *
  have HABC := Lib.hid (And.intro hA (And.intro hB hC))
  clear hA hB hC
  have q0 := cellOf HZ1.out 0
  have q1 := cellOf HZ1.out 1
  have g0 := freeOf HZ1.out 0
  have g1 := freeOf HZ1.out 1
  simp only [List.getElem?_toArray, List.getElem?_cons_zero, List.getElem?_cons_succ] at q0 q1
  go_wp2
  clear q0 q1 g0 g1
  have r0 := cellOf (id_set HZ1.out (.int .i64 za) (.int .i64 zb)) 0
  have r1 := cellOf (id_set HZ1.out (.int .i64 za) (.int .i64 zb)) 1
  simp only [List.getElem?_toArray, List.getElem?_cons_zero, List.getElem?_cons_succ] at r0 r1
  refine bodyPost_ret (v := .tuple #[.agg #[.int .i64 za, .int .i64 zb], .bool zc]) (by simp [results, Try.results113, go_sem, r0, r1]) rfl ?_
  exact ⟨by rw [HABC.out.1, HABC.out.2.1, HABC.out.2.2], id_ext HE3.out (by omega) _ _⟩

end Go.Proofs.Ytfcpnggdpaeldaa

/-
  slices.ContainsFunc and IndexFunc over lists of lists of numbers.
-/
namespace Go.Proofs.Ytfcpnggdpaeldaa
open Go.RowKit
set_option linter.unusedVariables false

set_option maxHeartbeats 400000 in
theorem indexFunc_rows {α : Type} [Inhabited α] (R : World → List Value → α → Prop) (hLasts : Lasts R) (g : Nat) (cb : Array Value) (eg : ∀ args w, (callFunc g args).run Try.prog w = .ok (.enter g args) w) (p : α → Bool) (v : Value) (l : List α) (w : World)
    (hv : Sl R 1 w v l) (hn : l.length ≤ 1000000) (hp : SaysOf Try.prog R encOne g cb p l w) :
    Calls Try.prog 49 #[v, .func (.func g) #[] cb] w fun e w' => e = .returned (.int .i64 (firstAt p l)) ∧ Ext w w' := by
  obtain ⟨a, c, rfl, hlc, hv⟩ := hv
  have HLC := Lib.hid hlc; clear hlc
  have HV := Lib.hid hv; clear hv
  have HP := Lib.hid hp; clear hp
  have HT := Lib.hid hLasts; clear hLasts
  generalize hln : l.length = n at hn
  have HL := Lib.hid hln; clear hln
  go_enter Try.func49, Try.ntmps49
  go_wp2
  go_loopg [5, 8] n (fun m _ s8 wr => ∃ k : Nat, k ≤ n ∧ n - k ≤ m ∧ s8 = .int .i64 k ∧ Ext w wr ∧ Aside (∀ j, j < k → p l[j]! = false))
  case atStart => exact ⟨0, Nat.zero_le _, by omega, rfl, Below.refl _ _, (fun j hj => absurd hj (Nat.not_lt_zero _))⟩
  case round =>
    obtain ⟨k, hk, hm, rfl, he, A⟩ := hrel
    have HE := Lib.hid he; clear he
    by_cases hlt : k < n
    · obtain ⟨b, off, rfl, hb, hc⟩ := HV.out (by intro e; have := HL.out; simp [e] at this; omega)
      obtain ⟨vs, hvs, hR, hcell⟩ := hc k (by rw [HL.out]; exact hlt)
      obtain ⟨c0, rfl⟩ : ∃ c0, vs = [c0] := by match vs, hvs with | [c0], _ => exact ⟨c0, rfl⟩
      have d0 : wr.cell? ⟨b, off + k * 1, none⟩ = some c0 := (HE.out.cell hb).trans (hcell 0 (by omega))
      rw [Nat.mul_one] at d0
      have hltz : (k : Int) < (n : Int) := by omega
      clear hc hcell
      have hcall := HP.out _ (mem_at l k (by rw [HL.out]; exact hlt)) wr _ HE.out (HT.out _ _ _ _ hR HE.out)
      unfold encOne at hcall
      generalize hy : l[k]! = y at hcall hR
      have B := Lib.hid hy
      clear hy hR hvs HV HT HP
      cases hq : p y with
      | true =>
        rw [hq] at hcall
        have HQ := Lib.hid hq; clear hq
        go_wp2_with (go_at_fn g; refine hcall.mono ?_; rintro e w' ⟨rfl, he'⟩)
        go_ret
        exact ⟨by rw [firstAt_hit p l k (by rw [HL.out]; omega) (by rw [B.out]; exact HQ.out) A.out]; rfl, HE.out.trans' he'⟩
      | false =>
        rw [hq] at hcall
        have HQ := Lib.hid hq; clear hq
        go_wp2_with (go_at_fn g; refine hcall.mono ?_; rintro e w' ⟨rfl, he'⟩)
        go_roundg (n - (k + 1))
        case measure => omega
        case rel =>
          refine ⟨k + 1, by omega, by omega, by go_num, HE.out.trans' he', (show Aside _ from fun j hj => ?_)⟩
          by_cases e : j = k
          · subst e
            rw [B.out]; exact HQ.out
          · exact A.out j (by omega)
    · have hltz : ¬ (k : Int) < (n : Int) := by omega
      go_wp2
      go_ret
      exact ⟨by rw [firstAt_miss p l (fun j hj => A.out j (by rw [HL.out] at hj; omega))]; rfl, HE.out⟩

theorem enters_49 : ∀ args w, (callFunc 49 args).run Try.prog w = .ok (.enter 49 args) w := enters_of Try.func49 (by kernel_rfl) rfl

set_option maxHeartbeats 400000 in
theorem containsFunc_rows {α : Type} [Inhabited α] (R : World → List Value → α → Prop) (hLasts : Lasts R) (g : Nat) (cb : Array Value) (eg : ∀ args w, (callFunc g args).run Try.prog w = .ok (.enter g args) w) (p : α → Bool) (v : Value) (l : List α) (w : World)
    (hv : Sl R 1 w v l) (hn : l.length ≤ 1000000) (hp : SaysOf Try.prog R encOne g cb p l w) :
    Calls Try.prog 23 #[v, .func (.func g) #[] cb] w fun e w' => e = .returned (.bool (l.any p)) ∧ Ext w w' := by
  have HI := Lib.hid (indexFunc_rows R hLasts g cb eg p v l w hv hn hp)
  clear hv hp eg hLasts
  rw [← firstAt_any]
  go_enter Try.func23, Try.ntmps23
  go_wp2_with (go_at_call 49; refine HI.out.mono ?_; rintro e w' ⟨rfl, he'⟩)
  go_ret
  exact ⟨rfl, he'⟩

end Go.Proofs.Ytfcpnggdpaeldaa
