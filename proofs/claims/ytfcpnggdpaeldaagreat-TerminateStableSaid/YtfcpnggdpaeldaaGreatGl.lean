import Derived.Test.YtfcpnggdpaeldaaGreatJa
import Derived.Test.YtfcpnggdpaeldaaGreatProg
import Derived.Test.YtfcpnggdpaeldaaGreatGi
import Derived.Test.YtfcpnggdpaeldaaGreatGk
import Derived.Test.YtfcpnggdpaeldaaGreatGg
import Derived.Test.YtfcpnggdpaeldaaGreatGh
import Derived.BigQuiet
import Derived.Deep.QuietTactic
import Derived.Deep.LoopGhost
import Derived.Shelf.Abstract
import Derived.RangeFuncNested
import Derived.RangeFuncBound
import Derived.RangeFuncCalls
import Derived.RangeFuncLeaves
import Derived.Shelf.RegionOpen
import Derived.OwnWalkIn
import Derived.TacticsInMore
import Derived.LoopNIn
import Derived.LoopIn
import Derived.Sort.LoopGhostIn
import Derived.Sort.CutIn
import Derived.Deep.RegionLaw
import Derived.Laws.EntriesVeiled
/-
  The messages of a trace in pairs: the program's messageFault.
-/
namespace Go.Proofs.YtfcpnggdpaeldaaGreat
open Go.RowKit
set_option linter.unusedVariables false
open Go.Shelf
attribute [local go_sem] Oper.semAt_some

/-- Between two rounds. -/
def MsgI (t : Tr) (w : World) (v : Value) (pre : List (EvA t w)) (W : World) : Prop :=
  (W.heap[w.heap.size]? = some (.cells #[v] 24) ∧ W.heap[w.heap.size + 1]? = some (.cells #[.pointer none] 139) ∧ W.heap[w.heap.size + 1 + 1]? = some (idO 0 0) ∧
    W.heap[w.heap.size + 1 + 1 + 1]? = some (.cells #[.int .i64 0] 30) ∧ W.heap[w.heap.size + 1 + 1 + 1 + 1 + 1]? = some (.cells #[.pointer (some ⟨w.heap.size + 1 + 1 + 1 + 1, 0, none⟩)] 139)) ∧
  Lett W (w.heap.size + 1 + 1 + 1 + 1) t (nms pre) ∧ okPre t (nms pre) ∧ Ext w W ∧ w.heap.size + 7 ≤ W.heap.size
/-- A round has left by a return. -/
def MsgX (t : Tr) (w : World) (c : Code) (pre : List (EvA t w)) (W : World) : Prop :=
  c = .ret ∧ (∃ l x, nms pre = l ++ [x] ∧ pairStep t l x = false) ∧ (∃ a b E : Int, E ≠ 0 ∧ W.heap[w.heap.size + 1]? = some (.cells #[.pointer none] 139) ∧ W.heap[w.heap.size + 1 + 1]? = some (idO a b) ∧
    W.heap[w.heap.size + 1 + 1 + 1]? = some (.cells #[.int .i64 E] 30)) ∧ Ext w W
theorem msgI_own (t : Tr) (w : World) (v : Value) (B : Nat) (hB : w.heap.size ≤ B) : OwnFrom B (MsgI t w v) := fun s A A' row hs hg hr => by
  obtain ⟨⟨h0, h1, h2, h3, h5⟩, hL, ho, hE, hz⟩ := hs
  have hr' := fun r e => (hr r e).2
  exact ⟨⟨heap_kept h0 hg hr', heap_kept h1 hg hr', heap_kept h2 hg hr', heap_kept h3 hg hr', heap_kept h5 hg hr'⟩, hL.kept hg hr', ho, ownFrom_below (β := Unit) (Nat.le_refl _) hB () A A' row hE hg hr, Nat.le_trans hz hg.size⟩
theorem msgX_own (t : Tr) (w : World) (c : Code) (B : Nat) (hB : w.heap.size ≤ B) : OwnFrom B (MsgX t w c) := fun s A A' row hs hg hr => by
  obtain ⟨hc, hx, ⟨a, b, E, hE0, h1, h2, h3⟩, hE⟩ := hs
  have hr' := fun r e => (hr r e).2
  exact ⟨hc, hx, ⟨a, b, E, hE0, heap_kept h1 hg hr', heap_kept h2 hg hr', heap_kept h3 hg hr'⟩, ownFrom_below (β := Unit) (Nat.le_refl _) hB () A A' row hE hg hr⟩
theorem MsgI.al {t : Tr} {w : World} {v : Value} {pre : List (EvA t w)} {W : World} (h : MsgI t w v pre W) (o : Obj) : MsgI t w v pre (W.alloc o) := (msgI_own t w v w.heap.size (Nat.le_refl _)).alloc o h

theorem ext_keeps {B : Nat} {W W' : World} (h : Ext W W') : KeepsFrom B W W' := ⟨h.size, fun k o hk hko ho => h.hp hko⟩
theorem pairStep_send {t : Tr} {pre : List Eid} {x : Eid} {m : Int} (hk : (ev t x).kind = 2) (hm : (ev t x).msg = m) : pairStep t pre x = (firstIn pre t 2 m).isNone := by
  unfold pairStep; rw [hk, hm]; simp
theorem pairStep_recv {t : Tr} {pre : List Eid} {x : Eid} {m : Int} {q : Nat} (hk : (ev t x).kind = 3) (hm : (ev t x).msg = m) (hq : (ev t x).peer = q) : pairStep t pre x = ((firstIn pre t 3 m).isNone && sendsB t q m x.1) := by
  unfold pairStep; rw [hk, hm, hq]; simp
theorem pairStep_loc {t : Tr} {pre : List Eid} {x : Eid} (hk : (ev t x).kind = 1) : pairStep t pre x = true := by
  unfold pairStep; rw [hk]; simp
theorem three_set {W : World} {k : Nat} {a b c d : Value} {T1 T3 : TypeId} (h1 : W.heap[k + 1]? = some (.cells #[a] T1)) (h2 : W.heap[k + 1 + 1]? = some (.cells #[b, c] 72)) (h3 : W.heap[k + 1 + 1 + 1]? = some (.cells #[d] T3)) (u p q e : Value) :
    ((((W.setCell ⟨k + 1, 0, none⟩ u).setCell ⟨k + 1 + 1, 0, none⟩ p).setCell ⟨k + 1 + 1, 1, none⟩ q).setCell ⟨k + 1 + 1 + 1, 0, none⟩ e).heap[k + 1]? = some (.cells #[u] T1) ∧
    ((((W.setCell ⟨k + 1, 0, none⟩ u).setCell ⟨k + 1 + 1, 0, none⟩ p).setCell ⟨k + 1 + 1, 1, none⟩ q).setCell ⟨k + 1 + 1 + 1, 0, none⟩ e).heap[k + 1 + 1]? = some (.cells #[p, q] 72) ∧
    ((((W.setCell ⟨k + 1, 0, none⟩ u).setCell ⟨k + 1 + 1, 0, none⟩ p).setCell ⟨k + 1 + 1, 1, none⟩ q).setCell ⟨k + 1 + 1 + 1, 0, none⟩ e).heap[k + 1 + 1 + 1]? = some (.cells #[e] T3) ∧
    ∀ j, j ≠ k + 1 → j ≠ k + 1 + 1 → j ≠ k + 1 + 1 + 1 → ((((W.setCell ⟨k + 1, 0, none⟩ u).setCell ⟨k + 1 + 1, 0, none⟩ p).setCell ⟨k + 1 + 1, 1, none⟩ q).setCell ⟨k + 1 + 1 + 1, 0, none⟩ e).heap[j]? = W.heap[j]? := by
  have a1 : (W.setCell ⟨k + 1, 0, none⟩ u).heap[k + 1]? = some (.cells #[u] T1) := by rw [heap_setCell_same h1]; simp
  have o : ∀ (V : World) (j i : Nat) (z : Value) (n : Nat), n ≠ j → (V.setCell ⟨j, i, none⟩ z).heap[n]? = V.heap[n]? := fun V j i z n hn => Below.heap_setCell V ⟨j, i, none⟩ z n hn
  have a2 : (W.setCell ⟨k + 1, 0, none⟩ u).heap[k + 1 + 1]? = some (.cells #[b, c] 72) := by rw [o _ _ _ _ _ (by omega)]; exact h2
  have a3 : (W.setCell ⟨k + 1, 0, none⟩ u).heap[k + 1 + 1 + 1]? = some (.cells #[d] T3) := by rw [o _ _ _ _ _ (by omega)]; exact h3
  have b2 := id_set a2 p q
  refine ⟨?_, ?_, ?_, fun j j1 j2 j3 => by rw [o _ _ _ _ _ j3, o _ _ _ _ _ j2, o _ _ _ _ _ j2, o _ _ _ _ _ j1]⟩
  · rw [o _ _ _ _ _ (by omega), o _ _ _ _ _ (by omega), o _ _ _ _ _ (by omega)]; exact a1
  · rw [o _ _ _ _ _ (by omega)]; exact b2
  · rw [heap_setCell_same (by rw [o _ _ _ _ _ (by omega), o _ _ _ _ _ (by omega)]; exact a3)]; simp

theorem formedB_cases {n p : Nat} {kd pe ms ti : Int} {al : List Asg} (h : formedB n p ⟨kd, pe, ms, ti, al⟩ = true) : (kd = 1 ∧ pe = 0 ∧ ms = 0) ∨ (kd = 2 ∧ 0 ≤ pe ∧ pe < n ∧ ∃ m : Nat, ms = m ∧ m ≤ 199) ∨ (kd = 3 ∧ 0 ≤ pe ∧ pe < n ∧ ∃ m : Nat, ms = m ∧ m ≤ 199) := by
  unfold formedB at h
  by_cases h1 : kd = 1
  · simp [h1] at h; exact .inl ⟨h1, h⟩
  · simp [h1] at h
    obtain ⟨h2, h3, h4, h5, h6, h7⟩ := h
    have hm : ∃ m : Nat, ms = m ∧ m ≤ 199 := ⟨ms.toNat, by omega, by omega⟩
    rcases h2 with h2 | h2
    · exact .inr (.inl ⟨h2, h3, h4, hm⟩)
    · exact .inr (.inr ⟨h2, h3, h4, hm⟩)
theorem two_set {W : World} {b i j : Nat} {cs : Array Value} {T : TypeId} (h : W.heap[b]? = some (.cells cs T)) (u v : Value) :
    ((W.setCell ⟨b, i, none⟩ u).setCell ⟨b, j, none⟩ v).heap[b]? = some (.cells ((cs.setIfInBounds i u).setIfInBounds j v) T) ∧ ∀ k, k ≠ b → ((W.setCell ⟨b, i, none⟩ u).setCell ⟨b, j, none⟩ v).heap[k]? = W.heap[k]? := by
  refine ⟨heap_setCell_same (heap_setCell_same h), fun k hk => ?_⟩
  rw [Below.heap_setCell _ ⟨b, j, none⟩ v k hk, Below.heap_setCell _ ⟨b, i, none⟩ u k hk]
set_option maxHeartbeats 8000000 in
set_option maxRecDepth 100000 in
theorem messageP_calls (v : Value) (t : Tr) (w : World) (h : TrAt w v t) (hs : SmallTr t) (hf : ∀ x, Inn t x → formedB t.length x.1 (ev t x) = true) :
    Calls Tryz.prog 105 #[.agg #[v]] w fun e w' => MsgOut t w w' e := by
  have HT := Lib.hid h
  have HS := Lib.hid hs
  have HF := Lib.hid hf
  obtain ⟨ta, tc, rfl, htc⟩ := h.sh
  have hn1 := hs.1
  generalize hln : t.length = N at *
  have HL := Lib.hid hln
  clear h hs hf hln
  have hmix : Tryz.prog.follows Departure.mixedOrders = true := by kernel_rfl
  refine (callsIn_wide (n := 9)).1 ?_
  refine callsIn_of_wp_marks Tryz.func105 rfl trivial ?_ rfl
  simp only [Tryz.ntmps105, List.size_toArray, List.length_cons, List.length_nil, Nat.reduceAdd, Nat.reduceSub, Array.replicate_succ, Array.replicate_zero, List.push_toArray, List.append_toArray, List.nil_append, List.cons_append]
  gi_wp2_with fail
  refine ⟨trivial, (events_in 8 _ _).mono ?_⟩
  rintro e w' ⟨rfl, rfl⟩
  gi_wp2
  obtain ⟨W0, hW0⟩ : ∃ W0, ((((((w.alloc (.cells #[.slice ta N tc] 24)).alloc (.cells #[.pointer none] 139)).alloc (idO 0 0)).alloc (.cells #[.int .i64 0] 30)).alloc (.cells Tryz.zeroCells154 154)).alloc (.cells #[.pointer (some ⟨w.heap.size + 1 + 1 + 1 + 1, 0, none⟩)] 139)).alloc (.cells #[.slice ta N tc] 24) = W0 := ⟨_, rfl⟩
  have HB := Lib.hid (fun i o => allocs_at [.cells #[.slice ta N tc] 24, .cells #[.pointer none] 139, idO 0 0, .cells #[.int .i64 0] 30, .cells Tryz.zeroCells154 154, .cells #[.pointer (some ⟨w.heap.size + 1 + 1 + 1 + 1, 0, none⟩)] 139, .cells #[.slice ta N tc] 24] w i o)
  have HB : Hid (∀ i o, _ → W0.heap[w.heap.size + i]? = some o) := Lib.hid (fun i o h => hW0 ▸ HB.out i o h)
  have hsz : W0.heap.size = w.heap.size + 7 := by rw [← hW0]; simp
  have hE0 : Ext w W0 := by rw [← hW0]; exact (by repeat (first | refine Ext.st ?_ (by first | exact Nat.le_refl _ | exact Nat.le_succ _ | assumption | omega) _ | refine Ext.al ?_ _ | refine Ext.dr ?_ | refine Ext.drN ?_ _ | exact Ext.rf _))
  rw [hW0]
  clear hW0
  have HE0 := Lib.hid hE0
  have hi0 : MsgI t w (.slice ta N tc) [] W0 := ⟨⟨HB.out 0 _ rfl, HB.out 1 _ rfl, HB.out 2 _ rfl, HB.out 3 _ rfl, HB.out 5 _ rfl⟩, ⟨_, HB.out 4 _ rfl, LettA.start t⟩, okPre_nil t, hE0, by omega⟩
  have hc6 : W0.cell? ⟨w.heap.size + 1 + 1 + 1 + 1 + 1 + 1, 0, none⟩ = some (.slice ta N tc) := by have := cellOf (HB.out 6 _ rfl) 0; simpa using this
  refine wpIn_rangeFunc_ownH rfl (by decide) (gf := 114) (lb := #[.pointer (some ⟨w.heap.size + 1 + 1 + 1 + 1 + 1 + 1, 0, none⟩)]) rfl trivial enters_114
    (events_stops 8 (by decide) (w.heap.size + 1 + 1 + 1 + 1 + 1 + 1) _ t w W0 HT.out HS.out hE0 (by omega) hc6) belowK_t (belowK_b (by omega)) (Below.refl _ _) (fun _ => rfl)
    (MsgI t w (.slice ta N tc)) (MsgX t w) (msgI_own t w _ _ (by omega)) (fun c => msgX_own t w c _ (by omega)) hi0
    (fun x a' W => ∃ Bx ua uc, w.heap.size + 7 ≤ Bx ∧ x.1.2 = .slice ua (ev t x.1.1).asg.length uc ∧ W.heap[Bx]? = some (idO (x.1.1.1 : Int) ((x.1.1.2 : Int) + 1)) ∧ W.heap[Bx + 1]? = some (evO (ev t x.1.1).kind (ev t x.1.1).peer (ev t x.1.1).msg (ev t x.1.1).time (.slice ua (ev t x.1.1).asg.length uc)) ∧ a' = { tmps := #[.agg #[.slice ta N tc], .pointer (some ⟨w.heap.size, 0, none⟩), .pointer (some ⟨w.heap.size + 1, 0, none⟩), .pointer (some ⟨w.heap.size + 1 + 1, 0, none⟩), .pointer (some ⟨w.heap.size + 1 + 1 + 1, 0, none⟩), .pointer (some ⟨w.heap.size + 1 + 1 + 1 + 1 + 1, 0, none⟩), .pointer (some ⟨Bx, 0, none⟩), .pointer (some ⟨Bx + 1, 0, none⟩), undef, .agg Tryz.zeroCells154, .pointer (some ⟨w.heap.size + 1 + 1 + 1 + 1, 0, none⟩), .agg #[.slice ta N tc], .func (.func 114) #[] #[.pointer (some ⟨w.heap.size + 1 + 1 + 1 + 1 + 1 + 1, 0, none⟩)], .agg #[.int .i64 (x.1.1.1 : Int), .int .i64 ((x.1.1.2 : Int) + 1)], .agg #[.int .i64 (ev t x.1.1).kind, .int .i64 (ev t x.1.1).peer, .int .i64 (ev t x.1.1).msg, .int .i64 (ev t x.1.1).time, .slice ua (ev t x.1.1).asg.length uc], undef, undef, undef, undef, undef, undef, undef, undef, undef, undef, undef, undef, undef, undef, undef, undef, undef, undef, undef, undef, undef, undef, undef, undef, undef, undef, undef, undef, undef, undef, undef, undef, undef, undef, undef, undef, undef, undef, undef, undef, undef, undef, undef, undef, undef, undef, undef, undef, undef], defers := [] })
    (fun x a' s A A' row hs hg hr => by obtain ⟨Bx, ua, uc, h0, hv, h1, h2, h3⟩ := hs; exact ⟨Bx, ua, uc, h0, hv, heap_kept h1 hg (fun r e => (hr r e).2), heap_kept h2 hg (fun r e => (hr r e).2), h3⟩)
    ?assign ?body ?done ?stop
  case assign =>
    rintro l pre x W K hi hK
    obtain ⟨ua, uc, hva, huc⟩ := x.2.2.sh
    have HK := Lib.hid hK
    have HI := Lib.hid hi
    have HVA := Lib.hid hva
    have hWs := hi.2.2.2.1.sz
    have hW7 := hi.2.2.2.2
    simp only [encE]
    rw [hva]
    generalize hkd : (ev t x.1.1).kind = kd
    generalize hpe : (ev t x.1.1).peer = pe
    generalize hms : (ev t x.1.1).msg = ms
    generalize hti : (ev t x.1.1).time = ti
    generalize hna : (ev t x.1.1).asg.length = na
    generalize hxp : (x.1.1.1 : Int) = xp
    generalize hxi : (x.1.1.2 : Int) = xi
    have HG := Lib.hid (And.intro hkd (And.intro hpe (And.intro hms (And.intro hti (And.intro hna (And.intro hxp hxi))))))
    clear hK hi hva hkd hpe hms hti hna hxp hxi huc
    gi_wp2
    obtain ⟨rfl, rfl, rfl, rfl, rfl, rfl, rfl⟩ := HG.out
    have g0 := heap_alloc_new W (idO (x.1.1.1 : Int) ((x.1.1.2 : Int) + 1))
    have g1 := heap_new_eq (w := W.alloc (idO (x.1.1.1 : Int) ((x.1.1.2 : Int) + 1))) (o := evO (ev t x.1.1).kind (ev t x.1.1).peer (ev t x.1.1).msg (ev t x.1.1).time (.slice ua (ev t x.1.1).asg.length uc)) (b := W.heap.size + 1) (by simp)
    refine HK.out _ _ (((KeepsOthers.alloc _ _).trans (KeepsOthers.alloc _ _)).from _) (((Below.refl w.heap.size W).alloc hWs _).alloc (by simp; omega) _) ((HI.out.al _).al _) ⟨W.heap.size, ua, uc, hW7, HVA.out, ((Ext.rf _).al _).hp g0, g1, rfl⟩
  case body =>
    rintro l pre x a' W hl ⟨r, hr⟩ hI ⟨Bx, ua, uc, hB7, hva, hb0, hb1, rfl⟩ hlt
    obtain ⟨⟨i0, i1, i2, i3, i5⟩, ⟨cs, hcs, hL⟩, hok, hE, hz⟩ := hI
    have HVA := Lib.hid hva
    have HIN := Lib.hid x.2.1
    have HFM := Lib.hid (HF.out x.1.1 x.2.1)
    have HPRE := Lib.hid hok
    have HLA := Lib.hid hL
    have HEW := Lib.hid hE
    have h0 := Lib.hid i0
    have h1 := Lib.hid i1
    have h2 := Lib.hid i2
    have h3 := Lib.hid i3
    have h5 := Lib.hid i5
    have hc := Lib.hid hcs
    have hx := Lib.hid hb0
    have hy := Lib.hid hb1
    clear hr hlt hva hok hL hE i0 i1 i2 i3 i5 hcs hb0 hb1 hi0 hc6 HB
    generalize hxx : x.1.1 = xx at *
    obtain ⟨xp, xi⟩ := xx
    simp only at *
    have HXX := Lib.hid hxx
    generalize hyy : ev t (xp, xi) = y at *
    obtain ⟨kd, pe, ms, ti, al⟩ := y
    simp only at *
    have HY := Lib.hid hyy
    generalize al.length = na at *
    have hfo := formedB_cases HFM.out
    clear hxx hyy
    rcases hfo with ⟨rfl, _, _⟩ | ⟨rfl, hp0, hp1, m, rfl, hm9⟩ | ⟨rfl, hp0, hp1, m, rfl, hm9⟩
    ·
      have c1 := cellOf h1.out 0
      have c2 := cellOf h2.out 0
      have c2b := cellOf h2.out 1
      have c3 := cellOf h3.out 0
      have c5 := cellOf h5.out 0
      have f1 := freeOf h1.out 0
      have f2 := freeOf h2.out 0
      have f2b := freeOf h2.out 1
      have f3 := freeOf h3.out 0
      have x0 := cellOf hx.out 0
      have x1 := cellOf hx.out 1
      have y0 := cellOf hy.out 0
      have y1 := cellOf hy.out 1
      have y2 := cellOf hy.out 2
      have t0 := cellOf h0.out 0
      simp only [List.getElem?_toArray, List.getElem?_cons_zero, List.getElem?_cons_succ] at c1 c2 c2b c3 c5 x0 x1 y0 y1 y2 t0
      gi_wp2
      exact ⟨KeepsFrom.refl _ _, Below.refl _ _, ⟨h0.out, h1.out, h2.out, h3.out, h5.out⟩, ⟨cs, hc.out, by rw [nms_snoc, HXX.out]; exact HLA.out.local (by rw [HY.out])⟩,
        by rw [nms_snoc, HXX.out]; exact okPre_snoc HPRE.out (pairStep_loc (by rw [HY.out])), HEW.out, hz⟩
    ·
      have c1 := cellOf h1.out 0
      have c2 := cellOf h2.out 0
      have c2b := cellOf h2.out 1
      have c3 := cellOf h3.out 0
      have c5 := cellOf h5.out 0
      have f1 := freeOf h1.out 0
      have f2 := freeOf h2.out 0
      have f2b := freeOf h2.out 1
      have f3 := freeOf h3.out 0
      have x0 := cellOf hx.out 0
      have x1 := cellOf hx.out 1
      have y0 := cellOf hy.out 0
      have y1 := cellOf hy.out 1
      have y2 := cellOf hy.out 2
      have t0 := cellOf h0.out 0
      simp only [List.getElem?_toArray, List.getElem?_cons_zero, List.getElem?_cons_succ] at c1 c2 c2b c3 c5 x0 x1 y0 y1 y2 t0
      have hmz : (0 : Int) ≤ (m : Int) := by omega
      have hm2 : (m : Int) < 200 := by omega
      have hm3 : m < 200 := by omega
      have HK2 := Lib.hid (show (ev t (xp, xi)).kind = 2 from by rw [HY.out])
      have HM2 := Lib.hid (show (ev t (xp, xi)).msg = (m : Int) from by rw [HY.out])
      have lA := (cellOf hc.out (m * 4)).trans (HLA.out.2 m hm9).1
      have lB := (cellOf hc.out (m * 4 + 1)).trans (HLA.out.2 m hm9).2.1
      have fA := freeOf hc.out (m * 4)
      have fB := freeOf hc.out (m * 4 + 1)
      obtain ⟨o, ho⟩ : ∃ o, firstIn (nms pre) t 2 m = o := ⟨_, rfl⟩
      rw [ho] at lA lB
      have HO := Lib.hid ho
      clear ho
      cases o with
      | some z =>
        have hzb : 0 < eidB (some z) := by show (0 : Int) < (z.2 : Int) + 1; omega
        generalize eidA (some z) = za at *
        generalize eidB (some z) = zb at *
        have HST := Lib.hid (show pairStep t (nms pre) (xp, xi) = false from by rw [pairStep_send HK2.out HM2.out, HO.out]; rfl)
        gi_wp2
        gi_region_with_o (fail)
        all_goals
          gi_wp2
          have HT3 := three_set h1.out h2.out h3.out (.pointer none) (.int .i64 xp) (.int .i64 ((xi : Int) + 1)) (.int .i64 8)
          refine ⟨?_, rfl, ⟨nms pre, (xp, xi), by rw [nms_snoc, HXX.out], HST.out⟩, ⟨(xp : Int), (xi : Int) + 1, 8, by decide, HT3.1, HT3.2.1, HT3.2.2.1⟩, ?_⟩
          · exact (KeepsFrom.refl _ _).trans (((((KeepsOthers.setCell _ _ _).trans (KeepsOthers.setCell _ _ _)).trans (KeepsOthers.setCell _ _ _)).trans ((KeepsOthers.setCell _ _ _).trans (KeepsOthers.drew _))).from _)
          · exact ((((HEW.out.st (p := ⟨w.heap.size + 1, 0, none⟩) (by simp) _).st (p := ⟨w.heap.size + 1 + 1, 0, none⟩) (by simp; omega) _).st (p := ⟨w.heap.size + 1 + 1, 1, none⟩) (by simp; omega) _).st (p := ⟨w.heap.size + 1 + 1 + 1, 0, none⟩) (by simp; omega) _).dr
      | none =>
        have HST := Lib.hid (show pairStep t (nms pre) (xp, xi) = true from by rw [pairStep_send HK2.out HM2.out, HO.out]; rfl)
        simp only [eidA, eidB] at lA lB
        gi_wp2
        gi_region_with_o (fail)
        all_goals
          gi_wp2
          have HT2 := two_set (i := m * 4) (j := m * 4 + 1) hc.out (.int .i64 xp) (.int .i64 ((xi : Int) + 1))
          refine ⟨?_, ?_, ⟨(HT2.2 _ (by omega)).trans h0.out, (HT2.2 _ (by omega)).trans h1.out, (HT2.2 _ (by omega)).trans h2.out, (HT2.2 _ (by omega)).trans h3.out, (HT2.2 _ (by omega)).trans h5.out⟩, ⟨_, HT2.1, by rw [nms_snoc, HXX.out]; exact HLA.out.send HK2.out HM2.out hm9 HO.out⟩, by rw [nms_snoc, HXX.out]; exact okPre_snoc HPRE.out HST.out, ?_, ?_⟩
          · exact (KeepsFrom.refl _ _).trans (((KeepsOthers.setCell _ _ _).trans ((KeepsOthers.setCell _ _ _).trans (KeepsOthers.drew _))).from _)
          · exact (Below.refl _ _).trans ((((Below.refl w.heap.size _).setCell (p := ⟨w.heap.size + 1 + 1 + 1 + 1, m * 4, none⟩) (by simp; omega) _).setCell (p := ⟨w.heap.size + 1 + 1 + 1 + 1, m * 4 + 1, none⟩) (by simp; omega) _).drew)
          · exact ((HEW.out.st (p := ⟨w.heap.size + 1 + 1 + 1 + 1, m * 4, none⟩) (by simp; omega) _).st (p := ⟨w.heap.size + 1 + 1 + 1 + 1, m * 4 + 1, none⟩) (by simp; omega) _).dr
          · rw [World.size_drew, size_setCell, size_setCell]; exact hz
    ·
      have c1 := cellOf h1.out 0
      have c2 := cellOf h2.out 0
      have c2b := cellOf h2.out 1
      have c3 := cellOf h3.out 0
      have c5 := cellOf h5.out 0
      have f1 := freeOf h1.out 0
      have f2 := freeOf h2.out 0
      have f2b := freeOf h2.out 1
      have f3 := freeOf h3.out 0
      have x0 := cellOf hx.out 0
      have x1 := cellOf hx.out 1
      have y0 := cellOf hy.out 0
      have y1 := cellOf hy.out 1
      have y2 := cellOf hy.out 2
      have t0 := cellOf h0.out 0
      simp only [List.getElem?_toArray, List.getElem?_cons_zero, List.getElem?_cons_succ] at c1 c2 c2b c3 c5 x0 x1 y0 y1 y2 t0
      have hmz : (0 : Int) ≤ (m : Int) := by omega
      have hm2 : (m : Int) < 200 := by omega
      have hm3 : m < 200 := by omega
      obtain ⟨q, rfl⟩ : ∃ q : Nat, pe = q := ⟨pe.toNat, by omega⟩
      have hqN : q < N := by omega
      have HK3 := Lib.hid (show (ev t (xp, xi)).kind = 3 from by rw [HY.out])
      have HM3 := Lib.hid (show (ev t (xp, xi)).msg = (m : Int) from by rw [HY.out])
      have HQ3 := Lib.hid (show (ev t (xp, xi)).peer = (q : Int) from by rw [HY.out])
      have lA := (cellOf hc.out (m * 4 + 2)).trans (HLA.out.2 m hm9).2.2.1
      have lB := (cellOf hc.out (m * 4 + 3)).trans (HLA.out.2 m hm9).2.2.2
      have fA := freeOf hc.out (m * 4 + 2)
      have fB := freeOf hc.out (m * 4 + 3)
      obtain ⟨o, ho⟩ : ∃ o, firstIn (nms pre) t 3 m = o := ⟨_, rfl⟩
      rw [ho] at lA lB
      have HO := Lib.hid ho
      clear ho
      cases o with
      | some z =>
        have hzb : 0 < eidB (some z) := by show (0 : Int) < (z.2 : Int) + 1; omega
        generalize eidA (some z) = za at *
        generalize eidB (some z) = zb at *
        have HST := Lib.hid (show pairStep t (nms pre) (xp, xi) = false from by rw [pairStep_recv HK3.out HM3.out HQ3.out, HO.out]; rfl)
        gi_wp2
        gi_region_with_o (fail)
        all_goals
          gi_wp2
          have HT3 := three_set h1.out h2.out h3.out (.pointer none) (.int .i64 xp) (.int .i64 ((xi : Int) + 1)) (.int .i64 8)
          refine ⟨?_, rfl, ⟨nms pre, (xp, xi), by rw [nms_snoc, HXX.out], HST.out⟩, ⟨(xp : Int), (xi : Int) + 1, 8, by decide, HT3.1, HT3.2.1, HT3.2.2.1⟩, ?_⟩
          · exact (KeepsFrom.refl _ _).trans (((((KeepsOthers.setCell _ _ _).trans (KeepsOthers.setCell _ _ _)).trans (KeepsOthers.setCell _ _ _)).trans ((KeepsOthers.setCell _ _ _).trans (KeepsOthers.drew _))).from _)
          · exact ((((HEW.out.st (p := ⟨w.heap.size + 1, 0, none⟩) (by simp) _).st (p := ⟨w.heap.size + 1 + 1, 0, none⟩) (by simp; omega) _).st (p := ⟨w.heap.size + 1 + 1, 1, none⟩) (by simp; omega) _).st (p := ⟨w.heap.size + 1 + 1 + 1, 0, none⟩) (by simp; omega) _).dr
      | none =>
        simp only [eidA, eidB] at lA lB
        have HSE := Lib.hid (sends_calls (.slice ta N tc) t q (m : Int) (xp : Int) W (HT.out.ext HEW.out) HS.out (by rw [HL.out]; exact hqN))
        gi_wp2_with fail
        clear c1 c2 c2b c3 c5 f1 f2 f2b f3 x0 x1 y0 y1 y2 t0 lA lB fA fB
        refine ⟨trivial, (CallsIn.inRound l ((callsIn_wide (n := 9 - 1 - 1 - 1)).2 HSE.out)).mono ?_⟩
        rintro e W3 ⟨rfl, hE3⟩
        have h1 := Lib.hid (hE3.hp h1.out)
        have h2 := Lib.hid (hE3.hp h2.out)
        have h3 := Lib.hid (hE3.hp h3.out)
        have h5 := Lib.hid (hE3.hp h5.out)
        have h0 := Lib.hid (hE3.hp h0.out)
        have hx := Lib.hid (hE3.hp hx.out)
        have hy := Lib.hid (hE3.hp hy.out)
        have hc := Lib.hid (hE3.hp hc.out)
        have HE3 := Lib.hid hE3
        have HZ3 := Lib.hid (Nat.le_trans hz hE3.size)
        clear hE3
        have c1 := cellOf h1.out 0
        have c2 := cellOf h2.out 0
        have c2b := cellOf h2.out 1
        have c3 := cellOf h3.out 0
        have c5 := cellOf h5.out 0
        have f1 := freeOf h1.out 0
        have f2 := freeOf h2.out 0
        have f2b := freeOf h2.out 1
        have f3 := freeOf h3.out 0
        have x0 := cellOf hx.out 0
        have x1 := cellOf hx.out 1
        have y0 := cellOf hy.out 0
        have y1 := cellOf hy.out 1
        have y2 := cellOf hy.out 2
        have t0 := cellOf h0.out 0
        simp only [List.getElem?_toArray, List.getElem?_cons_zero, List.getElem?_cons_succ] at c1 c2 c2b c3 c5 x0 x1 y0 y1 y2 t0
        have lA := (cellOf hc.out (m * 4 + 2)).trans (HLA.out.2 m hm9).2.2.1
        have lB := (cellOf hc.out (m * 4 + 3)).trans (HLA.out.2 m hm9).2.2.2
        rw [HO.out] at lA lB
        simp only [eidA, eidB] at lA lB
        have fA := freeOf hc.out (m * 4 + 2)
        have fB := freeOf hc.out (m * 4 + 3)
        obtain ⟨sb, hsb⟩ : ∃ b, sendsB t q (m : Int) (xp : Int) = b := ⟨_, rfl⟩
        rw [hsb]
        have HSB := Lib.hid hsb
        clear hsb
        cases sb with
        | false =>
          have HST := Lib.hid (show pairStep t (nms pre) (xp, xi) = false from by rw [pairStep_recv HK3.out HM3.out HQ3.out, HO.out]; exact HSB.out)
          gi_wp2
          gi_region_with_o (fail)
          all_goals
            gi_wp2
            have HT3 := three_set h1.out h2.out h3.out (.pointer none) (.int .i64 xp) (.int .i64 ((xi : Int) + 1)) (.int .i64 7)
            refine ⟨?_, rfl, ⟨nms pre, (xp, xi), by rw [nms_snoc, HXX.out], HST.out⟩, ⟨(xp : Int), (xi : Int) + 1, 7, by decide, HT3.1, HT3.2.1, HT3.2.2.1⟩, ?_⟩
            · exact (ext_keeps HE3.out).trans (((((KeepsOthers.setCell _ _ _).trans (KeepsOthers.setCell _ _ _)).trans (KeepsOthers.setCell _ _ _)).trans ((KeepsOthers.setCell _ _ _).trans (KeepsOthers.drew _))).from _)
            · exact (((((HEW.out.trans' HE3.out).st (p := ⟨w.heap.size + 1, 0, none⟩) (by simp) _).st (p := ⟨w.heap.size + 1 + 1, 0, none⟩) (by simp; omega) _).st (p := ⟨w.heap.size + 1 + 1, 1, none⟩) (by simp; omega) _).st (p := ⟨w.heap.size + 1 + 1 + 1, 0, none⟩) (by simp; omega) _).dr
        | true =>
          have HST := Lib.hid (show pairStep t (nms pre) (xp, xi) = true from by rw [pairStep_recv HK3.out HM3.out HQ3.out, HO.out]; exact HSB.out)
          gi_wp2
          gi_region_with_o (fail)
          all_goals
            gi_wp2
            have HT2 := two_set (i := m * 4 + 2) (j := m * 4 + 3) hc.out (.int .i64 xp) (.int .i64 ((xi : Int) + 1))
            refine ⟨?_, ?_, ⟨(HT2.2 _ (by omega)).trans h0.out, (HT2.2 _ (by omega)).trans h1.out, (HT2.2 _ (by omega)).trans h2.out, (HT2.2 _ (by omega)).trans h3.out, (HT2.2 _ (by omega)).trans h5.out⟩, ⟨_, HT2.1, by rw [nms_snoc, HXX.out]; exact HLA.out.recv HK3.out HM3.out hm9 HO.out⟩, by rw [nms_snoc, HXX.out]; exact okPre_snoc HPRE.out HST.out, ?_, ?_⟩
            · exact (ext_keeps HE3.out).trans (((KeepsOthers.setCell _ _ _).trans ((KeepsOthers.setCell _ _ _).trans (KeepsOthers.drew _))).from _)
            · exact (HE3.out.mono HEW.out.size).trans ((((Below.refl w.heap.size _).setCell (p := ⟨w.heap.size + 1 + 1 + 1 + 1, m * 4 + 2, none⟩) (by simp; omega) _).setCell (p := ⟨w.heap.size + 1 + 1 + 1 + 1, m * 4 + 3, none⟩) (by simp; omega) _).drew)
            · exact (((HEW.out.trans' HE3.out).st (p := ⟨w.heap.size + 1 + 1 + 1 + 1, m * 4 + 2, none⟩) (by simp; omega) _).st (p := ⟨w.heap.size + 1 + 1 + 1 + 1, m * 4 + 3, none⟩) (by simp; omega) _).dr
            · rw [World.size_drew, size_setCell, size_setCell]; exact HZ3.out
  case done =>
    rintro D ys W hD hys hI hK
    obtain ⟨⟨i0, i1, i2, i3, i5⟩, hL, hok, hE, hz⟩ := hI
    have h1 := Lib.hid i1
    have h2 := Lib.hid i2
    have h3 := Lib.hid i3
    have HL2 := Lib.hid hL
    have HOK := Lib.hid hok
    have HEW := Lib.hid hE
    have HKD := Lib.hid hK
    have HYS := Lib.hid hys
    have c1 := cellOf i1 0
    have c2 := cellOf i2 0
    have c2b := cellOf i2 1
    have c3 := cellOf i3 0
    have c5 := cellOf i5 0
    have f1 := freeOf i1 0
    have f2 := freeOf i2 0
    have f2b := freeOf i2 1
    have f3 := freeOf i3 0
    simp only [List.getElem?_toArray, List.getElem?_cons_zero, List.getElem?_cons_succ] at c1 c2 c2b c3 c5
    clear hi0 hc6 HB hys hok hL hE hK i0 i1 i2 i3 i5
    gi_wp2
    obtain ⟨r1, r2, r3, ro⟩ := three_set h1.out h2.out h3.out (.pointer (some ⟨w.heap.size + 1 + 1 + 1 + 1, 0, none⟩)) (.int .i64 0) (.int .i64 0) (.int .i64 0)
    have hE4 : Ext w ((((W.setCell ⟨w.heap.size + 1, 0, none⟩ (.pointer (some ⟨w.heap.size + 1 + 1 + 1 + 1, 0, none⟩))).setCell ⟨w.heap.size + 1 + 1, 0, none⟩ (.int .i64 0)).setCell ⟨w.heap.size + 1 + 1, 1, none⟩ (.int .i64 0)).setCell ⟨w.heap.size + 1 + 1 + 1, 0, none⟩ (.int .i64 0)) :=
      (((HEW.out.st (p := ⟨w.heap.size + 1, 0, none⟩) (by simp) _).st (p := ⟨w.heap.size + 1 + 1, 0, none⟩) (by simp; omega) _).st (p := ⟨w.heap.size + 1 + 1, 1, none⟩) (by simp; omega) _).st (p := ⟨w.heap.size + 1 + 1 + 1, 0, none⟩) (by simp; omega) _
    have hK4 := (ro D (by omega) (by omega) (by omega)).trans HKD.out
    obtain ⟨cs, hcs, hLA⟩ := HL2.out
    have hc4 := (ro (w.heap.size + 1 + 1 + 1 + 1) (by omega) (by omega) (by omega)).trans hcs
    generalize (((W.setCell ⟨w.heap.size + 1, 0, none⟩ (.pointer (some ⟨w.heap.size + 1 + 1 + 1 + 1, 0, none⟩))).setCell ⟨w.heap.size + 1 + 1, 0, none⟩ (.int .i64 0)).setCell ⟨w.heap.size + 1 + 1, 1, none⟩ (.int .i64 0)).setCell ⟨w.heap.size + 1 + 1 + 1, 0, none⟩ (.int .i64 0) = W4 at *
    clear c1 c2 c2b c3 c5 f1 f2 f2b f3
    refine ⟨by simp, .inl ⟨_, _, rfl, run_takeDeferred hK4, ?_⟩⟩
    have hg := grownBy_putObj' W4 D (.deferred none)
    have hr : ∀ r, some D = some r → ∃ o : Obj, W4.heap[r]? = some o ∧ o.isCells = false := fun r e => by cases e; exact ⟨_, hK4, rfl⟩
    have s1 := cellOf (heap_kept r1 hg hr) 0
    have s2 := cellOf (heap_kept r2 hg hr) 0
    have s2b := cellOf (heap_kept r2 hg hr) 1
    have s3 := cellOf (heap_kept r3 hg hr) 0
    have s4 := heap_kept hc4 hg hr
    simp only [List.getElem?_toArray, List.getElem?_cons_zero, List.getElem?_cons_succ] at s1 s2 s2b s3
    have hE5 : Ext w (W4.putObj D (.deferred none)) := (hE4.grown hg hE4.size (fun k e => by cases e; omega))
    refine ⟨.tuple #[.pointer (some ⟨w.heap.size + 1 + 1 + 1 + 1, 0, none⟩), .agg #[.int .i64 0, .int .i64 0], .int .i64 0], by simp [results, Tryz.results105, go_sem, s1, s2, s2b, s3], ⟨some ⟨w.heap.size + 1 + 1 + 1 + 1, 0, none⟩, 0, 0, 0, rfl, ⟨fun _ => pairB_yes (HYS.out ▸ HOK.out), fun _ => rfl⟩, hE5, fun _ => ⟨_, rfl, cs, s4, HYS.out ▸ hLA⟩⟩⟩
  case stop =>
    rintro D c pre W hD hpre ⟨rfl, hx, ⟨a, b, E, hE0, i1, i2, i3⟩, hE⟩ hK
    have h1 := Lib.hid i1
    have h2 := Lib.hid i2
    have h3 := Lib.hid i3
    have HEW := Lib.hid hE
    have HKD := Lib.hid hK
    have HX := Lib.hid hx
    have HPR := Lib.hid hpre
    clear hi0 hc6 HB hx hpre hE hK i1 i2 i3
    gi_wp2
    refine ⟨by simp, .inl ⟨_, _, rfl, run_takeDeferred HKD.out, ?_⟩⟩
    have hg := grownBy_putObj' W D (.deferred none)
    have hr : ∀ r, some D = some r → ∃ o : Obj, W.heap[r]? = some o ∧ o.isCells = false := fun r e => by cases e; exact ⟨_, HKD.out, rfl⟩
    have s1 := cellOf (heap_kept h1.out hg hr) 0
    have s2 := cellOf (heap_kept h2.out hg hr) 0
    have s2b := cellOf (heap_kept h2.out hg hr) 1
    have s3 := cellOf (heap_kept h3.out hg hr) 0
    simp only [List.getElem?_toArray, List.getElem?_cons_zero, List.getElem?_cons_succ] at s1 s2 s2b s3
    have hE5 : Ext w (W.putObj D (.deferred none)) := (HEW.out.grown hg HEW.out.size (fun k e => by cases e; omega))
    refine ⟨.tuple #[.pointer none, .agg #[.int .i64 a, .int .i64 b], .int .i64 E], by simp [results, Tryz.results105, go_sem, s1, s2, s2b, s3], ⟨none, a, b, E, rfl, ⟨fun h => absurd h hE0, fun h => ?_⟩, hE5, fun h => absurd h hE0⟩⟩
    obtain ⟨l0, x0, hx1, hx2⟩ := HX.out
    rw [pairB_no (hx1 ▸ HPR.out) hx2] at h
    exact absurd h (by decide)

end Go.Proofs.YtfcpnggdpaeldaaGreat

/-
  The events directly behind an event: the program's after.
-/
namespace Go.Proofs.YtfcpnggdpaeldaaGreat
open Go.RowKit
set_option linter.unusedVariables false
attribute [local go_sem ↓] Go.wp_at_zero Go.wp_at_succ

set_option maxHeartbeats 4000000 in
set_option maxRecDepth 100000 in
theorem afterP_calls (v : Value) (t : Tr) (p i B : Nat) (w : World) (h : TrAt w v t) (hs : SmallTr t) (hx : Inn t (p, i)) (hl : Lett w B t (ids t)) (hm : (ev t (p, i)).kind = 2 → ∃ m : Nat, (ev t (p, i)).msg = m ∧ m ≤ 199) :
    Calls Tryz.prog 119 #[.agg #[v], .pointer (some ⟨B, 0, none⟩), .agg #[.int .i64 p, .int .i64 ((i : Int) + 1)]] w fun e w' => EidsOut w w' e (aft t (p, i)) := by
  obtain ⟨ix, hix⟩ : ∃ x : Int, (i : Int) + 1 = x := ⟨_, rfl⟩
  rw [hix]
  obtain ⟨ie, hie, iz0, iz1, iz2⟩ := info_parts info_eid
  obtain ⟨hp, hi⟩ := hx
  simp only at hp hi
  have hAFT : aft t (p, i) = (if i + 1 < t[p]!.events.length then [(p, i + 1)] else []) ++ (if (ev t (p, i)).kind = 2 then (findE t 3 (ev t (p, i)).msg).toList else []) := rfl
  have hEV : ev t (p, i) = t[p]!.events[i]! := rfl
  rw [hEV] at hAFT hm
  obtain ⟨TB, TO, TC, vv, ve, rfl, hlC, hB, hn0, hv0, he0, hV, hE0⟩ := proc_at h p hp
  obtain ⟨EB, EO, EC, va, rfl, hlE, hEB, k0, k1, k2, k3, k4, ha⟩ := event_at hE0 i hi
  obtain ⟨ua, uc, rfl, huc⟩ := ha.sh
  have hn := hs.1
  have hen := (hs.2 p hp).2.1
  generalize hxx : t[p]! = x at *
  generalize hev : x.events[i]! = y at *
  generalize hln : t.length = n at *
  generalize hne : x.events.length = ne at *
  obtain ⟨kd, pe, ms, ti, al⟩ := y
  simp only at *
  generalize al.length = na at *
  generalize hao : aft t (p, i) = out at *
  have HAF := Lib.hid hAFT
  have HM := Lib.hid hm
  have HL := Lib.hid hl
  have HIX := Lib.hid hix
  have hb1 : 1 ≤ ix := by omega
  have hb2 : ix ≤ 1000000 := by omega
  have hpz : (0 : Int) ≤ (p : Int) := by omega
  have hpi : (p : Int) < (n : Int) := by omega
  have hix2 : ix - 1 < (ne : Int) := by omega
  have hix3 : (ix - 1).toNat = i := by omega
  have hix4 : 0 ≤ ix - 1 := by omega
  have hE2 : Ext w ((w.alloc (.cells #[.slice (some ⟨TB, TO, none⟩) n TC] 24)).alloc (.cells #[.int .i64 p, .int .i64 ix] 72)) := ((Ext.rf w).al _).al _
  have HX0 := Lib.hid (((Ext.rf _).al (.cells #[.int .i64 p, .int .i64 ix] 72)).hp (heap_alloc_new w (.cells #[.slice (some ⟨TB, TO, none⟩) n TC] 24)))
  have HX1 := Lib.hid (heap_new_eq (w := w.alloc (.cells #[.slice (some ⟨TB, TO, none⟩) n TC] 24)) (o := .cells #[.int .i64 p, .int .i64 ix] 72) (b := w.heap.size + 1) (by simp))
  have HE2 := Lib.hid hE2
  have HK := Lib.hid (And.intro k0 (And.intro k1 (And.intro k2 (And.intro k3 k4))))
  have he1 := hE2.cl he0
  obtain ⟨bt, hbt⟩ : ∃ b, decide (ix < (ne : Int)) = b := ⟨_, rfl⟩
  clear h hs hn0 hv0 he0 hV hE0 ha hxx hev hln hne hao hAFT hm hl hix hE2 k0 k1 k2 k3 k4 hEV
  go_enter Tryz.func119, Tryz.ntmps119
  go_upto_if 21 with (fail)
  generalize hw2 : (w.alloc (.cells #[.slice (some ⟨TB, TO, none⟩) n TC] 24)).alloc (.cells #[.int .i64 p, .int .i64 ix] 72) = w2 at *
  clear hw2
  have HBT := Lib.hid hbt
  clear hbt he1
  go_cut [7] (fun s7 wx => ∃ L : List Eid, Aside (L = if i + 1 < ne then [(p, i + 1)] else []) ∧ Aside (Row wx w.heap.size 72 2 s7 L.length (L.flatMap eidC)) ∧ Aside (Ext w2 wx))
  case first =>
    cases bt with
    | false =>
      have HI := Lib.hid (show ¬ i + 1 < ne from by have h9 : ¬ ix < (ne : Int) := of_decide_eq_false HBT.out; have := HIX.out; omega)
      go_wp2
      go_meet
      exact ⟨[], (show _ = _ from by rw [if_neg HI.out]), Row.mkNil _ _ _ _, Ext.rf _⟩
    | true =>
      have HI := Lib.hid (show i + 1 < ne from by have h9 : ix < (ne : Int) := of_decide_eq_true HBT.out; have := HIX.out; omega)
      have j0 := cellOf HX1.out 0
      have j1 := cellOf HX1.out 1
      simp only [List.getElem?_toArray, List.getElem?_cons_zero, List.getElem?_cons_succ] at j0 j1
      have hsz := HE2.out.sz
      go_wp2_with ((at_builtin; go_loud (refine wpList_append_one rfl _ _ 128 rfl w.heap.size 72 ie (.agg #[.int .i64 0, .int .i64 0]) 2 16 Tryz.underlying128 hie iz0 iz1 iz2 rfl (by decide) _ 0 [] rfl (Row.mkNil _ _ _ _) w2.heap.size 1 [.int .i64 p, .int .i64 (ix + 1)] rfl rfl ⟨_, heap_alloc_new _ _⟩ (by simp [Value.oneCell']) (by unfold maxLen; omega) (by omega) (by simp; omega) ?_; intro v5 w5 hown5 hgrow5 hblk5; have HOWN := Lib.hid hown5; have HGR := Lib.hid (show (w2.alloc (.cells #[.int .i64 p, .int .i64 (ix + 1)] 72)).grownBy w5 none from hgrow5); clear hown5 hgrow5 hblk5)))
      go_meet
      refine ⟨[(p, i + 1)], (show _ = _ from by rw [if_pos HI.out]), (show Row _ _ _ _ _ _ _ from ?_), ((Ext.rf w2).al _).gr HGR.out (by simp)⟩
      have := HOWN.out
      have e : ix + 1 = ((i + 1 : Nat) : Int) + 1 := by have := HIX.out; omega
      rw [e] at this
      simpa [eidC] using this
  case rest =>
    obtain ⟨L, HLL, HR, HE⟩ := hcut
    have HEW := Lib.hid (HE2.out.trans' HE.out)
    have HXB := Lib.hid (HE.out.hp HX1.out)
    have j1 := cellOf HXB.out 1
    simp only [List.getElem?_toArray, List.getElem?_cons_zero, List.getElem?_cons_succ] at j1
    have m0 := HEW.out.cl HK.out.1
    have m1 := HEW.out.cl HK.out.2.1
    have m2 := HEW.out.cl HK.out.2.2.1
    have m3 := HEW.out.cl HK.out.2.2.2.1
    have m4 := HEW.out.cl HK.out.2.2.2.2
    have HBE := Lib.hid (heap_alloc_new wc (e5 (.int .i64 kd) (.int .i64 pe) (.int .i64 ms) (.int .i64 ti) (.slice ua na uc)))
    have HE4 := Lib.hid (HEW.out.al (e5 (.int .i64 kd) (.int .i64 pe) (.int .i64 ms) (.int .i64 ti) (.slice ua na uc)))
    have HR4 := Lib.hid (HR.out.al (e5 (.int .i64 kd) (.int .i64 pe) (.int .i64 ms) (.int .i64 ti) (.slice ua na uc)))
    have hLn : L.length ≤ 1 := by rw [HLL.out]; split <;> simp
    go_upto_region 6 with (fail)
    generalize hw4 : wc.alloc (e5 (.int .i64 kd) (.int .i64 pe) (.int .i64 ms) (.int .i64 ti) (.slice ua na uc)) = w4 at *
    have hwl : wc.heap.size < w4.heap.size := by rw [← hw4]; simp
    clear hw4 m0 m1 m2 m3 m4 j1
    have y0 := cellOf HBE.out 0
    have y2 := cellOf HBE.out 2
    simp only [List.getElem?_toArray, List.getElem?_cons_zero, List.getElem?_cons_succ] at y0 y2
    by_cases h2 : kd = 2
    · obtain ⟨m, rfl, hm9⟩ := HM.out h2
      have HKD := Lib.hid h2
      subst h2
      obtain ⟨cs, hcs, hLA⟩ := HL.out
      have hc4 := HE4.out.hp hcs
      have lA := (cellOf hc4 (m * 4 + 2)).trans (hLA.2 m hm9).2.2.1
      have lB := (cellOf hc4 (m * 4 + 3)).trans (hLA.2 m hm9).2.2.2
      have hmz : (0 : Int) ≤ (m : Int) := by omega
      have hm2 : (m : Int) < 200 := by omega
      have hm3 : m < 200 := by omega
      obtain ⟨o, ho⟩ : ∃ o, findE t 3 (m : Int) = o := ⟨_, rfl⟩
      have ho2 : firstIn (ids t) t 3 (m : Int) = o := ho
      rw [ho2] at lA lB
      have HO := Lib.hid ho
      clear ho ho2 hcs hc4 hLA
      cases o with
      | none =>
        have HAF2 : Hid (out = L) := Lib.hid (by rw [HAF.out, HLL.out, if_pos rfl, HO.out]; simp)
        simp only [eidA, eidB] at lA lB
        clear HM HL HAF
        go_wp2
        go_quiet (fail)
        go_wp2
        go_ret
        exact ⟨_, rfl, by rw [HAF2.out]; exact HR4.out.ext ((Ext.rf _).drN _), HE4.out.drN _⟩
      | some z =>
        have HAF2 : Hid (out = L ++ [z]) := Lib.hid (by rw [HAF.out, HLL.out, if_pos rfl, HO.out]; rfl)
        have hzb : 0 < eidB (some z) := by show (0 : Int) < (z.2 : Int) + 1; omega
        have HZ := Lib.hid (show eidA (some z) = (z.1 : Int) ∧ eidB (some z) = (z.2 : Int) + 1 from ⟨rfl, rfl⟩)
        generalize eidA (some z) = za at *
        generalize eidB (some z) = zb at *
        clear HM HL HAF
        generalize hLL : L.length = ln at *
        have HLN := Lib.hid hLL
        clear hLL
        go_wp2
        go_quiet (fail)
        rename_i nq
        have HE5 := Lib.hid (HE4.out.drN nq)
        have HR5 := Lib.hid (HR4.out.ext ((Ext.rf w4).drN nq))
        have lA5 : (w4.drewN nq).cell? ⟨B, m * 4 + 2, none⟩ = some (.int .i64 za) := lA
        have lB5 : (w4.drewN nq).cell? ⟨B, m * 4 + 3, none⟩ = some (.int .i64 zb) := lB
        have y25 : (w4.drewN nq).cell? ⟨wc.heap.size, 2, none⟩ = some (.int .i64 (m : Int)) := y2
        have hsz5 : w.heap.size ≤ (w4.drewN nq).heap.size := HE5.out.sz
        generalize w4.drewN nq = w5 at *
        clear lA lB y0 y2 HE4 HR4 HBE
        go_wp2
        go_region_law (first | (refine step_append_rowN rfl _ _ 128 rfl w.heap.size 72 ie (.agg #[.int .i64 0, .int .i64 0]) 2 16 Tryz.underlying128 hie iz0 iz1 iz2 rfl (by decide) _ ln _ rfl (HR5.out.ext (((Ext.rf w5).dr).al _)) _ 1 [.int .i64 za, .int .i64 zb] rfl rfl ⟨_, heap_new_eq rfl⟩ (by simp [Value.oneCell']) (by unfold maxLen; omega) (by omega) (by simp; omega) ?_; intro vN wN hownN hgrowN hblkN; have HOWN := Lib.hid hownN; have HEN := Lib.hid (show Ext w wN from ((HE5.out.dr).al (.cells #[.int .i64 za, .int .i64 zb] 72)).gr hgrowN (fun k hk => (HR5.out.lt k hk).1)); clear hownN hgrowN hblkN))
        all_goals
          go_wp2
          go_ret
          refine ⟨_, rfl, ?_, HEN.out⟩
          rw [HAF2.out, List.length_append, List.flatMap_append, HLN.out]
          have := HOWN.out
          rw [HZ.out.1, HZ.out.2] at this
          simpa [eidC] using this
    · have c2 : (kd == 2) = false := by simp [h2]
      have HAF2 : Hid (out = L) := Lib.hid (by rw [HAF.out, HLL.out, if_neg h2, List.append_nil])
      clear h2 HM HL HAF
      go_wp2
      go_quiet (fail)
      go_wp2
      go_ret
      exact ⟨_, rfl, by rw [HAF2.out]; exact HR4.out.ext ((Ext.rf _).drN _), HE4.out.drN _⟩

end Go.Proofs.YtfcpnggdpaeldaaGreat
