import Derived.Test.YtfcpnggdpaeldaaGreatJa
import Derived.Test.YtfcpnggdpaeldaaGreatProg
import Derived.Test.YtfcpnggdpaeldaaGreatGg
import Derived.Test.YtfcpnggdpaeldaaGreatGf
import Derived.Test.YtfcpnggdpaeldaaGreatGh
import Derived.Test.YtfcpnggdpaeldaaGreatGe
import Derived.BigQuiet
import Derived.Deep.QuietTactic
import Derived.Deep.LoopGhost
import Derived.Shelf.Abstract
import Derived.RangeFuncNested
import Derived.RangeFuncBound
import Derived.RangeFuncCalls
import Derived.RangeFuncLeaves
import Derived.Shelf.RegionOpen
import Derived.OwnWalkIn
import Derived.TacticsInMore
import Derived.LoopNIn
import Derived.LoopIn
import Derived.Sort.LoopGhostIn
import Derived.Sort.CutIn
import Derived.Laws.Closers25
/-
  The program's table of messages: plain facts.
-/
namespace Go.Proofs.YtfcpnggdpaeldaaGreat
open Go.RowKit
set_option linter.unusedVariables false
open Go.Shelf
attribute [local go_sem] Oper.semAt_some

theorem heap_kept {W W' : World} {row : Option Nat} {k : Nat} {cs : Array Value} {T : TypeId} {fr : Nat × Nat} (h : W.heap[k]? = some (.cells cs T fr)) (hg : W.grownBy W' row) (hr : ∀ r, row = some r → ∃ o : Obj, W.heap[r]? = some o ∧ o.isCells = false) : W'.heap[k]? = some (.cells cs T fr) := by
  refine grownKeep hg ?_ h
  intro e
  obtain ⟨o, ho, hc⟩ := hr k e
  rw [h] at ho
  cases ho
  cases hc
/-- Blocks laid one behind the other. -/
theorem allocs_at (os : List Obj) : ∀ (w : World) (i : Nat) (o : Obj), os[i]? = some o → (os.foldl World.alloc w).heap[w.heap.size + i]? = some o := by
  induction os with
  | nil => intro w i o h; simp at h
  | cons a os ih =>
    intro w i o h
    have hx : ∀ (os : List Obj) (w : World), Ext w (os.foldl World.alloc w) := by
      intro os
      induction os with
      | nil => intro w; exact Ext.rf w
      | cons a os ih => intro w; exact ((Ext.rf w).al a).trans' (ih _)
    cases i with
    | zero =>
      simp only [List.getElem?_cons_zero, Option.some.injEq] at h
      subst h
      exact (hx os (w.alloc a)).hp (heap_alloc_new w a)
    | succ i =>
      have := ih (w.alloc a) i o (by simpa using h)
      rw [World.size_alloc] at this
      rw [show w.heap.size + (i + 1) = w.heap.size + 1 + i from by omega]
      exact this

/-- The program's table: for each number the events that send and receive it, of those that have come. -/
def LettA (cs : Array Value) (t : Tr) (pre : List Eid) : Prop := cs.size = 800 ∧
  ∀ m : Nat, m ≤ 199 → cs[m * 4]? = some (.int .i64 (eidA (firstIn pre t 2 m))) ∧ cs[m * 4 + 1]? = some (.int .i64 (eidB (firstIn pre t 2 m))) ∧
    cs[m * 4 + 2]? = some (.int .i64 (eidA (firstIn pre t 3 m))) ∧ cs[m * 4 + 3]? = some (.int .i64 (eidB (firstIn pre t 3 m)))
def Lett (W : World) (b : Nat) (t : Tr) (pre : List Eid) : Prop := ∃ cs, W.heap[b]? = some (.cells cs 154) ∧ LettA cs t pre
theorem Lett.ext {W W' : World} {b : Nat} {t : Tr} {pre : List Eid} (h : Lett W b t pre) (x : Ext W W') : Lett W' b t pre := by
  obtain ⟨cs, h1, h2⟩ := h; exact ⟨cs, x.hp h1, h2⟩
theorem Lett.kept {W W' : World} {row : Option Nat} {b : Nat} {t : Tr} {pre : List Eid} (h : Lett W b t pre) (hg : W.grownBy W' row) (hr : ∀ r, row = some r → ∃ o : Obj, W.heap[r]? = some o ∧ o.isCells = false) : Lett W' b t pre := by
  obtain ⟨cs, h1, h2⟩ := h; exact ⟨cs, heap_kept h1 hg hr, h2⟩
theorem zero_letters : Tryz.zeroCells154 = Array.replicate 800 (Value.int .i64 0) := by kernel_rfl
theorem LettA.start (t : Tr) : LettA Tryz.zeroCells154 t [] := by
  rw [zero_letters]
  refine ⟨by simp, fun m hm => ?_⟩
  simp only [firstIn, List.find?_nil, eidA, eidB, Array.getElem?_replicate]
  refine ⟨?_, ?_, ?_, ?_⟩ <;> rw [if_pos (by omega)]
theorem firstIn_other {pre : List Eid} {t : Tr} {k m : Int} {x : Eid} (h : ¬ ((ev t x).kind = k ∧ (ev t x).msg = m)) : firstIn (pre ++ [x]) t k m = firstIn pre t k m := by
  rw [firstIn_snoc, if_neg h]; simp
theorem firstIn_this {pre : List Eid} {t : Tr} {k m : Int} {x : Eid} (h : (ev t x).kind = k ∧ (ev t x).msg = m) (hn : firstIn pre t k m = none) : firstIn (pre ++ [x]) t k m = some x := by
  rw [firstIn_snoc, if_pos h, hn]; rfl
theorem LettA.local {cs : Array Value} {t : Tr} {pre : List Eid} {x : Eid} (h : LettA cs t pre) (hk : (ev t x).kind = 1) : LettA cs t (pre ++ [x]) := by
  refine ⟨h.1, fun m hm => ?_⟩
  rw [firstIn_other (by rw [hk]; intro e; exact absurd e.1 (by decide)), firstIn_other (by rw [hk]; intro e; exact absurd e.1 (by decide))]
  exact h.2 m hm
theorem LettA.send {cs : Array Value} {t : Tr} {pre : List Eid} {x : Eid} {m : Nat} (h : LettA cs t pre) (hk : (ev t x).kind = 2) (hm : (ev t x).msg = m) (hm9 : m ≤ 199) (hn : firstIn pre t 2 m = none) :
    LettA ((cs.setIfInBounds (m * 4) (.int .i64 x.1)).setIfInBounds (m * 4 + 1) (.int .i64 ((x.2 : Int) + 1))) t (pre ++ [x]) := by
  refine ⟨by simp [h.1], fun j hj => ?_⟩
  have hsz := h.1
  obtain ⟨h1, h2, h3, h4⟩ := h.2 j hj
  rw [firstIn_other (k := 3) (by rw [hk]; intro e; exact absurd e.1 (by decide))]
  by_cases e : j = m
  · subst e
    rw [firstIn_this ⟨hk, hm⟩ hn]
    refine ⟨?_, ?_, ?_, ?_⟩
    · rw [Array.getElem?_setIfInBounds_ne (by omega), Array.getElem?_setIfInBounds_self_of_lt (by omega)]; rfl
    · rw [Array.getElem?_setIfInBounds_self_of_lt (by simp; omega)]; rfl
    · rw [Array.getElem?_setIfInBounds_ne (by omega), Array.getElem?_setIfInBounds_ne (by omega)]; exact h3
    · rw [Array.getElem?_setIfInBounds_ne (by omega), Array.getElem?_setIfInBounds_ne (by omega)]; exact h4
  · rw [firstIn_other (by rw [hm]; intro e2; exact e (by have := e2.2; omega))]
    refine ⟨?_, ?_, ?_, ?_⟩ <;> rw [Array.getElem?_setIfInBounds_ne (by omega), Array.getElem?_setIfInBounds_ne (by omega)]
    · exact h1
    · exact h2
    · exact h3
    · exact h4
theorem LettA.recv {cs : Array Value} {t : Tr} {pre : List Eid} {x : Eid} {m : Nat} (h : LettA cs t pre) (hk : (ev t x).kind = 3) (hm : (ev t x).msg = m) (hm9 : m ≤ 199) (hn : firstIn pre t 3 m = none) :
    LettA ((cs.setIfInBounds (m * 4 + 2) (.int .i64 x.1)).setIfInBounds (m * 4 + 3) (.int .i64 ((x.2 : Int) + 1))) t (pre ++ [x]) := by
  refine ⟨by simp [h.1], fun j hj => ?_⟩
  have hsz := h.1
  obtain ⟨h1, h2, h3, h4⟩ := h.2 j hj
  rw [firstIn_other (k := 2) (by rw [hk]; intro e; exact absurd e.1 (by decide))]
  by_cases e : j = m
  · subst e
    rw [firstIn_this ⟨hk, hm⟩ hn]
    refine ⟨?_, ?_, ?_, ?_⟩
    · rw [Array.getElem?_setIfInBounds_ne (by omega), Array.getElem?_setIfInBounds_ne (by omega)]; exact h1
    · rw [Array.getElem?_setIfInBounds_ne (by omega), Array.getElem?_setIfInBounds_ne (by omega)]; exact h2
    · rw [Array.getElem?_setIfInBounds_ne (by omega), Array.getElem?_setIfInBounds_self_of_lt (by omega)]; rfl
    · rw [Array.getElem?_setIfInBounds_self_of_lt (by simp; omega)]; rfl
  · rw [firstIn_other (by rw [hm]; intro e2; exact e (by have := e2.2; omega))]
    refine ⟨?_, ?_, ?_, ?_⟩ <;> rw [Array.getElem?_setIfInBounds_ne (by omega), Array.getElem?_setIfInBounds_ne (by omega)]
    · exact h1
    · exact h2
    · exact h3
    · exact h4

/-- What a message fault's search hands back. -/
def MsgOut (t : Tr) (w w' : World) (e : Ending) : Prop := ∃ (pv : Option Addr) (a b E : Int), e = .returned (.tuple #[.pointer pv, .agg #[.int .i64 a, .int .i64 b], .int .i64 E]) ∧ (E = 0 ↔ pairB t = true) ∧ Ext w w' ∧
  (E = 0 → ∃ B, pv = some ⟨B, 0, none⟩ ∧ Lett w' B t (ids t))


end Go.Proofs.YtfcpnggdpaeldaaGreat

/-
  The values of one state: the program's state.
-/
namespace Go.Proofs.YtfcpnggdpaeldaaGreat
open Go.RowKit
set_option linter.unusedVariables false
open Go.Shelf
attribute [local go_sem] Oper.semAt_some

theorem states_in (n : Nat) (s : ByteArray) (vv ve : Value) (w : World) : CallsIn Fence.wide n Tryz.prog 108 #[.agg #[.string s, vv, ve]] w fun e w' =>
    e = .returned (.func (.func 121) #[] #[.pointer (some ⟨w.heap.size, 0, none⟩)]) ∧ w' = w.alloc (prT s vv ve) := by
  refine callsIn_of_wp Tryz.func108 rfl trivial ?_ rfl
  simp only [Tryz.ntmps108, List.size_toArray, List.length_cons, List.length_nil, Nat.reduceAdd, Nat.reduceSub, Array.replicate_succ, Array.replicate_zero, List.push_toArray, List.append_toArray, List.nil_append, List.cons_append]
  gi_wp2
  go_ret
  exact ⟨rfl, rfl⟩

theorem enters_121 : ∀ args w, (callFunc 121 args).run Tryz.prog w = .ok (.enter 121 args) w := enters_of Tryz.func121 (by kernel_rfl) rfl

theorem states_stops (n : Nat) (hn : 1 ≤ n) (Bn : Nat) (s : ByteArray) (vv ve : Value) (t : Tr) (p : Nat) (w w0 : World) (hV : Sl RVr 2 w vv t[p]!.vars) (hE : Sl REv 5 w ve t[p]!.events) (hs : StOk t p) (h0 : Below w.heap.size w w0) (hBn : w0.heap[Bn]? = some (prT s vv ve)) :
    SeqStopsR Fence.wide n Tryz.prog 121 #[.pointer (some ⟨Bn, 0, none⟩)] encSt (RdSt t p w0.heap.size) (KpSt w.heap.size Bn) TnSt (fun xs => xs.length = t[p]!.events.length + 1) (fun _ => True) w0 := fun l J Jx W hW hJ hY hJ0 =>
  (states1_in n hn l Bn w.heap.size w0.heap.size s vv ve t p w hV hE hs rfl J Jx W (h0.trans (hW.mono h0.size)) hW.size hJ hY ((hW.block Bn (Array.getElem?_eq_some_iff.1 hBn).1).trans hBn) hJ0).mono
    fun e W' ⟨h1, h2⟩ => ⟨h1, h2.imp id (fun ⟨pre, h⟩ => ⟨pre, trivial, h⟩)⟩

theorem Row.turn {w w' : World} {base : Nat} {e : TypeId} {size : Nat} {v : Value} {n : Nat} {xs : List Value} {row : Option Nat} (h : Row w base e size v n xs) (hg : w.grownBy w' row) (hr : ∀ r, row = some r → ∃ o : Obj, w.heap[r]? = some o ∧ o.isCells = false) : Row w' base e size v n xs := by
  refine h.grown hg ?_
  rcases h.2 with ⟨rfl, _⟩ | ⟨g, off, cap, cur, rfl, _, hgg, _⟩
  · exact .inl rfl
  · refine .inr fun e => ?_
    obtain ⟨o, ho, hc⟩ := hr g e.symm
    rw [hgg] at ho; cases ho; cases hc
theorem heap_grown {W W' : World} {row : Option Nat} {k : Nat} {o : Obj} (h : W.heap[k]? = some o) (hg : W.grownBy W' row) (hr : ∀ r, row = some r → r ≠ k) : W'.heap[k]? = some o :=
  (hg.block k (Array.getElem?_eq_some_iff.1 h).1 (fun e => hr k e.symm rfl)).trans h

theorem rdSt_own {t : Tr} {p n₁ : Nat} {pre : List StA} {x : StA} {W W' : World} {row : Option Nat} (h : RdSt t p n₁ pre x W) (hg : W.grownBy W' row) (hr : ∀ r, row = some r → ∃ o : Obj, W.heap[r]? = some o ∧ o.isCells = false) : RdSt t p n₁ pre x W' :=
  ⟨h.1, h.2.1, h.2.2.1.turn hg hr, fun g e => ⟨(h.2.2.2.1 g e).1, Nat.lt_of_lt_of_le (h.2.2.2.1 g e).2 hg.size⟩, h.2.2.2.2⟩
theorem keeps_grown {W W' : World} {base : Nat} {e : TypeId} {size n : Nat} {v : Value} {xs : List Value} (h : Row W base e size v n xs) (hg : W.grownBy W' v.ownBlock) : KeepsOthers W W' :=
  ⟨hg.size, fun k o hk ho => by
    refine (hg.block k (Array.getElem?_eq_some_iff.1 hk).1 (fun e' => ?_)).trans hk
    rcases h.2 with ⟨rfl, _⟩ | ⟨g, off, cap, cur, rfl, _, hgg, _⟩
    · simp [Value.ownBlock] at e'
    · simp [Value.ownBlock] at e'
      subst e'
      rw [hgg] at hk; cases hk; cases ho⟩
/-- Between two rounds of 'state'. -/
def SvI (k : Nat) (w : World) (pre : List StA) (W : World) : Prop :=
  W.heap[w.heap.size + 1]? = some (.cells #[.int .i64 k] 3) ∧ W.heap[w.heap.size + 1 + 1]? = some (.cells #[.slice none 0 0] 25) ∧ pre.length ≤ k ∧ Ext w W
/-- A round of 'state' has left by a return. -/
def SvX (t : Tr) (p k n₁ : Nat) (w : World) (c : Code) (pre : List StA) (W : World) : Prop :=
  c = .ret ∧ (∃ u, W.heap[w.heap.size + 1 + 1]? = some (.cells #[u] 25) ∧ Row W n₁ 3 1 u t[p]!.vars.length ((stV t p k).map (Value.int .i64))) ∧ Ext w W
theorem svI_own (k : Nat) (w : World) (B : Nat) (hB : w.heap.size ≤ B) : OwnFrom B (SvI k w) := fun s A A' row hs hg hr => by
  obtain ⟨h0, h1, h2, hE⟩ := hs
  have hr' := fun r e => (hr r e).2
  exact ⟨heap_kept h0 hg hr', heap_kept h1 hg hr', h2, ownFrom_below (β := Unit) (Nat.le_refl _) hB () A A' row hE hg hr⟩
theorem svI_turn (k : Nat) (w : World) (B : Nat) (hB : w.heap.size + 3 ≤ B) : AbidesT B TnSt (SvI k w) := fun s A A' row hs hg hr => by
  obtain ⟨h0, h1, h2, hE⟩ := hs
  exact ⟨heap_grown h0 hg (fun r e => by have := (hr r e).1; omega), heap_grown h1 hg (fun r e => by have := (hr r e).1; omega), h2, hE.gr hg (fun r e => by have := (hr r e).1; omega)⟩
theorem svX_own (t : Tr) (p k n₁ : Nat) (w : World) (c : Code) (B : Nat) (hB : w.heap.size ≤ B) : OwnFrom B (SvX t p k n₁ w c) := fun s A A' row hs hg hr => by
  obtain ⟨hc, ⟨u, h1, h2⟩, hE⟩ := hs
  have hr' := fun r e => (hr r e).2
  exact ⟨hc, ⟨u, heap_kept h1 hg hr', h2.turn hg hr'⟩, ownFrom_below (β := Unit) (Nat.le_refl _) hB () A A' row hE hg hr⟩

set_option maxHeartbeats 8000000 in
set_option maxRecDepth 100000 in
theorem stateP_calls (vs : List Value) (t : Tr) (p k : Nat) (w : World) (hx : RPr w vs t[p]!) (hs : StOk t p) (hk : k ≤ t[p]!.events.length) :
    Calls Tryz.prog 90 #[.agg vs.toArray, .int .i64 k] w fun e w' => ∃ v, e = .returned v ∧ Row w' w.heap.size 3 1 v t[p]!.vars.length ((stV t p k).map (Value.int .i64)) ∧ Ext w w' := by
  obtain ⟨vv, ve, rfl, hV, hE⟩ := hx
  have HVV := Lib.hid hV
  have HEE := Lib.hid hE
  have HS := Lib.hid hs
  obtain ⟨va, vc, rfl, hvc⟩ := hV.sh
  obtain ⟨ea, ec, rfl, hec⟩ := hE.sh
  generalize hnm : t[p]!.name = nm at *
  generalize hxv : t[p]!.vars.length = nv at *
  generalize hxe : t[p]!.events.length = ne at *
  have HXV := Lib.hid hxv
  have HXE := Lib.hid hxe
  have HB := Lib.hid (fun k' o => allocs_at [prT nm (.slice va nv vc) (.slice ea ne ec), .cells #[.int .i64 k] 3, .cells #[.slice none 0 0] 25] w k' o)
  have hE3 : Ext w (((w.alloc (prT nm (.slice va nv vc) (.slice ea ne ec))).alloc (.cells #[.int .i64 k] 3)).alloc (.cells #[.slice none 0 0] 25)) := (by repeat (first | refine Ext.st ?_ (by first | exact Nat.le_refl _ | exact Nat.le_succ _ | assumption | omega) _ | refine Ext.al ?_ _ | refine Ext.dr ?_ | refine Ext.drN ?_ _ | exact Ext.rf _))
  clear hV hE hs hxv hxe hnm
  refine (callsIn_wide (n := 9)).1 ?_
  refine callsIn_of_wp_marks Tryz.func90 rfl trivial ?_ rfl
  simp only [Tryz.ntmps90, List.size_toArray, List.length_cons, List.length_nil, Nat.reduceAdd, Nat.reduceSub, Array.replicate_succ, Array.replicate_zero, List.push_toArray, List.append_toArray, List.nil_append, List.cons_append]
  gi_wp2_with fail
  obtain ⟨w3, hw3⟩ : ∃ z, ((w.alloc (prT nm (.slice va nv vc) (.slice ea ne ec))).alloc (.cells #[.int .i64 k] 3)).alloc (.cells #[.slice none 0 0] 25) = z := ⟨_, rfl⟩
  have HB : Hid (∀ k' o, _ → w3.heap[w.heap.size + k']? = some o) := Lib.hid (fun k' o h => hw3 ▸ HB.out k' o h)
  have hsz3 : w3.heap.size = w.heap.size + 3 := by rw [← hw3]; simp
  rw [hw3] at hE3 ⊢
  clear hw3
  refine ⟨trivial, (states_in 8 _ _ _ _).mono ?_⟩
  rintro e w' ⟨rfl, rfl⟩
  gi_wp2
  have hE0 : Ext w (w3.alloc (prT nm (.slice va nv vc) (.slice ea ne ec))) := hE3.al _
  have hXT : Ext w3 (w3.alloc (prT nm (.slice va nv vc) (.slice ea ne ec))) := (Ext.rf w3).al _
  have hc6 : (w3.alloc (prT nm (.slice va nv vc) (.slice ea ne ec))).heap[w.heap.size + 3]? = some (prT nm (.slice va nv vc) (.slice ea ne ec)) := heap_new_eq hsz3.symm
  have hsz : (w3.alloc (prT nm (.slice va nv vc) (.slice ea ne ec))).heap.size = w.heap.size + 3 + 1 := by simp [hsz3]
  have hi0 : SvI k w [] (w3.alloc (prT nm (.slice va nv vc) (.slice ea ne ec))) := ⟨hXT.hp (HB.out 1 _ rfl), hXT.hp (HB.out 2 _ rfl), Nat.zero_le _, hE0⟩
  obtain ⟨W0, hW0⟩ : ∃ W0, w3.alloc (prT nm (.slice va nv vc) (.slice ea ne ec)) = W0 := ⟨_, rfl⟩
  rw [hW0] at hE0 hc6 hsz hi0 ⊢
  clear hW0 hXT
  refine wpIn_rangeFunc_R rfl (by decide) (gf := 121) (lb := #[.pointer (some ⟨w.heap.size + 3, 0, none⟩)]) rfl trivial enters_121
    (states_stops 8 (by decide) (w.heap.size + 3) nm _ _ t p w W0 HVV.out HEE.out HS.out hE0 hc6) kpSt_t (kpSt_b hE0.sz) (Below.refl _ _) (fun _ => rfl)
    (SvI k w) (SvX t p k W0.heap.size w) (svI_own k w _ (by omega)) (svI_turn k w _ (by omega)) (fun c => svX_own t p k _ w c _ (by omega)) hi0
    (fun pre x a' W => RdSt t p W0.heap.size pre x W ∧ a' = { tmps := #[.agg #[.string nm, .slice va nv vc, .slice ea ne ec], .int .i64 k, .pointer (some ⟨w.heap.size, 0, none⟩), .pointer (some ⟨w.heap.size + 1, 0, none⟩), .pointer (some ⟨w.heap.size + 1 + 1, 0, none⟩), .int .i64 (x.k : Int), x.v, .agg #[.string nm, .slice va nv vc, .slice ea ne ec], .func (.func 121) #[] #[.pointer (some ⟨w.heap.size + 3, 0, none⟩)], .int .i64 (x.k : Int), x.v, undef, undef, undef, undef], defers := [] })
    (fun pre x a' s A A' row hs hg hr => ⟨rdSt_own hs.1 hg (fun r e => (hr r e).2), hs.2⟩)
    ?assign ?body ?done ?stop
  case assign =>
    rintro l pre x W K hi hrd hK
    have HK := Lib.hid hK
    have HI := Lib.hid hi
    have HRD := Lib.hid hrd
    obtain ⟨k', v, G⟩ := x
    simp only [encSt]
    clear hK hi hrd hi0 hc6
    gi_wp2
    exact HK.out _ _ (KeepsFrom.refl _ _) ⟨Below.refl _ _, fun g _ o h _ => h⟩ HI.out ⟨HRD.out, rfl⟩
  case body =>
    rintro l pre x a' W hl ⟨r, hr⟩ hI ⟨hrd, rfl⟩
    obtain ⟨i1, i2, hpk, hE⟩ := hI
    obtain ⟨k', v, G⟩ := x
    obtain ⟨hk1, hk2, hRv, hG1, hG2⟩ := hrd
    simp only at hk1 hk2 hRv hG1 hG2 ⊢
    rw [HXV.out] at hRv
    obtain ⟨a0, c0, rfl, _⟩ := hRv.any
    have HRV := Lib.hid hRv
    have HE := Lib.hid hE
    have c3 := cellOf i1 0
    have c4 := cellOf i2 0
    have f4 := freeOf i2 0
    simp only [List.getElem?_toArray, List.getElem?_cons_zero] at c3 c4
    have H1 := Lib.hid i1
    have H2 := Lib.hid i2
    have hszW : w.heap.size + 4 ≤ W0.heap.size := by omega
    have HP := Lib.hid (And.intro hk1 hpk)
    clear hr hi0 hc6 hRv hE i1 i2 hk1 hk2 hG1 hG2 hpk
    by_cases hke : k' = k
    · have hkk := Lib.hid hke
      have d1 : ((k' : Int) == (k : Int)) = true := by rw [hke]; exact beq_self_eq_true _
      clear hke
      gi_wp2
      have h9 : (W.setCell ⟨w.heap.size + 1 + 1, 0, none⟩ (.slice a0 nv c0)).heap[w.heap.size + 1 + 1]? = some (.cells #[.slice a0 nv c0] 25) := by rw [heap_setCell_same H2.out]; simp
      refine ⟨(KeepsOthers.setCell _ _ _).from _, rfl, ⟨_, h9, ?_⟩, HE.out.st (p := ⟨w.heap.size + 1 + 1, 0, none⟩) (by show w.heap.size ≤ w.heap.size + 1 + 1; omega) _⟩
      rw [HXV.out, ← hkk.out]
      exact HRV.out.st (p := ⟨w.heap.size + 1 + 1, 0, none⟩) (fun e => by have := (HRV.out.lt _ e).1; simp only at this; omega) _
    · have d1 : ((k' : Int) == (k : Int)) = false := beq_eq_false_iff_ne.2 (by omega)
      have hkk := Lib.hid hke
      clear hke
      gi_wp2
      exact ⟨KeepsFrom.refl _ _, ⟨Below.refl _ _, fun g _ o h _ => h⟩, H1.out, H2.out, by have := hkk.out; have := HP.out; rw [List.length_append, List.length_singleton]; omega, HE.out⟩
  case done =>
    rintro D ys W hD hys ⟨i1, i2, hpk, hE⟩ hK
    rw [HXE.out] at hys
    omega
  case stop =>
    rintro D c pre W hD _ ⟨rfl, ⟨u, i2, hR⟩, hE⟩ hK
    rw [HXV.out] at hR
    have H2 := Lib.hid i2
    have HR := Lib.hid hR
    have HE := Lib.hid hE
    have HKD := Lib.hid hK
    clear hi0 hc6 hR hE hK i2
    gi_wp2
    have hg := grownBy_putObj' W D (.deferred none)
    have hr : ∀ r, some D = some r → ∃ o : Obj, W.heap[r]? = some o ∧ o.isCells = false := fun r e => by cases e; exact ⟨_, HKD.out, rfl⟩
    have c9 := cellOf (heap_kept H2.out hg hr) 0
    simp only [List.getElem?_toArray, List.getElem?_cons_zero] at c9
    refine ⟨by simp, .inl ⟨_, _, rfl, run_takeDeferred HKD.out, ?_⟩⟩
    exact ⟨u, by simp [results, Tryz.results90, go_sem, c9], ⟨_, rfl, (HR.out.turn hg hr).mono (by have := hE0.sz; omega), HE.out.grown hg HE.out.size (fun k e => by cases e; have := hE0.sz; omega)⟩⟩

end Go.Proofs.YtfcpnggdpaeldaaGreat

/-
  Names: the texts of the program and of the reference.
-/
namespace Go.Proofs.YtfcpnggdpaeldaaGreat
open Go.RowKit
set_option linter.unusedVariables false

set_option maxHeartbeats 1000000 in
theorem letterP_calls (c : UInt8) (w : World) : Calls Tryz.prog 122 #[.int .u8 c.toNat] w fun e w' => e = .returned (.bool (letterB c)) ∧ w' = w := by
  have hb : letterB c = ((decide (97 ≤ (c.toNat : Int)) && decide ((c.toNat : Int) ≤ 122)) || (decide (65 ≤ (c.toNat : Int)) && decide ((c.toNat : Int) ≤ 90))) := by
    unfold letterB
    congr 1 <;> congr 1 <;> (rw [decide_eq_decide]; omega)
  have HB := Lib.hid hb
  generalize letterB c = b at *
  generalize hx : (c.toNat : Int) = x at *
  clear hb hx
  by_cases h1 : 97 ≤ x <;> by_cases h2 : x ≤ 122 <;> by_cases h3 : 65 ≤ x <;> by_cases h4 : x ≤ 90
  all_goals
    go_enter Tryz.func122, Tryz.ntmps122
    go_wp2
    go_ret
    refine ⟨?_, rfl⟩
    rw [HB.out]
    simp [h1, h2, h3, h4]

set_option maxHeartbeats 1000000 in
theorem letterR_calls (c : UInt8) (w : World) : Calls Tryz.prog 109 #[.int .u8 c.toNat] w fun e w' => e = .returned (.bool (letterB c)) ∧ w' = w := by
  have hb : letterB c = ((decide (97 ≤ (c.toNat : Int)) && decide ((c.toNat : Int) ≤ 122)) || (decide (65 ≤ (c.toNat : Int)) && decide ((c.toNat : Int) ≤ 90))) := by
    unfold letterB
    congr 1 <;> congr 1 <;> (rw [decide_eq_decide]; omega)
  have HB := Lib.hid hb
  generalize letterB c = b at *
  generalize hx : (c.toNat : Int) = x at *
  clear hb hx
  by_cases h1 : 97 ≤ x <;> by_cases h2 : x ≤ 122 <;> by_cases h3 : 65 ≤ x <;> by_cases h4 : x ≤ 90
  all_goals
    go_enter Tryz.func109, Tryz.ntmps109
    go_wp2
    go_ret
    refine ⟨?_, rfl⟩
    rw [HB.out]
    simp [h1, h2, h3, h4]

set_option maxHeartbeats 1000000 in
theorem digitP_calls (c : UInt8) (w : World) : Calls Tryz.prog 123 #[.int .u8 c.toNat] w fun e w' => e = .returned (.bool (digitB c)) ∧ w' = w := by
  have hb : digitB c = (decide (48 ≤ (c.toNat : Int)) && decide ((c.toNat : Int) ≤ 57)) := by
    unfold digitB
    congr 1 <;> (rw [decide_eq_decide]; omega)
  have HB := Lib.hid hb
  generalize digitB c = b at *
  generalize hx : (c.toNat : Int) = x at *
  clear hb hx
  by_cases h1 : 48 ≤ x <;> by_cases h2 : x ≤ 57
  all_goals
    go_enter Tryz.func123, Tryz.ntmps123
    go_wp2
    go_ret
    refine ⟨?_, rfl⟩
    rw [HB.out]
    simp [h1, h2]

set_option maxHeartbeats 1000000 in
theorem digitR_calls (c : UInt8) (w : World) : Calls Tryz.prog 110 #[.int .u8 c.toNat] w fun e w' => e = .returned (.bool (digitB c)) ∧ w' = w := by
  have hb : digitB c = (decide (48 ≤ (c.toNat : Int)) && decide ((c.toNat : Int) ≤ 57)) := by
    unfold digitB
    congr 1 <;> (rw [decide_eq_decide]; omega)
  have HB := Lib.hid hb
  generalize digitB c = b at *
  generalize hx : (c.toNat : Int) = x at *
  clear hb hx
  by_cases h1 : 48 ≤ x <;> by_cases h2 : x ≤ 57
  all_goals
    go_enter Tryz.func110, Tryz.ntmps110
    go_wp2
    go_ret
    refine ⟨?_, rfl⟩
    rw [HB.out]
    simp [h1, h2]

theorem inP_calls (x a b : Int) (w : World) : Calls Tryz.prog 101 #[.int .i64 x, .int .i64 a, .int .i64 b] w fun e w' => e = .returned (.bool (decide (a ≤ x) && decide (x ≤ b))) ∧ w' = w := by
  by_cases h1 : a ≤ x <;> by_cases h2 : x ≤ b
  all_goals
    go_enter Tryz.func101, Tryz.ntmps101
    go_wp2
    go_ret
    refine ⟨?_, rfl⟩
    simp [h1, h2]

theorem empty_of_size {s : ByteArray} (h : s.size = 0) : s = ByteArray.empty := by
  cases s with
  | mk d =>
    have h' : d.size = 0 := h
    have := Array.eq_empty_of_size_eq_zero h'
    rw [this]; rfl
theorem isEmpty_size (s : ByteArray) : s.toList.isEmpty = decide (s.size = 0) := by
  rw [← decide_eq_emptyBytes, decide_eq_decide]
  exact ⟨fun h => by rw [h]; rfl, empty_of_size⟩
theorem nameB_parts {s : ByteArray} : nameB s = true ↔ 1 ≤ s.size ∧ s.size ≤ 16 ∧ letterB s[0]! = true ∧ ∀ i, i < s.size → wordB s[i]! = true := by
  simp only [nameB, Bool.and_eq_true, decide_eq_true_eq, range_all]

set_option maxHeartbeats 2000000 in
theorem isNameP_calls (s : ByteArray) (w : World) : Calls Tryz.prog 111 #[.string s] w fun e w' => e = .returned (.bool (nameB s)) ∧ w' = w := by
  have hno : ¬ (1 ≤ s.size ∧ s.size ≤ 16 ∧ letterB s[0]! = true ∧ ∀ i, i < s.size → wordB s[i]! = true) → nameB s = false := fun h => by
    rw [Bool.eq_false_iff]; intro hv; exact h (nameB_parts.1 hv)
  have HNO := Lib.hid hno
  have HYES := Lib.hid (@nameB_parts s).2
  have hemp := isEmpty_size s
  generalize hnb : nameB s = nb at *
  have HNB := Lib.hid (show nb = nb from rfl)
  clear hno hnb
  by_cases h0 : s.size = 0
  · have b0 : s.toList.isEmpty = true := by rw [hemp, h0]; rfl
    have d0 : decide ((s.size : Int) < 1) = true := decide_eq_true (by omega)
    have d0n : decide (s.size < 1) = true := decide_eq_true (by omega)
    have hnb : nb = false := HNO.out (fun h => by omega)
    subst hnb
    clear hemp h0
    go_enter Tryz.func111, Tryz.ntmps111
    go_wp2
    go_ret
    exact ⟨rfl, rfl⟩
  have b0 : s.toList.isEmpty = false := by rw [hemp]; simpa using h0
  have d0 : decide ((s.size : Int) < 1) = false := decide_eq_false (by omega)
  have d0n : decide (s.size < 1) = false := decide_eq_false (by omega)
  clear hemp
  by_cases h16 : 16 < s.size
  · have b1 : decide (16 < (s.size : Int)) = true := by simp; omega
    have b1n : decide (16 < s.size) = true := by simp; omega
    have hnb : nb = false := HNO.out (fun h => by omega)
    subst hnb
    go_enter Tryz.func111, Tryz.ntmps111
    go_wp2
    go_ret
    exact ⟨rfl, rfl⟩
  have b1 : decide (16 < (s.size : Int)) = false := by simp; omega
  have b1n : decide (16 < s.size) = false := by simp; omega
  have hpos : 0 < s.size := by omega
  cases hl : letterB s[0] with
  | false =>
    have hnb : nb = false := HNO.out (fun h => by have := h.2.2.1; rw [getElem!_pos s 0 hpos, hl] at this; exact absurd this (by decide))
    subst hnb
    have HL := Lib.hid hl
    clear hl
    go_enter Tryz.func111, Tryz.ntmps111
    go_wp2_with fail
    refine (letterP_calls s[0] w).mono ?_
    rw [HL.out]
    rintro e w' ⟨rfl, rfl⟩
    go_wp2
    go_ret
    exact ⟨rfl, rfl⟩
  | true =>
    have HL := Lib.hid hl
    clear hl
    go_enter Tryz.func111, Tryz.ntmps111
    go_wp2_with fail
    refine (letterP_calls s[0] w).mono ?_
    rw [HL.out]
    rintro e w' ⟨rfl, rfl⟩
    have HW0 : Hid (wordB s[0]! = true) := Lib.hid (by rw [getElem!_pos s 0 hpos, wordB, HL.out]; rfl)
    have HL0 : Hid (letterB s[0]! = true) := Lib.hid (by rw [getElem!_pos s 0 hpos]; exact HL.out)
    go_wp2
    go_loopg [19] s.size (fun g s19 wr => ∃ k : Nat, k ≤ s.size ∧ s.size - k ≤ g ∧ s19 = .int .i64 k ∧ Aside (∀ j, j < k → wordB s[j]! = true) ∧ wr = w')
    case atStart => exact ⟨0, by omega, by omega, rfl, (fun j hj => (show j = 0 by omega) ▸ HW0.out), rfl⟩
    case round =>
      obtain ⟨k, hk, hg, rfl, A, rfl⟩ := hrel
      by_cases hlt : k < s.size
      · have hltz : (k : Int) < (s.size : Int) := by omega
        have hkz : (0 : Int) ≤ (k : Int) := by omega
        have HGE := Lib.hid (getElem!_pos s k hlt)
        have HC1 := Lib.hid (letterP_calls s[k] wr)
        have HC2 := Lib.hid (digitP_calls s[k] wr)
        have HW := Lib.hid (show wordB s[k] = (letterB s[k] || digitB s[k] || decide (s[k].toNat = 95)) from rfl)
        cases h1 : letterB s[k] with
        | true =>
          rw [h1] at HC1 HW
          have HW := Lib.hid (show wordB s[k]! = true from by rw [HGE.out, HW.out]; simp)
          clear h1
          go_wp2_with fail
          refine HC1.out.mono ?_
          rintro e w2 ⟨rfl, rfl⟩
          go_wp2
          go_roundg (s.size - (k + 1))
          case measure => omega
          case rel =>
            refine ⟨k + 1, by omega, by omega, by go_num, (show Aside _ from fun j hj => ?_), rfl⟩
            by_cases e : j = k
            · subst e; exact HW.out
            · exact A.out j (by omega)
        | false =>
          rw [h1] at HC1 HW
          cases h2 : digitB s[k] with
          | true =>
            rw [h2] at HC2 HW
            have HW := Lib.hid (show wordB s[k]! = true from by rw [HGE.out, HW.out]; simp)
            clear h1 h2
            go_wp2_with fail
            refine HC1.out.mono ?_
            rintro e w2 ⟨rfl, rfl⟩
            go_wp2_with fail
            refine HC2.out.mono ?_
            rintro e w2 ⟨rfl, rfl⟩
            go_wp2
            go_roundg (s.size - (k + 1))
            case measure => omega
            case rel =>
              refine ⟨k + 1, by omega, by omega, by go_num, (show Aside _ from fun j hj => ?_), rfl⟩
              by_cases e : j = k
              · subst e; exact HW.out
              · exact A.out j (by omega)
          | false =>
            rw [h2] at HC2 HW
            by_cases h3 : s[k].toNat = 95
            · have HW := Lib.hid (show wordB s[k]! = true from by rw [HGE.out, HW.out, h3]; simp)
              have c3 : ((s[k].toNat : Int) != 95) = false := by simp; omega
              clear h1 h2 h3
              go_wp2_with fail
              refine HC1.out.mono ?_
              rintro e w2 ⟨rfl, rfl⟩
              go_wp2_with fail
              refine HC2.out.mono ?_
              rintro e w2 ⟨rfl, rfl⟩
              go_wp2
              go_roundg (s.size - (k + 1))
              case measure => omega
              case rel =>
                refine ⟨k + 1, by omega, by omega, by go_num, (show Aside _ from fun j hj => ?_), rfl⟩
                by_cases e : j = k
                · subst e; exact HW.out
                · exact A.out j (by omega)
            · have HW := Lib.hid (show wordB s[k]! = false from by rw [HGE.out, HW.out]; simpa using h3)
              have c3 : ((s[k].toNat : Int) != 95) = true := by simp; omega
              have hnb : nb = false := HNO.out (fun h => by have := h.2.2.2 k hlt; rw [HW.out] at this; exact absurd this (by decide))
              subst hnb
              clear h1 h2 h3
              go_wp2_with fail
              refine HC1.out.mono ?_
              rintro e w2 ⟨rfl, rfl⟩
              go_wp2_with fail
              refine HC2.out.mono ?_
              rintro e w2 ⟨rfl, rfl⟩
              go_wp2
              go_ret
              exact ⟨rfl, rfl⟩
      · have hltz : ¬ (k : Int) < (s.size : Int) := by omega
        obtain rfl : nb = true := HYES.out ⟨by omega, by omega, HL0.out, fun i hi => A.out i (by omega)⟩
        go_wp2
        go_ret
        exact ⟨rfl, rfl⟩


set_option maxHeartbeats 2000000 in
theorem nameR_calls (s : ByteArray) (w : World) : Calls Tryz.prog 93 #[.string s] w fun e w' => e = .returned (.bool (nameB s)) ∧ w' = w := by
  have hno : ¬ (1 ≤ s.size ∧ s.size ≤ 16 ∧ letterB s[0]! = true ∧ ∀ i, i < s.size → wordB s[i]! = true) → nameB s = false := fun h => by
    rw [Bool.eq_false_iff]; intro hv; exact h (nameB_parts.1 hv)
  have HNO := Lib.hid hno
  have HYES := Lib.hid (@nameB_parts s).2
  have hemp := isEmpty_size s
  generalize hnb : nameB s = nb at *
  have HNB := Lib.hid (show nb = nb from rfl)
  clear hno hnb
  by_cases h0 : s.size = 0
  · have b0 : s.toList.isEmpty = true := by rw [hemp, h0]; rfl
    have d0 : decide ((s.size : Int) < 1) = true := decide_eq_true (by omega)
    have d0n : decide (s.size < 1) = true := decide_eq_true (by omega)
    have hnb : nb = false := HNO.out (fun h => by omega)
    subst hnb
    clear hemp h0
    go_enter Tryz.func93, Tryz.ntmps93
    go_wp2
    go_ret
    exact ⟨rfl, rfl⟩
  have b0 : s.toList.isEmpty = false := by rw [hemp]; simpa using h0
  have d0 : decide ((s.size : Int) < 1) = false := decide_eq_false (by omega)
  have d0n : decide (s.size < 1) = false := decide_eq_false (by omega)
  clear hemp
  by_cases h16 : 16 < s.size
  · have b1 : decide (16 < (s.size : Int)) = true := by simp; omega
    have b1n : decide (16 < s.size) = true := by simp; omega
    have hnb : nb = false := HNO.out (fun h => by omega)
    subst hnb
    go_enter Tryz.func93, Tryz.ntmps93
    go_wp2
    go_ret
    exact ⟨rfl, rfl⟩
  have b1 : decide (16 < (s.size : Int)) = false := by simp; omega
  have b1n : decide (16 < s.size) = false := by simp; omega
  have hpos : 0 < s.size := by omega
  cases hl : letterB s[0] with
  | false =>
    have hnb : nb = false := HNO.out (fun h => by have := h.2.2.1; rw [getElem!_pos s 0 hpos, hl] at this; exact absurd this (by decide))
    subst hnb
    have HL := Lib.hid hl
    clear hl
    go_enter Tryz.func93, Tryz.ntmps93
    go_wp2_with fail
    refine (letterR_calls s[0] w).mono ?_
    rw [HL.out]
    rintro e w' ⟨rfl, rfl⟩
    go_wp2
    go_ret
    exact ⟨rfl, rfl⟩
  | true =>
    have HL := Lib.hid hl
    clear hl
    go_enter Tryz.func93, Tryz.ntmps93
    go_wp2_with fail
    refine (letterR_calls s[0] w).mono ?_
    rw [HL.out]
    rintro e w' ⟨rfl, rfl⟩
    have HW0 : Hid (wordB s[0]! = true) := Lib.hid (by rw [getElem!_pos s 0 hpos, wordB, HL.out]; rfl)
    have HL0 : Hid (letterB s[0]! = true) := Lib.hid (by rw [getElem!_pos s 0 hpos]; exact HL.out)
    go_wp2
    go_loopg [3] s.size (fun g s19 wr => ∃ k : Nat, k ≤ s.size ∧ s.size - k ≤ g ∧ s19 = .int .i64 k ∧ Aside (∀ j, j < k → wordB s[j]! = true) ∧ wr = w')
    case atStart => exact ⟨1, by omega, by omega, rfl, (fun j hj => (show j = 0 by omega) ▸ HW0.out), rfl⟩
    case round =>
      obtain ⟨k, hk, hg, rfl, A, rfl⟩ := hrel
      by_cases hlt : k < s.size
      · have hltz : (k : Int) < (s.size : Int) := by omega
        have hkz : (0 : Int) ≤ (k : Int) := by omega
        have HGE := Lib.hid (getElem!_pos s k hlt)
        have HC1 := Lib.hid (letterR_calls s[k] wr)
        have HC2 := Lib.hid (digitR_calls s[k] wr)
        have HW := Lib.hid (show wordB s[k] = (letterB s[k] || digitB s[k] || decide (s[k].toNat = 95)) from rfl)
        cases h1 : letterB s[k] with
        | true =>
          rw [h1] at HC1 HW
          have HW := Lib.hid (show wordB s[k]! = true from by rw [HGE.out, HW.out]; simp)
          clear h1
          go_wp2_with fail
          refine HC1.out.mono ?_
          rintro e w2 ⟨rfl, rfl⟩
          go_wp2
          go_roundg (s.size - (k + 1))
          case measure => omega
          case rel =>
            refine ⟨k + 1, by omega, by omega, by go_num, (show Aside _ from fun j hj => ?_), rfl⟩
            by_cases e : j = k
            · subst e; exact HW.out
            · exact A.out j (by omega)
        | false =>
          rw [h1] at HC1 HW
          cases h2 : digitB s[k] with
          | true =>
            rw [h2] at HC2 HW
            have HW := Lib.hid (show wordB s[k]! = true from by rw [HGE.out, HW.out]; simp)
            clear h1 h2
            go_wp2_with fail
            refine HC1.out.mono ?_
            rintro e w2 ⟨rfl, rfl⟩
            go_wp2_with fail
            refine HC2.out.mono ?_
            rintro e w2 ⟨rfl, rfl⟩
            go_wp2
            go_roundg (s.size - (k + 1))
            case measure => omega
            case rel =>
              refine ⟨k + 1, by omega, by omega, by go_num, (show Aside _ from fun j hj => ?_), rfl⟩
              by_cases e : j = k
              · subst e; exact HW.out
              · exact A.out j (by omega)
          | false =>
            rw [h2] at HC2 HW
            by_cases h3 : s[k].toNat = 95
            · have HW := Lib.hid (show wordB s[k]! = true from by rw [HGE.out, HW.out, h3]; simp)
              have c3 : ((s[k].toNat : Int) != 95) = false := by simp; omega
              clear h1 h2 h3
              go_wp2_with fail
              refine HC1.out.mono ?_
              rintro e w2 ⟨rfl, rfl⟩
              go_wp2_with fail
              refine HC2.out.mono ?_
              rintro e w2 ⟨rfl, rfl⟩
              go_wp2
              go_roundg (s.size - (k + 1))
              case measure => omega
              case rel =>
                refine ⟨k + 1, by omega, by omega, by go_num, (show Aside _ from fun j hj => ?_), rfl⟩
                by_cases e : j = k
                · subst e; exact HW.out
                · exact A.out j (by omega)
            · have HW := Lib.hid (show wordB s[k]! = false from by rw [HGE.out, HW.out]; simpa using h3)
              have c3 : ((s[k].toNat : Int) != 95) = true := by simp; omega
              have hnb : nb = false := HNO.out (fun h => by have := h.2.2.2 k hlt; rw [HW.out] at this; exact absurd this (by decide))
              subst hnb
              clear h1 h2 h3
              go_wp2_with fail
              refine HC1.out.mono ?_
              rintro e w2 ⟨rfl, rfl⟩
              go_wp2_with fail
              refine HC2.out.mono ?_
              rintro e w2 ⟨rfl, rfl⟩
              go_wp2
              go_ret
              exact ⟨rfl, rfl⟩
      · have hltz : ¬ (k : Int) < (s.size : Int) := by omega
        obtain rfl : nb = true := HYES.out ⟨by omega, by omega, HL0.out, fun i hi => A.out i (by omega)⟩
        go_wp2
        go_ret
        exact ⟨rfl, rfl⟩


end Go.Proofs.YtfcpnggdpaeldaaGreat
