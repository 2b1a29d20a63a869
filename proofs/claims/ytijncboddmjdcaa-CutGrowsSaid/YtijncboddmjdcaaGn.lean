import Derived.Test.YtijncboddmjdcaaGa
import Derived.Test.YtijncboddmjdcaaProg
import Derived.Test.YtijncboddmjdcaaGk
import Derived.Test.YtijncboddmjdcaaGm
import Derived.BigQuiet
import Derived.Deep.QuietTactic
import Derived.Deep.LoopGhost
import Derived.Shelf.Abstract
/-
  Joins, meets, frontiers, lengths and single steps in the reference.
-/
namespace Go.Proofs.Ytijncboddmjdcaa
open Go.RowKit
set_option linter.unusedVariables false
attribute [local go_sem ↓] Go.wp_at_zero Go.wp_at_succ

/-- A list of numbers that the call has made. -/
def IntsOut (w w' : World) (e : Ending) (l : List Int) : Prop := ∃ v, e = .returned v ∧ Row w' w.heap.size 3 1 v l.length (l.map (Value.int .i64)) ∧ Ext w w'

def zipTo (f : Int → Int → Int) (a b : List Int) (p : Nat) : List Int := (List.range p).map fun q => f a[q]! b[q]!
theorem zipTo_succ (f : Int → Int → Int) (a b : List Int) (p : Nat) : zipTo f a b (p + 1) = zipTo f a b p ++ [f a[p]! b[p]!] := by
  unfold zipTo; rw [List.range_succ, List.map_append]; rfl
theorem zipTo_len (f : Int → Int → Int) (a b : List Int) (p : Nat) : (zipTo f a b p).length = p := by simp [zipTo]

set_option maxHeartbeats 8000000 in
set_option maxRecDepth 100000 in
theorem joinR_calls (va vb : Value) (a b : List Int) (w : World) (ha : Ints w va a) (hb : Ints w vb b) (hl : a.length = b.length) (hn : a.length ≤ 1000000) :
    Calls Try.prog 22 #[va, vb] w fun e w' => IntsOut w w' e (joinC a b) := by
  have HA := Lib.hid ha
  have HB := Lib.hid hb
  obtain ⟨ii, hii, iz0, iz1, iz2⟩ := info_parts info_int3
  obtain ⟨aa, ac, rfl, hac, _⟩ := ha
  obtain ⟨ba, bc, rfl, hbc, _⟩ := hb
  have HO : Hid (joinC a b = zipTo max a b a.length) := Lib.hid rfl
  rw [HO.out]
  rw [← hl] at hbc ⊢
  have HBL := Lib.hid hl
  generalize hna : a.length = n at *
  have HAL := Lib.hid hna
  clear hl hna
  go_enter Try.func22, Try.ntmps22
  go_wp2
  go_loopg [5, 6] n (fun g s5 s6 wr => ∃ p : Nat, p ≤ n ∧ n - p ≤ g ∧ s6 = .int .i64 p ∧ Aside (Row wr w.heap.size 3 1 s5 p ((zipTo max a b p).map (Value.int .i64))) ∧ Aside (Ext w wr))
  case atStart => exact ⟨0, Nat.zero_le _, by omega, rfl, (show Row _ _ _ _ _ _ _ from Row.mkNil _ _ _ _), Ext.rf _⟩
  case round =>
    obtain ⟨p, hp, hg, rfl, HR, HEK⟩ := hrel
    by_cases hlt : p < n
    · have hltz : (p : Int) < (n : Int) := by omega
      have hpz : (0 : Int) ≤ (p : Int) := by omega
      obtain ⟨b1, o1, rfl, hb1, hc1⟩ := ints_at HA.out p (by rw [HAL.out]; exact hlt)
      obtain ⟨b2, o2, rfl, hb2, hc2⟩ := ints_at HB.out p (by rw [← HBL.out]; first | exact hlt | (rw [HAL.out]; exact hlt))
      have d1 := HEK.out.cl hc1
      have d2 := HEK.out.cl hc2
      have hsz := HEK.out.sz
      have HZS := Lib.hid (zipTo_succ max a b p)
      generalize hx : a[p]! = x at *
      generalize hy : b[p]! = y at *
      have l1 : b1 < wr.heap.size := World.block_lt_of_cell? wr _ d1
      have l2 : b1 ≠ wr.heap.size := by omega
      have l3 : b2 < wr.heap.size := World.block_lt_of_cell? wr _ d2
      have l4 : b2 ≠ wr.heap.size := by omega
      clear hx hy hc1 hc2 hb1 hb2
      have HZV := Lib.hid (show max x y = (if x < y then y else x) from by split <;> omega)
      go_wp2
      go_region_law ((refine step_append_rowN (by rfl) _ _ 25 (by rfl) w.heap.size 3 ii (.int .i64 0) 1 8 Try.underlying25 hii iz0 iz1 iz2 rfl (by decide) u5 p _ (by rfl) (by first | exact HR.out.al _ | exact (HR.out.al _).ext ((Ext.rf _).dr) | exact (HR.out.ext ((Ext.rf _).dr)).al _ | exact ((HR.out.ext ((Ext.rf _).dr)).al _).ext ((Ext.rf _).dr)) wr.heap.size 1 [_] (by rfl) rfl (by first | exact ⟨(0, 0), heap_new_eq (by simp)⟩ | exact ⟨(0, 0), (Ext.rf _).dr.hp (heap_new_eq (by simp))⟩ | exact ⟨(0, 0), heap_alloc_new _ _⟩) (by simp [Value.oneCell']) (by unfold maxLen; omega) (by omega) (by first | (simp; omega) | (simp [World.drew]; omega)) ?_; intro v5 w5 hown5 hgrow5 hblk5))
      all_goals
        have hX5 : Ext w w5 := (by first | exact (HEK.out.al _).gr hgrow5 (fun q hq => (HR.out.lt q hq).1) | exact (HEK.out.al _).dr.gr hgrow5 (fun q hq => (HR.out.lt q hq).1) | exact (HEK.out.dr.al _).gr hgrow5 (fun q hq => (HR.out.lt q hq).1) | exact ((HEK.out.dr.al _).dr).gr hgrow5 (fun q hq => (HR.out.lt q hq).1))
        have HX5 := Lib.hid hX5
        have HO5 := Lib.hid hown5
        clear hX5 hown5 hgrow5 hblk5
        go_wp2
        all_goals
          go_roundg (n - (p + 1))
          case measure => omega
          case rel => exact ⟨p + 1, by omega, by omega, by go_num, (show Row _ _ _ _ _ _ _ from by rw [HZS.out, HZV.out, List.map_append]; first | exact HO5.out | exact HO5.out.ext ((Ext.rf _).dr)), (show Ext _ _ from by first | exact HX5.out | exact HX5.out.dr)⟩
    · have hltz : ¬ (p : Int) < (n : Int) := by omega
      obtain rfl : n = p := by omega
      go_wp2
      go_ret
      exact ⟨_, rfl, by rw [zipTo_len]; exact HR.out, HEK.out⟩

set_option maxHeartbeats 8000000 in
set_option maxRecDepth 100000 in
theorem meetR_calls (va vb : Value) (a b : List Int) (w : World) (ha : Ints w va a) (hb : Ints w vb b) (hl : a.length = b.length) (hn : a.length ≤ 1000000) :
    Calls Try.prog 23 #[va, vb] w fun e w' => IntsOut w w' e (meetC a b) := by
  have HA := Lib.hid ha
  have HB := Lib.hid hb
  obtain ⟨ii, hii, iz0, iz1, iz2⟩ := info_parts info_int3
  obtain ⟨aa, ac, rfl, hac, _⟩ := ha
  obtain ⟨ba, bc, rfl, hbc, _⟩ := hb
  have HO : Hid (meetC a b = zipTo min a b a.length) := Lib.hid rfl
  rw [HO.out]
  rw [← hl] at hbc ⊢
  have HBL := Lib.hid hl
  generalize hna : a.length = n at *
  have HAL := Lib.hid hna
  clear hl hna
  go_enter Try.func23, Try.ntmps23
  go_wp2
  go_loopg [5, 6] n (fun g s5 s6 wr => ∃ p : Nat, p ≤ n ∧ n - p ≤ g ∧ s6 = .int .i64 p ∧ Aside (Row wr w.heap.size 3 1 s5 p ((zipTo min a b p).map (Value.int .i64))) ∧ Aside (Ext w wr))
  case atStart => exact ⟨0, Nat.zero_le _, by omega, rfl, (show Row _ _ _ _ _ _ _ from Row.mkNil _ _ _ _), Ext.rf _⟩
  case round =>
    obtain ⟨p, hp, hg, rfl, HR, HEK⟩ := hrel
    by_cases hlt : p < n
    · have hltz : (p : Int) < (n : Int) := by omega
      have hpz : (0 : Int) ≤ (p : Int) := by omega
      obtain ⟨b1, o1, rfl, hb1, hc1⟩ := ints_at HA.out p (by rw [HAL.out]; exact hlt)
      obtain ⟨b2, o2, rfl, hb2, hc2⟩ := ints_at HB.out p (by rw [← HBL.out]; first | exact hlt | (rw [HAL.out]; exact hlt))
      have d1 := HEK.out.cl hc1
      have d2 := HEK.out.cl hc2
      have hsz := HEK.out.sz
      have HZS := Lib.hid (zipTo_succ min a b p)
      generalize hx : a[p]! = x at *
      generalize hy : b[p]! = y at *
      have l1 : b1 < wr.heap.size := World.block_lt_of_cell? wr _ d1
      have l2 : b1 ≠ wr.heap.size := by omega
      have l3 : b2 < wr.heap.size := World.block_lt_of_cell? wr _ d2
      have l4 : b2 ≠ wr.heap.size := by omega
      clear hx hy hc1 hc2 hb1 hb2
      have HZV := Lib.hid (show min x y = (if y < x then y else x) from by split <;> omega)
      go_wp2
      go_region_law ((refine step_append_rowN (by rfl) _ _ 25 (by rfl) w.heap.size 3 ii (.int .i64 0) 1 8 Try.underlying25 hii iz0 iz1 iz2 rfl (by decide) u5 p _ (by rfl) (by first | exact HR.out.al _ | exact (HR.out.al _).ext ((Ext.rf _).dr) | exact (HR.out.ext ((Ext.rf _).dr)).al _ | exact ((HR.out.ext ((Ext.rf _).dr)).al _).ext ((Ext.rf _).dr)) wr.heap.size 1 [_] (by rfl) rfl (by first | exact ⟨(0, 0), heap_new_eq (by simp)⟩ | exact ⟨(0, 0), (Ext.rf _).dr.hp (heap_new_eq (by simp))⟩ | exact ⟨(0, 0), heap_alloc_new _ _⟩) (by simp [Value.oneCell']) (by unfold maxLen; omega) (by omega) (by first | (simp; omega) | (simp [World.drew]; omega)) ?_; intro v5 w5 hown5 hgrow5 hblk5))
      all_goals
        have hX5 : Ext w w5 := (by first | exact (HEK.out.al _).gr hgrow5 (fun q hq => (HR.out.lt q hq).1) | exact (HEK.out.al _).dr.gr hgrow5 (fun q hq => (HR.out.lt q hq).1) | exact (HEK.out.dr.al _).gr hgrow5 (fun q hq => (HR.out.lt q hq).1) | exact ((HEK.out.dr.al _).dr).gr hgrow5 (fun q hq => (HR.out.lt q hq).1))
        have HX5 := Lib.hid hX5
        have HO5 := Lib.hid hown5
        clear hX5 hown5 hgrow5 hblk5
        go_wp2
        all_goals
          go_roundg (n - (p + 1))
          case measure => omega
          case rel => exact ⟨p + 1, by omega, by omega, by go_num, (show Row _ _ _ _ _ _ _ from by rw [HZS.out, HZV.out, List.map_append]; first | exact HO5.out | exact HO5.out.ext ((Ext.rf _).dr)), (show Ext _ _ from by first | exact HX5.out | exact HX5.out.dr)⟩
    · have hltz : ¬ (p : Int) < (n : Int) := by omega
      obtain rfl : n = p := by omega
      go_wp2
      go_ret
      exact ⟨_, rfl, by rw [zipTo_len]; exact HR.out, HEK.out⟩

end Go.Proofs.Ytijncboddmjdcaa

/-
  A region that draws its order, taken by hand: an operation that yields whatever the world, with its slot named. No program is named here.
-/
namespace Go.Proofs.Ytijncboddmjdcaa
open Go.RowKit
set_option linter.unusedVariables false

theorem ry_take {P : Program} {md : Region.Mode} {ops : Array Oper} {Q : Exit → Act → World → Prop} {i d : Nat} {oi : Oper} {v : Value} {fuel : Nat} {listed : Array Bool} {a : Act} {w : World} (hi : ops[i]? = some oi) (hd : oi.dst = some d)
    (hs : Region.noSelect ops = true) (hf : Region.free md ops listed i = true) (hr : (Region.ready md ops listed).contains i = true)
    (hQ : ∀ c a w, Q (.panic c) (a.put (some d) v) w → Q (.panic c) a w) (hy : Yields P ops oi v a)
    (h : wpAny P md ops Q fuel (listed.setIfInBounds i true) (a.put (some d) v) w) : wpAny P md ops Q (fuel + 1) listed a w := by
  rw [← hd] at hQ h
  exact wpAny_take hi hs hf hr hQ hy h

end Go.Proofs.Ytijncboddmjdcaa

/-
  Frontiers, single steps and the enabled processes in the reference.
-/
namespace Go.Proofs.Ytijncboddmjdcaa
open Go.RowKit
set_option linter.unusedVariables false
attribute [local go_sem ↓] Go.wp_at_zero Go.wp_at_succ

def PairsOut (w w' : World) (e : Ending) (l : List (Int × Int)) : Prop := ∃ v, e = .returned v ∧ Row w' w.heap.size 44 2 v l.length (l.flatMap prC) ∧ Ext w w'

set_option maxHeartbeats 8000000 in
set_option maxRecDepth 100000 in
theorem frontierR_calls (vc : Value) (c : List Int) (w : World) (hc : Ints w vc c) (hn : c.length ≤ 1000000) :
    Calls Try.prog 29 #[vc] w fun e w' => PairsOut w w' e (frontC c) := by
  have HCC := Lib.hid hc
  obtain ⟨ie, hie, iz0, iz1, iz2⟩ := info_parts info_eid
  obtain ⟨ca, cc, rfl, hlc, _⟩ := hc
  have HO : Hid (frontC c = frTo c c.length) := Lib.hid rfl
  rw [HO.out]
  generalize hM : c.length = M at *
  have HM := Lib.hid hM
  clear hM
  go_enter Try.func29, Try.ntmps29
  go_wp2
  go_loopg [3, 4] M (fun g s3 s4 wr => ∃ p : Nat, p ≤ M ∧ M - p ≤ g ∧ s4 = .int .i64 p ∧ Aside (Row wr w.heap.size 44 2 s3 (frTo c p).length ((frTo c p).flatMap prC)) ∧ Aside (Ext w wr))
  case atStart => exact ⟨0, Nat.zero_le _, by omega, rfl, (show Row _ _ _ _ _ _ _ from Row.mkNil _ _ _ _), Ext.rf _⟩
  case round =>
    obtain ⟨p, hp, hg, rfl, HR, HEK⟩ := hrel
    by_cases hlt : p < M
    · have hltz : (p : Int) < (M : Int) := by omega
      have hpz : (0 : Int) ≤ (p : Int) := by omega
      obtain ⟨cb, co, rfl, hcb, hcp⟩ := ints_at HCC.out p (by rw [HM.out]; exact hlt)
      have hc1 := HEK.out.cl hcp
      have hel := frTo_len c p
      have hsz := HEK.out.sz
      generalize hk : c[p]! = k at *
      have HK := Lib.hid hk
      clear hcp hk
      by_cases hkp : 0 < k
      · have d1 : decide (0 < k) = true := decide_eq_true hkp
        have HY := Lib.hid (frTo_yes (c := c) (p := p) (by rw [HK.out]; exact hkp))
        rw [HK.out] at HY
        clear hkp
        generalize hell : (frTo c p).length = ell at *
        have HELL := Lib.hid hell
        clear hell
        go_wp2_with ((at_builtin; go_loud (refine wpList_append_one rfl _ _ 36 rfl w.heap.size 44 ie (.agg #[.int .i64 0, .int .i64 0]) 2 16 Try.underlying36 hie iz0 iz1 iz2 rfl (by decide) _ ell _ rfl (HR.out.al _) wr.heap.size 1 [.int .i64 p, .int .i64 k] rfl rfl ⟨_, heap_alloc_new _ _⟩ (by simp [Value.oneCell']) (by unfold maxLen; omega) (by omega) (by simp; omega) ?_; intro v8 w8 hown8 hgrow8 hblk8; have HOWN := Lib.hid hown8; have HX8 := Lib.hid ((HEK.out.al _).gr hgrow8 (fun q hq => (HR.out.lt q hq).1)); clear hown8 hgrow8 hblk8)))
        go_roundg (M - (p + 1))
        case measure => omega
        case rel =>
          refine ⟨p + 1, by omega, by omega, by go_num, (show Row _ _ _ _ _ _ _ from ?_), (show Ext _ _ from HX8.out)⟩
          rw [HY.out, List.length_append, List.flatMap_append, HELL.out]
          exact HOWN.out
      · have d1 : decide (0 < k) = false := decide_eq_false hkp
        have HY := Lib.hid (frTo_no (c := c) (p := p) (by rw [HK.out]; exact hkp))
        clear hkp
        go_wp2
        go_roundg (M - (p + 1))
        case measure => omega
        case rel => exact ⟨p + 1, by omega, by omega, by go_num, (show Row _ _ _ _ _ _ _ from by rw [HY.out]; exact HR.out), (show Ext _ _ from HEK.out)⟩
    · have hltz : ¬ (p : Int) < (M : Int) := by omega
      obtain rfl : M = p := by omega
      go_wp2
      go_ret
      exact ⟨_, rfl, HR.out, HEK.out⟩

/-! ### A copy by 'append([]int{}, c...)' -/
theorem row_empty (w : World) (e : TypeId) (size : Nat) : Row (w.alloc (.cells #[] e)) w.heap.size e size (.slice (some ⟨w.heap.size, 0, none⟩) 0 0) 0 [] :=
  ⟨by simp, .inr ⟨w.heap.size, 0, 0, #[], rfl, Nat.le_refl _, heap_alloc_new w _, Nat.le_refl _, Nat.zero_le _, by simp, by simp⟩⟩
theorem ints_news {w W : World} {a : Option Addr} {m c : Nat} {l : List Int} (h : Ints w (.slice a m c) l) (hX : Ext w W) : 0 < m → ∃ ad, a = some ad ∧ ∀ (j : Nat) u, (l.map (Value.int .i64))[j]? = some u → W.cell? (ad.add j) = some u := by
  intro hm
  obtain ⟨a', c', he, _, hh⟩ := h
  simp only [Value.slice.injEq] at he
  obtain ⟨rfl, rfl, rfl⟩ := he
  obtain ⟨b, off, rfl, hb, hc⟩ := hh (by rintro rfl; simp at hm)
  refine ⟨_, rfl, fun j u hj => ?_⟩
  rw [List.getElem?_map] at hj
  cases hl : l[j]? with
  | none => rw [hl] at hj; cases hj
  | some x =>
    rw [hl] at hj
    simp only [Option.map_some, Option.some.injEq] at hj
    obtain ⟨hlt, hx⟩ := List.getElem?_eq_some_iff.1 hl
    rw [Addr.add_lit]
    have := hX.cl (hc j hlt)
    rw [this, getElem!_pos l j hlt, hx, hj]

set_option maxHeartbeats 4000000 in
set_option maxRecDepth 100000 in
theorem withR_calls (vc : Value) (c : List Int) (p : Nat) (w : World) (hc : Ints w vc c) (hn : c.length ≤ 1000000) (hp : p < c.length) (hk : 0 ≤ c[p]! ∧ c[p]! ≤ 1000000) :
    Calls Try.prog 32 #[vc, .int .i64 p] w fun e w' => IntsOut w w' e (withC c p) := by
  have HCC := Lib.hid hc
  obtain ⟨ii, hii, iz0, iz1, iz2⟩ := info_parts info_int3
  obtain ⟨ca, cc, rfl, hlc, _⟩ := hc
  have HNW := Lib.hid (ints_news HCC.out ((Ext.rf w).al (.cells #[] 3)))
  obtain ⟨k, hkk⟩ : ∃ k, c[p]! = k := ⟨_, rfl⟩
  have HKK := Lib.hid hkk
  rw [hkk] at hk
  have HO : Hid (withC c p = c.set p (k + 1)) := Lib.hid (by unfold withC; rw [hkk])
  rw [HO.out]
  have hk1 := hk.1
  have hk2 := hk.2
  generalize hM : c.length = M at *
  have HM := Lib.hid hM
  have hpz : (0 : Int) ≤ (p : Int) := by omega
  have hpi : (p : Int) < (M : Int) := by omega
  clear hM hkk hk
  go_enter Try.func32, Try.ntmps32
  go_wp2_with ((at_builtin; go_loud (refine wpList_append_row rfl _ _ 25 rfl w.heap.size 3 ii (.int .i64 0) 1 8 Try.underlying25 hii iz0 iz1 iz2 rfl (by decide) _ 0 [] rfl (row_empty w _ _) _ M cc (c.map (Value.int .i64)) rfl (by simp [HM.out]) HNW.out (by simp [Value.oneCell']) (by unfold maxLen; omega) (by omega) (by simp) ?_; intro v5 w5 hown5 hgrow5 hblk5; rw [Nat.zero_add, List.nil_append] at hown5; obtain ⟨G, O9, cap, rfl, hG, hG2, _⟩ := hown5.shape (by omega); have HOWN := Lib.hid hown5; have HX5 := Lib.hid (((Ext.rf w).al _).gr hgrow5 (fun q hq => ((row_empty w 3 1).lt q hq).1)); have hcell := hown5.cell p (by omega); have hfree := hown5.free (O9 + p); rw [List.getElem?_map, List.getElem?_eq_getElem (by rw [HM.out]; exact hp), Option.map_some, ← getElem!_pos c p (by rw [HM.out]; exact hp), HKK.out] at hcell; have HG := Lib.hid hG; clear hown5 hgrow5 hblk5 hG)))
  go_ret
  refine ⟨_, rfl, ?_, HX5.out.st HG.out _⟩
  have := HOWN.out.set p (.int .i64 (k + 1)) (by omega)
  rw [← List.map_set] at this
  rw [List.length_set, HM.out]
  exact this

set_option maxHeartbeats 4000000 in
set_option maxRecDepth 100000 in
theorem moreR_calls (v vc : Value) (t : Tr) (c : List Int) (p : Nat) (w : World) (h : TrAt w v t) (hs : SmallTr t) (hc : Ints w vc c) (hl : c.length = t.length) (hp : p < t.length) :
    Calls Try.prog 31 #[.agg #[v], vc, .int .i64 p] w fun e w' => e = .returned (.bool (decide (c[p]! < (t[p]!.events.length : Int)))) ∧ Ext w w' := by
  obtain ⟨B, O, C, vv, ve, rfl, hlC, hB, hn0, hv0, he0, hV, hE0⟩ := proc_at h p hp
  obtain ⟨ea, ec, rfl, hec⟩ := hE0.sh
  obtain ⟨cb, co, cc, rfl, hlc, hcb, hcp⟩ := hc.at1 p (by rw [hl]; exact hp)
  have hn := hs.1
  have hen := (hs.2 p hp).2.1
  rw [hl] at hlc ⊢
  obtain ⟨r, hr⟩ : ∃ r, decide (c[p]! < (t[p]!.events.length : Int)) = r := ⟨_, rfl⟩
  rw [hr]
  generalize t[p]!.events.length = ne at *
  generalize c[p]! = k at *
  generalize t.length = n at *
  have HE1 := Lib.hid ((Ext.rf w).al (.cells #[.slice (some ⟨B, O, none⟩) n C] 24))
  have HX0 := Lib.hid (heap_alloc_new w (.cells #[.slice (some ⟨B, O, none⟩) n C] 24))
  have he1 := HE1.out.cl he0
  have hc1 := HE1.out.cl hcp
  have hpz : (0 : Int) ≤ (p : Int) := by omega
  have hpi : (p : Int) < (n : Int) := by omega
  clear h hs hc hl hn0 hv0 he0 hV hE0 hcp
  go_enter Try.func31, Try.ntmps31
  generalize hw1 : w.alloc (.cells #[.slice (some ⟨B, O, none⟩) n C] 24) = w1 at *
  have t0 := cellOf HX0.out 0
  simp only [List.getElem?_toArray, List.getElem?_cons_zero] at t0
  go_wp2
  go_quiet (fail)
  go_wp2
  go_ret
  exact ⟨rfl, HE1.out.drN _⟩

set_option maxHeartbeats 1000000 in
theorem procR_calls (v : Value) (t : Tr) (p : Int) (w : World) (h : TrAt w v t) (hs : SmallTr t) :
    Calls Try.prog 27 #[.agg #[v], .int .i64 p] w fun e w' => e = .returned (.bool (decide (0 ≤ p) && decide (p < (t.length : Int)))) ∧ Ext w w' := by
  obtain ⟨ta, tc, rfl, htc⟩ := h.sh
  have hn1 := hs.1
  generalize t.length = N at *
  have HE1 := Lib.hid ((Ext.rf w).al (.cells #[.slice ta N tc] 24))
  clear h hs
  by_cases h1 : 0 ≤ p
  · have d1 : decide (0 ≤ p) = true := decide_eq_true h1
    obtain ⟨r, hr⟩ : ∃ r, decide (p < (N : Int)) = r := ⟨_, rfl⟩
    rw [d1, hr]
    clear h1
    go_enter Try.func27, Try.ntmps27
    go_wp2
    go_ret
    exact ⟨by simp, HE1.out⟩
  · have d1 : decide (0 ≤ p) = false := decide_eq_false h1
    rw [d1]
    clear h1
    go_enter Try.func27, Try.ntmps27
    go_wp2
    go_ret
    exact ⟨by simp, HE1.out⟩

def lensTo (t : Tr) (p : Nat) : List Int := (List.range p).map fun (q : Nat) => (t[q]!.events.length : Int)
def lensC (t : Tr) : List Int := lensTo t t.length
theorem lensTo_succ (t : Tr) (p : Nat) : lensTo t (p + 1) = lensTo t p ++ [(t[p]!.events.length : Int)] := by
  unfold lensTo; rw [List.range_succ, List.map_append]; rfl
theorem lensTo_len (t : Tr) (p : Nat) : (lensTo t p).length = p := by simp [lensTo]
set_option maxHeartbeats 8000000 in
set_option maxRecDepth 100000 in
theorem lengthsR_calls (v : Value) (t : Tr) (w : World) (h : TrAt w v t) (hs : SmallTr t) :
    Calls Try.prog 42 #[.agg #[v]] w fun e w' => IntsOut w w' e (lensC t) := by
  have HT := Lib.hid h
  have HS := Lib.hid hs
  obtain ⟨ii, hii, iz0, iz1, iz2⟩ := info_parts info_int3
  obtain ⟨ta, tc, rfl, htc⟩ := h.sh
  have hn1 := hs.1
  have HO : Hid (lensC t = lensTo t t.length) := Lib.hid rfl
  rw [HO.out]
  generalize hln : t.length = n at *
  have HL := Lib.hid hln
  have HX0 := Lib.hid (heap_alloc_new w (.cells #[.slice ta n tc] 24))
  have HE1 := Lib.hid ((Ext.rf w).al (.cells #[.slice ta n tc] 24))
  clear h hs hln
  go_enter Try.func42, Try.ntmps42
  go_wp2
  generalize hw2 : w.alloc (.cells #[.slice ta n tc] 24) = w2 at *
  clear hw2
  go_loopg [3, 4] n (fun g s3 s4 wr => ∃ p : Nat, p ≤ n ∧ n - p ≤ g ∧ s4 = .int .i64 p ∧ Aside (Row wr w2.heap.size 3 1 s3 p ((lensTo t p).map (Value.int .i64))) ∧ Aside (Ext w2 wr))
  case atStart => exact ⟨0, Nat.zero_le _, by omega, rfl, (show Row _ _ _ _ _ _ _ from Row.mkNil _ _ _ _), Ext.rf _⟩
  case round =>
    obtain ⟨p, hp, hg, rfl, HR, HEK⟩ := hrel
    have HEW := Lib.hid (HE1.out.trans' HEK.out)
    have HY0 := Lib.hid (HEK.out.hp HX0.out)
    have t0 := cellOf HY0.out 0
    simp only [List.getElem?_toArray, List.getElem?_cons_zero] at t0
    by_cases hlt : p < n
    · have hltz : (p : Int) < (n : Int) := by omega
      have hpz : (0 : Int) ≤ (p : Int) := by omega
      obtain ⟨B, O, C, vv, ve, hve, hlC, hB, hn0, hv0, he0, hV, hE0⟩ := proc_at HT.out p (by rw [HL.out]; exact hlt)
      simp only [Value.slice.injEq] at hve
      obtain ⟨rfl, hzz, rfl⟩ := hve
      obtain ⟨ea, ec, rfl, hec⟩ := hE0.sh
      have he1 := HEW.out.cl he0
      have hen := (HS.out.2 p (by rw [HL.out]; exact hlt)).2.1
      have HLS := Lib.hid (lensTo_succ t p)
      generalize hne : t[p]!.events.length = ne at *
      have hsz := HEK.out.sz
      clear hn0 hv0 hV hE0 hzz hne he0
      go_wp2_with ((at_builtin; go_loud (refine wpList_append_one rfl _ _ 25 rfl w2.heap.size 3 ii (.int .i64 0) 1 8 Try.underlying25 hii iz0 iz1 iz2 rfl (by decide) _ p _ rfl (HR.out.al _) wr.heap.size 1 [.int .i64 (ne : Int)] rfl rfl ⟨_, heap_alloc_new _ _⟩ (by simp [Value.oneCell']) (by unfold maxLen; omega) (by omega) (by simp; omega) ?_; intro v8 w8 hown8 hgrow8 hblk8; have HOWN := Lib.hid hown8; have HX8 := Lib.hid ((HEK.out.al _).gr hgrow8 (fun q hq => (HR.out.lt q hq).1)); clear hown8 hgrow8 hblk8)))
      go_roundg (n - (p + 1))
      case measure => omega
      case rel => exact ⟨p + 1, by omega, by omega, by go_num, (show Row _ _ _ _ _ _ _ from by rw [HLS.out, List.map_append]; exact HOWN.out), (show Ext _ _ from HX8.out)⟩
    · have hltz : ¬ (p : Int) < (n : Int) := by omega
      obtain rfl : n = p := by omega
      go_wp2
      go_ret
      exact ⟨_, rfl, by rw [lensTo_len]; exact HR.out.mono HE1.out.sz, HEW.out⟩

set_option maxHeartbeats 8000000 in
set_option maxRecDepth 100000 in
theorem enabledR_calls (v vc : Value) (t : Tr) (c : List Int) (w : World) (h : TrAt w v t) (hs : SmallTr t) (hv : validT t = true) (hc : Ints w vc c) (hr : RangeC t c) :
    Calls Try.prog 30 #[.agg #[v], vc] w fun e w' => IntsOut w w' e (enabledC t c) := by
  have HCC := Lib.hid hc
  have HR0 := Lib.hid hr
  obtain ⟨ii, hii, iz0, iz1, iz2⟩ := info_parts info_int3
  have HMO := Lib.hid (fun W (hW : Ext w W) p hp => moreR_calls v vc t c p W (h.ext hW) hs (hc.ext hW) hr.1 hp)
  have HSE := Lib.hid (fun W (hW : Ext w W) p i (hx : Inn t (p, i)) => sentR_calls v vc t c p i W (h.ext hW) hs hv (hc.ext hW) hr.1 hx)
  obtain ⟨ta, tc, rfl, htc⟩ := h.sh
  obtain ⟨ca, cc, rfl, hlc, _⟩ := hc
  have hn1 := hs.1
  have HO : Hid (enabledC t c = enTo t c c.length) := Lib.hid rfl
  rw [HO.out]
  rw [hr.1] at hlc HMO HSE ⊢
  have HCL := Lib.hid hr.1
  generalize hln : t.length = n at *
  have HL := Lib.hid hln
  have HX0 := Lib.hid (heap_alloc_new w (.cells #[.slice ta n tc] 24))
  have HE1 := Lib.hid ((Ext.rf w).al (.cells #[.slice ta n tc] 24))
  clear h hs hln hr hv
  go_enter Try.func30, Try.ntmps30
  go_wp2
  generalize hw2 : w.alloc (.cells #[.slice ta n tc] 24) = w2 at *
  clear hw2
  go_loopg [5, 6] n (fun g s5 s6 wr => ∃ p : Nat, p ≤ n ∧ n - p ≤ g ∧ s6 = .int .i64 p ∧ Aside (Row wr w2.heap.size 3 1 s5 (enTo t c p).length ((enTo t c p).map (Value.int .i64))) ∧ Aside (Ext w2 wr))
  case atStart => exact ⟨0, Nat.zero_le _, by omega, rfl, (show Row _ _ _ _ _ _ _ from Row.mkNil _ _ _ _), Ext.rf _⟩
  case round =>
    obtain ⟨p, hp, hg, rfl, HR, HEK⟩ := hrel
    have HEW := Lib.hid (HE1.out.trans' HEK.out)
    have HY0 := Lib.hid (HEK.out.hp HX0.out)
    have t0 := cellOf HY0.out 0
    simp only [List.getElem?_toArray, List.getElem?_cons_zero] at t0
    by_cases hlt : p < n
    · have hltz : (p : Int) < (n : Int) := by omega
      have hpz : (0 : Int) ≤ (p : Int) := by omega
      have HPL := Lib.hid (show p < t.length from by rw [HL.out]; exact hlt)
      obtain ⟨cb, co, rfl, hcb, hcp⟩ := ints_at HCC.out p (by rw [HCL.out]; exact hlt)
      have hc1 := HEW.out.cl hcp
      have hkr := HR0.out.at HPL.out
      have HCM := Lib.hid (fun W (hW : Ext w W) => HMO.out W hW p (by first | exact hlt | exact HPL.out))
      obtain ⟨k, hk⟩ : ∃ k : Nat, c[p]! = (k : Int) := ⟨c[p]!.toNat, by omega⟩
      have HCS := Lib.hid (fun W (hW : Ext w W) (hi : (k : Int) < (t[p]!.events.length : Int)) => HSE.out W hW p k ⟨HPL.out, by show k < t[p]!.events.length; omega⟩)
      have HNO : Hid (¬ c[p]! < (t[p]!.events.length : Int) → enC t c p = false) := Lib.hid (fun hno => by unfold enC; rw [decide_eq_false hno]; rfl)
      have HYE : Hid (c[p]! < (t[p]!.events.length : Int) → enC t c p = sentB t c (p, k)) := Lib.hid (fun hyes => by unfold enC; rw [decide_eq_true hyes, hk]; simp)
      rw [hk] at hc1 HNO HYE HCM
      generalize sentB t c (p, k) = sb at *
      generalize hne : (t[p]!.events.length : Int) = ne at *
      have hel := enTo_len t c p
      have hsz := HEK.out.sz
      clear hk hcp hkr hne
      by_cases hkn : (k : Int) < ne
      · have d1 : decide ((k : Int) < ne) = true := decide_eq_true hkn
        rw [d1] at HCM
        have HEC := Lib.hid (HYE.out hkn)
        have HCW := Lib.hid (fun W hW => HCS.out W hW hkn)
        clear hkn d1 HCS HYE HNO HMO HSE
        go_upto_region 5 with (fail)
        go_cut [26] (fun s26 wx => s26 = .bool sb ∧ Aside (Ext wr wx))
        case first =>
          go_wp2
          go_region_with (first | (go_at_call 31; refine (HCM.out _ (by first | exact HEW.out | exact HEW.out.dr | exact HEW.out.dr.dr)).mono ?_; rintro e w8 ⟨rfl, hX8⟩; have t8 : w8.cell? ⟨w.heap.size, 0, none⟩ = some (.slice ta n tc) := hX8.cl t0; have c8 : w8.cell? ⟨cb, co + p, none⟩ = some (.int .i64 (k : Int)) := hX8.cl hc1; have HX8 := Lib.hid (show Ext wr w8 from by first | exact hX8 | exact (Ext.rf wr).dr.trans' hX8 | exact (Ext.rf wr).dr.dr.trans' hX8); clear hX8) | (go_at_call 58; refine (HCW.out _ (by first | exact HEW.out.trans' HX8.out | exact (HEW.out.trans' HX8.out).dr | exact (HEW.out.trans' HX8.out).dr.dr)).mono ?_; rintro e w9 ⟨rfl, hX9⟩; have HX9 := Lib.hid (show Ext wr w9 from by first | exact HX8.out.trans' hX9 | exact HX8.out.dr.trans' hX9 | exact HX8.out.dr.dr.trans' hX9); clear hX9))
          all_goals
            go_wp2
            go_meet
            exact ⟨rfl, (show Ext wr _ from by first | exact HX9.out | exact HX9.out.dr)⟩
        case rest =>
          obtain ⟨rfl, HXW⟩ := hcut
          have HEK3 := Lib.hid (HEK.out.trans' HXW.out)
          have HR3 := Lib.hid (HR.out.ext HXW.out)
          have hsz3 := HEK3.out.sz
          clear t0 hc1
          cases sb with
          | false =>
            go_wp2
            go_roundg (n - (p + 1))
            case measure => omega
            case rel => exact ⟨p + 1, by omega, by omega, by go_num, (show Row _ _ _ _ _ _ _ from by rw [enTo_no HEC.out]; exact HR3.out), (show Ext _ _ from HEK3.out)⟩
          | true =>
            generalize hell : (enTo t c p).length = ell at *
            have HELL := Lib.hid hell
            clear hell
            go_wp2_with ((at_builtin; go_loud (refine wpList_append_one rfl _ _ 25 rfl w2.heap.size 3 ii (.int .i64 0) 1 8 Try.underlying25 hii iz0 iz1 iz2 rfl (by decide) _ ell _ rfl (HR3.out.al _) _ 1 [.int .i64 p] rfl rfl ⟨_, heap_alloc_new _ _⟩ (by simp [Value.oneCell']) (by unfold maxLen; omega) (by omega) (by simp; omega) ?_; intro v8 w8 hown8 hgrow8 hblk8; have HOWN := Lib.hid hown8; have HX8 := Lib.hid ((HEK3.out.al _).gr hgrow8 (fun q hq => (HR3.out.lt q hq).1)); clear hown8 hgrow8 hblk8)))
            go_roundg (n - (p + 1))
            case measure => omega
            case rel =>
              refine ⟨p + 1, by omega, by omega, by go_num, (show Row _ _ _ _ _ _ _ from ?_), (show Ext _ _ from HX8.out)⟩
              rw [enTo_yes HEC.out, List.length_append, List.map_append, HELL.out]
              exact HOWN.out
      · have d1 : decide ((k : Int) < ne) = false := decide_eq_false hkn
        rw [d1] at HCM
        have HEC := Lib.hid (HNO.out hkn)
        clear hkn d1 HCS HYE HNO HMO HSE
        go_upto_region 5 with (fail)
        go_cut [26] (fun s26 wx => s26 = .bool false ∧ Aside (Ext wr wx))
        case first =>
          go_wp2
          refine wp_region_any (by kernel_rfl) ?_
          try (change wpAny _ _ _ _ _ _ _ (World.drew _))
          refine ry_take (i := 1) (d := 14) (v := ?_) rfl rfl (by kernel_rfl) (by kernel_rfl) (by kernel_rfl) (fun _ _ _ h => h) (Or.inl ⟨by kernel_rfl, ?_⟩) ?_
          rotate_left
          · (intro w; go_simp; try (with_reducible rfl))
          try simp only [Act.put]
          try simp only [List.setIfInBounds_toArray]
          try simp only [List.set_cons_zero, List.set_cons_succ]
          refine ry_take (i := 2) (d := 15) (v := ?_) rfl rfl (by kernel_rfl) (by kernel_rfl) (by kernel_rfl) (fun _ _ _ h => h) (Or.inl ⟨by kernel_rfl, ?_⟩) ?_
          rotate_left
          · (intro w; go_simp; try (with_reducible rfl))
          try simp only [Act.put]
          try simp only [List.setIfInBounds_toArray]
          try simp only [List.set_cons_zero, List.set_cons_succ]
          refine wpAny_ready (rs := [0]) (by kernel_rfl) (by simp) ?_
          refine AllReady.cons rfl (fun K hK => ?_) AllReady.nil
          go_simp
          (refine hK _ _ ?_; clear hK K)
          try simp only [Act.put]
          try simp only [List.setIfInBounds_toArray]
          try simp only [List.set_cons_zero, List.set_cons_succ]
          refine wpAny_ready (rs := [3]) (by kernel_rfl) (by simp) ?_
          refine AllReady.cons rfl (fun K hK => ?_) AllReady.nil
          go_simp
          go_wp2_with ((go_at_call 31; refine (HCM.out _ (by first | exact HEW.out | exact HEW.out.dr | exact HEW.out.dr.dr)).mono ?_; rintro e w8 ⟨rfl, hX8⟩; have t8 : w8.cell? ⟨w.heap.size, 0, none⟩ = some (.slice ta n tc) := hX8.cl t0; have c8 : w8.cell? ⟨cb, co + p, none⟩ = some (.int .i64 (k : Int)) := hX8.cl hc1; have HX8 := Lib.hid (show Ext wr w8 from by first | exact hX8 | exact (Ext.rf wr).dr.trans' hX8 | exact (Ext.rf wr).dr.dr.trans' hX8); clear hX8))
          try (refine hK _ _ ?_; clear hK K)
          try simp only [Act.put]
          try simp only [List.setIfInBounds_toArray]
          try simp only [List.set_cons_zero, List.set_cons_succ]
          refine ry_take (i := 4) (d := 17) (v := ?_) rfl rfl (by kernel_rfl) (by kernel_rfl) (by kernel_rfl) (fun _ _ _ h => h) (Or.inl ⟨by kernel_rfl, ?_⟩) ?_
          rotate_left
          · (intro w; go_simp; try (with_reducible rfl))
          try simp only [Act.put]
          try simp only [List.setIfInBounds_toArray]
          try simp only [List.set_cons_zero, List.set_cons_succ]
          refine ry_take (i := 5) (d := 18) (v := undef) rfl rfl (by kernel_rfl) (by kernel_rfl) (by kernel_rfl) (fun _ _ _ h => h) (Or.inr ⟨by kernel_rfl, rfl⟩) ?_
          try simp only [Act.put]
          try simp only [List.setIfInBounds_toArray]
          try simp only [List.set_cons_zero, List.set_cons_succ]
          refine ry_take (i := 6) (d := 19) (v := undef) rfl rfl (by kernel_rfl) (by kernel_rfl) (by kernel_rfl) (fun _ _ _ h => h) (Or.inr ⟨by kernel_rfl, rfl⟩) ?_
          try simp only [Act.put]
          try simp only [List.setIfInBounds_toArray]
          try simp only [List.set_cons_zero, List.set_cons_succ]
          refine ry_take (i := 7) (d := 20) (v := undef) rfl rfl (by kernel_rfl) (by kernel_rfl) (by kernel_rfl) (fun _ _ _ h => h) (Or.inr ⟨by kernel_rfl, rfl⟩) ?_
          try simp only [Act.put]
          try simp only [List.setIfInBounds_toArray]
          try simp only [List.set_cons_zero, List.set_cons_succ]
          refine ry_take (i := 8) (d := 21) (v := undef) rfl rfl (by kernel_rfl) (by kernel_rfl) (by kernel_rfl) (fun _ _ _ h => h) (Or.inr ⟨by kernel_rfl, rfl⟩) ?_
          try simp only [Act.put]
          try simp only [List.setIfInBounds_toArray]
          try simp only [List.set_cons_zero, List.set_cons_succ]
          refine ry_take (i := 9) (d := 22) (v := undef) rfl rfl (by kernel_rfl) (by kernel_rfl) (by kernel_rfl) (fun _ _ _ h => h) (Or.inr ⟨by kernel_rfl, rfl⟩) ?_
          try simp only [Act.put]
          try simp only [List.setIfInBounds_toArray]
          try simp only [List.set_cons_zero, List.set_cons_succ]
          refine ry_take (i := 10) (d := 23) (v := undef) rfl rfl (by kernel_rfl) (by kernel_rfl) (by kernel_rfl) (fun _ _ _ h => h) (Or.inr ⟨by kernel_rfl, rfl⟩) ?_
          try simp only [Act.put]
          try simp only [List.setIfInBounds_toArray]
          try simp only [List.set_cons_zero, List.set_cons_succ]
          refine ry_take (i := 11) (d := 24) (v := undef) rfl rfl (by kernel_rfl) (by kernel_rfl) (by kernel_rfl) (fun _ _ _ h => h) (Or.inr ⟨by kernel_rfl, rfl⟩) ?_
          try simp only [Act.put]
          try simp only [List.setIfInBounds_toArray]
          try simp only [List.set_cons_zero, List.set_cons_succ]
          refine ry_take (i := 12) (d := 25) (v := undef) rfl rfl (by kernel_rfl) (by kernel_rfl) (by kernel_rfl) (fun _ _ _ h => h) (Or.inr ⟨by kernel_rfl, rfl⟩) ?_
          try simp only [Act.put]
          try simp only [List.setIfInBounds_toArray]
          try simp only [List.set_cons_zero, List.set_cons_succ]
          refine ry_take (i := 13) (d := 26) (v := ?_) rfl rfl (by kernel_rfl) (by kernel_rfl) (by kernel_rfl) (fun _ _ _ h => h) (Or.inl ⟨by kernel_rfl, ?_⟩) ?_
          rotate_left
          · (intro w; go_simp; try (with_reducible rfl))
          try simp only [Act.put]
          try simp only [List.setIfInBounds_toArray]
          try simp only [List.set_cons_zero, List.set_cons_succ]
          refine wpAny_done (by kernel_rfl) ?_ _
          go_wp2
          go_meet
          exact ⟨rfl, (show Ext wr _ from by first | exact HX8.out | exact HX8.out.dr)⟩
        case rest =>
          obtain ⟨rfl, HXW⟩ := hcut
          have HEK3 := Lib.hid (HEK.out.trans' HXW.out)
          have HR3 := Lib.hid (HR.out.ext HXW.out)
          clear t0 hc1
          go_wp2
          go_roundg (n - (p + 1))
          case measure => omega
          case rel => exact ⟨p + 1, by omega, by omega, by go_num, (show Row _ _ _ _ _ _ _ from by rw [enTo_no HEC.out]; exact HR3.out), (show Ext _ _ from HEK3.out)⟩
    · have hltz : ¬ (p : Int) < (n : Int) := by omega
      obtain rfl : n = p := by omega
      go_wp2
      go_ret
      exact ⟨_, rfl, HR.out.mono HE1.out.sz, HEW.out⟩

end Go.Proofs.Ytijncboddmjdcaa
