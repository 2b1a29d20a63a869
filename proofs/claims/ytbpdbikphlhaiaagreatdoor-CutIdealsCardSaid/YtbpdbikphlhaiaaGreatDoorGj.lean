import Derived.Test.YtbpdbikphlhaiaaGreatDoorGe
import Derived.Test.YtbpdbikphlhaiaaGreatDoorGi
import Derived.Test.YtbpdbikphlhaiaaGreatDoorGa
import Derived.Test.YtbpdbikphlhaiaaGreatDoorProg
import Derived.Test.YtbpdbikphlhaiaaGreatDoorGg
import Derived.Test.YtbpdbikphlhaiaaGreatDoorGc
import Derived.Laws.Shifts
import Derived.BigQuiet
import Derived.Deep.QuietTactic
import Derived.Deep.LoopGhost
import Derived.Shelf.Abstract
import Derived.Deep.DeepCutAuto
import Derived.BigRegion
import Derived.Laws.EntriesVeiled
namespace Go.Proofs.YtbpdbikphlhaiaaGreatDoor
set_option linter.unusedVariables false
abbrev Hb (t : Tr) (y x : Eid) : Prop := Relation.TransGen (Dir t) y x
theorem dir_in {t : Tr} {c : List Int} (hc : ConsC t c) {y x : Eid} (hd : Dir t y x) (hx : InC c x) : InC c y := by
 have hy := tg_inn_l (.single hd)
 obtain ⟨hix, h | ⟨hk, hs⟩⟩ := hd
 ·obtain ⟨y1, y2⟩ := y
  obtain ⟨x1, x2⟩ := x
  obtain ⟨rfl, rfl⟩ := h
  have h2 := hx.2
  simp only at h2
  exact ⟨hx.1, by show (y2 : Int) < c[y1]!; omega⟩
 ·have h1 := missE_none.1 hc.2 x hx
  rw [sentB_recv hk hs, decide_eq_true_eq] at h1
  exact ⟨by have := hy.1; have := hc.1.1; omega, by omega⟩
theorem cons_down {t : Tr} {c : List Int} (hv : validT t = true) (hr : RangeC t c) : ConsC t c ↔ ∀ x y, InC c x → Hb t y x → InC c y := by
 constructor
 ·intro hc x y hx hb
  induction hb with
  | single hd => exact dir_in hc hd hx
  | tail hb hd ih => exact ih (dir_in hc hd hx)
 ·intro h
  refine ⟨hr, missE_none.2 fun x hx => ?_⟩
  by_cases hk : (ev t x).kind = 3
  ·obtain ⟨s, hs, _⟩ := send_peer hv (hr.inn hx) hk
   have h1 := h x s hx (.single ⟨hr.inn hx, .inr ⟨hk, hs⟩⟩)
   rw [sentB_recv hk hs, decide_eq_true_eq]
   have := h1.2
   omega
  ·exact sentB_other hk
def numTo (t : Tr) (p : Nat) : Nat := sumTo (fun q => t[q]!.events.length) p
def numE (t : Tr) (x : Eid) : Nat := numTo t x.1 + x.2
theorem idsTo_lenN (t : Tr) (p i : Nat) : (idsTo t p i).length = numTo t p + i := by
 have key : ∀ p, (idsTo t p 0).length = numTo t p := by
  intro p
  induction p with
  | zero => rfl
  | succ p ih =>
    rw [← idsTo_next]
    have e : idsTo t p t[p]!.events.length = idsTo t p 0 ++ (List.range t[p]!.events.length).map fun j => (p, j) := by simp [idsTo]
    rw [e, List.length_append, List.length_map, List.length_range, ih]; rfl
 have e : idsTo t p i = idsTo t p 0 ++ (List.range i).map fun j => (p, j) := by simp [idsTo]
 rw [e, List.length_append, key]; simp
theorem ids_num {t : Tr} {x : Eid} (hx : Inn t x) : (ids t)[numE t x]? = some x := by
 obtain ⟨p, i⟩ := x
 have h1 := idsTo_ids (t := t) (p := p) (i := i + 1) hx.1 (by have := hx.2; simp only at this; omega)
 obtain ⟨r, hr⟩ := h1
 rw [← hr, idsTo_succ]
 unfold numE
 rw [List.getElem?_append_left (by rw [List.length_append, idsTo_lenN]; simp), List.getElem?_append_right (by rw [idsTo_lenN]; exact Nat.le_refl _), idsTo_lenN]
 simp
theorem num_lt {t : Tr} {x : Eid} (hx : Inn t x) : numE t x < (ids t).length := by
 have := ids_num hx
 exact (List.getElem?_eq_some_iff.1 this).1
theorem num_inj {t : Tr} {x y : Eid} (hx : Inn t x) (hy : Inn t y) (h : numE t x = numE t y) : x = y := by
 have h1 := ids_num hx
 rw [h, ids_num hy] at h1
 exact (Option.some.inj h1).symm
def wordOf (l : List Nat) : Nat := l.foldl (fun m j => m ||| 2 ^ j) 0
theorem word_fold {j : Nat} : ∀ (l : List Nat) (m : Nat), (l.foldl (fun m j => m ||| 2 ^ j) m).testBit j = (m.testBit j || decide (j ∈ l))
 | [], m => by simp
 | a :: l, m => by
   rw [List.foldl_cons, word_fold l, Nat.testBit_or, Nat.testBit_two_pow]
   by_cases e : a = j
   ·subst e; simp
   ·have e2 : ¬ j = a := fun h => e h.symm
    simp [e, e2]
theorem wordOf_bit {l : List Nat} {j : Nat} : (wordOf l).testBit j = decide (j ∈ l) := by
 unfold wordOf; rw [word_fold]; simp
theorem wordOf_snoc {l : List Nat} {j : Nat} : wordOf (l ++ [j]) = wordOf l ||| 2 ^ j := by unfold wordOf; rw [List.foldl_append]; rfl
theorem wordOf_lt {l : List Nat} {n : Nat} (h : ∀ j ∈ l, j < n) : wordOf l < 2 ^ n := by
 refine Nat.lt_pow_two_of_testBit _ fun j hj => ?_
 rw [wordOf_bit, decide_eq_false_iff_not]
 exact fun hm => by have := h j hm; omega
def upTo (M : List Nat) (l : List Nat) : Nat := l.foldl (fun m i => m ||| M[i]!) 0
theorem up_fold {M : List Nat} {j : Nat} : ∀ (l : List Nat) (m : Nat), (l.foldl (fun m i => m ||| M[i]!) m).testBit j = (m.testBit j || decide (∃ i ∈ l, hasM M i j = true))
 | [], m => by simp
 | a :: l, m => by
   rw [List.foldl_cons, up_fold l, Nat.testBit_or]
   unfold hasM
   simp [Bool.or_assoc]
theorem upTo_bit {M : List Nat} {l : List Nat} {j : Nat} : (upTo M l).testBit j = decide (∃ i ∈ l, hasM M i j = true) := by
 unfold upTo; rw [up_fold]; simp
theorem down_iff {M Q : List Nat} {s : Nat} {l : List Nat} (hq : ∀ i j, hasM Q i j = hasM M j i) (hl : ∀ i, i ∈ l ↔ s.testBit i = true) : (s ||| upTo Q l = s) ↔ ∀ i j, s.testBit i = true → hasM M j i = true → s.testBit j = true := by
 constructor
 ·intro h i j hi hj
  rw [← h, Nat.testBit_or, upTo_bit, Bool.or_eq_true]
  refine .inr (decide_eq_true ⟨i, (hl i).2 hi, ?_⟩)
  rw [hq]; exact hj
 ·intro h
  refine Nat.eq_of_testBit_eq fun j => ?_
  rw [Nat.testBit_or, upTo_bit]
  cases hs : s.testBit j with
  | true => rfl
  | false =>
    rw [Bool.false_or, decide_eq_false_iff_not]
    rintro ⟨i, hi, hb⟩
    rw [hq] at hb
    rw [h i j ((hl i).1 hi) hb] at hs
    cases hs
open Classical in
noncomputable def laterI (t : Tr) (i : Nat) : List Nat := (List.range (ids t).length).filter fun j => decide (Hb t (ids t)[i]! (ids t)[j]!)
noncomputable def ordM (t : Tr) : List Nat := (List.range (ids t).length).map fun i => wordOf (laterI t i)
theorem ordM_len (t : Tr) : (ordM t).length = (ids t).length := by simp [ordM]
theorem ordM_at {t : Tr} {i : Nat} (hi : i < (ids t).length) : (ordM t)[i]! = wordOf (laterI t i) := by
 rw [getElem!_pos _ i (by rw [ordM_len]; exact hi)]; simp [ordM]
theorem ordM_has {t : Tr} {i j : Nat} (hi : i < (ids t).length) (hj : j < (ids t).length) : hasM (ordM t) i j = true ↔ Hb t (ids t)[i]! (ids t)[j]! := by
 classical
 unfold hasM
 rw [ordM_at hi, wordOf_bit, decide_eq_true_eq]
 unfold laterI
 rw [List.mem_filter, List.mem_range, decide_eq_true_eq]
 exact ⟨fun h => h.2, fun h => ⟨hj, h⟩⟩
theorem ordM_out {t : Tr} {i j : Nat} (h : hasM (ordM t) i j = true) : i < (ids t).length ∧ j < (ids t).length := by
 classical
 have hi : i < (ids t).length := by
  by_cases hi : i < (ordM t).length
  ·rwa [ordM_len] at hi
  ·rw [hasM_out hi] at h; cases h
 refine ⟨hi, ?_⟩
 unfold hasM at h
 rw [ordM_at hi, wordOf_bit, decide_eq_true_eq] at h
 unfold laterI at h
 exact List.mem_range.1 (List.mem_filter.1 h).1
theorem ids_at_num {t : Tr} {x : Eid} (hx : Inn t x) : (ids t)[numE t x]! = x := by
 have h := ids_num hx
 rw [List.getElem?_eq_getElem (num_lt hx)] at h
 rw [getElem!_pos (ids t) _ (num_lt hx)]
 exact Option.some.inj h
theorem nodup_idx {l : List Eid} (hd : l.Nodup) {a b : Nat} {x : Eid} (ha : l[a]? = some x) (hb : l[b]? = some x) : a = b := by
 obtain ⟨ha1, ha2⟩ := List.getElem?_eq_some_iff.1 ha
 obtain ⟨hb1, hb2⟩ := List.getElem?_eq_some_iff.1 hb
 by_cases e : a = b
 ·exact e
 ·exfalso
  rcases Nat.lt_or_gt_of_ne e with h | h
  ·exact (List.pairwise_iff_getElem.1 hd) a b ha1 hb1 h (ha2.trans hb2.symm)
  ·exact (List.pairwise_iff_getElem.1 hd) b a hb1 ha1 h (hb2.trans ha2.symm)
theorem ids_inn {t : Tr} {i : Nat} (hi : i < (ids t).length) : Inn t (ids t)[i]! ∧ numE t (ids t)[i]! = i := by
 have h1 : Inn t (ids t)[i]! := by rw [getElem!_pos (ids t) i hi]; exact mem_ids.1 (List.getElem_mem hi)
 have hd : (ids t).Nodup := (idsTo_sorted t t.length 0).imp fun {a b} h => by rintro rfl; unfold before at h; omega
 refine ⟨h1, nodup_idx hd (ids_num h1) ?_⟩
 rw [List.getElem?_eq_getElem hi, getElem!_pos (ids t) i hi]
theorem ordM_trans {t : Tr} {i j k : Nat} (h1 : hasM (ordM t) i j = true) (h2 : hasM (ordM t) j k = true) : hasM (ordM t) i k = true := by
 obtain ⟨hi, hj⟩ := ordM_out h1
 obtain ⟨_, hk⟩ := ordM_out h2
 exact (ordM_has hi hk).2 (((ordM_has hi hj).1 h1).trans ((ordM_has hj hk).1 h2))
theorem ordM_irr {t : Tr} (hc : ¬ Cyc t) {i : Nat} : hasM (ordM t) i i = false := by
 cases h : hasM (ordM t) i i with
 | false => rfl
 | true =>
   obtain ⟨hi, _⟩ := ordM_out h
   exact absurd ⟨_, (ordM_has hi hi).1 h⟩ hc
def membC (t : Tr) (c : List Int) : List Nat := (idsCTo c c.length 0).map (numE t)
theorem mem_membC {t : Tr} {c : List Int} {i : Nat} : i ∈ membC t c ↔ ∃ x, InC c x ∧ numE t x = i := by
 unfold membC
 rw [List.mem_map]
 have hm : ∀ x, x ∈ idsCTo c c.length 0 ↔ InC c x := fun x => by
  rw [mem_idsCTo]; unfold InC; constructor <;> intro h <;> omega
 constructor
 ·rintro ⟨x, hx, e⟩; exact ⟨x, (hm x).1 hx, e⟩
 ·rintro ⟨x, hx, e⟩; exact ⟨x, (hm x).2 hx, e⟩
theorem cut_ideal {t : Tr} {c : List Int} (hv : validT t = true) (hr : RangeC t c) : (∀ i j, (wordOf (membC t c)).testBit i = true → hasM (ordM t) j i = true → (wordOf (membC t c)).testBit j = true) ↔ ConsC t c := by
 rw [cons_down hv hr]
 constructor
 ·intro h x y hx hb
  have hxi := hr.inn hx
  have hyi := tg_inn_l hb
  have h1 := h (numE t x) (numE t y) (by rw [wordOf_bit, decide_eq_true_eq]; exact mem_membC.2 ⟨x, hx, rfl⟩) ((ordM_has (num_lt hyi) (num_lt hxi)).2 (by rw [ids_at_num hyi, ids_at_num hxi]; exact hb))
  rw [wordOf_bit, decide_eq_true_eq, mem_membC] at h1
  obtain ⟨z, hz, e⟩ := h1
  rw [← num_inj (hr.inn hz) hyi e]; exact hz
 ·intro h i j hi hj
  rw [wordOf_bit, decide_eq_true_eq, mem_membC] at hi ⊢
  obtain ⟨x, hx, rfl⟩ := hi
  obtain ⟨hjl, _⟩ := ordM_out hj
  obtain ⟨hyi, hyn⟩ := ids_inn hjl
  have hb := (ordM_has hjl (num_lt (hr.inn hx))).1 hj
  rw [ids_at_num (hr.inn hx)] at hb
  exact ⟨_, h x _ hx hb, hyn⟩
end Go.Proofs.YtbpdbikphlhaiaaGreatDoor
namespace Go.Proofs.YtbpdbikphlhaiaaGreatDoor
set_option linter.unusedVariables false
def downB (t : Tr) (p hi : Nat) : Nat → List Eid
 | 0 => []
 | n + 1 => downB t p hi n ++ bef t (p, hi - n)
theorem mem_downB {t : Tr} {p hi : Nat} {d : Eid} : ∀ {n : Nat}, d ∈ downB t p hi n ↔ ∃ j, j < n ∧ d ∈ bef t (p, hi - j)
 | 0 => by simp [downB]
 | n + 1 => by
   unfold downB
   rw [List.mem_append, mem_downB (n := n)]
   constructor
   ·rintro (⟨j, hj, h⟩ | h)
    ·exact ⟨j, by omega, h⟩
    ·exact ⟨n, by omega, h⟩
   ·rintro ⟨j, hj, h⟩
    by_cases e : j = n
    ·subst e; exact .inr h
    ·exact .inl ⟨j, by omega, h⟩
theorem downB_len {t : Tr} {p hi : Nat} (h2 : ∀ y, (bef t y).length ≤ 2) : ∀ n, (downB t p hi n).length ≤ 2 * n
 | 0 => by simp [downB]
 | n + 1 => by
   unfold downB
   rw [List.length_append]
   have := downB_len (t := t) (p := p) (hi := hi) h2 n
   have := h2 (p, hi - n)
   omega
structure PstI (t : Tr) (x : Eid) (C : List Int) (Q : List Eid) : Prop where
 rg : RangeC t C
 inA : ∀ z, InC C z → z = x ∨ Hb t z x
 qA : ∀ y ∈ Q, Inn t y ∧ (y = x ∨ Hb t y x)
 cov : ∀ z, InC C z → ∀ d, Dir t d z → InC C d ∨ ∃ y ∈ Q, y.1 = d.1 ∧ d.2 ≤ y.2
 top : InC C x ∨ ∃ y ∈ Q, y.1 = x.1 ∧ x.2 ≤ y.2
theorem PstI.start {t : Tr} {x : Eid} (hx : Inn t x) : PstI t x (List.replicate t.length 0) [x] := by
 have h0 : ∀ z, ¬ InC (List.replicate t.length (0 : Int)) z := fun z hz => by
  have h1 := hz.1
  rw [List.length_replicate] at h1
  have h2 := hz.2
  rw [getElem!_pos _ z.1 (by rw [List.length_replicate]; exact h1), List.getElem_replicate] at h2
  omega
 refine ⟨⟨List.length_replicate .., rangeB_iff.2 fun p hp => ?_⟩, fun z hz => absurd hz (h0 z), fun y hy => ?_, fun z hz => absurd hz (h0 z), .inr ⟨x, by simp, rfl, Nat.le_refl _⟩⟩
 ·rw [getElem!_pos _ p hp, List.getElem_replicate]; omega
 ·obtain rfl := List.mem_singleton.1 hy
  exact ⟨hx, .inl rfl⟩
theorem PstI.skip {t : Tr} {x y : Eid} {C : List Int} {R : List Eid} (h : PstI t x C (y :: R)) (hy : InC C y) : PstI t x C R := by
 have hc : ∀ d : Eid, (∃ z ∈ y :: R, z.1 = d.1 ∧ d.2 ≤ z.2) → InC C d ∨ ∃ z ∈ R, z.1 = d.1 ∧ d.2 ≤ z.2 := by
  rintro d ⟨z, hz, h1, h2⟩
  rcases List.mem_cons.1 hz with rfl | hz
  ·left
   obtain ⟨a, b⟩ := hy
   exact ⟨by rw [← h1]; exact a, by rw [← h1]; omega⟩
  ·exact .inr ⟨z, hz, h1, h2⟩
 exact ⟨h.rg, h.inA, fun z hz => h.qA z (by simp [hz]), fun z hz d hd => (h.cov z hz d hd).elim .inl (hc d), h.top.elim .inl (hc x)⟩
theorem proc_hb {t : Tr} {p j : Nat} (hp : p < t.length) : ∀ i, j < i → i < t[p]!.events.length → Hb t (p, j) (p, i) := by
 intro i
 induction i with
 | zero => intro h; exact absurd h (Nat.not_lt_zero _)
 | succ i ih =>
   intro h hi
   have hd : Dir t (p, i) (p, i + 1) := ⟨⟨hp, hi⟩, .inl ⟨rfl, rfl⟩⟩
   by_cases e : j = i
   ·subst e; exact .single hd
   ·exact .tail (ih (by omega) (by omega)) hd
theorem PstI.take {t : Tr} {x : Eid} {p i c : Nat} {C : List Int} {R : List Eid} (h : PstI t x C ((p, i) :: R)) (hc : C[p]! = (c : Int)) (hci : c ≤ i) : PstI t x (C.set p ((i : Int) + 1)) (R ++ downB t p i (i + 1 - c)) := by
 obtain ⟨hin, hA⟩ := h.qA (p, i) (by simp)
 have hp : p < t.length := hin.1
 have hi : i < t[p]!.events.length := hin.2
 have hpl : p < C.length := by have := h.rg.1; omega
 have hat : (C.set p ((i : Int) + 1))[p]! = (i : Int) + 1 := by rw [getElem!_pos _ p (by rw [List.length_set]; exact hpl), List.getElem_set_self]
 have hne : ∀ q, q ≠ p → (C.set p ((i : Int) + 1))[q]! = C[q]! := fun q hq => by
  by_cases hl : q < C.length
  ·rw [getElem!_pos _ q (by rw [List.length_set]; exact hl), getElem!_pos C q hl, List.getElem_set_ne (fun e => hq e.symm)]
  ·rw [getElem!_neg _ q (by rw [List.length_set]; exact hl), getElem!_neg C q hl]
 have hmono : ∀ z, InC C z → InC (C.set p ((i : Int) + 1)) z := fun z hz => ⟨by rw [List.length_set]; exact hz.1, by
  by_cases e : z.1 = p
  ·have := hz.2; rw [e] at this ⊢; rw [hat]; omega
  ·rw [hne _ e]; exact hz.2⟩
 have hnew : ∀ z, InC (C.set p ((i : Int) + 1)) z → InC C z ∨ (z.1 = p ∧ c ≤ z.2 ∧ z.2 ≤ i) := fun z hz => by
  have h1 := hz.1
  have h2 := hz.2
  rw [List.length_set] at h1
  by_cases e : z.1 = p
  ·rw [e, hat] at h2
   by_cases h3 : z.2 < c
   ·exact .inl ⟨h1, by rw [e]; omega⟩
   ·exact .inr ⟨e, by omega, by omega⟩
  ·rw [hne _ e] at h2; exact .inl ⟨h1, h2⟩
 have hcovq : ∀ d : Eid, (∃ y ∈ (p, i) :: R, y.1 = d.1 ∧ d.2 ≤ y.2) → InC (C.set p ((i : Int) + 1)) d ∨ ∃ y ∈ R ++ downB t p i (i + 1 - c), y.1 = d.1 ∧ d.2 ≤ y.2 := by
  rintro d ⟨y, hy, h1, h2⟩
  rcases List.mem_cons.1 hy with rfl | hy
  ·left
   simp only at h1 h2
   exact ⟨by rw [List.length_set, ← h1]; exact hpl, by rw [← h1, hat]; omega⟩
  ·exact .inr ⟨y, List.mem_append.2 (.inl hy), h1, h2⟩
 refine ⟨⟨by rw [List.length_set]; exact h.rg.1, rangeB_iff.2 fun q hq => ?_⟩, fun z hz => ?_, fun y hy => ?_, fun z hz d hd => ?_, ?_⟩
 ·rw [List.length_set] at hq
  by_cases e : q = p
  ·subst e; rw [hat]; omega
  ·rw [hne q e]; exact h.rg.at (by have := h.rg.1; omega)
 ·rcases hnew z hz with h1 | ⟨h1, h2, h3⟩
  ·exact h.inA z h1
  ·obtain ⟨z1, z2⟩ := z
   simp only at h1 h2 h3
   subst h1
   by_cases e : z2 = i
   ·subst e; exact hA
   ·have hb := proc_hb hp i (show z2 < i by omega) hi
    rcases hA with rfl | hA
    ·exact .inr hb
    ·exact .inr (hb.trans hA)
 ·rcases List.mem_append.1 hy with hy | hy
  ·exact h.qA y (by simp [hy])
  ·obtain ⟨j, hj, hm⟩ := mem_downB.1 hy
   have hin2 : Inn t (p, i - j) := ⟨hp, by show i - j < t[p]!.events.length; omega⟩
   have hd := (mem_bef hin2).1 hm
   refine ⟨tg_inn_l (.single hd), .inr ?_⟩
   have hb : Hb t y (p, i - j) := .single hd
   have hb2 : (p, i - j) = x ∨ Hb t (p, i - j) x := by
    by_cases e : i - j = i
    ·rw [e]; exact hA
    ·have hb3 := proc_hb hp i (show i - j < i by omega) hi
     rcases hA with rfl | hA
     ·exact .inr hb3
     ·exact .inr (hb3.trans hA)
   rcases hb2 with e | hb2
   ·rw [← e]; exact hb
   ·exact hb.trans hb2
 ·rcases hnew z hz with h1 | ⟨h1, h2, h3⟩
  ·rcases h.cov z h1 d hd with h4 | h4
   ·exact .inl (hmono d h4)
   ·exact hcovq d h4
  ·obtain ⟨z1, z2⟩ := z
   simp only at h1 h2 h3
   subst h1
   refine .inr ⟨d, List.mem_append.2 (.inr (mem_downB.2 ⟨i - z2, by omega, ?_⟩)), rfl, Nat.le_refl _⟩
   rw [show i - (i - z2) = z2 by omega]
   exact (mem_bef hd.1).2 hd
 ·rcases h.top with h1 | h1
  ·exact .inl (hmono x h1)
  ·exact hcovq x h1
theorem PstI.fin {t : Tr} {x z : Eid} {C : List Int} (h : PstI t x C []) : InC C z ↔ z = x ∨ Hb t z x := by
 have hx : InC C x := h.top.elim id (fun ⟨y, hy, _⟩ => by cases hy)
 have hcl : ∀ a, InC C a → ∀ d, Dir t d a → InC C d := fun a ha d hd => (h.cov a ha d hd).elim id (fun ⟨y, hy, _⟩ => by cases hy)
 refine ⟨h.inA z, ?_⟩
 rintro (rfl | hb)
 ·exact hx
 ·have key : ∀ a, Hb t z a → InC C a → InC C z := by
   intro a hb
   induction hb with
   | single hd => exact fun ha => hcl _ ha _ hd
   | tail _ hd ih => exact fun ha => ih (hcl _ ha _ hd)
  exact key x hb hx
end Go.Proofs.YtbpdbikphlhaiaaGreatDoor
namespace Go.Proofs.YtbpdbikphlhaiaaGreatDoor
set_option linter.unusedVariables false
theorem clear_low {w z : Nat} (hz : w.testBit z = true) (hl : ∀ j, j < z → w.testBit j = false) (j : Nat) : (w &&& (w - 1)).testBit j = (w.testBit j && decide (j ≠ z)) := by
 have h0 : w % 2 ^ z = 0 := Nat.eq_of_testBit_eq fun j => by
  rw [Nat.testBit_mod_two_pow, Nat.zero_testBit]
  by_cases h : j < z
  ·rw [hl j h]; simp
  ·simp [h]
 obtain ⟨q, hq⟩ : ∃ q, w = 2 ^ z * q := ⟨w / 2 ^ z, by have := Nat.div_add_mod w (2 ^ z); omega⟩
 have hqo : q % 2 = 1 := by
  have h1 := hz
  rw [hq, Nat.testBit_two_pow_mul] at h1
  simp at h1
  exact h1
 have hp : 0 < 2 ^ z := Nat.pow_pos (by decide)
 have hq1 : q = (q - 1) + 1 := by omega
 have hw1 : w - 1 = 2 ^ z * (q - 1) + (2 ^ z - 1) := by
  rw [hq]
  have : 2 ^ z * q = 2 ^ z * (q - 1) + 2 ^ z := by
   conv => lhs; rw [hq1]
   rw [Nat.mul_add, Nat.mul_one]
  omega
 rw [Nat.testBit_and, hw1, Nat.testBit_two_pow_mul_add _ (by omega)]
 by_cases h : j < z
 ·rw [hl j h]; simp
 ·rw [if_neg h, hq, Nat.testBit_two_pow_mul]
  by_cases e : j = z
  ·subst e
   have : (q - 1) % 2 = 0 := by omega
   simp [Nat.testBit_zero, this]
  ·have h2 : (q - 1).testBit (j - z) = q.testBit (j - z) := by
    obtain ⟨k, hk⟩ : ∃ k, j - z = k + 1 := ⟨j - z - 1, by omega⟩
    rw [hk, Nat.testBit_succ, Nat.testBit_succ]
    congr 1
    omega
   rw [h2]
   simp [e]
def membW (s n : Nat) : List Nat := (List.range n).filter fun j => s.testBit j
theorem mem_membW {s n j : Nat} (hs : s < 2 ^ n) : j ∈ membW s n ↔ s.testBit j = true := by
 unfold membW
 rw [List.mem_filter, List.mem_range]
 refine ⟨fun h => h.2, fun h => ⟨?_, h⟩⟩
 by_cases hj : j < n
 ·exact hj
 ·rw [Nat.testBit_lt_two_pow (Nat.lt_of_lt_of_le hs (Nat.pow_le_pow_right (by decide) (by omega)))] at h
  cases h
def restW (s k : Nat) : Nat := s >>> k <<< k
end Go.Proofs.YtbpdbikphlhaiaaGreatDoor
namespace Go.Proofs.YtbpdbikphlhaiaaGreatDoor
set_option linter.unusedVariables false
def ofD (k : Nat) : List Nat → Nat
 | [] => 0
 | d :: l => d + 2 ^ k * ofD k l
theorem and_parts {k a b A B : Nat} (ha : a < 2 ^ k) (hb : b < 2 ^ k) : (2 ^ k * A + a) &&& (2 ^ k * B + b) = 2 ^ k * (A &&& B) + (a &&& b) := by
 have hab : a &&& b < 2 ^ k := Nat.lt_of_le_of_lt Nat.and_le_left ha
 refine Nat.eq_of_testBit_eq fun j => ?_
 rw [Nat.testBit_and, Nat.testBit_two_pow_mul_add _ ha, Nat.testBit_two_pow_mul_add _ hb, Nat.testBit_two_pow_mul_add _ hab]
 by_cases h : j < k
 ·rw [if_pos h, if_pos h, if_pos h, Nat.testBit_and]
 ·rw [if_neg h, if_neg h, if_neg h, Nat.testBit_and]
def pairD : List Nat → List Nat
 | a :: b :: l => (a + b) :: pairD l
 | [a] => [a]
 | [] => []
def evenD : List Nat → List Nat
 | a :: _ :: l => a :: evenD l
 | [a] => [a]
 | [] => []
def oddD : List Nat → List Nat
 | _ :: b :: l => b :: oddD l
 | [_] => [0]
 | [] => []
def maskD (k : Nat) : Nat → Nat
 | 0 => 0
 | n + 1 => (2 ^ k - 1) + 2 ^ (2 * k) * maskD k n
theorem even_mask {k : Nat} : ∀ (n : Nat) (l : List Nat), l.length = 2 * n → (∀ d ∈ l, d < 2 ^ k) → ofD k l &&& maskD k n = ofD (2 * k) (evenD l)
 | 0, l, hl, _ => by
   obtain rfl : l = [] := List.eq_nil_of_length_eq_zero (by omega)
   simp [ofD, maskD, evenD]
 | n + 1, l, hl, hd => by
   match l, hl, hd with
   | a :: b :: l, hl, hd =>
     have ha := hd a (by simp)
     have hb := hd b (by simp)
     have ih := even_mask (k := k) n l (by simp only [List.length_cons] at hl; omega) (fun d h => hd d (by simp [h]))
     have hp : 0 < 2 ^ k := Nat.pow_pos (by decide)
     have hpp : 2 ^ (2 * k) = 2 ^ k * 2 ^ k := by rw [← Nat.pow_add]; congr 1; omega
     have e1 : ofD k (a :: b :: l) = 2 ^ (2 * k) * ofD k l + (a + 2 ^ k * b) := by
      simp only [ofD]
      rw [hpp, Nat.mul_add, Nat.mul_assoc]; omega
     have hlt : a + 2 ^ k * b < 2 ^ (2 * k) := by
      rw [hpp]
      have : 2 ^ k * b + 2 ^ k ≤ 2 ^ k * 2 ^ k := by rw [← Nat.mul_succ]; exact Nat.mul_le_mul_left _ hb
      omega
     have hm : 2 ^ k - 1 < 2 ^ (2 * k) := by
      rw [hpp]
      have : 2 ^ k * 1 ≤ 2 ^ k * 2 ^ k := Nat.mul_le_mul_left _ hp
      omega
     have e2 : maskD k (n + 1) = 2 ^ (2 * k) * maskD k n + (2 ^ k - 1) := by rw [maskD]; exact Nat.add_comm _ _
     rw [e1, e2, and_parts hlt hm, ih, Nat.and_two_pow_sub_one_eq_mod, Nat.add_mul_mod_self_left, Nat.mod_eq_of_lt ha]
     simp only [evenD, ofD]; omega
   | [], hl, _ => simp at hl
   | [_], hl, _ => simp only [List.length_cons, List.length_nil] at hl; omega
theorem shr_tail {k a : Nat} {l : List Nat} (ha : a < 2 ^ k) : ofD k (a :: l) >>> k = ofD k l := by
 rw [Nat.shiftRight_eq_div_pow]
 simp only [ofD]
 rw [Nat.add_mul_div_left _ _ (Nat.pow_pos (by decide)), Nat.div_eq_of_lt ha, Nat.zero_add]
theorem ofD_zero {k : Nat} : ∀ l : List Nat, ofD k (l ++ [0]) = ofD k l
 | [] => by simp [ofD]
 | a :: l => by simp only [List.cons_append, ofD, ofD_zero l]
theorem odd_even : ∀ (n : Nat) (l : List Nat) (a : Nat), (a :: l).length = 2 * n → evenD (l ++ [0]) = oddD (a :: l)
 | 0, l, a, h => by simp at h
 | n + 1, [], a, h => by simp only [List.length_cons, List.length_nil] at h; omega
 | n + 1, [b], a, h => rfl
 | n + 1, b :: c :: l, a, h => by
   have ih := odd_even n l c (by simp only [List.length_cons] at h ⊢; omega)
   simp only [List.cons_append, evenD, oddD]
   rw [ih]
theorem odd_mask {k n : Nat} {l : List Nat} (hn : 0 < n) (hl : l.length = 2 * n) (hd : ∀ d ∈ l, d < 2 ^ k) : (ofD k l >>> k) &&& maskD k n = ofD (2 * k) (oddD l) := by
 match l, hl, hd with
 | a :: l, hl, hd =>
   rw [shr_tail (hd a (by simp)), ← ofD_zero l, even_mask n (l ++ [0]) (by simp only [List.length_append, List.length_cons, List.length_nil] at hl ⊢; omega) (fun d h => by
    rcases List.mem_append.1 h with h | h
    ·exact hd d (by simp [h])
    ·obtain rfl := List.mem_singleton.1 h
     exact Nat.pow_pos (by decide)), odd_even n l a hl]
 | [], hl, _ => simp at hl; omega
theorem pair_sum {k : Nat} : ∀ (n : Nat) (l : List Nat), l.length = 2 * n → ofD k (oddD l) + ofD k (evenD l) = ofD k (pairD l)
 | 0, l, h => by
   obtain rfl : l = [] := List.eq_nil_of_length_eq_zero (by omega)
   rfl
 | n + 1, l, h => by
   match l, h with
   | a :: b :: l, h =>
     have ih := pair_sum (k := k) n l (by simp only [List.length_cons] at h; omega)
     simp only [oddD, evenD, pairD, ofD]
     rw [← ih, Nat.mul_add]; omega
   | [], h => simp at h
   | [_], h => simp only [List.length_cons, List.length_nil] at h; omega
theorem pairD_sum : ∀ l : List Nat, (pairD l).sum = l.sum
 | a :: b :: l => by simp only [pairD, List.sum_cons, pairD_sum l]; omega
 | [a] => rfl
 | [] => rfl
theorem pairD_len : ∀ (n : Nat) (l : List Nat), l.length = 2 * n → (pairD l).length = n
 | 0, l, h => by
   obtain rfl : l = [] := List.eq_nil_of_length_eq_zero (by omega)
   rfl
 | n + 1, l, h => by
   match l, h with
   | a :: b :: l, h =>
     simp only [pairD, List.length_cons]
     rw [pairD_len n l (by simp only [List.length_cons] at h; omega)]
   | [], h => simp at h
   | [_], h => simp only [List.length_cons, List.length_nil] at h; omega
theorem pairD_le {m : Nat} : ∀ (l : List Nat), (∀ d ∈ l, d ≤ m) → ∀ d ∈ pairD l, d ≤ 2 * m
 | a :: b :: l, h, d, hd => by
   simp only [pairD] at hd
   rcases List.mem_cons.1 hd with rfl | hd
   ·have := h a (by simp); have := h b (by simp); omega
   ·exact pairD_le l (fun x hx => h x (by simp [hx])) d hd
 | [a], h, d, hd => by
   obtain rfl := List.mem_singleton.1 hd
   have := h d (by simp); omega
 | [], _, d, hd => by cases hd
theorem ofD_lt (k : Nat) : ∀ (l : List Nat) (n : Nat), l.length = n → (∀ d ∈ l, d < 2 ^ k) → ofD k l < 2 ^ (k * n)
 | [], n, h, _ => by
   have : n = 0 := by simpa using h.symm
   subst this
   simp [ofD]
 | a :: l, n, h, hd => by
   obtain ⟨m, rfl⟩ : ∃ m, n = m + 1 := ⟨l.length, by simpa using h.symm⟩
   have ih := ofD_lt k l m (by simpa using h) (fun d hx => hd d (by simp [hx]))
   have ha := hd a (by simp)
   simp only [ofD]
   rw [Nat.mul_succ, Nat.add_comm, Nat.pow_add, Nat.mul_comm (2 ^ (k * m)) (2 ^ k)]
   have : 2 ^ k * ofD k l + 2 ^ k ≤ 2 ^ k * 2 ^ (k * m) := by rw [← Nat.mul_succ]; exact Nat.mul_le_mul_left _ ih
   omega
def digD : Nat → Nat → List Nat
 | 0, _ => []
 | n + 1, x => (x % 2) :: digD n (x / 2)
theorem digD_len : ∀ (n x : Nat), (digD n x).length = n
 | 0, _ => rfl
 | n + 1, x => by simp [digD, digD_len n]
theorem digD_le : ∀ (n x : Nat), ∀ d ∈ digD n x, d ≤ 1
 | 0, _, d, h => by cases h
 | n + 1, x, d, h => by
   unfold digD at h
   rcases List.mem_cons.1 h with rfl | h
   ·omega
   ·exact digD_le n (x / 2) d h
theorem digD_of : ∀ (n x : Nat), ofD 1 (digD n x) = x % 2 ^ n
 | 0, x => by simp [digD, ofD, Nat.mod_one]
 | n + 1, x => by
   have e : 2 ^ (n + 1) = 2 * 2 ^ n := by rw [Nat.pow_succ, Nat.mul_comm]
   simp only [digD, ofD]
   rw [digD_of n, e, Nat.mod_mul, Nat.pow_one]
theorem digD_zero : ∀ (n x : Nat), (digD n x).sum = 0 → x % 2 ^ n = 0
 | 0, x, _ => Nat.mod_one x
 | n + 1, x, h => by
   simp only [digD, List.sum_cons] at h
   have h1 := digD_zero n (x / 2) (by omega)
   have e : 2 ^ (n + 1) = 2 * 2 ^ n := by rw [Nat.pow_succ, Nat.mul_comm]
   rw [e, Nat.mod_mul, h1]
   omega
theorem list16 {l : List Nat} (h : l.length = 16) : ∃ e0 e1 e2 e3 e4 e5 e6 e7 e8 e9 e10 e11 e12 e13 e14 e15 : Nat, l = [e0, e1, e2, e3, e4, e5, e6, e7, e8, e9, e10, e11, e12, e13, e14, e15] := by
 match l, h with
 | [e0, e1, e2, e3, e4, e5, e6, e7, e8, e9, e10, e11, e12, e13, e14, e15], _ => exact ⟨e0, e1, e2, e3, e4, e5, e6, e7, e8, e9, e10, e11, e12, e13, e14, e15, rfl⟩
theorem nib_sum (e0 e1 e2 e3 e4 e5 e6 e7 e8 e9 e10 e11 e12 e13 e14 e15 : Nat) (h : ∀ d ∈ [e0, e1, e2, e3, e4, e5, e6, e7, e8, e9, e10, e11, e12, e13, e14, e15], d ≤ 4) : ((ofD 4 [e0, e1, e2, e3, e4, e5, e6, e7, e8, e9, e10, e11, e12, e13, e14, e15] >>> 4) + ofD 4 [e0, e1, e2, e3, e4, e5, e6, e7, e8, e9, e10, e11, e12, e13, e14, e15]) &&& maskD 4 8 = ofD 8 [e0 + e1, e2 + e3, e4 + e5, e6 + e7, e8 + e9, e10 + e11, e12 + e13, e14 + e15] ∧ (ofD 4 [e0, e1, e2, e3, e4, e5, e6, e7, e8, e9, e10, e11, e12, e13, e14, e15] >>> 4) + ofD 4 [e0, e1, e2, e3, e4, e5, e6, e7, e8, e9, e10, e11, e12, e13, e14, e15] < 2 ^ 64 := by
 simp only [List.mem_cons, List.not_mem_nil, or_false, forall_eq_or_imp, forall_eq] at h
 rw [shr_tail (by omega)]
 have e : ofD 4 [e1, e2, e3, e4, e5, e6, e7, e8, e9, e10, e11, e12, e13, e14, e15] + ofD 4 [e0, e1, e2, e3, e4, e5, e6, e7, e8, e9, e10, e11, e12, e13, e14, e15] = ofD 4 [e0 + e1, e1 + e2, e2 + e3, e3 + e4, e4 + e5, e5 + e6, e6 + e7, e7 + e8, e8 + e9, e9 + e10, e10 + e11, e11 + e12, e12 + e13, e13 + e14, e14 + e15, e15] := by
  simp only [ofD]; omega
 rw [e]
 have hs : ∀ d ∈ [e0 + e1, e1 + e2, e2 + e3, e3 + e4, e4 + e5, e5 + e6, e6 + e7, e7 + e8, e8 + e9, e9 + e10, e10 + e11, e11 + e12, e12 + e13, e13 + e14, e14 + e15, e15], d < 2 ^ 4 := by
  simp only [List.mem_cons, List.not_mem_nil, or_false, forall_eq_or_imp, forall_eq]
  omega
 have h9 := ofD_lt 4 _ 16 rfl hs
 rw [show 4 * 16 = 64 from rfl] at h9
 refine ⟨?_, h9⟩
 rw [even_mask 8 _ rfl hs]
 rfl
theorem byte_sum (b0 b1 b2 b3 b4 b5 b6 b7 : Nat) (h : ∀ d ∈ [b0, b1, b2, b3, b4, b5, b6, b7], d ≤ 8) (x y z : Nat) (hx : x = ofD 8 [b0, b1, b2, b3, b4, b5, b6, b7] + ofD 8 [b0, b1, b2, b3, b4, b5, b6, b7] >>> 8) (hy : y = x + x >>> 16) (hz : z = y + y >>> 32) : z % 128 = b0 + b1 + b2 + b3 + b4 + b5 + b6 + b7 ∧ x < 2 ^ 64 ∧ y < 2 ^ 64 ∧ z < 2 ^ 64 := by
 simp only [List.mem_cons, List.not_mem_nil, or_false, forall_eq_or_imp, forall_eq] at h
 rw [shr_tail (by omega)] at hx
 have hx : x = ofD 8 [(b0 + (b1)), (b1 + (b2)), (b2 + (b3)), (b3 + (b4)), (b4 + (b5)), (b5 + (b6)), (b6 + (b7)), b7] := by rw [hx]; simp only [ofD]; omega
 rw [show (16 : Nat) = 8 + 8 from rfl, Nat.shiftRight_add, hx, shr_tail (by omega), shr_tail (by omega)] at hy
 have hy : y = ofD 8 [((b0 + (b1)) + ((b2 + (b3)))), ((b1 + (b2)) + ((b3 + (b4)))), ((b2 + (b3)) + ((b4 + (b5)))), ((b3 + (b4)) + ((b5 + (b6)))), ((b4 + (b5)) + ((b6 + (b7)))), ((b5 + (b6)) + (b7)), ((b6 + (b7))), b7] := by rw [hy]; simp only [ofD]; omega
 rw [show (32 : Nat) = 8 + 8 + 8 + 8 from rfl, Nat.shiftRight_add, Nat.shiftRight_add, Nat.shiftRight_add, hy, shr_tail (by omega), shr_tail (by omega), shr_tail (by omega), shr_tail (by omega)] at hz
 have hz : z = ofD 8 [(((b0 + (b1)) + ((b2 + (b3)))) + (((b4 + (b5)) + ((b6 + (b7)))))), (((b1 + (b2)) + ((b3 + (b4)))) + (((b5 + (b6)) + (b7)))), (((b2 + (b3)) + ((b4 + (b5)))) + (((b6 + (b7))))), (((b3 + (b4)) + ((b5 + (b6)))) + (b7)), (((b4 + (b5)) + ((b6 + (b7))))), (((b5 + (b6)) + (b7))), (((b6 + (b7)))), b7] := by rw [hz]; simp only [ofD]; omega
 rw [hx, hy, hz]
 simp only [ofD]
 omega
set_option maxHeartbeats 1000000 in
theorem ones_count {w y1 y2 y3 x y z : Nat} (hw : w < 2 ^ 64) (h1 : y1 = (w >>> 1 &&& maskD 1 32) + (w &&& maskD 1 32)) (h2 : y2 = (y1 >>> 2 &&& maskD 2 16) + (y1 &&& maskD 2 16)) (h3 : y3 = (y2 >>> 4 + y2) &&& maskD 4 8)
  (hx : x = y3 + y3 >>> 8) (hy : y = x + x >>> 16) (hz : z = y + y >>> 32) : z % 128 = (digD 64 w).sum ∧ y1 < 2 ^ 64 ∧ y2 < 2 ^ 64 ∧ y2 >>> 4 + y2 < 2 ^ 64 ∧ y3 < 2 ^ 64 ∧ x < 2 ^ 64 ∧ y < 2 ^ 64 ∧ z < 2 ^ 64 := by
 have hl := digD_len 64 w
 have hle := digD_le 64 w
 have hof := digD_of 64 w
 rw [Nat.mod_eq_of_lt hw] at hof
 generalize digD 64 w = l at *
 have e1 : y1 = ofD 2 (pairD l) := by
  rw [h1, ← hof, odd_mask (k := 1) (n := 32) (by decide) (by rw [hl]) (fun d hd => by have := hle d hd; omega), even_mask (k := 1) 32 l (by rw [hl]) (fun d hd => by have := hle d hd; omega)]
  exact pair_sum 32 l (by rw [hl])
 have hl2 := pairD_len 32 l (by rw [hl])
 have hle2 := pairD_le l hle
 have hs2 := pairD_sum l
 generalize pairD l = l2 at *
 have e2 : y2 = ofD 4 (pairD l2) := by
  rw [h2, e1, odd_mask (k := 2) (n := 16) (by decide) (by rw [hl2]) (fun d hd => by have := hle2 d hd; omega), even_mask (k := 2) 16 l2 (by rw [hl2]) (fun d hd => by have := hle2 d hd; omega)]
  exact pair_sum 16 l2 (by rw [hl2])
 have hl3 := pairD_len 16 l2 (by rw [hl2])
 have hle3 := pairD_le l2 hle2
 have hs3 := pairD_sum l2
 have hb1 : y1 < 2 ^ 64 := by
  have h9 := ofD_lt 2 l2 32 hl2 (fun d hd => by have := hle2 d hd; omega)
  rw [show 2 * 32 = 64 from rfl] at h9
  rw [e1]; exact h9
 generalize pairD l2 = l3 at *
 obtain ⟨e0, e1', e2', e3, e4, e5, e6, e7, e8, e9, e10, e11, e12, e13, e14, e15, rfl⟩ := list16 hl3
 have h34 := nib_sum e0 e1' e2' e3 e4 e5 e6 e7 e8 e9 e10 e11 e12 e13 e14 e15 (fun d hd => by have := hle3 d hd; omega)
 rw [← e2, ← h3] at h34
 have h3' := h34.1
 simp only [List.mem_cons, List.not_mem_nil, or_false, forall_eq_or_imp, forall_eq] at hle3
 have hb := byte_sum (e0 + e1') (e2' + e3) (e4 + e5) (e6 + e7) (e8 + e9) (e10 + e11) (e12 + e13) (e14 + e15) (by
  simp only [List.mem_cons, List.not_mem_nil, or_false, forall_eq_or_imp, forall_eq]; omega) x y z (by rw [← h3']; exact hx) hy hz
 simp only [List.sum_cons, List.sum_nil] at hs3
 have hy2 := ofD_lt 4 _ 16 hl3 (fun d hd => by
  simp only [List.mem_cons, List.not_mem_nil, or_false] at hd
  omega)
 rw [show 4 * 16 = 64 from rfl, ← e2] at hy2
 have hy3 := ofD_lt 8 [e0 + e1', e2' + e3, e4 + e5, e6 + e7, e8 + e9, e10 + e11, e12 + e13, e14 + e15] 8 rfl (by
  simp only [List.mem_cons, List.not_mem_nil, or_false, forall_eq_or_imp, forall_eq]; omega)
 rw [show 8 * 8 = 64 from rfl, ← h3'] at hy3
 have hb0 := hb.1
 refine ⟨?_, hb1, hy2, h34.2, hy3, hb.2.1, hb.2.2.1, hb.2.2.2⟩
 rw [hb0]
 clear hb hb0 h34 h3' hy3 hy2 hx hy hz h1 h2 h3 e1 e2 hof
 omega
end Go.Proofs.YtbpdbikphlhaiaaGreatDoor
namespace Go.Proofs.YtbpdbikphlhaiaaGreatDoor
set_option linter.unusedVariables false
theorem u64_wrap_nat {a : Nat} (h : a < 2 ^ 64) : IntKind.u64.wrap (a : Int) = (a : Int) := by
 simp only [IntKind.wrap, IntKind.bits, IntKind.signed, Bool.false_and, Bool.false_eq_true, if_false]
 omega
theorem bv_nat {a : Nat} (h : a < 2 ^ 64) : (BitVec.ofInt 64 (a : Int)).toNat = a := by
 rw [BitVec.ofInt_natCast, BitVec.toNat_ofNat]
 exact Nat.mod_eq_of_lt h
theorem bits_or_nat {a b : Nat} (ha : a < 2 ^ 64) (hb : b < 2 ^ 64) : bits .or .u64 (a : Int) (b : Int) = ((a ||| b : Nat) : Int) := by
 show IntKind.u64.wrap (((BitVec.ofInt 64 (a : Int)) ||| (BitVec.ofInt 64 (b : Int))).toNat : Int) = _
 rw [BitVec.toNat_or, bv_nat ha, bv_nat hb]
 exact u64_wrap_nat (Nat.or_lt_two_pow ha hb)
theorem div_pow_nat (a k : Nat) : (a : Int) / (2 : Int) ^ k = ((a / 2 ^ k : Nat) : Int) := by norm_cast
theorem bits_and_one {a : Nat} (k : Nat) (ha : a < 2 ^ 64) : bits .and .u64 ((a / 2 ^ k : Nat) : Int) 1 = ((a.testBit k).toNat : Int) := by
 have h1 : a / 2 ^ k < 2 ^ 64 := Nat.lt_of_le_of_lt (Nat.div_le_self _ _) ha
 show IntKind.u64.wrap (((BitVec.ofInt 64 ((a / 2 ^ k : Nat) : Int)) &&& (BitVec.ofInt 64 ((1 : Nat) : Int))).toNat : Int) = _
 rw [BitVec.toNat_and, bv_nat h1, bv_nat (by decide)]
 have h2 : (a / 2 ^ k) &&& 1 = (a.testBit k).toNat := by
  rw [Nat.and_one_is_mod, Nat.testBit_eq_decide_div_mod_eq]
  have : a / 2 ^ k % 2 < 2 := Nat.mod_lt _ (by decide)
  by_cases e : a / 2 ^ k % 2 = 1
  ·rw [e]; rfl
  ·have : a / 2 ^ k % 2 = 0 := by omega
   rw [this]; rfl
 rw [h2]
 refine u64_wrap_nat ?_
 cases a.testBit k <;> decide
theorem shl_one {k : Nat} (h : k < 64) : IntKind.u64.wrap ((2 : Int) ^ k) = (2 : Int) ^ k := by
 rw [show (2 : Int) ^ k = ((2 ^ k : Nat) : Int) by norm_cast]
 exact u64_wrap_nat (Nat.pow_lt_pow_right (by decide) h)
theorem bits_or_pow {a k : Nat} (ha : a < 2 ^ 64) (h : k < 64) : bits .or .u64 (a : Int) ((2 : Int) ^ k) = ((a ||| 2 ^ k : Nat) : Int) := by
 rw [show (2 : Int) ^ k = ((2 ^ k : Nat) : Int) by norm_cast]
 exact bits_or_nat ha (Nat.pow_lt_pow_right (by decide) h)
end Go.Proofs.YtbpdbikphlhaiaaGreatDoor
namespace Go.Proofs.YtbpdbikphlhaiaaGreatDoor
set_option linter.unusedVariables false
theorem bits_and_nat {a b : Nat} (ha : a < 2 ^ 64) (hb : b < 2 ^ 64) : bits .and .u64 (a : Int) (b : Int) = ((a &&& b : Nat) : Int) := by
 show IntKind.u64.wrap (((BitVec.ofInt 64 (a : Int)) &&& (BitVec.ofInt 64 (b : Int))).toNat : Int) = _
 rw [BitVec.toNat_and, bv_nat ha, bv_nat hb]
 exact u64_wrap_nat (Nat.lt_of_le_of_lt Nat.and_le_left ha)
def minW (a b : Nat) : Nat := a &&& (2 ^ 64 - 1 - b)
theorem minW_lt {a b : Nat} (ha : a < 2 ^ 64) : minW a b < 2 ^ 64 := Nat.lt_of_le_of_lt Nat.and_le_left ha
theorem minW_bit {a b j : Nat} (ha : a < 2 ^ 64) (hb : b < 2 ^ 64) : (minW a b).testBit j = (a.testBit j && !b.testBit j) := by
 unfold minW
 rw [Nat.testBit_and, show 2 ^ 64 - 1 - b = 2 ^ 64 - (b + 1) by omega, Nat.testBit_two_pow_sub_succ hb]
 by_cases h : j < 64
 ·simp [h]
 ·rw [Nat.testBit_lt_two_pow (Nat.lt_of_lt_of_le ha (Nat.pow_le_pow_right (by decide) (by omega)))]; simp
theorem bits_andnot_nat {a b : Nat} (ha : a < 2 ^ 64) (hb : b < 2 ^ 64) : bits .andNot .u64 (a : Int) (b : Int) = ((minW a b : Nat) : Int) := by
 show IntKind.u64.wrap (((BitVec.ofInt 64 (a : Int)) &&& ~~~(BitVec.ofInt 64 (b : Int))).toNat : Int) = _
 rw [BitVec.toNat_and, BitVec.toNat_not, bv_nat ha, bv_nat hb]
 exact u64_wrap_nat (minW_lt ha)
theorem minW_zero {a b : Nat} (ha : a < 2 ^ 64) (hb : b < 2 ^ 64) : minW a b = 0 ↔ ∀ j, a.testBit j = true → b.testBit j = true := by
 constructor
 ·intro h j hj
  have h1 := minW_bit (j := j) ha hb
  rw [h, Nat.zero_testBit, hj] at h1
  simpa using h1.symm
 ·intro h
  refine Nat.eq_of_testBit_eq fun j => ?_
  rw [minW_bit ha hb, Nat.zero_testBit]
  cases hj : a.testBit j with
  | false => rfl
  | true => rw [h j hj]; rfl
end Go.Proofs.YtbpdbikphlhaiaaGreatDoor
namespace Go.Proofs.YtbpdbikphlhaiaaGreatDoor
set_option linter.unusedVariables false
theorem later_iff {t : Tr} {x y : Eid} {C : List Int} (hc : ¬ Cyc t) (h : PstI t y C []) : (x ≠ y ∧ InC C x) ↔ Hb t x y := by
 rw [h.fin]
 constructor
 ·rintro ⟨h1, h2 | h2⟩
  ·exact absurd h2 h1
  ·exact h2
 ·intro hb
  refine ⟨?_, .inr hb⟩
  rintro rfl
  exact hc ⟨x, hb⟩
theorem membC_lt {t : Tr} {c : List Int} {i : Nat} (hr : RangeC t c) (h : i ∈ membC t c) : i < (ids t).length := by
 obtain ⟨x, hx, rfl⟩ := mem_membC.1 h
 exact num_lt (hr.inn hx)
theorem ones_zero {w : Nat} (hw : w < 2 ^ 64) : (digD 64 w).sum = 0 ↔ w = 0 := by
 constructor
 ·intro h
  have h1 := digD_zero 64 w h
  rwa [Nat.mod_eq_of_lt hw] at h1
 ·rintro rfl
  have hz : ∀ n, (digD n 0).sum = 0 := by
   intro n
   induction n with
   | zero => rfl
   | succ n ih => simp only [digD, List.sum_cons, Nat.zero_mod, Nat.zero_div, Nat.zero_add]; exact ih
  exact hz 64
def cntC (t : Tr) (C : List Int) : Nat := sumTo (fun q => C[q]!.toNat) t.length
theorem sumTo_set {f g : Nat → Nat} {p a b : Nat} : ∀ n, p < n → (∀ q, q ≠ p → g q = f q) → f p = a → g p = b → sumTo g n + a = sumTo f n + b
 | 0, h, _, _, _ => absurd h (Nat.not_lt_zero _)
 | n + 1, h, hs, ha, hb => by
   unfold sumTo
   by_cases e : p = n
   ·subst e
    have : sumTo g p = sumTo f p := by
     have key : ∀ m, m ≤ p → sumTo g m = sumTo f m := by
      intro m
      induction m with
      | zero => intro _; rfl
      | succ m ih =>
        intro hm
        unfold sumTo
        rw [ih (by omega), hs m (by omega)]
     exact key p (Nat.le_refl _)
    omega
   ·have ih := sumTo_set n (by omega) hs ha hb
    have := hs n (fun h => e h.symm)
    omega
def pstN (t : Tr) (C : List Int) (Q : List Eid) : Nat := Q.length + 3 * ((ids t).length - cntC t C)
theorem cntC_le {t : Tr} {C : List Int} (hr : RangeC t C) : cntC t C ≤ (ids t).length := by
 have h1 : (ids t).length = sumTo (fun q => t[q]!.events.length) t.length := by
  have := idsTo_lenN t t.length 0
  rw [Nat.add_zero] at this
  exact this
 rw [h1]
 exact sumTo_le _ fun q hq => by have := hr.at hq; omega
theorem pst_less {t : Tr} {x : Eid} {p i c : Nat} {C : List Int} {R : List Eid} (h : PstI t x C ((p, i) :: R)) (hc : C[p]! = (c : Int)) (hci : c ≤ i) (h2 : ∀ y, (bef t y).length ≤ 2) : pstN t (C.set p ((i : Int) + 1)) (R ++ downB t p i (i + 1 - c)) < pstN t C ((p, i) :: R) := by
 obtain ⟨hin, _⟩ := h.qA (p, i) (by simp)
 have hp : p < t.length := hin.1
 have hpl : p < C.length := by have := h.rg.1; omega
 have hn := (h.take hc hci).rg
 have h3 := cntC_le hn
 have hat : (C.set p ((i : Int) + 1))[p]! = (i : Int) + 1 := by rw [getElem!_pos _ p (by rw [List.length_set]; exact hpl), List.getElem_set_self]
 have hne : ∀ q, q ≠ p → (C.set p ((i : Int) + 1))[q]! = C[q]! := fun q hq => by
  by_cases hl : q < C.length
  ·rw [getElem!_pos _ q (by rw [List.length_set]; exact hl), getElem!_pos C q hl, List.getElem_set_ne (fun e => hq e.symm)]
  ·rw [getElem!_neg _ q (by rw [List.length_set]; exact hl), getElem!_neg C q hl]
 have h4 : cntC t (C.set p ((i : Int) + 1)) + c = cntC t C + (i + 1) :=
  sumTo_set t.length hp (fun q hq => by rw [hne q hq]) (by rw [hc]; omega) (by rw [hat]; omega)
 have h5 := downB_len (t := t) (p := p) (hi := i) h2 (i + 1 - c)
 unfold pstN
 rw [List.length_append, List.length_cons]
 omega
end Go.Proofs.YtbpdbikphlhaiaaGreatDoor
namespace Go.Proofs.YtbpdbikphlhaiaaGreatDoor
open Go.RowKit
set_option linter.unusedVariables false
attribute [local go_sem ↓] Go.wp_at_zero Go.wp_at_succ
theorem Row.news {w : World} {base : Nat} {e : TypeId} {size n cap : Nat} {ad : Option Addr} {xs : List Value} (h : Row w base e size (.slice ad n cap) n xs) (hs : 0 < size) : 0 < n → ∃ a, ad = some a ∧ ∀ j u, xs[j]? = some u → w.cell? (a.add j) = some u := by
 intro hn
 obtain ⟨g, o, c, e1, _⟩ := h.shape hn
 simp only [Value.slice.injEq] at e1
 obtain ⟨rfl, _, rfl⟩ := e1
 refine ⟨_, rfl, fun j u hj => ?_⟩
 have hjl : j < n * size := by
  have := (List.getElem?_eq_some_iff.1 hj).1
  rw [h.1] at this; exact this
 have := h.cell j hjl
 rw [hj] at this
 simpa [Addr.add_lit] using this
theorem eids_one (L : List Eid) : ∀ u ∈ L.flatMap eidC, u.oneCell' = true := by
 intro u hu
 obtain ⟨x, _, hx⟩ := List.mem_flatMap.1 hu
 simp only [eidC, List.mem_cons, List.not_mem_nil, or_false] at hx
 rcases hx with rfl | rfl <;> rfl
theorem eids_flen (L : List Eid) : (L.flatMap eidC).length = L.length * 2 := by
 induction L with
 | nil => rfl
 | cons x L ih => rw [List.flatMap_cons, List.length_append, ih]; simp [eidC]; omega
theorem cnts_set {C : List Int} {p : Nat} {x : Int} : (C.map (Value.int .i64)).set p (.int .i64 x) = (C.set p x).map (Value.int .i64) := by rw [List.map_set]
theorem inc_iff {C : List Int} {p i c : Nat} (hp : p < C.length) (hc : C[p]! = (c : Int)) : InC C (p, i) ↔ i < c := by
 unfold InC
 simp only [hc]
 omega
theorem info_intP : (Tryz.prog.info? 3).map (fun i => (i.zero, i.size, i.bytes)) = some (some (.int .i64 0), 1, 8) := by kernel_rfl
theorem made_ints (n : Nat) : (madeCells (Value.int .i64 0).cells (n * 1)).toList = (List.replicate n (0 : Int)).map (Value.int .i64) := by
 rw [show (Value.int .i64 0).cells = #[.int .i64 0] from rfl, Nat.mul_one, toList_madeCells_one, List.map_replicate]
theorem pstN_skip (t : Tr) (C : List Int) (y : Eid) (R : List Eid) : pstN t C R + 1 = pstN t C (y :: R) := by
 unfold pstN; rw [List.length_cons]; omega
set_option maxHeartbeats 16000000 in
set_option maxRecDepth 100000 in
theorem past_calls (v : Value) (t : Tr) (b1 b2 m p i : Nat) (w : World) (h : TrAt w v t) (hv : validT t = true) (hx : Inn t (p, i)) (hm : EvM w b1 m t 2 (ids t)) :
  Calls Tryz.prog 29 #[.agg #[v, .map (some b1), .map (some b2)], .agg #[.int .i64 p, .int .i64 ((i : Int) + 1)]] w fun e w' => ∃ C u, PstI t (p, i) C [] ∧ e = .returned u ∧ Row w' w.heap.size 3 1 u C.length (C.map (Value.int .i64)) ∧ Ext w w' := by
 have HBC := Lib.hid (fun W (hW : Ext w W) (a c : Nat) (hy : Inn t (a, c)) => back_calls v t b1 b2 m a c W (h.ext hW) hv hy (hm.ext hW))
 have hs := valid_small hv
 have HS := Lib.hid hs
 have HIDS : Hid ((ids t).length ≤ 1000) := Lib.hid (by
  have h8 : t.length ≤ 8 := (shapeB_parts2.1 (validT_parts2.1 hv).1).2.1
  have := ids_len64 hv t.length 0 (Nat.le_refl _) (by omega)
  have e : (ids t).length = (idsTo t t.length 0).length := rfl
  omega)
 have HE64 : Hid (∀ p, p < t.length → t[p]!.events.length ≤ 64) := Lib.hid (fun p hp => (headB_parts.1 ((shapeB_parts2.1 (validT_parts2.1 hv).1).2.2.1 p hp)).2.2.2.2)
 obtain ⟨ix, hix⟩ : ∃ x : Int, (i : Int) + 1 = x := ⟨_, rfl⟩
 rw [hix]
 have HIX := Lib.hid hix
 have HXI := Lib.hid hx
 have HP0 := Lib.hid (PstI.start hx)
 have hpn : p < t.length := hx.1
 have hn8 : t.length ≤ 8 := (shapeB_parts2.1 (validT_parts2.1 hv).1).2.1
 obtain ⟨ie, hie, iz0, iz1, iz2⟩ := info_parts info_eid
 obtain ⟨ta, tc, rfl, htc⟩ := h.sh
 generalize hln : t.length = n at *
 have HL := Lib.hid hln
 have HE2 := Lib.hid (((Ext.rf w).al (.cells #[.slice ta n tc, .map (some b1), .map (some b2)] 69)).al (.cells #[.int .i64 p, .int .i64 ix] 39))
 have HX0 := Lib.hid (((Ext.rf _).al (.cells #[.int .i64 p, .int .i64 ix] 39)).hp (heap_alloc_new w (.cells #[.slice ta n tc, .map (some b1), .map (some b2)] 69)))
 have HX1 := Lib.hid (heap_new_eq (w := w.alloc (.cells #[.slice ta n tc, .map (some b1), .map (some b2)] 69)) (o := .cells #[.int .i64 p, .int .i64 ix] 39) (b := w.heap.size + 1) (by simp))
 clear h hv hx hm hs hln hix htc
 go_enter Tryz.func29, Tryz.ntmps29
 go_upto_region 1 with (fail)
 generalize hw2 : (w.alloc (.cells #[.slice ta n tc, .map (some b1), .map (some b2)] 69)).alloc (.cells #[.int .i64 p, .int .i64 ix] 39) = w2 at *
 have hszw : w.heap.size + 2 = w2.heap.size := by rw [← hw2]; simp
 clear hw2
 obtain ⟨ii, hii, jz0, jz1, jz2⟩ := info_parts info_intP
 have i0 := cellOf HX0.out 0
 simp only [List.getElem?_toArray, List.getElem?_cons_zero] at i0
 go_wp2_with (first | (at_make; refine wpList_make_full _ rfl _ _ 25 rfl w2.heap.size 3 ii (.int .i64 0) 1 Tryz.underlying25 hii jz0 jz1 .i64 .i64 _ _ n rfl rfl rfl rfl (by rw [jz2]; omega) (by unfold maxLen; omega) (Nat.le_refl _) ?_; intro w3 hown3 hgrow3; have HRC := Lib.hid (Row.ofOwns hown3); rw [made_ints] at HRC; have HX3 := Lib.hid (show Ext w2 w3 from (Ext.rf w2).gr hgrow3 (by simp)); clear hown3 hgrow3; have j0 := cellOf (HX3.out.hp HX1.out) 0; have j1 := cellOf (HX3.out.hp HX1.out) 1; simp only [List.getElem?_toArray, List.getElem?_cons_zero, List.getElem?_cons_succ] at j0 j1))
 obtain ⟨cb, hcb⟩ : ∃ b, w2.heap.size = b := ⟨_, rfl⟩
 have HCB := Lib.hid hcb
 have hpos : 0 < n := by omega
 have HRQ0 : Hid (Row (w3.alloc (.cells #[.int .i64 p, .int .i64 ix] 39)) w2.heap.size 39 2 (.slice (some ⟨w3.heap.size, 0, none⟩) 1 1) 1 ([(p, i)].flatMap eidC)) := Lib.hid (by
  have e : [(p, i)].flatMap eidC = [.int .i64 p, .int .i64 ix] := by rw [← HIX.out]; simp [eidC]
  rw [e]
  exact ⟨rfl, .inr ⟨w3.heap.size, 0, 1, #[.int .i64 p, .int .i64 ix], rfl, HX3.out.sz, heap_alloc_new w3 _, by omega, by unfold maxLen; omega, by simp, by simp⟩⟩)
 have HRC0 := Lib.hid (HRC.out.al (.cells #[.int .i64 p, .int .i64 ix] 39))
 have HX30 := Lib.hid (HX3.out.al (.cells #[.int .i64 p, .int .i64 ix] 39))
 rw [hcb] at HRC0 HRQ0 ⊢
 have HM0 : Hid (pstN t (List.replicate n 0) [(p, i)] ≤ 1 + 3 * (ids t).length) := Lib.hid (by
  have h := Nat.sub_le (ids t).length (cntC t (List.replicate n 0))
  show [(p, i)].length + 3 * _ ≤ _
  simp only [List.length_singleton]; omega)
 clear j0 j1 i0 HRC hcb
 generalize w3.alloc (.cells #[.int .i64 p, .int .i64 ix] 39) = w4 at *
 go_loopg [6] (1 + 3 * (ids t).length) (fun g s6 wr => ∃ (C : List Int) (Q : List Eid), pstN t C Q ≤ g ∧ Aside (pstN t C Q ≤ 1 + 3 * (ids t).length) ∧ Aside (Row wr cb 39 2 s6 Q.length (Q.flatMap eidC)) ∧ Aside (Row wr cb 3 1 (.slice (some ⟨cb, 0, none⟩) n n) n (C.map (Value.int .i64))) ∧ Aside (PstI t (p, i) C Q) ∧ Aside (Ext w2 wr))
 case atStart => exact ⟨List.replicate n 0, [(p, i)], HM0.out, (show Aside _ from HM0.out), HRQ0, HRC0, HP0, HX30⟩
 case round =>
  obtain ⟨C, Q, hg, HGB, HRQ, HRC, HPI, HEQ⟩ := hrel
  have HEW := Lib.hid (HE2.out.trans' HEQ.out)
  have HCL : Hid (C.length = n) := Lib.hid (by have := HPI.out.rg.1; rw [HL.out] at this; omega)
  clear HRQ0 HRC0 HX30 HM0
  cases Q with
  | nil =>
    obtain ⟨a7, c7, rfl⟩ := HRQ.out.nil_of rfl
    go_wp2
    go_ret
    exact ⟨C, _, HPI.out, rfl, by rw [HCL.out]; exact HRC.out.mono (by have := HE2.out.sz; have := HCB.out; omega), HEW.out⟩
  | cons y T =>
    obtain ⟨y1, y2⟩ := y
    have HIN := Lib.hid (HPI.out.qA (y1, y2) (by simp)).1
    have hy1 : y1 < n := by have := HIN.out.1; rw [HL.out] at this; exact this
    have hy2 : y2 < t[y1]!.events.length := HIN.out.2
    have hlc : ((y1, y2) :: T).length = T.length + 1 := rfl
    rw [hlc] at HRQ
    obtain ⟨g7, o7, c7, rfl, hb7, hl7, hc7⟩ := HRQ.out.shape (Nat.succ_pos _)
    have e0 := HRQ.out.cell 0 (by omega)
    have e1 := HRQ.out.cell 1 (by omega)
    have htl := HRQ.out.tail
    simp only [eidC, List.flatMap_cons, List.cons_append, List.nil_append, List.getElem?_cons_zero, List.getElem?_cons_succ, Nat.add_zero, List.drop_succ_cons, List.drop_zero] at e0 e1 htl
    have HTL := Lib.hid htl
    have hen : t[y1]!.events.length ≤ 64 := HE64.out y1 hy1
    obtain ⟨c, hc⟩ : ∃ c : Nat, C[y1]! = (c : Int) := ⟨C[y1]!.toNat, by have := (HPI.out.rg.at (p := y1) (by rw [HL.out]; exact hy1)).1; omega⟩
    have hcc := HRC.out.cell y1 (by omega)
    rw [List.getElem?_map, List.getElem?_eq_getElem (by rw [HCL.out]; exact hy1), ← getElem!_pos C y1 (by rw [HCL.out]; exact hy1), hc, Nat.zero_add] at hcc
    simp only [Option.map_some] at hcc
    have HC := Lib.hid hc
    have hcn : c ≤ t[y1]!.events.length := by have := (HPI.out.rg.at (p := y1) (by rw [HL.out]; exact hy1)).2; omega
    have HKB := Lib.hid (show T.length ≤ 4000 from by have h1 := HGB.out; have h2 := HIDS.out; unfold pstN at h1; rw [List.length_cons] at h1; omega)
    generalize hk : T.length = k at *
    have HK := Lib.hid hk
    generalize hne : t[y1]!.events.length = ne at *
    have hg7 : g7 < wr.heap.size := hl7
    clear htl hk hlc hl7 hne hc
    have hc7e : Hid (c7 ≠ 1 → 1 < c7) := Lib.hid (fun h => by omega)
    have hk0 : Hid (c7 = 1 → k = 0) := Lib.hid (fun h => by omega)
    have hy1z : (0 : Int) ≤ (y1 : Int) := by omega
    have hy1i : (y1 : Int) < (n : Int) := by omega
    go_upto_region 5 with (fail)
    go_cut [6, 7] (fun s6 s7 wx => ∃ (a7 : Option Addr) (c9 : Nat), s6 = .slice a7 k c9 ∧ s7 = .pointer (some ⟨wr.heap.size, 0, none⟩) ∧ Aside (Row wx cb 39 2 (.slice a7 k c9) k (T.flatMap eidC)) ∧ Aside ((Value.slice a7 k c9).ownBlock ≠ some wr.heap.size) ∧ Aside (wx = wr.alloc (idO y1 ((y2 : Int) + 1))))
    case first =>
     by_cases hc1 : c7 = 1
     ·have hk1 := hk0.out hc1
      subst hc1
      subst hk1
      go_wp2
      go_meet
      have hT := List.eq_nil_of_length_eq_zero HK.out
      exact ⟨_, _, rfl, rfl, (show Row _ _ _ _ _ _ _ from by rw [hT]; exact HTL.out.2.al _), (show _ ≠ _ from fun e => by have := (HTL.out.2.lt _ e).2; omega), (show _ = _ from rfl)⟩
     ·have hc2 := hc7e.out hc1
      go_wp2
      go_meet
      exact ⟨_, _, rfl, rfl, (show Row _ _ _ _ _ _ _ from HTL.out.1.al _), (show _ ≠ _ from fun e => by have := (HTL.out.1.lt _ e).2; omega), (show _ = _ from rfl)⟩
    case rest =>
     obtain ⟨a7, c9, rfl, rfl, HR, HNB, HWX⟩ := hcut
     obtain rfl := HWX.out
     obtain ⟨wx, hwx⟩ : ∃ wx, wr.alloc (idO y1 ((y2 : Int) + 1)) = wx := ⟨_, rfl⟩
     rw [hwx] at HR HWX ⊢
     obtain ⟨bx, hbx⟩ : ∃ b, wr.heap.size = b := ⟨_, rfl⟩
     have HX3x := Lib.hid (show Ext wr wx from by rw [← hwx]; exact (Ext.rf wr).al _)
     have HBX := Lib.hid (show wx.heap[bx]? = some (idO y1 ((y2 : Int) + 1)) from by rw [← hwx, ← hbx]; exact heap_alloc_new wr _)
     rw [hbx] at HNB ⊢
     have HBB := Lib.hid (show cb ≤ bx ∧ bx < wx.heap.size from ⟨by have := HEQ.out.sz; have := HCB.out; omega, by rw [← hwx, World.size_alloc, hbx]; omega⟩)
     clear hwx HWX hbx
     have HRC3 := Lib.hid (HRC.out.ext HX3x.out)
     have HEQ3 := Lib.hid (HEQ.out.trans' HX3x.out)
     have hcc3 := HX3x.out.cl hcc
     have x0 := cellOf HBX.out 0
     have x1 := cellOf HBX.out 1
     simp only [List.getElem?_toArray, List.getElem?_cons_zero, List.getElem?_cons_succ] at x0 x1
     have HHM := Lib.hid (And.intro hk0 hc7e)
     clear hcc e0 e1 HTL HRQ HRC HEQ HX3x hk0 hc7e
     by_cases hcy : y2 + 1 ≤ c
     ·have dge : (y2 : Int) + 1 ≤ (c : Int) := by omega
      have HSK := Lib.hid (HPI.out.skip ((inc_iff (by rw [HCL.out]; exact hy1) HC.out).2 (by omega)))
      have HPS := Lib.hid (pstN_skip t C (y1, y2) T)
      go_wp2
      go_quiet (fail)
      go_wp2
      go_roundg (pstN t C T)
      case measure => have := HPS.out; omega
      case rel => exact ⟨C, T, Nat.le_refl _, (show _ ≤ _ from by have := HPS.out; have := HGB.out; omega), (show Row _ _ _ _ _ _ _ from by rw [HK.out]; exact HR.out.ext ((Ext.rf wx).drN _)), (show Row _ _ _ _ _ _ _ from HRC3.out.ext ((Ext.rf wx).drN _)), HSK.out, HEQ3.out.drN _⟩
     ·have dge : ¬ (y2 : Int) + 1 ≤ (c : Int) := by omega
      have HTK := Lib.hid (HPI.out.take HC.out (by omega))
      have HLS := Lib.hid (pst_less HPI.out HC.out (by omega) (fun y => bef_len t y))
      go_wp2
      go_quiet (fail)
      have HEQ4 := Lib.hid (HEQ3.out.drN nq)
      have HRC4 := Lib.hid (HRC3.out.ext ((Ext.rf wx).drN nq))
      have HR4 := Lib.hid (HR.out.ext ((Ext.rf wx).drN nq))
      have HBX4 := Lib.hid (((Ext.rf wx).drN nq).hp HBX.out)
      have x1' : (wx.drewN nq).cell? ⟨bx, 1, none⟩ = some (.int .i64 ((y2 : Int) + 1)) := x1
      have HBB4 : Hid (cb ≤ bx ∧ bx < (wx.drewN nq).heap.size) := HBB
      generalize wx.drewN nq = w5 at *
      clear HRC3 HEQ3 HR HBX hcc3 x0 x1
      obtain ⟨J, hJ⟩ : ∃ J, y2 + 1 - c = J := ⟨_, rfl⟩
      have HJ := Lib.hid hJ
      have hJ2 : (c : Int) + J = (y2 : Int) + 1 := by omega
      have HDL := Lib.hid (fun j => downB_len (t := t) (p := y1) (hi := y2) (fun y => bef_len t y) j)
      obtain ⟨wq, rfl⟩ : ∃ x, x = wr := ⟨_, rfl⟩
      go_wp2
      clear x1' dge
      go_loopg [6, 8] J (fun g3 s6 s8 wr => ∃ j : Nat, j ≤ J ∧ J - j ≤ g3 ∧ s8 = .int .i64 ((y2 : Int) + 1 - (j : Int)) ∧ Aside (Row wr cb 39 2 s6 (k + (downB t y1 y2 j).length) ((T ++ downB t y1 y2 j).flatMap eidC)) ∧ Aside (s6.ownBlock ≠ some bx) ∧ Aside (Row wr cb 3 1 (.slice (some ⟨cb, 0, none⟩) n n) n (C.map (Value.int .i64))) ∧ Aside (wr.heap[bx]? = some (idO y1 ((y2 : Int) + 1))) ∧ Aside (bx < wr.heap.size) ∧ Aside (Ext w2 wr))
      case atStart => exact ⟨0, Nat.zero_le _, by omega, by go_num, (show Row _ _ _ _ _ _ _ from by simpa [downB] using HR4.out), (show _ ≠ _ from HNB.out), HRC4, HBX4, HBB4.out.2, HEQ4⟩
      case round =>
       obtain ⟨j, hj, hg3, rfl, HRT, HNJ, HRJ, HBJ, HSJ, HEJ⟩ := hrel
       have HEWJ := Lib.hid (HE2.out.trans' HEJ.out)
       have x0 := cellOf HBJ.out 0
       have x1 := cellOf HBJ.out 1
       simp only [List.getElem?_toArray, List.getElem?_cons_zero, List.getElem?_cons_succ] at x0 x1
       have hcc := HRJ.out.cell y1 (by omega)
       rw [List.getElem?_map, List.getElem?_eq_getElem (by rw [HCL.out]; exact hy1), ← getElem!_pos C y1 (by rw [HCL.out]; exact hy1), HC.out, Nat.zero_add] at hcc
       simp only [Option.map_some] at hcc
       have hfr := HRJ.out.free y1
       clear HR4 HRC4 HBX4 HEQ4
       by_cases hjJ : j < J
       ·have hlt : (c : Int) < (y2 : Int) + 1 - (j : Int) := by omega
        have HIY : Hid (Inn t (y1, y2 - j)) := Lib.hid ⟨HIN.out.1, by have := HIN.out.2; simp only at this ⊢; omega⟩
        have HB := HBC.out wr HEWJ.out y1 (y2 - j) HIY.out
        have ez : ((y2 - j : Nat) : Int) + 1 = (y2 : Int) + 1 - (j : Int) := by omega
        rw [ez] at HB
        have HB := Lib.hid HB
        have HY0 := Lib.hid (HEJ.out.hp HX0.out)
        have i0 := cellOf HY0.out 0
        have i1 := cellOf HY0.out 1
        have i2 := cellOf HY0.out 2
        simp only [List.getElem?_toArray, List.getElem?_cons_zero, List.getElem?_cons_succ] at i0 i1 i2
        have HDS : Hid (downB t y1 y2 (j + 1) = downB t y1 y2 j ++ bef t (y1, y2 - j)) := Lib.hid rfl
        have hdl : (downB t y1 y2 j).length ≤ 200 := by have := HDL.out j; omega
        have hbl := bef_len t (y1, y2 - j)
        generalize bef t (y1, y2 - j) = L at *
        generalize downB t y1 y2 j = DB at *
        generalize hdn : DB.length = dl at *
        have HDN := Lib.hid hdn
        clear hdn ez hfr
        go_wp2_with fail
        clear i0 i1 i2 x0 x1 hcc
        refine (HB.out).mono ?_
        rintro e w6 ⟨v9, rfl, hR9, hE9⟩
        obtain ⟨a9, l9, rfl, hl9, _⟩ := hR9.any
        have HNW := Lib.hid (hR9.news (by decide))
        have HFL := Lib.hid (eids_flen L)
        have HR6 := Lib.hid (HRT.out.ext hE9)
        have HRC6 := Lib.hid (HRJ.out.ext hE9)
        have HBX6 := Lib.hid (hE9.hp HBJ.out)
        have HEQ6 := Lib.hid (HEJ.out.trans' hE9)
        have HSZ6 : Hid (bx < w6.heap.size) := Lib.hid (by have := hE9.sz; have := HSJ.out; omega)
        have hbw6 : cb ≤ w6.heap.size := by have := HEQ6.out.sz; have := HCB.out; omega
        generalize hll : L.length = ll at *
        have HLL := Lib.hid hll
        have hkb := HKB.out
        clear hR9 hE9 hll HB
        go_wp2_with ((at_builtin; go_loud (refine wpList_append_row rfl _ _ 71 rfl cb 39 ie (.agg #[.int .i64 0, .int .i64 0]) 2 16 Tryz.underlying71 hie iz0 iz1 iz2 rfl (by decide) _ (k + dl) _ rfl HR6.out a9 ll l9 (L.flatMap eidC) rfl HFL.out HNW.out (eids_one L) (by unfold maxLen; omega) (by omega) hbw6 ?_; intro v8 w8 hown8 hgrow8 hblk8; have HOWN := Lib.hid hown8; have HG8 := Lib.hid hgrow8; have HK8 := Lib.hid hblk8; clear hown8 hgrow8 hblk8)))
        go_roundg (J - (j + 1))
        case measure => omega
        case rel =>
         refine ⟨j + 1, by omega, by omega, by go_num, (show Row _ _ _ _ _ _ _ from ?_), (show _ ≠ _ from ?_), (show Row _ _ _ _ _ _ _ from HRC6.out.grown HG8.out (HRC6.out.apart HR6.out (by decide))), (show _ = _ from grownKeep HG8.out HNJ.out HBX6.out), (show _ < _ from by have := HG8.out.size; have := HSZ6.out; omega), HEQ6.out.gr HG8.out (fun q hq => by have := (HR6.out.lt q hq).1; have := HCB.out; omega)⟩
         ·have h9 := HOWN.out
          rw [HDS.out, List.length_append, HDN.out, HLL.out, ← List.append_assoc, List.flatMap_append, ← Nat.add_assoc]
          exact h9
         ·rcases HK8.out with e | ⟨kk, e, hkk⟩
          ·rw [e]; exact HNJ.out
          ·rw [e]; intro e2
           simp only [Option.some.injEq] at e2
           have := HSZ6.out; omega
       ·have hlt : ¬ (c : Int) < (y2 : Int) + 1 - (j : Int) := by omega
        obtain rfl : J = j := by omega
        go_wp2
        go_roundg (pstN t (C.set y1 ((y2 : Int) + 1)) (T ++ downB t y1 y2 (y2 + 1 - c)))
        case measure => have := HLS.out; omega
        case rel =>
         refine ⟨C.set y1 ((y2 : Int) + 1), T ++ downB t y1 y2 (y2 + 1 - c), Nat.le_refl _, (show _ ≤ _ from by have := HLS.out; have := HGB.out; omega), (show Row _ _ _ _ _ _ _ from ?_), (show Row _ _ _ _ _ _ _ from ?_), HTK.out, ?_⟩
         ·have h9 := HRT.out
          rw [HJ.out, List.length_append, HK.out]
          exact h9.st (fun e => by
           rcases h9.apart HRJ.out (by decide) with h | h
           ·rw [h] at e; cases e
           ·exact h e) _
         ·have h9 := HRJ.out.set y1 (.int .i64 ((y2 : Int) + 1)) (by omega)
          rw [cnts_set, Nat.zero_add] at h9
          exact h9
         ·exact HEJ.out.st (by have := HCB.out; show w2.heap.size ≤ cb; omega) _
end Go.Proofs.YtbpdbikphlhaiaaGreatDoor
namespace Go.Proofs.YtbpdbikphlhaiaaGreatDoor
open Go.RowKit
set_option linter.unusedVariables false
attribute [local go_sem ↓] Go.wp_at_zero Go.wp_at_succ
set_option maxHeartbeats 4000000 in
set_option maxRecDepth 100000 in
theorem exists_calls (v : Value) (t : Tr) (p i : Nat) (w : World) (h : TrAt w v t) (hs : SmallTr t) (hx : Inn t (p, i)) :
  Calls Tryz.prog 49 #[.agg #[v], .agg #[.int .i64 p, .int .i64 ((i : Int) + 1)]] w fun e w' => e = .returned (.bool true) ∧ Ext w w' := by
 obtain ⟨hp, hi⟩ := hx
 simp only at hp hi
 obtain ⟨TB, TO, TC, vv, ve, rfl, hlC, hB, hn0, hv0, he0, hV, hE0⟩ := proc_at h p hp
 obtain ⟨ea, ec, rfl, hec⟩ := hE0.sh
 have hn1 := hs.1
 have hen := (hs.2 p hp).2.1
 generalize t[p]!.events.length = ne at *
 generalize t.length = n at *
 obtain ⟨ix, hix⟩ : ∃ x : Int, (i : Int) + 1 = x := ⟨_, rfl⟩
 rw [hix]
 have hpz : (0 : Int) ≤ (p : Int) := by omega
 have hpi : (p : Int) < (n : Int) := by omega
 have hb1 : 1 ≤ ix := by omega
 have hb2 : ix ≤ (ne : Int) := by omega
 have HE2 := Lib.hid (((Ext.rf w).al (.cells #[.slice (some ⟨TB, TO, none⟩) n TC] 24)).al (.cells #[.int .i64 p, .int .i64 ix] 39))
 have q2 := HE2.out.cl he0
 clear h hs hn0 hv0 he0 hV hE0 hix hp hi
 go_enter Tryz.func49, Tryz.ntmps49
 go_wp2
 go_quiet (fail)
 go_wp2
 go_ret
 exact ⟨rfl, (((Ext.rf w).al _).al _).drN _⟩
set_option maxHeartbeats 4000000 in
set_option maxRecDepth 100000 in
theorem check0_calls (v : Value) (t : Tr) (w : World) (h : TrAt w v t) (hv : validT t = true) :
  Calls Tryz.prog 26 #[.agg #[v], .slice none 0 0] w fun e w' => e = .returned (.int .i64 0) ∧ Ext w w' := by
 have HVC := Lib.hid (fun W (hW : Ext w W) => validP_calls v t W (h.ext hW) (valid_small hv).loose)
 rw [hv] at HVC
 obtain ⟨ta, tc, rfl, htc⟩ := h.sh
 generalize t.length = n at *
 have HY1 := Lib.hid (heap_alloc_new w (.cells #[.slice ta n tc] 24))
 have HE1 := Lib.hid ((Ext.rf w).al (.cells #[.slice ta n tc] 24))
 clear h hv
 go_enter Tryz.func26, Tryz.ntmps26
 go_wp2_with fail
 refine (HVC.out _ HE1.out).mono ?_
 rintro e w2 ⟨rfl, hX⟩
 have HE2 := Lib.hid (HE1.out.trans' hX)
 have HY2 := Lib.hid (hX.hp HY1.out)
 have t2 := cellOf HY2.out 0
 simp only [List.getElem?_toArray, List.getElem?_cons_zero] at t2
 clear hX
 go_wp2
 go_loopg [12] 0 (fun g s12 wr => s12 = .int .i64 0 ∧ wr = w2)
 case atStart => exact ⟨rfl, rfl⟩
 case round =>
  obtain ⟨rfl, rfl⟩ := hrel
  go_wp2
  go_ret
  exact ⟨rfl, HE2.out⟩
set_option maxHeartbeats 4000000 in
set_option maxRecDepth 100000 in
theorem check1_calls (v : Value) (t : Tr) (p i B : Nat) (w : World) (h : TrAt w v t) (hv : validT t = true) (hx : Inn t (p, i)) (hB : w.heap[B]? = some (.cells #[.int .i64 p, .int .i64 ((i : Int) + 1)] 39)) :
  Calls Tryz.prog 26 #[.agg #[v], .slice (some ⟨B, 0, none⟩) 1 1] w fun e w' => e = .returned (.int .i64 0) ∧ Ext w w' := by
 have HVC := Lib.hid (fun W (hW : Ext w W) => validP_calls v t W (h.ext hW) (valid_small hv).loose)
 have HXC := Lib.hid (fun W (hW : Ext w W) => exists_calls v t p i W (h.ext hW) (valid_small hv) hx)
 rw [hv] at HVC
 obtain ⟨ix, hix⟩ : ∃ x : Int, (i : Int) + 1 = x := ⟨_, rfl⟩
 rw [hix] at HXC hB
 obtain ⟨ta, tc, rfl, htc⟩ := h.sh
 generalize t.length = n at *
 have HY1 := Lib.hid (heap_alloc_new w (.cells #[.slice ta n tc] 24))
 have HE1 := Lib.hid ((Ext.rf w).al (.cells #[.slice ta n tc] 24))
 have HB := Lib.hid hB
 clear h hv hx hix hB
 go_enter Tryz.func26, Tryz.ntmps26
 go_wp2_with fail
 refine (HVC.out _ HE1.out).mono ?_
 rintro e w2 ⟨rfl, hX⟩
 have HE2 := Lib.hid (HE1.out.trans' hX)
 have HY2 := Lib.hid (hX.hp HY1.out)
 have t2 := cellOf HY2.out 0
 simp only [List.getElem?_toArray, List.getElem?_cons_zero] at t2
 clear hX
 go_wp2
 clear t2
 go_loopg [12] 1 (fun g s12 wr => ∃ k : Nat, k ≤ 1 ∧ 1 - k ≤ g ∧ s12 = .int .i64 k ∧ Aside (Ext w2 wr))
 case atStart => exact ⟨0, Nat.zero_le _, by omega, rfl, Ext.rf _⟩
 case round =>
  obtain ⟨k, hk, hg, rfl, HEK⟩ := hrel
  have HEW := Lib.hid (HE2.out.trans' HEK.out)
  have HYK := Lib.hid (HEK.out.hp HY2.out)
  by_cases hk0 : k = 0
  ·subst hk0
   have c0 := cellOf (HEW.out.hp HB.out) 0
   have c1 := cellOf (HEW.out.hp HB.out) 1
   have t0 := cellOf HYK.out 0
   simp only [List.getElem?_toArray, List.getElem?_cons_zero, List.getElem?_cons_succ] at c0 c1 t0
   have hz : (0 : Int) < 1 := by decide
   have hbw := World.block_lt_of_cell? wr _ t0
   go_wp2_with fail
   refine (HXC.out _ (HEW.out.al _)).mono ?_
   rintro e w9 ⟨rfl, hX9⟩
   have HE9 := Lib.hid ((HEK.out.al _).trans' hX9)
   clear hX9 c0 c1 t0
   go_wp2
   go_roundg 0
   case measure => omega
   case rel => exact ⟨1, Nat.le_refl _, Nat.le_refl _, by go_num, HE9.out⟩
  ·obtain rfl : k = 1 := by omega
   go_wp2
   go_ret
   exact ⟨rfl, HEW.out⟩
set_option maxHeartbeats 4000000 in
set_option maxRecDepth 100000 in
theorem number_calls (v : Value) (t : Tr) (p i : Nat) (w : World) (h : TrAt w v t) (hv : validT t = true) (hx : Inn t (p, i)) :
  Calls Tryz.prog 30 #[.agg #[v], .agg #[.int .i64 p, .int .i64 ((i : Int) + 1)]] w fun e w' => e = .returned (.int .i64 (numE t (p, i) : Int)) ∧ Ext w w' := by
 have HT := Lib.hid h
 have HE64 : Hid (∀ p, p < t.length → t[p]!.events.length ≤ 64) := Lib.hid (fun p hp => (headB_parts.1 ((shapeB_parts2.1 (validT_parts2.1 hv).1).2.2.1 p hp)).2.2.2.2)
 have hn8 : t.length ≤ 8 := (shapeB_parts2.1 (validT_parts2.1 hv).1).2.1
 have hpn : p < t.length := hx.1
 have hi64 : i < 64 := by have h1 : i < t[p]!.events.length := hx.2; have := HE64.out p hpn; omega
 have HN1 : Hid (∀ q, numTo t (q + 1) = numTo t q + t[q]!.events.length) := Lib.hid (fun q => rfl)
 have HN0 : Hid (numTo t 0 = 0) := Lib.hid rfl
 have HNE : Hid (numE t (p, i) = numTo t p + i) := Lib.hid rfl
 generalize numE t (p, i) = N at *
 obtain ⟨ta, tc, rfl, htc⟩ := h.sh
 generalize hln : t.length = n at *
 have HL := Lib.hid hln
 obtain ⟨ix, hix⟩ : ∃ x : Int, (i : Int) + 1 = x := ⟨_, rfl⟩
 rw [hix]
 have hixi : ix - 1 = (i : Int) := by omega
 have hb1 : 1 ≤ ix := by omega
 have hb2 : ix ≤ 64 := by omega
 have hpc : (p : Int) ≤ (tc : Int) := by omega
 have hpz : (0 : Int) ≤ (p : Int) := by omega
 have HE2 := Lib.hid (((Ext.rf w).al (.cells #[.slice ta n tc] 24)).al (.cells #[.int .i64 p, .int .i64 ix] 39))
 clear h hv hx hln hix
 go_enter Tryz.func30, Tryz.ntmps30
 go_wp2
 generalize hw2 : (w.alloc (.cells #[.slice ta n tc] 24)).alloc (.cells #[.int .i64 p, .int .i64 ix] 39) = w2 at *
 clear hw2
 go_loopg [5, 17] p (fun g s5 s17 wr => ∃ q : Nat, q ≤ p ∧ p - q ≤ g ∧ s17 = .int .i64 q ∧ (∃ z : Nat, s5 = .int .i64 ((i : Int) + (z : Int)) ∧ z ≤ 64 * q ∧ Aside (numTo t q = z)) ∧ Aside (Ext w2 wr))
 case atStart => exact ⟨0, Nat.zero_le _, by omega, rfl, ⟨0, by go_num, by omega, (show _ = _ from HN0.out)⟩, Ext.rf _⟩
 case round =>
  obtain ⟨q, hq, hg, rfl, ⟨z, rfl, hz, HZ⟩, HEK⟩ := hrel
  have HEW := Lib.hid (HE2.out.trans' HEK.out)
  by_cases hlt : q < p
  ·have hltz : (q : Int) < (p : Int) := by omega
   have hqz : (0 : Int) ≤ (q : Int) := by omega
   obtain ⟨B, O, C, vv, ve, hve, hlC, hB, hn0, hv0, he0, hVv, hE0⟩ := proc_at HT.out q (by rw [HL.out]; omega)
   simp only [Value.slice.injEq] at hve
   obtain ⟨rfl, hzz, rfl⟩ := hve
   obtain ⟨ea, ec, rfl, hec⟩ := hE0.sh
   have hen := HE64.out q (by omega)
   have HNQ := Lib.hid (HN1.out q)
   generalize t[q]!.events.length = ne at *
   have q0 := HEW.out.cl hn0
   have q1 := HEW.out.cl hv0
   have q2 := HEW.out.cl he0
   obtain ⟨va0, vl0, vc0, rfl⟩ : ∃ a l c, vv = .slice a l c := by obtain ⟨a, c, h, _⟩ := hVv.sh; exact ⟨a, _, c, h⟩
   obtain ⟨nm, hnm⟩ : ∃ x, t[q]!.name = x := ⟨_, rfl⟩
   rw [hnm] at q0
   have HEX := Lib.hid (HEK.out.al (.cells #[.string nm, .slice va0 vl0 vc0, .slice ea ne ec] 54))
   clear hn0 hv0 hVv hE0 hzz he0 hnm
   go_wp2
   go_roundg (p - (q + 1))
   case measure => omega
   case rel => exact ⟨q + 1, by omega, by omega, by go_num, ⟨z + ne, by go_num, by omega, (show _ = _ from by rw [HNQ.out, HZ.out])⟩, HEX.out⟩
  ·have hltz : ¬ (q : Int) < (p : Int) := by omega
   obtain rfl : p = q := by omega
   have HN : Hid (((N : Nat) : Int) = (i : Int) + (z : Int)) := Lib.hid (by rw [HNE.out, HZ.out]; omega)
   go_wp2
   go_ret
   exact ⟨by rw [HN.out]; rfl, HEW.out⟩
set_option maxHeartbeats 4000000 in
set_option maxRecDepth 100000 in
theorem numberC_calls (v : Value) (t : Tr) (p i : Nat) (w : World) (h : TrAt w v t) (hv : validT t = true) (hx : Inn t (p, i)) :
  Calls Tryz.prog 11 #[.agg #[v], .agg #[.int .i64 p, .int .i64 ((i : Int) + 1)]] w fun e w' => e = .returned (.tuple #[.int .i64 (numE t (p, i) : Int), .int .i64 0]) ∧ Ext w w' := by
 have HNC := Lib.hid (fun W (hW : Ext w W) => number_calls v t p i W (h.ext hW) hv hx)
 have HCC := Lib.hid (fun W B (hW : Ext w W) => check1_calls v t p i B W (h.ext hW) hv hx)
 generalize numE t (p, i) = N at *
 obtain ⟨ix, hix⟩ : ∃ x : Int, (i : Int) + 1 = x := ⟨_, rfl⟩
 rw [hix] at HNC HCC ⊢
 obtain ⟨ta, tc, rfl, htc⟩ := h.sh
 generalize t.length = n at *
 have HX0 := Lib.hid (((Ext.rf _).al (.cells #[.int .i64 p, .int .i64 ix] 39)).hp (heap_alloc_new w (.cells #[.slice ta n tc] 24)))
 have HX1 := Lib.hid (heap_new_eq (w := w.alloc (.cells #[.slice ta n tc] 24)) (o := .cells #[.int .i64 p, .int .i64 ix] 39) (b := w.heap.size + 1) (by simp))
 have HE2 := Lib.hid (((Ext.rf w).al (.cells #[.slice ta n tc] 24)).al (.cells #[.int .i64 p, .int .i64 ix] 39))
 clear h hv hx hix
 go_enter Tryz.func11, Tryz.ntmps11
 go_upto_region 1 with (fail)
 generalize hw2 : (w.alloc (.cells #[.slice ta n tc] 24)).alloc (.cells #[.int .i64 p, .int .i64 ix] 39) = w2 at *
 clear hw2
 have t0 := cellOf HX0.out 0
 have j0 := cellOf HX1.out 0
 have j1 := cellOf HX1.out 1
 simp only [List.getElem?_toArray, List.getElem?_cons_zero, List.getElem?_cons_succ] at t0 j0 j1
 have hE3 := HE2.out.al (.cells #[.int .i64 p, .int .i64 ix] 39)
 have HB3 := Lib.hid (heap_alloc_new w2 (.cells #[.int .i64 p, .int .i64 ix] 39))
 have HE3 := Lib.hid hE3
 clear hE3
 go_wp2_with fail
 refine (HCC.out _ _ HE3.out HB3.out).mono ?_
 rintro e w4 ⟨rfl, hX4⟩
 have HE4 := Lib.hid (HE3.out.trans' hX4)
 have HX0 := Lib.hid (hX4.hp (((Ext.rf w2).al _).hp HX0.out))
 have HX1 := Lib.hid (hX4.hp (((Ext.rf w2).al _).hp HX1.out))
 have t0 := cellOf HX0.out 0
 have j0 := cellOf HX1.out 0
 have j1 := cellOf HX1.out 1
 simp only [List.getElem?_toArray, List.getElem?_cons_zero, List.getElem?_cons_succ] at t0 j0 j1
 clear hX4
 go_wp2_with fail
 refine (HNC.out _ HE4.out).mono ?_
 rintro e w5 ⟨rfl, hX5⟩
 go_wp2
 exact bodyPost_ret (v := .tuple #[.int .i64 (N : Int), .int .i64 0]) (by simp [results, Tryz.results11, go_sem]) rfl ⟨rfl, HE4.out.trans' hX5⟩
set_option maxHeartbeats 8000000 in
set_option maxRecDepth 100000 in
theorem eventsC_calls (v : Value) (t : Tr) (w : World) (h : TrAt w v t) (hv : validT t = true) :
  Calls Tryz.prog 28 #[.agg #[v]] w fun e w' => EidsOut w w' e (ids t) := by
 have HT := Lib.hid h
 have hn8 : t.length ≤ 8 := (shapeB_parts2.1 (validT_parts2.1 hv).1).2.1
 have HE64 : Hid (∀ p, p < t.length → t[p]!.events.length ≤ 64) := Lib.hid (fun p hp => (headB_parts.1 ((shapeB_parts2.1 (validT_parts2.1 hv).1).2.2.1 p hp)).2.2.2.2)
 have HIB := Lib.hid (fun p i => idsTo_lenN t p i)
 have HNB : Hid (∀ p, p ≤ t.length → numTo t p ≤ 64 * p) := Lib.hid (fun p => by
  induction p with
  | zero => intro _; exact Nat.le_refl _
  | succ p ih =>
    intro hp
    have h1 := ih (by omega)
    have h2 := HE64.out p (by omega)
    have : numTo t (p + 1) = numTo t p + t[p]!.events.length := rfl
    omega)
 obtain ⟨ie, hie, iz0, iz1, iz2⟩ := info_parts info_eid
 obtain ⟨ta, tc, rfl, htc⟩ := h.sh
 generalize hln : t.length = n at *
 have HL := Lib.hid hln
 have HX0 := Lib.hid (heap_alloc_new w (.cells #[.slice ta n tc] 24))
 have HE1 := Lib.hid ((Ext.rf w).al (.cells #[.slice ta n tc] 24))
 clear h hv hln
 go_enter Tryz.func28, Tryz.ntmps28
 go_wp2
 generalize hw1 : w.alloc (.cells #[.slice ta n tc] 24) = w1 at *
 have hw1s : w.heap.size ≤ w1.heap.size := HE1.out.sz
 clear hw1
 go_loopg [3, 10] n (fun g s3 s10 wr => ∃ p : Nat, p ≤ n ∧ n - p ≤ g ∧ s10 = .int .i64 p ∧ Aside (Row wr w1.heap.size 39 2 s3 (idsTo t p 0).length ((idsTo t p 0).flatMap eidC)) ∧ Aside (Ext w1 wr))
 case atStart => exact ⟨0, Nat.zero_le _, by omega, rfl, (show Row _ _ _ _ _ _ _ from Row.mkNil _ _ _ _), Ext.rf _⟩
 case round =>
  obtain ⟨p, hp, hg, rfl, HR, HEP⟩ := hrel
  have HEW := Lib.hid (HE1.out.trans' HEP.out)
  by_cases hlt : p < n
  ·have hltz : (p : Int) < (n : Int) := by omega
   have hpz : (0 : Int) ≤ (p : Int) := by omega
   obtain ⟨B, O, C, vv, ve, hve, hlC, hB, hn0, hv0, he0, hVv, hE0⟩ := proc_at HT.out p (by rw [HL.out]; exact hlt)
   simp only [Value.slice.injEq] at hve
   obtain ⟨rfl, hzz, rfl⟩ := hve
   obtain ⟨ea, ec, rfl, hec⟩ := hE0.sh
   have hen := HE64.out p hlt
   generalize hne : t[p]!.events.length = ne at *
   have HNE := Lib.hid hne
   have q0 := HEW.out.cl hn0
   have q1 := HEW.out.cl hv0
   have q2 := HEW.out.cl he0
   have t0 := cellOf (HEP.out.hp HX0.out) 0
   simp only [List.getElem?_toArray, List.getElem?_cons_zero] at t0
   obtain ⟨va0, vl0, vc0, rfl⟩ : ∃ a l c, vv = .slice a l c := by obtain ⟨a, c, h, _⟩ := hVv.sh; exact ⟨a, _, c, h⟩
   obtain ⟨nm, hnm⟩ : ∃ x, t[p]!.name = x := ⟨_, rfl⟩
   rw [hnm] at q0
   clear hn0 hv0 hVv hE0 hzz he0 hne hnm
   obtain ⟨wo, rfl⟩ : ∃ x, x = wr := ⟨_, rfl⟩
   have HR1 := Lib.hid (HR.out.al (.cells #[.string nm, .slice va0 vl0 vc0, .slice ea ne ec] 54))
   have HEP1 := Lib.hid (HEP.out.al (.cells #[.string nm, .slice va0 vl0 vc0, .slice ea ne ec] 54))
   clear HR HEP
   go_wp2
   clear q0 q1 q2 t0
   go_loopg [3, 18] ne (fun g s3 s18 wr => ∃ i : Nat, i ≤ ne ∧ ne - i ≤ g ∧ s18 = .int .i64 i ∧ Aside (Row wr w1.heap.size 39 2 s3 (idsTo t p i).length ((idsTo t p i).flatMap eidC)) ∧ Aside (Ext w1 wr))
   case atStart => exact ⟨0, Nat.zero_le _, by omega, rfl, HR1, HEP1⟩
   case round =>
    obtain ⟨i, hi, hgi, rfl, HR, HEP⟩ := hrel
    clear HR1 HEP1
    by_cases hli : i < ne
    ·have hliz : (i : Int) < (ne : Int) := by omega
     have hiz : (0 : Int) ≤ (i : Int) := by omega
     have hlb : (idsTo t p i).length ≤ 1000 := by rw [HIB.out p i]; have := HNB.out p (by omega); omega
     have HSC : Hid ((idsTo t p (i + 1)).length = (idsTo t p i).length + 1 ∧ (idsTo t p (i + 1)).flatMap eidC = (idsTo t p i).flatMap eidC ++ [.int .i64 p, .int .i64 ((i : Int) + 1)]) := Lib.hid ⟨by rw [idsTo_succ]; simp, by rw [idsTo_succ, List.flatMap_append]; simp [eidC]⟩
     have hsz := HEP.out.sz
     generalize (idsTo t p i).length = ln at *
     go_wp2_with ((at_builtin; go_loud (refine wpList_append_one rfl _ _ 71 rfl w1.heap.size 39 ie (.agg #[.int .i64 0, .int .i64 0]) 2 16 Tryz.underlying71 hie iz0 iz1 iz2 rfl (by decide) _ ln _ rfl (HR.out.al _) wr.heap.size 1 [.int .i64 p, .int .i64 ((i : Int) + 1)] rfl rfl ⟨_, heap_alloc_new _ _⟩ (by simp [Value.oneCell']) (by unfold maxLen; omega) (by omega) (by simp; omega) ?_; intro v8 w8 hown8 hgrow8 hblk8; have HOWN := Lib.hid hown8; have HG8 := Lib.hid hgrow8; clear hown8 hgrow8 hblk8)))
     go_roundg (ne - (i + 1))
     case measure => omega
     case rel => exact ⟨i + 1, by omega, by omega, by go_num, (show Row _ _ _ _ _ _ _ from by rw [HSC.out.1, HSC.out.2]; exact HOWN.out), (HEP.out.al _).gr HG8.out (fun q hq => (HR.out.lt q hq).1)⟩
    ·have hliz : ¬ (i : Int) < (ne : Int) := by omega
     obtain rfl : ne = i := by omega
     go_wp2
     go_roundg (n - (p + 1))
     case measure => omega
     case rel => exact ⟨p + 1, by omega, by omega, by go_num, (show Row _ _ _ _ _ _ _ from by rw [← idsTo_next, HNE.out]; exact HR.out), HEP⟩
  ·have hltz : ¬ (p : Int) < (n : Int) := by omega
   obtain rfl : n = p := by omega
   have e : ids t = idsTo t n 0 := by unfold ids; rw [HL.out]
   have HID := Lib.hid e
   clear e
   go_wp2
   go_ret
   exact ⟨_, rfl, by rw [HID.out]; exact HR.out.mono hw1s, HEW.out⟩
end Go.Proofs.YtbpdbikphlhaiaaGreatDoor
