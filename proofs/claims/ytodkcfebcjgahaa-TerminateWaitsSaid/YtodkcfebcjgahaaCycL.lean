/-
  Deadlocks and cycles, where all is needed. No program is named here.
-/
import Derived.Test.YtodkcfebcjgahaaStuckL
import Derived.Test.YtodkcfebcjgahaaRelL
namespace Go.Proofs.Ytodkcfebcjgahaa
set_option linter.unusedVariables false

def allW (x : Wt) : Wt := { x with need := (x.fors.length : Int) }
def pairsW (l : List Wt) : List (Int × Int) := l.flatMap fun x => x.fors.map fun y => (x.proc, y)
def putP (M : List Nat) (p : Int × Int) : List Nat := putM M p.1.toNat p.2.toNat
def relP (N : Nat) (ps : List (Int × Int)) : List Nat := ps.foldl putP (List.replicate N 0)
theorem putP_len (M : List Nat) (p : Int × Int) : (putP M p).length = M.length := by simp [putP, putM]
theorem relP_fold {N : Nat} : ∀ (ps : List (Int × Int)) (M : List Nat), M.length = N → (∀ p ∈ ps, (0 ≤ p.1 ∧ p.1 < (N : Int)) ∧ 0 ≤ p.2 ∧ p.2 < (N : Int)) →
    (ps.foldl putP M).length = N ∧ ∀ i j : Nat, hasM (ps.foldl putP M) i j = true ↔ hasM M i j = true ∨ ((i : Int), (j : Int)) ∈ ps := by
  intro ps
  induction ps with
  | nil => intro M hM _; exact ⟨hM, fun i j => by simp⟩
  | cons p ps ih =>
    intro M hM hp
    obtain ⟨⟨a1, a2⟩, a3, a4⟩ := hp p (by simp)
    have hl : (putP M p).length = N := by rw [putP_len, hM]
    obtain ⟨h1, h2⟩ := ih (putP M p) hl (fun q hq => hp q (by simp [hq]))
    refine ⟨h1, fun i j => ?_⟩
    rw [List.foldl_cons, h2 i j]
    unfold putP
    rw [putM_has (by rw [hM]; omega)]
    rw [Bool.or_eq_true, Bool.and_eq_true, decide_eq_true_eq, decide_eq_true_eq, List.mem_cons, or_assoc]
    have : (i = p.1.toNat ∧ j = p.2.toNat) ↔ ((i : Int), (j : Int)) = p := by
      rw [Prod.ext_iff]
      constructor
      · rintro ⟨rfl, rfl⟩; exact ⟨by show ((p.1.toNat : Nat) : Int) = p.1; omega, by show ((p.2.toNat : Nat) : Int) = p.2; omega⟩
      · rintro ⟨h1, h2⟩; simp only at h1 h2; omega
    rw [this]
theorem relP_len {N : Nat} (ps : List (Int × Int)) : (relP N ps).length = N := by
  have key : ∀ (ps : List (Int × Int)) (M : List Nat), (ps.foldl putP M).length = M.length := by
    intro ps
    induction ps with
    | nil => intro M; rfl
    | cons p ps ih => intro M; rw [List.foldl_cons, ih, putP_len]
  unfold relP; rw [key]; simp
theorem relP_snoc (N : Nat) (ps : List (Int × Int)) (k : Nat) (hk : k < ps.length) : relP N (ps.take (k + 1)) = putP (relP N (ps.take k)) ps[k]! := by
  unfold relP
  rw [List.take_succ_eq_append_getElem hk, List.foldl_append, getElem!_pos ps k hk]; rfl
theorem zero_has (N i j : Nat) : hasM (List.replicate N 0) i j = false := by
  unfold hasM
  by_cases hi : i < N
  · rw [getElem!_pos _ i (by simpa using hi)]; simp
  · rw [getElem!_neg _ i (by simpa using hi)]; exact Nat.zero_testBit j
def relW (l : List Wt) (N : Nat) : List Nat := relP N (pairsW l)
theorem pairsW_in {l : List Wt} {N : Nat} (ok : DOk l N) : ∀ p ∈ pairsW l, (0 ≤ p.1 ∧ p.1 < (N : Int)) ∧ 0 ≤ p.2 ∧ p.2 < (N : Int) := by
  intro p hp
  unfold pairsW at hp
  rw [List.mem_flatMap] at hp
  obtain ⟨x, hx, hp⟩ := hp
  rw [List.mem_map] at hp
  obtain ⟨y, hy, rfl⟩ := hp
  exact ⟨(ok x hx).1, (ok x hx).2 y hy⟩
theorem relW_has {l : List Wt} {N : Nat} (ok : DOk l N) (i j : Nat) : hasM (relW l N) i j = true ↔ ∃ x, x ∈ l ∧ x.proc = (i : Int) ∧ (j : Int) ∈ x.fors := by
  have := (relP_fold (pairsW l) (List.replicate N 0) (by simp) (pairsW_in ok)).2 i j
  unfold relW relP
  rw [this, zero_has]
  simp only [Bool.false_eq_true, false_or]
  unfold pairsW
  rw [List.mem_flatMap]
  constructor
  · rintro ⟨x, hx, hp⟩
    rw [List.mem_map] at hp
    obtain ⟨y, hy, e⟩ := hp
    rw [Prod.ext_iff] at e
    obtain ⟨e1, e2⟩ := e
    simp only at e1 e2
    subst e2
    exact ⟨x, hx, e1, hy⟩
  · rintro ⟨x, hx, e, hj⟩
    exact ⟨x, hx, List.mem_map.2 ⟨_, hj, by rw [e]⟩⟩

/-! ### Requests that need all -/
theorem blocked_all {x : Wt} {M : List Bool} : blockedB (allW x) M = true ↔ ∃ y, y ∈ x.fors ∧ M[y.toNat]! = true := by
  unfold blockedB allW
  rw [decide_eq_true_eq]
  have h1 : (List.filter (fun y : Int => !M[y.toNat]!) x.fors).length < x.fors.length ↔ ∃ y, y ∈ x.fors ∧ M[y.toNat]! = true := by
    rw [List.length_filter_lt_length_iff_exists]
    constructor
    · rintro ⟨y, hy, h⟩; exact ⟨y, hy, by simpa using h⟩
    · rintro ⟨y, hy, h⟩; exact ⟨y, hy, by simp [h]⟩
  rw [← h1]
  show ((_ : Nat) : Int) < ((_ : Nat) : Int) ↔ _
  exact Int.ofNat_lt
theorem blocked_more {x : Wt} {M : List Bool} (hn : x.need ≤ (x.fors.length : Int)) (h : blockedB x M = true) : blockedB (allW x) M = true := by
  unfold blockedB allW at *
  rw [decide_eq_true_eq] at *
  show _ < ((x.fors.length : Nat) : Int)
  exact Int.lt_of_lt_of_le h hn
theorem valid_at {l : List Wt} {n : Int} (h : validL l n = 0) : 0 ≤ n ∧ n ≤ 512 ∧ ∀ i, i < l.length → badAt l n i = false := by
  unfold validL at h
  by_cases h1 : n < 0 ∨ 512 < n
  · rw [if_pos h1] at h; omega
  · rw [if_neg h1] at h
    cases h2 : (List.range l.length).any (badAt l n) with
    | true => rw [h2] at h; simp at h
    | false => exact ⟨by omega, by omega, fun i hi => range_any_no h2 i hi⟩
theorem map_at {l : List Wt} {i : Nat} (hi : i < l.length) : (l.map allW)[i]! = allW l[i]! := by
  rw [getElem!_pos _ i (by simpa using hi), getElem!_pos l i hi]; simp
theorem badAt_all {l : List Wt} {n : Int} {i : Nat} (hi : i < l.length) (h : badAt l n i = false) : badAt (l.map allW) n i = false := by
  unfold badAt at h ⊢
  rw [map_at hi]
  simp only [Bool.or_eq_false_iff, decide_eq_false_iff_not] at h ⊢
  obtain ⟨⟨⟨⟨⟨b1, b2⟩, b3⟩, b4⟩, b5⟩, b6⟩ := h
  refine ⟨⟨⟨⟨⟨b1, b2⟩, ?_⟩, ?_⟩, ?_⟩, b6⟩
  · show ¬ ((l[i]!.fors.length : Nat) : Int) < 1; omega
  · show ¬ ((l[i]!.fors.length : Nat) : Int) < ((l[i]!.fors.length : Nat) : Int); omega
  · rw [← List.map_take, List.any_map]; exact b5
theorem validL_all {l : List Wt} {n : Int} (h : validL l n = 0) : validL (l.map allW) n = 0 := by
  obtain ⟨h0, h1, h2⟩ := valid_at h
  exact validL_ok h0 h1 fun k hk => by rw [List.length_map] at hk; exact badAt_all hk (h2 k hk)
theorem valid_need {l : List Wt} {n : Int} (h : validL l n = 0) : ∀ x ∈ l, x.need ≤ (x.fors.length : Int) := by
  obtain ⟨h0, h1, h2⟩ := valid_at h
  intro x hx
  obtain ⟨i, hi, rfl⟩ := List.getElem_of_mem hx
  have hb := h2 i hi
  unfold badAt at hb
  rw [getElem!_pos l i hi] at hb
  simp only [Bool.or_eq_false_iff, decide_eq_false_iff_not] at hb
  omega
theorem stuck_all {l : List Wt} {n : Int} {N : Nat} {M : List Bool} (hv : validL l n = 0) (h : StuckM l N M) : StuckM (l.map allW) N M := by
  intro i hi hm
  obtain ⟨x, hx, e, hb⟩ := h i hi hm
  exact ⟨allW x, List.mem_map.2 ⟨x, hx, rfl⟩, e, blocked_more (valid_need hv x hx) hb⟩

/-! ### Without a cycle nobody is stuck -/
def farN (R : List Nat) (i : Nat) : Nat := ((List.range R.length).filter fun j => hasM (closeM R) i j).length
theorem farN_lt {R : List Nat} (hn : ∀ f, f < R.length → ¬ PathM R f f) {i y : Nat} (hy : y < R.length) (h : hasM R i y = true) : farN R y < farN R i := by
  unfold farN
  have hsub : ∀ j ∈ (List.range R.length).filter (fun j => hasM (closeM R) y j), j ∈ ((List.range R.length).filter (fun j => hasM (closeM R) i j)).erase y := by
    intro j hj
    rw [List.mem_filter, List.mem_range] at hj
    have hp := (closeM_iff hj.1).1 hj.2
    refine (List.mem_erase_of_ne (fun e => ?_)).2 (List.mem_filter.2 ⟨List.mem_range.2 hj.1, (closeM_iff hj.1).2 (path_trans (path_one hy h) hp)⟩)
    subst e; exact hn _ hj.1 hp
  have hm : y ∈ (List.range R.length).filter (fun j => hasM (closeM R) i j) := List.mem_filter.2 ⟨List.mem_range.2 hy, (closeM_iff hy).2 (path_one hy h)⟩
  have := nat_nodup_le (List.nodup_range.filter _) hsub
  rw [List.length_erase_of_mem hm] at this
  have := List.length_pos_of_mem hm
  omega
theorem none_stuck {l : List Wt} {N : Nat} {M : List Bool} (ok : DOk l N) (hs : StuckM (l.map allW) N M) (hn : ∀ f, f < N → ¬ PathM (relW l N) f f) : ∀ i, i < N → M[i]! = false := by
  have hl : (relW l N).length = N := relP_len _
  have key : ∀ c i, farN (relW l N) i = c → i < N → M[i]! = false := by
    intro c
    induction c using Nat.strongRecOn with
    | _ c ih =>
      intro i hc hi
      rw [Bool.eq_false_iff]
      intro hm
      obtain ⟨x, hx, e, hb⟩ := hs i hi hm
      obtain ⟨x0, hx0, rfl⟩ := List.mem_map.1 hx
      obtain ⟨y, hy, hmy⟩ := blocked_all.1 hb
      have hyr := (ok x0 hx0).2 y hy
      obtain ⟨Y, rfl⟩ : ∃ Y : Nat, y = (Y : Int) := ⟨y.toNat, by omega⟩
      have hr : hasM (relW l N) i Y = true := (relW_has ok i Y).2 ⟨x0, hx0, e, hy⟩
      have hlt := farN_lt (R := relW l N) (by rw [hl]; exact hn) (i := i) (y := Y) (by rw [hl]; omega) hr
      have := ih _ (by rw [← hc]; exact hlt) Y rfl (by omega)
      rw [show ((Y : Int)).toNat = Y by omega] at hmy
      rw [hmy] at this; cases this
  exact fun i hi => key _ i rfl hi
theorem marks_none {M : List Bool} {N : Nat} (h : ∀ i, i < N → M[i]! = false) : marks M N = [] := by
  unfold marks
  rw [List.map_eq_nil_iff, List.filter_eq_nil_iff]
  intro i hi
  rw [h i (List.mem_range.1 hi)]; simp

/-! ### On a cycle all are stuck -/
open Classical in
theorem cycle_stuck {l : List Wt} {N : Nat} {M : List Bool} (ok : DOk l N) (ha : AllStuck (l.map allW) N M) {f : Nat} (hf : f < N) (hp : PathM (relW l N) f f) : ∀ x, x < N → (x = f ∨ PathM (relW l N) x f) → M[x]! = true := by
  have hl : (relW l N).length = N := relP_len _
  have hget : ∀ i, i < N → ((List.range N).map fun i => decide (PathM (relW l N) i f))[i]! = decide (PathM (relW l N) i f) := fun i hi => by
    rw [getElem!_pos _ i (by simpa using hi)]; simp
  have hs : StuckM (l.map allW) N ((List.range N).map fun i => decide (PathM (relW l N) i f)) := by
    intro i hi hm
    rw [hget i hi, decide_eq_true_eq] at hm
    obtain ⟨d, y, hy, hb, hw⟩ := hm
    obtain ⟨x0, hx0, e, hyx⟩ := (relW_has ok i y).1 hb
    refine ⟨allW x0, List.mem_map.2 ⟨x0, hx0, rfl⟩, e, blocked_all.2 ⟨(y : Int), hyx, ?_⟩⟩
    rw [hl] at hy
    rw [show ((y : Int)).toNat = y by omega, hget y hy, decide_eq_true_eq]
    cases d with
    | zero => have : y = f := hw
              subst this; exact hp
    | succ d => exact ⟨d, hw⟩
  intro x hx hxp
  refine ha _ (by simp) hs x hx ?_
  rw [hget x hx, decide_eq_true_eq]
  rcases hxp with rfl | h
  · exact hp
  · exact h

end Go.Proofs.Ytodkcfebcjgahaa
