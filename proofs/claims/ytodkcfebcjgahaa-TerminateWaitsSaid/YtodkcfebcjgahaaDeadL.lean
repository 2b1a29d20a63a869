/-
  Deadlocks, in plain words: requests, stuck sets, and the greatest of them. No program is named here.
-/
import Derived.Test.YtodkcfebcjgahaaBase
import Derived.Test.YtodkcfebcjgahaaGarbL
namespace Go.Proofs.Ytodkcfebcjgahaa
set_option linter.unusedVariables false

/-- A request. -/
structure Wt where
  proc : Int
  need : Int
  fors : List Int
deriving Inhabited

def badFor (x : Wt) (n : Int) (k : Nat) : Bool := decide (x.fors[k]! < 0) || decide (n ≤ x.fors[k]!) || (x.fors[k]! == x.proc) || (x.fors.take k).contains x.fors[k]!
def badAt (l : List Wt) (n : Int) (i : Nat) : Bool :=
  decide (l[i]!.proc < 0) || decide (n ≤ l[i]!.proc) || decide (l[i]!.need < 1) || decide ((l[i]!.fors.length : Int) < l[i]!.need) || (l.take i).any (fun y => y.proc == l[i]!.proc) || (List.range l[i]!.fors.length).any (badFor l[i]! n)
/-- The error number of requests. -/
def validL (l : List Wt) (n : Int) : Int := if n < 0 ∨ 512 < n then 2 else if (List.range l.length).any (badAt l n) then 1 else 0

theorem range_any_hit (n : Nat) (p : Nat → Bool) (k : Nat) (hk : k < n) (h : p k = true) : (List.range n).any p = true := List.any_eq_true.2 ⟨k, List.mem_range.2 hk, h⟩
theorem range_any_miss (n : Nat) (p : Nat → Bool) (h : ∀ j, j < n → p j = false) : (List.range n).any p = false := by
  rw [List.any_eq_false]; intro x hx; rw [h x (List.mem_range.1 hx)]; simp
theorem range_any_no {n : Nat} {p : Nat → Bool} (h : (List.range n).any p = false) (j : Nat) (hj : j < n) : p j = false := by
  have := List.any_eq_false.1 h j (List.mem_range.2 hj)
  simpa using this

theorem validL_arg {l : List Wt} {n : Int} (k : Nat) (hk : k < l.length) (h0 : 0 ≤ n) (h1 : n ≤ 512) (h : badAt l n k = true) : validL l n = 1 := by
  unfold validL
  rw [if_neg (by omega), if_pos (range_any_hit _ _ k hk h)]
theorem validL_ok {l : List Wt} {n : Int} (h0 : 0 ≤ n) (h1 : n ≤ 512) (h : ∀ k, k < l.length → badAt l n k = false) : validL l n = 0 := by
  unfold validL
  rw [if_neg (by omega), range_any_miss _ _ h]; rfl

/-- What valid requests are. -/
def DOk (l : List Wt) (N : Nat) : Prop := ∀ x, x ∈ l → (0 ≤ x.proc ∧ x.proc < (N : Int)) ∧ ∀ y, y ∈ x.fors → 0 ≤ y ∧ y < (N : Int)

theorem validL_dok {l : List Wt} {n : Int} (h : validL l n = 0) : 0 ≤ n ∧ n ≤ 512 ∧ DOk l n.toNat := by
  unfold validL at h
  by_cases h1 : n < 0 ∨ 512 < n
  · rw [if_pos h1] at h; omega
  · rw [if_neg h1] at h
    cases h2 : (List.range l.length).any (badAt l n) with
    | true => rw [h2] at h; simp at h
    | false =>
      refine ⟨by omega, by omega, fun x hx => ?_⟩
      obtain ⟨i, hi, rfl⟩ := List.getElem_of_mem hx
      have hb := range_any_no h2 i hi
      unfold badAt at hb
      rw [getElem!_pos l i hi] at hb
      simp only [Bool.or_eq_false_iff, decide_eq_false_iff_not] at hb
      obtain ⟨⟨⟨⟨⟨b1, b2⟩, b3⟩, b4⟩, b5⟩, b6⟩ := hb
      refine ⟨by omega, fun y hy => ?_⟩
      obtain ⟨k, hk, rfl⟩ := List.getElem_of_mem hy
      have hf := range_any_no b6 k hk
      unfold badFor at hf
      rw [getElem!_pos _ k hk] at hf
      simp only [Bool.or_eq_false_iff, decide_eq_false_iff_not] at hf
      omega

/-- A request that those outside the marks cannot satisfy. -/
def blockedB (x : Wt) (M : List Bool) : Bool := decide (((x.fors.filter fun y => !M[y.toNat]!).length : Int) < x.need)

/-- Of the first k how many are not marked. -/
def freeN (l : List Int) (M : List Bool) (k : Nat) : Nat := ((l.take k).filter fun y => !M[y.toNat]!).length
theorem freeN_yes {l : List Int} {M : List Bool} {k Y : Nat} (hk : k < l.length) (h : l[k]! = (Y : Int)) (hm : M[Y]! = false) : freeN l M (k + 1) = freeN l M k + 1 := by
  unfold freeN
  rw [take_snoc' l k hk, List.filter_append, List.length_append, h]
  simp only [List.filter_cons, List.filter_nil, Int.toNat_natCast, hm]; rfl
theorem freeN_no {l : List Int} {M : List Bool} {k Y : Nat} (hk : k < l.length) (h : l[k]! = (Y : Int)) (hm : M[Y]! = true) : freeN l M (k + 1) = freeN l M k := by
  unfold freeN
  rw [take_snoc' l k hk, List.filter_append, List.length_append, h]
  simp only [List.filter_cons, List.filter_nil, Int.toNat_natCast, hm]; rfl
theorem blockedB_free (x : Wt) (M : List Bool) : blockedB x M = decide ((freeN x.fors M x.fors.length : Int) < x.need) := by unfold blockedB freeN; rw [List.take_length]

def Sub (N : Nat) (M M' : List Bool) : Prop := ∀ i : Nat, i < N → M[i]! = true → M'[i]! = true

theorem blockedB_mono {x : Wt} {N : Nat} {M M' : List Bool} (hx : ∀ y, y ∈ x.fors → 0 ≤ y ∧ y < (N : Int)) (hs : Sub N M M') (h : blockedB x M = true) : blockedB x M' = true := by
  unfold blockedB at h ⊢
  rw [decide_eq_true_eq] at h ⊢
  have : ∀ (l : List Int), (∀ y, y ∈ l → 0 ≤ y ∧ y < (N : Int)) → (l.filter fun y => !M'[y.toNat]!).length ≤ (l.filter fun y => !M[y.toNat]!).length := by
    intro l
    induction l with
    | nil => intro _; exact Nat.le_refl _
    | cons y l ih =>
      intro hl
      have ih := ih fun z hz => hl z (List.mem_cons_of_mem _ hz)
      have hy := hl y List.mem_cons_self
      have hh := hs y.toNat (by omega)
      simp only [List.filter_cons]
      cases h1 : M[y.toNat]! <;> cases h2 : M'[y.toNat]! <;> simp only [Bool.not_true, Bool.not_false, if_true, Bool.false_eq_true, if_false, List.length_cons]
      · omega
      · omega
      · have := hh h1; rw [h2] at this; simp at this
      · omega
  have := this x.fors hx
  omega

/-- The marks are a stuck set. -/
def StuckM (l : List Wt) (N : Nat) (M : List Bool) : Prop := ∀ i : Nat, i < N → M[i]! = true → ∃ x, x ∈ l ∧ x.proc = (i : Int) ∧ blockedB x M = true
/-- The marks hold every stuck set. -/
def AllStuck (l : List Wt) (N : Nat) (M : List Bool) : Prop := ∀ M', M'.length = N → StuckM l N M' → Sub N M' M

/-- How many marks are set. -/
def setc (M : List Bool) : Nat := (M.filter fun b => b).length
theorem setc_unset (M : List Bool) (X : Nat) (hX : X < M.length) (hm : M[X]! = true) : setc M = setc (M.set X false) + 1 := by
  rw [getElem!_pos M X hX] at hm
  induction M generalizing X with
  | nil => simp at hX
  | cons b M ih =>
    cases X with
    | zero =>
      simp at hm
      subst hm
      simp [setc]
    | succ X =>
      simp only [List.getElem_cons_succ] at hm
      have := ih X (by simpa using hX) hm
      cases b <;> simp [setc, List.filter_cons] at this ⊢ <;> omega
theorem setc_le (M : List Bool) : setc M ≤ M.length := List.length_filter_le _ _

theorem get_set' (M : List Bool) (X i : Nat) (b : Bool) (hX : X < M.length) : (M.set X b)[i]! = if i = X then b else M[i]! := by
  by_cases h : i = X
  · subst h
    rw [if_pos rfl, getElem!_pos _ _ (by simpa using hX)]
    simp
  · rw [if_neg h]
    simp only [List.getElem!_eq_getElem?_getD, List.getElem?_set_ne (Ne.symm h)]

/-- All requests of one process are one request: of what is valid. -/
def Once (l : List Wt) : Prop := ∀ x y, x ∈ l → y ∈ l → x.proc = y.proc → x = y

theorem validL_once {l : List Wt} {n : Int} (h : validL l n = 0) : Once l := by
  unfold validL at h
  by_cases h1 : n < 0 ∨ 512 < n
  · rw [if_pos h1] at h; omega
  · rw [if_neg h1] at h
    cases h2 : (List.range l.length).any (badAt l n) with
    | true => rw [h2] at h; simp at h
    | false =>
      have key : ∀ i j, i < j → (hj : j < l.length) → (hi : i < l.length) → l[i].proc ≠ l[j].proc := by
        intro i j hij hj hi he
        have hb := range_any_no h2 j hj
        unfold badAt at hb
        rw [getElem!_pos l j hj] at hb
        simp only [Bool.or_eq_false_iff] at hb
        have := List.any_eq_false.1 hb.1.2 l[i] (by rw [List.mem_iff_getElem]; exact ⟨i, by rw [List.length_take]; omega, by simp⟩)
        simp [he] at this
      intro x y hx hy he
      obtain ⟨i, hi, rfl⟩ := List.getElem_of_mem hx
      obtain ⟨j, hj, rfl⟩ := List.getElem_of_mem hy
      rcases Nat.lt_trichotomy i j with h | h | h
      · exact absurd he (key i j h hj hi)
      · subst h; rfl
      · exact absurd he.symm (key j i h hi hj)

/-- The first marks: the processes that have a request. -/
def Asks (l : List Wt) (N : Nat) (M : List Bool) (k : Nat) : Prop := ∀ i : Nat, i < N → (M[i]! = true ↔ ∃ x, x ∈ l.take k ∧ x.proc = (i : Int))
theorem asks_start (l : List Wt) (N : Nat) : Asks l N (List.replicate N false) 0 := by
  intro i hi
  simp [hi]
theorem asks_step {l : List Wt} {N : Nat} {M : List Bool} {k X : Nat} (hM : M.length = N) (h : Asks l N M k) (hk : k < l.length) (hX : l[k]!.proc = (X : Int)) (hXN : X < N) : Asks l N (M.set X true) (k + 1) := by
  intro i hi
  rw [get_set' M X i true (by omega), take_snoc' l k hk]
  simp only [List.mem_append, List.mem_singleton]
  constructor
  · intro hh
    by_cases e : i = X
    · subst e; exact ⟨l[k]!, .inr rfl, hX⟩
    · rw [if_neg e] at hh
      obtain ⟨x, hx, hp⟩ := (h i hi).1 hh
      exact ⟨x, .inl hx, hp⟩
  · rintro ⟨x, hx | rfl, hp⟩
    · have := (h i hi).2 ⟨x, hx, hp⟩
      rw [this]; split <;> rfl
    · rw [if_pos (by omega)]

/-- What holds of the marks all along. -/
def DInv (l : List Wt) (N : Nat) (M : List Bool) : Prop := AllStuck l N M ∧ ∀ i : Nat, i < N → M[i]! = true → ∃ x, x ∈ l ∧ x.proc = (i : Int)

theorem dinv_start {l : List Wt} {N : Nat} {M : List Bool} (h : Asks l N M l.length) : DInv l N M := by
  rw [Asks, List.take_length] at h
  refine ⟨fun M' _ hs i hi hm => ?_, fun i hi hm => (h i hi).1 hm⟩
  obtain ⟨x, hx, hp, _⟩ := hs i hi hm
  exact (h i hi).2 ⟨x, hx, hp⟩

theorem dinv_free {l : List Wt} {N : Nat} {M : List Bool} {x : Wt} {X : Nat} (hM : M.length = N) (ok : DOk l N) (one : Once l) (h : DInv l N M) (hx : x ∈ l) (hX : x.proc = (X : Int)) (hf : blockedB x M = false) : DInv l N (M.set X false) := by
  have hXN : X < N := by have := (ok x hx).1; omega
  refine ⟨fun M' hM' hs i hi hm => ?_, fun i hi hm => ?_⟩
  · rw [get_set' M X i false (by omega)]
    by_cases e : i = X
    · subst e
      obtain ⟨y, hy, hp, hb⟩ := hs i hi hm
      obtain rfl := one x y hx hy (by rw [hX, hp])
      have := blockedB_mono (ok _ hx).2 (h.1 M' hM' hs) hb
      rw [hf] at this; simp at this
    · rw [if_neg e]; exact h.1 M' hM' hs i hi hm
  · rw [get_set' M X i false (by omega)] at hm
    by_cases e : i = X
    · rw [if_pos e] at hm; simp at hm
    · rw [if_neg e] at hm; exact h.2 i hi hm

/-- At the end the marks are the greatest stuck set. -/
theorem dinv_end {l : List Wt} {N : Nat} {M : List Bool} (h : DInv l N M) (hall : ∀ x, x ∈ l → M[x.proc.toNat]! = true → blockedB x M = true) : StuckM l N M := by
  intro i hi hm
  obtain ⟨x, hx, hp⟩ := h.2 i hi hm
  exact ⟨x, hx, hp, hall x hx (by rw [hp]; simpa using hm)⟩

/-- The places of the marks that are set, among the first k. -/
def marks (M : List Bool) (k : Nat) : List Int := ((List.range k).filter fun i => M[i]!).map fun (i : Nat) => (i : Int)
theorem marks_yes (M : List Bool) (k : Nat) (h : M[k]! = true) : marks M (k + 1) = marks M k ++ [(k : Int)] := by
  unfold marks; rw [List.range_succ, List.filter_append, List.map_append]; simp only [List.filter_cons, List.filter_nil, h]; rfl
theorem marks_no (M : List Bool) (k : Nat) (h : M[k]! = false) : marks M (k + 1) = marks M k := by
  unfold marks; rw [List.range_succ, List.filter_append, List.map_append]; simp only [List.filter_cons, List.filter_nil, h]; simp
theorem marks_len (M : List Bool) (k : Nat) : (marks M k).length ≤ k := by
  unfold marks
  rw [List.length_map]
  exact Nat.le_trans (List.length_filter_le _ _) (by simp)
theorem mem_marks (M : List Bool) (k : Nat) (x : Int) : x ∈ marks M k ↔ 0 ≤ x ∧ x < (k : Int) ∧ M[x.toNat]! = true := by
  unfold marks
  simp only [List.mem_map, List.mem_filter, List.mem_range]
  constructor
  · rintro ⟨i, ⟨h1, h2⟩, rfl⟩; exact ⟨by omega, by omega, by simpa using h2⟩
  · rintro ⟨h1, h2, h3⟩; exact ⟨x.toNat, ⟨by omega, h3⟩, by omega⟩
theorem marks_congr (M M' : List Bool) (k : Nat) (h : ∀ i, i < k → M[i]! = M'[i]!) : marks M k = marks M' k := by
  unfold marks
  congr 1
  apply List.filter_congr
  intro i hi
  rw [h i (List.mem_range.1 hi)]

end Go.Proofs.Ytodkcfebcjgahaa
