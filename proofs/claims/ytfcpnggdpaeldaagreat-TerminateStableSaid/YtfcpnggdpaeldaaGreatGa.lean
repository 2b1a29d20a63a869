import Derived.Test.YtfcpnggdpaeldaaGreatJa
import Derived.Test.YtfcpnggdpaeldaaGreatProg
import Derived.BigQuiet
import Derived.Deep.QuietTactic
import Derived.Deep.LoopGhost
import Derived.Shelf.Abstract
/-
  Garbage, in plain words: what the roots reach, and a search with a queue that finds it. No program is named here.
-/
namespace Go.Proofs.YtfcpnggdpaeldaaGreat
set_option linter.unusedVariables false

def outB (n x : Int) : Bool := decide (x < 0) || decide (n ≤ x)
def garbBad (refs : List (Int × Int)) (roots : List Int) (n : Int) : Bool :=
  decide (n < 0) || decide (512 < n) || roots.any (outB n) || refs.any (fun r => outB n r.1 || outB n r.2)

inductive Reach (refs : List (Int × Int)) (roots : List Int) : Int → Prop
  | root {x : Int} : x ∈ roots → Reach refs roots x
  | step {x y : Int} : Reach refs roots x → (x, y) ∈ refs → Reach refs roots y

/-- How many marks are not set. -/
def unset (M : List Bool) : Nat := (M.filter fun b => !b).length

/-- What holds of the marks and the queue ahead of each round. -/
def GInv (refs : List (Int × Int)) (roots : List Int) (N : Nat) (M : List Bool) (T : List Int) : Prop :=
  (∀ x, x ∈ T → 0 ≤ x ∧ x < (N : Int) ∧ Reach refs roots x) ∧
  (∀ i : Nat, i < N → M[i]! = true → Reach refs roots i) ∧
  (∀ x, x ∈ roots → x ∈ T ∨ M[x.toNat]! = true) ∧
  (∀ i : Nat, i < N → M[i]! = true → ∀ y, ((i : Int), y) ∈ refs → y ∈ T ∨ M[y.toNat]! = true)

/-- All refs, and all roots, are in range. -/
def GOk (refs : List (Int × Int)) (roots : List Int) (N : Nat) : Prop :=
  (∀ x, x ∈ roots → 0 ≤ x ∧ x < (N : Int)) ∧ (∀ r, r ∈ refs → (0 ≤ r.1 ∧ r.1 < (N : Int)) ∧ (0 ≤ r.2 ∧ r.2 < (N : Int)))

theorem garb_ok {refs : List (Int × Int)} {roots : List Int} {n : Int} (h : garbBad refs roots n = false) : 0 ≤ n ∧ n ≤ 512 ∧ GOk refs roots n.toNat := by
  simp only [garbBad, Bool.or_eq_false_iff, decide_eq_false_iff_not] at h
  obtain ⟨⟨⟨h1, h2⟩, h3⟩, h4⟩ := h
  refine ⟨by omega, by omega, fun x hx => ?_, fun r hr => ?_⟩
  · have := List.any_eq_false.1 h3 x hx
    simp [outB] at this; omega
  · have := List.any_eq_false.1 h4 r hr
    simp [outB] at this; omega

theorem ginv_start {refs : List (Int × Int)} {roots : List Int} {N : Nat} (h : GOk refs roots N) : GInv refs roots N (List.replicate N false) roots := by
  refine ⟨fun x hx => ⟨(h.1 x hx).1, (h.1 x hx).2, .root hx⟩, fun i hi hm => ?_, fun x hx => .inl hx, fun i hi hm => ?_⟩
  · simp [hi] at hm
  · simp [hi] at hm

/-- The first of the queue has been met. -/
theorem ginv_met {refs : List (Int × Int)} {roots : List Int} {N X : Nat} {M : List Bool} {T : List Int} (h : GInv refs roots N M ((X : Int) :: T)) (hm : M[X]! = true) : GInv refs roots N M T := by
  obtain ⟨h1, h2, h3, h4⟩ := h
  refine ⟨fun x hx => h1 x (List.mem_cons_of_mem _ hx), h2, fun x hx => ?_, fun i hi hM y hy => ?_⟩
  · rcases h3 x hx with h | h
    · rcases List.mem_cons.1 h with rfl | h
      · exact .inr (by simpa using hm)
      · exact .inl h
    · exact .inr h
  · rcases h4 i hi hM y hy with h | h
    · rcases List.mem_cons.1 h with rfl | h
      · exact .inr (by simpa using hm)
      · exact .inl h
    · exact .inr h

/-- What x pushes, out of the first k references. -/
def pushed (refs : List (Int × Int)) (M : List Bool) (x : Int) (k : Nat) : List Int := ((refs.take k).filter fun r => r.1 == x && !M[r.2.toNat]!).map (·.2)

theorem pushed_yes {refs : List (Int × Int)} {M : List Bool} {x : Int} {k : Nat} (hk : k < refs.length) (h1 : (refs[k]!.1 == x) = true) (h2 : M[refs[k]!.2.toNat]! = false) : pushed refs M x (k + 1) = pushed refs M x k ++ [refs[k]!.2] := by
  unfold pushed
  rw [take_snoc' refs k hk, List.filter_append, List.map_append, List.filter_cons, h1, h2]
  rfl
theorem pushed_no {refs : List (Int × Int)} {M : List Bool} {x : Int} {k : Nat} (hk : k < refs.length) (h : (refs[k]!.1 == x && !M[refs[k]!.2.toNat]!) = false) : pushed refs M x (k + 1) = pushed refs M x k := by
  unfold pushed
  rw [take_snoc' refs k hk, List.filter_append, List.map_append, List.filter_cons, h]
  simp
theorem pushed_len (refs : List (Int × Int)) (M : List Bool) (x : Int) (k : Nat) : (pushed refs M x k).length ≤ refs.length := by
  unfold pushed
  rw [List.length_map]
  exact Nat.le_trans (List.length_filter_le _ _) (by rw [List.length_take]; omega)

theorem get_set_bool (M : List Bool) (X i : Nat) (hX : X < M.length) : (M.set X true)[i]! = if i = X then true else M[i]! := by
  by_cases h : i = X
  · subst h
    rw [if_pos rfl, getElem!_pos _ _ (by simpa using hX)]
    simp
  · rw [if_neg h]
    simp only [List.getElem!_eq_getElem?_getD, List.getElem?_set_ne (Ne.symm h)]

theorem ginv_new {refs : List (Int × Int)} {roots : List Int} {N X : Nat} {M : List Bool} {T : List Int} (ok : GOk refs roots N) (h : GInv refs roots N M ((X : Int) :: T)) (hN : M.length = N) (hm : M[X]! = false) :
    GInv refs roots N (M.set X true) (T ++ pushed refs (M.set X true) X refs.length) := by
  obtain ⟨h1, h2, h3, h4⟩ := h
  obtain ⟨hx0, hxN, hxR⟩ := h1 X (List.mem_cons_self)
  have hX : X < M.length := by omega
  refine ⟨fun x hx => ?_, fun i hi hM => ?_, fun x hx => ?_, fun i hi hM y hy => ?_⟩
  · rcases List.mem_append.1 hx with hx | hx
    · exact h1 x (List.mem_cons_of_mem _ hx)
    · simp only [pushed, List.take_length, List.mem_map, List.mem_filter, Bool.and_eq_true, beq_iff_eq] at hx
      obtain ⟨⟨a, b⟩, ⟨hr, ha, _⟩, rfl⟩ := hx
      simp only at ha
      subst ha
      obtain ⟨_, hb1, hb2⟩ := ok.2 _ hr
      exact ⟨hb1, hb2, .step hxR hr⟩
  · rw [get_set_bool M X i hX] at hM
    by_cases h : i = X
    · subst h; exact hxR
    · rw [if_neg h] at hM; exact h2 i hi hM
  · rcases h3 x hx with h | h
    · rcases List.mem_cons.1 h with rfl | h
      · exact .inr (by rw [get_set_bool M X _ hX]; simp)
      · exact .inl (List.mem_append_left _ h)
    · refine .inr ?_
      rw [get_set_bool M X _ hX]
      split
      · rfl
      · exact h
  · rw [get_set_bool M X i hX] at hM
    by_cases h : i = X
    · subst h
      by_cases hb : (M.set i true)[y.toNat]! = true
      · exact .inr hb
      · refine .inl (List.mem_append_right _ ?_)
        simp only [pushed, List.take_length, List.mem_map, List.mem_filter, Bool.and_eq_true, beq_iff_eq]
        exact ⟨(i, y), ⟨hy, rfl, by simpa using hb⟩, rfl⟩
    · rw [if_neg h] at hM
      rcases h4 i hi hM y hy with h' | h'
      · rcases List.mem_cons.1 h' with rfl | h'
        · exact .inr (by rw [get_set_bool M X _ hX]; simp)
        · exact .inl (List.mem_append_left _ h')
      · refine .inr ?_
        rw [get_set_bool M X _ hX]
        split
        · rfl
        · exact h'

theorem unset_set (M : List Bool) (X : Nat) (hX : X < M.length) (hm : M[X]! = false) : unset M = unset (M.set X true) + 1 := by
  rw [getElem!_pos M X hX] at hm
  induction M generalizing X with
  | nil => simp at hX
  | cons b M ih =>
    cases X with
    | zero =>
      simp at hm
      subst hm
      simp [unset]
    | succ X =>
      simp only [List.getElem_cons_succ] at hm
      have := ih X (by simpa using hX) hm
      cases b <;> simp [unset, List.filter_cons] at this ⊢ <;> omega

theorem unset_replicate (N : Nat) : unset (List.replicate N false) = N := by simp [unset]

/-- At the end the marks say what is reached. -/
theorem ginv_end {refs : List (Int × Int)} {roots : List Int} {N : Nat} {M : List Bool} (ok : GOk refs roots N) (h : GInv refs roots N M []) (i : Nat) (hi : i < N) : M[i]! = true ↔ Reach refs roots i := by
  obtain ⟨h1, h2, h3, h4⟩ := h
  refine ⟨h2 i hi, fun hr => ?_⟩
  have key : ∀ x, Reach refs roots x → 0 ≤ x ∧ x < (N : Int) ∧ M[x.toNat]! = true := by
    intro x hx
    induction hx with
    | root hx => exact ⟨(ok.1 _ hx).1, (ok.1 _ hx).2, by simpa using h3 _ hx⟩
    | @step x y hx hr ih =>
      obtain ⟨a, b, c⟩ := ih
      obtain ⟨_, d, e⟩ := ok.2 _ hr
      refine ⟨d, e, ?_⟩
      have := h4 x.toNat (by omega) c y (by rw [Int.toNat_of_nonneg a]; exact hr)
      simpa using this
  simpa using (key _ hr).2.2

/-- The places of the marks that are not set, among the first k. -/
def gaps (M : List Bool) (k : Nat) : List Int := ((List.range k).filter fun i => !M[i]!).map fun (i : Nat) => (i : Int)
theorem gaps_yes (M : List Bool) (k : Nat) (h : M[k]! = false) : gaps M (k + 1) = gaps M k ++ [(k : Int)] := by
  unfold gaps; rw [List.range_succ, List.filter_append, List.map_append]; simp only [List.filter_cons, List.filter_nil, h]; rfl
theorem gaps_no (M : List Bool) (k : Nat) (h : M[k]! = true) : gaps M (k + 1) = gaps M k := by
  unfold gaps; rw [List.range_succ, List.filter_append, List.map_append]; simp only [List.filter_cons, List.filter_nil, h]; simp
theorem gaps_len (M : List Bool) (k : Nat) : (gaps M k).length ≤ k := by
  unfold gaps
  rw [List.length_map]
  exact Nat.le_trans (List.length_filter_le _ _) (by simp)
theorem mem_gaps (M : List Bool) (k : Nat) (x : Int) : x ∈ gaps M k ↔ 0 ≤ x ∧ x < (k : Int) ∧ M[x.toNat]! = false := by
  unfold gaps
  simp only [List.mem_map, List.mem_filter, List.mem_range, Bool.not_eq_true']
  constructor
  · rintro ⟨i, ⟨h1, h2⟩, rfl⟩; exact ⟨by omega, by omega, by simpa using h2⟩
  · rintro ⟨h1, h2, h3⟩; exact ⟨x.toNat, ⟨by omega, h3⟩, by omega⟩
theorem gaps_congr (M M' : List Bool) (k : Nat) (h : ∀ i, i < k → M[i]! = M'[i]!) : gaps M k = gaps M' k := by
  unfold gaps
  congr 1
  apply List.filter_congr
  intro i hi
  rw [h i (List.mem_range.1 hi)]

end Go.Proofs.YtfcpnggdpaeldaaGreat

/-
  Deadlocks, in plain words: requests, stuck sets, and the greatest of them. No program is named here.
-/
namespace Go.Proofs.YtfcpnggdpaeldaaGreat
set_option linter.unusedVariables false

/-- A request. -/
structure Wt where
  proc : Int
  need : Int
  fors : List Int
deriving Inhabited

def badFor (x : Wt) (n : Int) (k : Nat) : Bool := decide (x.fors[k]! < 0) || decide (n ≤ x.fors[k]!) || (x.fors[k]! == x.proc) || (x.fors.take k).contains x.fors[k]!
def badAt (l : List Wt) (n : Int) (i : Nat) : Bool :=
  decide (l[i]!.proc < 0) || decide (n ≤ l[i]!.proc) || decide (l[i]!.need < 1) || decide ((l[i]!.fors.length : Int) < l[i]!.need) || (l.take i).any (fun y => y.proc == l[i]!.proc) || (List.range l[i]!.fors.length).any (badFor l[i]! n)
/-- The error number of requests. -/
def validL (l : List Wt) (n : Int) : Int := if n < 0 ∨ 512 < n then 2 else if (List.range l.length).any (badAt l n) then 1 else 0

theorem range_any_hit (n : Nat) (p : Nat → Bool) (k : Nat) (hk : k < n) (h : p k = true) : (List.range n).any p = true := List.any_eq_true.2 ⟨k, List.mem_range.2 hk, h⟩
theorem range_any_miss (n : Nat) (p : Nat → Bool) (h : ∀ j, j < n → p j = false) : (List.range n).any p = false := by
  rw [List.any_eq_false]; intro x hx; rw [h x (List.mem_range.1 hx)]; simp
theorem range_any_no {n : Nat} {p : Nat → Bool} (h : (List.range n).any p = false) (j : Nat) (hj : j < n) : p j = false := by
  have := List.any_eq_false.1 h j (List.mem_range.2 hj)
  simpa using this

theorem validL_arg {l : List Wt} {n : Int} (k : Nat) (hk : k < l.length) (h0 : 0 ≤ n) (h1 : n ≤ 512) (h : badAt l n k = true) : validL l n = 1 := by
  unfold validL
  rw [if_neg (by omega), if_pos (range_any_hit _ _ k hk h)]
theorem validL_ok {l : List Wt} {n : Int} (h0 : 0 ≤ n) (h1 : n ≤ 512) (h : ∀ k, k < l.length → badAt l n k = false) : validL l n = 0 := by
  unfold validL
  rw [if_neg (by omega), range_any_miss _ _ h]; rfl

/-- What valid requests are. -/
def DOk (l : List Wt) (N : Nat) : Prop := ∀ x, x ∈ l → (0 ≤ x.proc ∧ x.proc < (N : Int)) ∧ ∀ y, y ∈ x.fors → 0 ≤ y ∧ y < (N : Int)

theorem validL_dok {l : List Wt} {n : Int} (h : validL l n = 0) : 0 ≤ n ∧ n ≤ 512 ∧ DOk l n.toNat := by
  unfold validL at h
  by_cases h1 : n < 0 ∨ 512 < n
  · rw [if_pos h1] at h; omega
  · rw [if_neg h1] at h
    cases h2 : (List.range l.length).any (badAt l n) with
    | true => rw [h2] at h; simp at h
    | false =>
      refine ⟨by omega, by omega, fun x hx => ?_⟩
      obtain ⟨i, hi, rfl⟩ := List.getElem_of_mem hx
      have hb := range_any_no h2 i hi
      unfold badAt at hb
      rw [getElem!_pos l i hi] at hb
      simp only [Bool.or_eq_false_iff, decide_eq_false_iff_not] at hb
      obtain ⟨⟨⟨⟨⟨b1, b2⟩, b3⟩, b4⟩, b5⟩, b6⟩ := hb
      refine ⟨by omega, fun y hy => ?_⟩
      obtain ⟨k, hk, rfl⟩ := List.getElem_of_mem hy
      have hf := range_any_no b6 k hk
      unfold badFor at hf
      rw [getElem!_pos _ k hk] at hf
      simp only [Bool.or_eq_false_iff, decide_eq_false_iff_not] at hf
      omega

/-- A request that those outside the marks cannot satisfy. -/
def blockedB (x : Wt) (M : List Bool) : Bool := decide (((x.fors.filter fun y => !M[y.toNat]!).length : Int) < x.need)

/-- Of the first k how many are not marked. -/
def freeN (l : List Int) (M : List Bool) (k : Nat) : Nat := ((l.take k).filter fun y => !M[y.toNat]!).length
theorem freeN_yes {l : List Int} {M : List Bool} {k Y : Nat} (hk : k < l.length) (h : l[k]! = (Y : Int)) (hm : M[Y]! = false) : freeN l M (k + 1) = freeN l M k + 1 := by
  unfold freeN
  rw [take_snoc' l k hk, List.filter_append, List.length_append, h]
  simp only [List.filter_cons, List.filter_nil, Int.toNat_natCast, hm]; rfl
theorem freeN_no {l : List Int} {M : List Bool} {k Y : Nat} (hk : k < l.length) (h : l[k]! = (Y : Int)) (hm : M[Y]! = true) : freeN l M (k + 1) = freeN l M k := by
  unfold freeN
  rw [take_snoc' l k hk, List.filter_append, List.length_append, h]
  simp only [List.filter_cons, List.filter_nil, Int.toNat_natCast, hm]; rfl
theorem blockedB_free (x : Wt) (M : List Bool) : blockedB x M = decide ((freeN x.fors M x.fors.length : Int) < x.need) := by unfold blockedB freeN; rw [List.take_length]

def Sub (N : Nat) (M M' : List Bool) : Prop := ∀ i : Nat, i < N → M[i]! = true → M'[i]! = true

theorem blockedB_mono {x : Wt} {N : Nat} {M M' : List Bool} (hx : ∀ y, y ∈ x.fors → 0 ≤ y ∧ y < (N : Int)) (hs : Sub N M M') (h : blockedB x M = true) : blockedB x M' = true := by
  unfold blockedB at h ⊢
  rw [decide_eq_true_eq] at h ⊢
  have : ∀ (l : List Int), (∀ y, y ∈ l → 0 ≤ y ∧ y < (N : Int)) → (l.filter fun y => !M'[y.toNat]!).length ≤ (l.filter fun y => !M[y.toNat]!).length := by
    intro l
    induction l with
    | nil => intro _; exact Nat.le_refl _
    | cons y l ih =>
      intro hl
      have ih := ih fun z hz => hl z (List.mem_cons_of_mem _ hz)
      have hy := hl y List.mem_cons_self
      have hh := hs y.toNat (by omega)
      simp only [List.filter_cons]
      cases h1 : M[y.toNat]! <;> cases h2 : M'[y.toNat]! <;> simp only [Bool.not_true, Bool.not_false, if_true, Bool.false_eq_true, if_false, List.length_cons]
      · omega
      · omega
      · have := hh h1; rw [h2] at this; simp at this
      · omega
  have := this x.fors hx
  omega

/-- The marks are a stuck set. -/
def StuckM (l : List Wt) (N : Nat) (M : List Bool) : Prop := ∀ i : Nat, i < N → M[i]! = true → ∃ x, x ∈ l ∧ x.proc = (i : Int) ∧ blockedB x M = true
/-- The marks hold every stuck set. -/
def AllStuck (l : List Wt) (N : Nat) (M : List Bool) : Prop := ∀ M', M'.length = N → StuckM l N M' → Sub N M' M

/-- How many marks are set. -/
def setc (M : List Bool) : Nat := (M.filter fun b => b).length
theorem setc_unset (M : List Bool) (X : Nat) (hX : X < M.length) (hm : M[X]! = true) : setc M = setc (M.set X false) + 1 := by
  rw [getElem!_pos M X hX] at hm
  induction M generalizing X with
  | nil => simp at hX
  | cons b M ih =>
    cases X with
    | zero =>
      simp at hm
      subst hm
      simp [setc]
    | succ X =>
      simp only [List.getElem_cons_succ] at hm
      have := ih X (by simpa using hX) hm
      cases b <;> simp [setc, List.filter_cons] at this ⊢ <;> omega
theorem setc_le (M : List Bool) : setc M ≤ M.length := List.length_filter_le _ _

theorem get_set' (M : List Bool) (X i : Nat) (b : Bool) (hX : X < M.length) : (M.set X b)[i]! = if i = X then b else M[i]! := by
  by_cases h : i = X
  · subst h
    rw [if_pos rfl, getElem!_pos _ _ (by simpa using hX)]
    simp
  · rw [if_neg h]
    simp only [List.getElem!_eq_getElem?_getD, List.getElem?_set_ne (Ne.symm h)]

/-- All requests of one process are one request: of what is valid. -/
def Once (l : List Wt) : Prop := ∀ x y, x ∈ l → y ∈ l → x.proc = y.proc → x = y

theorem validL_once {l : List Wt} {n : Int} (h : validL l n = 0) : Once l := by
  unfold validL at h
  by_cases h1 : n < 0 ∨ 512 < n
  · rw [if_pos h1] at h; omega
  · rw [if_neg h1] at h
    cases h2 : (List.range l.length).any (badAt l n) with
    | true => rw [h2] at h; simp at h
    | false =>
      have key : ∀ i j, i < j → (hj : j < l.length) → (hi : i < l.length) → l[i].proc ≠ l[j].proc := by
        intro i j hij hj hi he
        have hb := range_any_no h2 j hj
        unfold badAt at hb
        rw [getElem!_pos l j hj] at hb
        simp only [Bool.or_eq_false_iff] at hb
        have := List.any_eq_false.1 hb.1.2 l[i] (by rw [List.mem_iff_getElem]; exact ⟨i, by rw [List.length_take]; omega, by simp⟩)
        simp [he] at this
      intro x y hx hy he
      obtain ⟨i, hi, rfl⟩ := List.getElem_of_mem hx
      obtain ⟨j, hj, rfl⟩ := List.getElem_of_mem hy
      rcases Nat.lt_trichotomy i j with h | h | h
      · exact absurd he (key i j h hj hi)
      · subst h; rfl
      · exact absurd he.symm (key j i h hi hj)

/-- The first marks: the processes that have a request. -/
def Asks (l : List Wt) (N : Nat) (M : List Bool) (k : Nat) : Prop := ∀ i : Nat, i < N → (M[i]! = true ↔ ∃ x, x ∈ l.take k ∧ x.proc = (i : Int))
theorem asks_start (l : List Wt) (N : Nat) : Asks l N (List.replicate N false) 0 := by
  intro i hi
  simp [hi]
theorem asks_step {l : List Wt} {N : Nat} {M : List Bool} {k X : Nat} (hM : M.length = N) (h : Asks l N M k) (hk : k < l.length) (hX : l[k]!.proc = (X : Int)) (hXN : X < N) : Asks l N (M.set X true) (k + 1) := by
  intro i hi
  rw [get_set' M X i true (by omega), take_snoc' l k hk]
  simp only [List.mem_append, List.mem_singleton]
  constructor
  · intro hh
    by_cases e : i = X
    · subst e; exact ⟨l[k]!, .inr rfl, hX⟩
    · rw [if_neg e] at hh
      obtain ⟨x, hx, hp⟩ := (h i hi).1 hh
      exact ⟨x, .inl hx, hp⟩
  · rintro ⟨x, hx | rfl, hp⟩
    · have := (h i hi).2 ⟨x, hx, hp⟩
      rw [this]; split <;> rfl
    · rw [if_pos (by omega)]

/-- What holds of the marks all along. -/
def DInv (l : List Wt) (N : Nat) (M : List Bool) : Prop := AllStuck l N M ∧ ∀ i : Nat, i < N → M[i]! = true → ∃ x, x ∈ l ∧ x.proc = (i : Int)

theorem dinv_start {l : List Wt} {N : Nat} {M : List Bool} (h : Asks l N M l.length) : DInv l N M := by
  rw [Asks, List.take_length] at h
  refine ⟨fun M' _ hs i hi hm => ?_, fun i hi hm => (h i hi).1 hm⟩
  obtain ⟨x, hx, hp, _⟩ := hs i hi hm
  exact (h i hi).2 ⟨x, hx, hp⟩

theorem dinv_free {l : List Wt} {N : Nat} {M : List Bool} {x : Wt} {X : Nat} (hM : M.length = N) (ok : DOk l N) (one : Once l) (h : DInv l N M) (hx : x ∈ l) (hX : x.proc = (X : Int)) (hf : blockedB x M = false) : DInv l N (M.set X false) := by
  have hXN : X < N := by have := (ok x hx).1; omega
  refine ⟨fun M' hM' hs i hi hm => ?_, fun i hi hm => ?_⟩
  · rw [get_set' M X i false (by omega)]
    by_cases e : i = X
    · subst e
      obtain ⟨y, hy, hp, hb⟩ := hs i hi hm
      obtain rfl := one x y hx hy (by rw [hX, hp])
      have := blockedB_mono (ok _ hx).2 (h.1 M' hM' hs) hb
      rw [hf] at this; simp at this
    · rw [if_neg e]; exact h.1 M' hM' hs i hi hm
  · rw [get_set' M X i false (by omega)] at hm
    by_cases e : i = X
    · rw [if_pos e] at hm; simp at hm
    · rw [if_neg e] at hm; exact h.2 i hi hm

/-- At the end the marks are the greatest stuck set. -/
theorem dinv_end {l : List Wt} {N : Nat} {M : List Bool} (h : DInv l N M) (hall : ∀ x, x ∈ l → M[x.proc.toNat]! = true → blockedB x M = true) : StuckM l N M := by
  intro i hi hm
  obtain ⟨x, hx, hp⟩ := h.2 i hi hm
  exact ⟨x, hx, hp, hall x hx (by rw [hp]; simpa using hm)⟩

/-- The places of the marks that are set, among the first k. -/
def marks (M : List Bool) (k : Nat) : List Int := ((List.range k).filter fun i => M[i]!).map fun (i : Nat) => (i : Int)
theorem marks_yes (M : List Bool) (k : Nat) (h : M[k]! = true) : marks M (k + 1) = marks M k ++ [(k : Int)] := by
  unfold marks; rw [List.range_succ, List.filter_append, List.map_append]; simp only [List.filter_cons, List.filter_nil, h]; rfl
theorem marks_no (M : List Bool) (k : Nat) (h : M[k]! = false) : marks M (k + 1) = marks M k := by
  unfold marks; rw [List.range_succ, List.filter_append, List.map_append]; simp only [List.filter_cons, List.filter_nil, h]; simp
theorem marks_len (M : List Bool) (k : Nat) : (marks M k).length ≤ k := by
  unfold marks
  rw [List.length_map]
  exact Nat.le_trans (List.length_filter_le _ _) (by simp)
theorem mem_marks (M : List Bool) (k : Nat) (x : Int) : x ∈ marks M k ↔ 0 ≤ x ∧ x < (k : Int) ∧ M[x.toNat]! = true := by
  unfold marks
  simp only [List.mem_map, List.mem_filter, List.mem_range]
  constructor
  · rintro ⟨i, ⟨h1, h2⟩, rfl⟩; exact ⟨by omega, by omega, by simpa using h2⟩
  · rintro ⟨h1, h2, h3⟩; exact ⟨x.toNat, ⟨by omega, h3⟩, by omega⟩
theorem marks_congr (M M' : List Bool) (k : Nat) (h : ∀ i, i < k → M[i]! = M'[i]!) : marks M k = marks M' k := by
  unfold marks
  congr 1
  apply List.filter_congr
  intro i hi
  rw [h i (List.mem_range.1 hi)]

end Go.Proofs.YtfcpnggdpaeldaaGreat

/-
  The examples of the chapter, in plain words.
-/
namespace Go.Proofs.YtfcpnggdpaeldaaGreat
set_option linter.unusedVariables false

def ex1 : List Wt := [⟨0, 1, [1]⟩, ⟨1, 1, [0]⟩]
def ex2 : List Wt := [⟨0, 1, [1, 2]⟩, ⟨1, 1, [0]⟩]
def exRefs : List (Int × Int) := [(0, 1), (2, 3), (3, 2)]

theorem ex1_valid : validL ex1 3 = 0 := by decide
theorem ex2_valid : validL ex2 3 = 0 := by decide
theorem exRefs_good : garbBad exRefs [0] 4 = false := by decide

theorem ex1_marks {M : List Bool} (hM : M.length = 3) (hs : StuckM ex1 3 M) (ha : AllStuck ex1 3 M) : marks M 3 = [0, 1] := by
  match M, hM with
  | [a, b, c], _ =>
    have st : StuckM ex1 3 [true, true, false] := by
      intro i hi hm
      match i, hi with
      | 0, _ => exact ⟨⟨0, 1, [1]⟩, by simp [ex1], rfl, by decide⟩
      | 1, _ => exact ⟨⟨1, 1, [0]⟩, by simp [ex1], rfl, by decide⟩
      | 2, _ => simp at hm
    have h0 : a = true := by simpa using ha _ rfl st 0 (by omega) rfl
    have h1 : b = true := by simpa using ha _ rfl st 1 (by omega) rfl
    have h2 : c = false := by
      cases c with
      | false => rfl
      | true =>
        obtain ⟨x, hx, hp, _⟩ := hs 2 (by omega) rfl
        simp only [ex1, List.mem_cons, List.not_mem_nil, or_false] at hx
        rcases hx with rfl | rfl <;> simp at hp
    subst h0; subst h1; subst h2
    decide

theorem ex2_marks {M : List Bool} (hM : M.length = 3) (hs : StuckM ex2 3 M) : marks M 3 = [] := by
  match M, hM with
  | [a, b, c], _ =>
    have h2 : c = false := by
      cases c with
      | false => rfl
      | true =>
        obtain ⟨x, hx, hp, _⟩ := hs 2 (by omega) rfl
        simp only [ex2, List.mem_cons, List.not_mem_nil, or_false] at hx
        rcases hx with rfl | rfl <;> simp at hp
    subst h2
    have h0 : a = false := by
      cases a with
      | false => rfl
      | true =>
        obtain ⟨x, hx, hp, hb⟩ := hs 0 (by omega) rfl
        simp only [ex2, List.mem_cons, List.not_mem_nil, or_false] at hx
        rcases hx with rfl | rfl
        · cases b <;> simp [blockedB, List.filter_cons] at hb
        · simp at hp
    subst h0
    have h1 : b = false := by
      cases b with
      | false => rfl
      | true =>
        obtain ⟨x, hx, hp, hb⟩ := hs 1 (by omega) rfl
        simp only [ex2, List.mem_cons, List.not_mem_nil, or_false] at hx
        rcases hx with rfl | rfl
        · simp at hp
        · simp [blockedB, List.filter_cons] at hb
    subst h1
    decide

theorem exRefs_gaps {M : List Bool} (hM : M.length = 4) (h : ∀ i : Nat, i < 4 → (M[i]! = true ↔ Reach exRefs [0] i)) : gaps M 4 = [2, 3] := by
  have key : ∀ x, Reach exRefs [0] x → x = 0 ∨ x = 1 := by
    intro x hx
    induction hx with
    | root hx => simp at hx; exact .inl hx
    | step hx hr ih =>
      simp only [exRefs, List.mem_cons, Prod.mk.injEq, List.not_mem_nil, or_false] at hr
      omega
  have r0 : Reach exRefs [0] 0 := .root (by simp)
  have r1 : Reach exRefs [0] 1 := .step r0 (by simp [exRefs])
  match M, hM with
  | [a, b, c, d], _ =>
    have h0 : a = true := by simpa using (h 0 (by omega)).2 r0
    have h1 : b = true := by simpa using (h 1 (by omega)).2 r1
    have h2 : c = false := by
      cases c with
      | false => rfl
      | true => have := key _ ((h 2 (by omega)).1 rfl); omega
    have h3 : d = false := by
      cases d with
      | false => rfl
      | true => have := key _ ((h 3 (by omega)).1 rfl); omega
    subst h0; subst h1; subst h2; subst h3
    decide

end Go.Proofs.YtfcpnggdpaeldaaGreat

/-
  The library's IndexFunc and ContainsFunc on slices of requests.
-/
namespace Go.Proofs.YtfcpnggdpaeldaaGreat
open Go.RowKit
set_option linter.unusedVariables false

set_option maxHeartbeats 400000 in
theorem indexFunc_wait {α : Type} [Inhabited α] (R : World → List Value → α → Prop) (hLasts : Lasts R) (g : Nat) (cb : Array Value) (eg : ∀ args w, (callFunc g args).run Tryz.prog w = .ok (.enter g args) w) (p : α → Bool) (v : Value) (l : List α) (w : World)
    (hv : Sl R 3 w v l) (hn : l.length ≤ 1000000) (hp : SaysOf Tryz.prog R encAgg g cb p l w) :
    Calls Tryz.prog 99 #[v, .func (.func g) #[] cb] w fun e w' => e = .returned (.int .i64 (firstAt p l)) ∧ Ext w w' := by
  obtain ⟨a, c, rfl, hlc, hv⟩ := hv
  have HLC := Lib.hid hlc; clear hlc
  have HV := Lib.hid hv; clear hv
  have HP := Lib.hid hp; clear hp
  have HT := Lib.hid hLasts; clear hLasts
  generalize hln : l.length = n at hn
  have HL := Lib.hid hln; clear hln
  go_enter Tryz.func99, Tryz.ntmps99
  go_wp2
  go_loopg [5, 8] n (fun m _ s8 wr => ∃ k : Nat, k ≤ n ∧ n - k ≤ m ∧ s8 = .int .i64 k ∧ Ext w wr ∧ Aside (∀ j, j < k → p l[j]! = false))
  case atStart => exact ⟨0, Nat.zero_le _, by omega, rfl, Below.refl _ _, (fun j hj => absurd hj (Nat.not_lt_zero _))⟩
  case round =>
    obtain ⟨k, hk, hm, rfl, he, A⟩ := hrel
    have HE := Lib.hid he; clear he
    by_cases hlt : k < n
    · obtain ⟨b, off, rfl, hb, hc⟩ := HV.out (by intro e; have := HL.out; simp [e] at this; omega)
      obtain ⟨vs, hvs, hR, hcell⟩ := hc k (by rw [HL.out]; exact hlt)
      obtain ⟨c0, c1, c2, rfl⟩ : ∃ c0 c1 c2, vs = [c0, c1, c2] := by match vs, hvs with | [c0, c1, c2], _ => exact ⟨c0, c1, c2, rfl⟩
      have d0 : wr.cell? ⟨b, off + k * 3, none⟩ = some c0 := (HE.out.cell hb).trans (hcell 0 (by omega))
      have d1 : wr.cell? ⟨b, off + k * 3 + 1, none⟩ = some c1 := (HE.out.cell hb).trans (hcell 1 (by omega))
      have d2 : wr.cell? ⟨b, off + k * 3 + 2, none⟩ = some c2 := (HE.out.cell hb).trans (hcell 2 (by omega))
      have hltz : (k : Int) < (n : Int) := by omega
      clear hc hcell
      have hcall := HP.out _ (mem_at l k (by rw [HL.out]; exact hlt)) wr _ HE.out (HT.out _ _ _ _ hR HE.out)
      unfold encAgg at hcall
      generalize hy : l[k]! = y at hcall hR
      have B := Lib.hid hy
      clear hy hR hvs HV HT HP
      cases hq : p y with
      | true =>
        rw [hq] at hcall
        have HQ := Lib.hid hq; clear hq
        go_wp2_with (go_at_fn g; refine hcall.mono ?_; rintro e w' ⟨rfl, he'⟩)
        go_ret
        exact ⟨by rw [firstAt_hit p l k (by rw [HL.out]; omega) (by rw [B.out]; exact HQ.out) A.out]; rfl, HE.out.trans' he'⟩
      | false =>
        rw [hq] at hcall
        have HQ := Lib.hid hq; clear hq
        go_wp2_with (go_at_fn g; refine hcall.mono ?_; rintro e w' ⟨rfl, he'⟩)
        go_roundg (n - (k + 1))
        case measure => omega
        case rel =>
          refine ⟨k + 1, by omega, by omega, by go_num, HE.out.trans' he', (show Aside _ from fun j hj => ?_)⟩
          by_cases e : j = k
          · subst e
            rw [B.out]; exact HQ.out
          · exact A.out j (by omega)
    · have hltz : ¬ (k : Int) < (n : Int) := by omega
      go_wp2
      go_ret
      exact ⟨by rw [firstAt_miss p l (fun j hj => A.out j (by rw [HL.out] at hj; omega))]; rfl, HE.out⟩

theorem enters_99 : ∀ args w, (callFunc 99 args).run Tryz.prog w = .ok (.enter 99 args) w := enters_of Tryz.func99 (by kernel_rfl) rfl

set_option maxHeartbeats 400000 in
theorem containsFunc_wait {α : Type} [Inhabited α] (R : World → List Value → α → Prop) (hLasts : Lasts R) (g : Nat) (cb : Array Value) (eg : ∀ args w, (callFunc g args).run Tryz.prog w = .ok (.enter g args) w) (p : α → Bool) (v : Value) (l : List α) (w : World)
    (hv : Sl R 3 w v l) (hn : l.length ≤ 1000000) (hp : SaysOf Tryz.prog R encAgg g cb p l w) :
    Calls Tryz.prog 82 #[v, .func (.func g) #[] cb] w fun e w' => e = .returned (.bool (l.any p)) ∧ Ext w w' := by
  have HI := Lib.hid (indexFunc_wait R hLasts g cb eg p v l w hv hn hp)
  clear hv hp eg hLasts
  rw [← firstAt_any]
  go_enter Tryz.func82, Tryz.ntmps82
  go_wp2_with (go_at_call 99; refine HI.out.mono ?_; rintro e w' ⟨rfl, he'⟩)
  go_ret
  exact ⟨rfl, he'⟩

end Go.Proofs.YtfcpnggdpaeldaaGreat

/-
  The library's Equal on slices of numbers.
-/
namespace Go.Proofs.YtfcpnggdpaeldaaGreat
open Go.RowKit
set_option linter.unusedVariables false

theorem beq_at (l m : List Int) (h : l.length = m.length) : (∃ k, k < l.length ∧ l[k]! ≠ m[k]!) → (l == m) = false := by
  rintro ⟨k, hk, hne⟩
  rw [beq_eq_false_iff_ne]
  rintro rfl
  exact hne rfl
theorem beq_all (l m : List Int) (h : l.length = m.length) (hall : ∀ k, k < l.length → l[k]! = m[k]!) : (l == m) = true := by
  rw [beq_iff_eq]
  refine List.ext_getElem h fun i h1 h2 => ?_
  have := hall i h1
  rwa [getElem!_pos l i h1, getElem!_pos m i h2] at this
theorem beq_len (l m : List Int) (h : l.length ≠ m.length) : (l == m) = false := by
  rw [beq_eq_false_iff_ne]
  rintro rfl
  exact h rfl

set_option maxHeartbeats 400000 in
theorem equal_int (u v : Value) (l m : List Int) (w : World) (hu : Ints w u l) (hv : Ints w v m) (hn : l.length ≤ 1000000) (hm : m.length ≤ 1000000) :
    Calls Tryz.prog 26 #[u, v] w fun e w' => e = .returned (.bool (l == m)) ∧ Ext w w' := by
  obtain ⟨a, c, rfl, _, hu⟩ := hu
  obtain ⟨a2, c2, rfl, _, hv⟩ := hv
  have HU := Lib.hid hu; clear hu
  have HV := Lib.hid hv; clear hv
  generalize hln : l.length = n at hn
  generalize hlm : m.length = n2 at hm
  have HL := Lib.hid hln; clear hln
  have HM := Lib.hid hlm; clear hlm
  by_cases hne : n = n2
  · subst hne
    go_enter Tryz.func26, Tryz.ntmps26
    go_wp2
    go_loopg [5, 13] n (fun g _ s13 wr => ∃ k : Nat, k ≤ n ∧ n - k ≤ g ∧ s13 = .int .i64 k ∧ Ext w wr ∧ Aside (∀ j, j < k → l[j]! = m[j]!))
    case atStart => exact ⟨0, Nat.zero_le _, by omega, rfl, Ext.rf _, (fun j hj => absurd hj (Nat.not_lt_zero _))⟩
    case round =>
      obtain ⟨k, hk, hg, rfl, he, A⟩ := hrel
      have HE := Lib.hid he; clear he
      by_cases hlt : k < n
      · obtain ⟨b, off, rfl, hb, hc⟩ := HU.out (by intro e; have := HL.out; simp [e] at this; omega)
        obtain ⟨b2, off2, rfl, hb2, hc2⟩ := HV.out (by intro e; have := HM.out; simp [e] at this; omega)
        have hcell : wr.cell? ⟨b, off + k, none⟩ = some (.int .i64 l[k]!) := HE.out.cl (hc k (by rw [HL.out]; exact hlt))
        have hcell2 : wr.cell? ⟨b2, off2 + k, none⟩ = some (.int .i64 m[k]!) := HE.out.cl (hc2 k (by rw [HM.out]; exact hlt))
        have hltz : (k : Int) < (n : Int) := by omega
        have hkz : (0 : Int) ≤ (k : Int) := by omega
        clear hc HV hc2 HU
        generalize hy : l[k]! = y at hcell
        generalize hz : m[k]! = z at hcell2
        have B := Lib.hid hy
        have C := Lib.hid hz
        clear hy hz
        cases hq : (y != z) with
        | true =>
          go_wp2
          go_quiet (fail)
          go_wp2
          go_ret
          exact ⟨by rw [beq_at l m (by rw [HL.out, HM.out]) ⟨k, by rw [HL.out]; exact hlt, by rw [B.out, C.out]; simpa using hq⟩]; rfl, HE.out.drN _⟩
        | false =>
          go_wp2
          go_quiet (fail)
          go_wp2
          go_roundg (n - (k + 1))
          case measure => omega
          case rel =>
            refine ⟨k + 1, by omega, by omega, by go_num, HE.out.drN _, (show Aside _ from fun j hj => ?_)⟩
            by_cases e : j = k
            · subst e
              rw [B.out, C.out]; simpa using hq
            · exact A.out j (by omega)
      · have hltz : ¬ (k : Int) < (n : Int) := by omega
        go_wp2
        go_ret
        exact ⟨by rw [beq_all l m (by rw [HL.out, HM.out]) (fun j hj => A.out j (by rw [HL.out] at hj; omega))]; rfl, HE.out⟩
  · have h1 : ((n : Int) != (n2 : Int)) = true := by rw [bne_iff_ne]; omega
    go_enter Tryz.func26, Tryz.ntmps26
    go_wp2
    go_ret
    exact ⟨by rw [beq_len l m (by rw [HL.out, HM.out]; exact hne)]; rfl, Ext.rf _⟩

end Go.Proofs.YtfcpnggdpaeldaaGreat
