/-
  The law on stuck sets, in plain words.
-/
import Derived.Test.YtodkcfebcjgahaaDeadL
namespace Go.Proofs.Ytodkcfebcjgahaa
set_option linter.unusedVariables false

/-- What Check says of a list. -/
def upAll (n : Int) (s : List Int) : Bool := (List.range s.length).all fun i => !(decide (s[i]! < 0) || decide (n ≤ s[i]!) || (decide (0 < i) && decide (s[i]! ≤ s[i - 1]!)))
/-- The marks of a list. -/
def marksOf (N : Nat) (s : List Int) : List Bool := (List.range N).map fun (i : Nat) => s.contains (i : Int)
/-- The first request of a process is one that those outside the marks cannot satisfy. -/
def heldB (l : List Wt) (M : List Bool) (p : Int) : Bool := match l.find? (fun x => x.proc == p) with | some x => blockedB x M | none => false
def checkB (l : List Wt) (n : Int) (s : List Int) : Bool := (validL l n == 0) && upAll n s && s.all (heldB l (marksOf n.toNat s))

theorem marksOf_len (N : Nat) (s : List Int) : (marksOf N s).length = N := by simp [marksOf]
theorem marksOf_get (N : Nat) (s : List Int) (i : Nat) (hi : i < N) : (marksOf N s)[i]! = s.contains (i : Int) := by
  rw [getElem!_pos _ i (by rw [marksOf_len]; exact hi)]
  simp [marksOf]

theorem heldB_iff {l : List Wt} (one : Once l) {M : List Bool} {p : Int} : heldB l M p = true ↔ ∃ x, x ∈ l ∧ x.proc = p ∧ blockedB x M = true := by
  unfold heldB
  cases h : l.find? (fun x => x.proc == p) with
  | none =>
    simp only [Bool.false_eq_true, false_iff, not_exists]
    rintro x ⟨hx, hp, _⟩
    have := List.find?_eq_none.1 h x hx
    simp [hp] at this
  | some y =>
    have hy := List.find?_some h
    have hm := List.mem_of_find?_eq_some h
    simp only [beq_iff_eq] at hy
    constructor
    · intro hb; exact ⟨y, hm, hy, hb⟩
    · rintro ⟨x, hx, hp, hb⟩
      rw [one y x hm hx (by rw [hy, hp])]; exact hb

theorem upAll_range {n : Int} {s : List Int} (h : upAll n s = true) (x : Int) (hx : x ∈ s) : 0 ≤ x ∧ x < n := by
  obtain ⟨i, hi, rfl⟩ := List.getElem_of_mem hx
  have := List.all_eq_true.1 h i (List.mem_range.2 hi)
  rw [getElem!_pos s i hi] at this
  simp only [Bool.not_eq_true', Bool.or_eq_false_iff, decide_eq_false_iff_not] at this
  omega

theorem marks_contains (M : List Bool) (N : Nat) (i : Nat) (hi : i < N) : (marks M N).contains (i : Int) = M[i]! := by
  rw [Bool.eq_iff_iff, List.contains_iff_mem, mem_marks]
  simp; omega

/-- What Check says yes to is a stuck set, so it lies in the greatest. -/
theorem check_stuck {l : List Wt} {n : Int} {s : List Int} {M : List Bool} (h : checkB l n s = true) (ha : AllStuck l n.toNat M) : ∀ x, x ∈ s → (marks M n.toNat).contains x = true := by
  simp only [checkB, Bool.and_eq_true, beq_iff_eq] at h
  obtain ⟨⟨hv, hu⟩, hs⟩ := h
  have one := validL_once hv
  intro x hx
  obtain ⟨x0, x1⟩ := upAll_range hu x hx
  have st : StuckM l n.toNat (marksOf n.toNat s) := by
    intro i hi hm
    rw [marksOf_get _ _ _ hi, List.contains_iff_mem] at hm
    exact (heldB_iff one).1 (List.all_eq_true.1 hs _ hm)
  have := ha _ (marksOf_len _ _) st x.toNat (by omega) (by rw [marksOf_get _ _ _ (by omega), List.contains_iff_mem, Int.toNat_of_nonneg x0]; exact hx)
  rw [List.contains_iff_mem, mem_marks]
  exact ⟨x0, by omega, this⟩

theorem marks_up (M : List Bool) (k : Nat) : ∀ i, i + 1 < (marks M k).length → (marks M k)[i]! < (marks M k)[i + 1]! := by
  induction k with
  | zero => intro i hi; simp [marks] at hi
  | succ k ih =>
    cases h : M[k]! with
    | false => rw [marks_no M k h]; exact ih
    | true =>
      rw [marks_yes M k h]
      intro i hi
      rw [List.length_append, List.length_singleton] at hi
      by_cases hl : i + 1 < (marks M k).length
      · rw [getElem!_pos _ i (by simp; omega), getElem!_pos _ (i + 1) (by simp; omega), List.getElem_append_left (by omega), List.getElem_append_left hl]
        have := ih i hl
        rwa [getElem!_pos _ i (by omega), getElem!_pos _ (i + 1) hl] at this
      · rw [getElem!_pos _ i (by simp; omega), getElem!_pos _ (i + 1) (by simp; omega), List.getElem_append_left (by omega), List.getElem_append_right (by omega)]
        have e : i + 1 - (marks M k).length = 0 := by omega
        simp only [e, List.getElem_cons_zero]
        have := (mem_marks M k _).1 (List.getElem_mem (show i < (marks M k).length by omega))
        omega

/-- The greatest stuck set passes Check. -/
theorem check_marks {l : List Wt} {n : Int} {M : List Bool} (hv : validL l n = 0) (hM : M.length = n.toNat) (hs : StuckM l n.toNat M) : checkB l n (marks M n.toNat) = true := by
  have one := validL_once hv
  obtain ⟨h0, _, _⟩ := validL_dok hv
  have e : marksOf n.toNat (marks M n.toNat) = M := by
    refine List.ext_getElem (by rw [marksOf_len, hM]) fun i h1 h2 => ?_
    rw [marksOf_len] at h1
    have := marksOf_get n.toNat (marks M n.toNat) i h1
    rw [marks_contains M n.toNat i h1] at this
    rwa [getElem!_pos _ i (by rw [marksOf_len]; exact h1), getElem!_pos M i h2] at this
  simp only [checkB, hv, Bool.and_eq_true, beq_self_eq_true, true_and, e]
  constructor
  · unfold upAll
    rw [List.all_eq_true]
    intro i hi
    have hi := List.mem_range.1 hi
    have hm := (mem_marks M n.toNat _).1 (mem_at (marks M n.toNat) i hi)
    simp only [Bool.not_eq_true', Bool.or_eq_false_iff, decide_eq_false_iff_not, Bool.and_eq_false_iff]
    refine ⟨⟨by omega, by omega⟩, ?_⟩
    by_cases hi0 : 0 < i
    · right
      have := marks_up M n.toNat (i - 1) (by omega)
      rw [show i - 1 + 1 = i by omega] at this
      omega
    · left; exact hi0
  · rw [List.all_eq_true]
    intro x hx
    obtain ⟨x0, x1, hm⟩ := (mem_marks M n.toNat x).1 hx
    obtain ⟨y, hy, hp, hb⟩ := hs x.toNat (by omega) hm
    exact (heldB_iff one).2 ⟨y, hy, by omega, hb⟩

/-! ### Those who proceed one after the other -/
/-- Of the requested ones how many are free. -/
def cnt (x : Wt) (F : List Bool) : Nat := (x.fors.filter fun y => F[y.toNat]!).length
/-- One request is looked at. -/
def sweep1 (F : List Bool) (x : Wt) : List Bool := if x.need ≤ (cnt x F : Int) then F.set x.proc.toNat true else F
def sweepTo (l : List Wt) (F : List Bool) (k : Nat) : List Bool := (l.take k).foldl sweep1 F
def sweeps (l : List Wt) (F : List Bool) : Nat → List Bool
  | 0 => F
  | r + 1 => sweepTo l (sweeps l F r) l.length
/-- The first ones that are free: those without a request. -/
def free0 (l : List Wt) (N k : Nat) : List Bool := (List.range N).map fun (i : Nat) => decide (i < k) && !(l.any fun x => x.proc == (i : Int))

theorem sweepTo_succ (l : List Wt) (F : List Bool) (k : Nat) (hk : k < l.length) : sweepTo l F (k + 1) = sweep1 (sweepTo l F k) l[k]! := by
  unfold sweepTo
  rw [take_snoc' l k hk, List.foldl_append]; rfl
theorem sweep1_len (F : List Bool) (x : Wt) : (sweep1 F x).length = F.length := by unfold sweep1; split <;> simp
theorem sweepTo_len (l : List Wt) (F : List Bool) (k : Nat) : (sweepTo l F k).length = F.length := by
  unfold sweepTo
  generalize l.take k = m
  induction m generalizing F with
  | nil => rfl
  | cons x m ih => rw [List.foldl_cons, ih, sweep1_len]
theorem sweeps_len (l : List Wt) (F : List Bool) (r : Nat) : (sweeps l F r).length = F.length := by
  induction r with
  | zero => rfl
  | succ r ih => rw [sweeps, sweepTo_len, ih]

/-- No free one is marked. -/
def Apart (N : Nat) (F M : List Bool) : Prop := ∀ i : Nat, i < N → F[i]! = true → M[i]! = false

theorem cnt_free {x : Wt} {N : Nat} {F M : List Bool} (hx : ∀ y, y ∈ x.fors → 0 ≤ y ∧ y < (N : Int)) (ha : Apart N F M) : cnt x F ≤ (x.fors.filter fun y => !M[y.toNat]!).length := by
  unfold cnt
  have : ∀ (l : List Int), (∀ y, y ∈ l → 0 ≤ y ∧ y < (N : Int)) → (l.filter fun y => F[y.toNat]!).length ≤ (l.filter fun y => !M[y.toNat]!).length := by
    intro l
    induction l with
    | nil => intro _; exact Nat.le_refl _
    | cons y l ih =>
      intro hl
      have ih := ih fun z hz => hl z (List.mem_cons_of_mem _ hz)
      have hy := hl y List.mem_cons_self
      have hh := ha y.toNat (by omega)
      simp only [List.filter_cons]
      cases h1 : F[y.toNat]! <;> cases h2 : M[y.toNat]! <;> simp only [Bool.not_true, Bool.not_false, if_true, Bool.false_eq_true, if_false, List.length_cons]
      · omega
      · omega
      · omega
      · have := hh h1; rw [h2] at this; simp at this
  exact this x.fors hx

theorem apart_sweep1 {l : List Wt} {N : Nat} {F M : List Bool} {x : Wt} (hF : F.length = N) (ok : DOk l N) (one : Once l) (hs : StuckM l N M) (ha : Apart N F M) (hx : x ∈ l) : Apart N (sweep1 F x) M := by
  unfold sweep1
  split
  · rename_i hc
    have hp := (ok x hx).1
    intro i hi hf
    rw [get_set' F _ i true (by omega)] at hf
    by_cases e : i = x.proc.toNat
    · cases hm : M[i]! with
      | false => rfl
      | true =>
        obtain ⟨y, hy, hyp, hb⟩ := hs i hi hm
        obtain rfl := one x y hx hy (by omega)
        have := cnt_free (ok x hx).2 ha
        unfold blockedB at hb
        rw [decide_eq_true_eq] at hb
        omega
    · rw [if_neg e] at hf; exact ha i hi hf
  · exact ha

theorem apart_sweepTo {l : List Wt} {N : Nat} {F M : List Bool} (hF : F.length = N) (ok : DOk l N) (one : Once l) (hs : StuckM l N M) (ha : Apart N F M) (k : Nat) (hk : k ≤ l.length) : Apart N (sweepTo l F k) M := by
  induction k with
  | zero => simpa [sweepTo] using ha
  | succ k ih =>
    rw [sweepTo_succ l F k (by omega)]
    exact apart_sweep1 (by rw [sweepTo_len, hF]) ok one hs (ih (by omega)) (mem_at l k (by omega))

theorem setc_set_le (F : List Bool) (X : Nat) : setc F ≤ setc (F.set X true) ∧ (X < F.length → F[X]! = false → setc F + 1 ≤ setc (F.set X true)) := by
  induction F generalizing X with
  | nil => simp [setc]
  | cons b F ih =>
    cases X with
    | zero => cases b <;> simp [setc]
    | succ X =>
      have := ih X
      refine ⟨?_, fun h1 h2 => ?_⟩
      · cases b <;> simp [setc, List.filter_cons] at this ⊢ <;> omega
      · have h2' : F[X]! = false := by simpa using h2
        have h1' : X < F.length := by simpa using h1
        have := this.2 h1' h2'
        cases b <;> simp [setc, List.filter_cons] at this ⊢ <;> omega

/-- Nobody more can proceed. -/
def Closed (l : List Wt) (F : List Bool) : Prop := ∀ x, x ∈ l → x.need ≤ (cnt x F : Int) → F[x.proc.toNat]! = true

theorem set_same (F : List Bool) (X : Nat) (h : F[X]! = true) : F.set X true = F := by
  refine List.ext_getElem (by simp) fun i h1 h2 => ?_
  rw [List.getElem_set]
  split
  · rename_i e
    subst e
    rw [getElem!_pos F _ h2] at h
    exact h.symm
  · rfl

/-- A sweep adds one, or all is closed and it changes nothing. -/
theorem sweepTo_grow {l : List Wt} {N : Nat} (F : List Bool) (hF : F.length = N) (ok : DOk l N) (k : Nat) (hk : k ≤ l.length) :
    setc F ≤ setc (sweepTo l F k) ∧ (setc F + 1 ≤ setc (sweepTo l F k) ∨ (sweepTo l F k = F ∧ ∀ i, i < k → l[i]!.need ≤ (cnt l[i]! F : Int) → F[l[i]!.proc.toNat]! = true)) := by
  induction k with
  | zero => exact ⟨Nat.le_refl _, .inr ⟨rfl, fun i hi => absurd hi (Nat.not_lt_zero _)⟩⟩
  | succ k ih =>
    obtain ⟨h1, h2⟩ := ih (by omega)
    rw [sweepTo_succ l F k (by omega)]
    have hle : setc (sweepTo l F k) ≤ setc (sweep1 (sweepTo l F k) l[k]!) := by
      unfold sweep1; split
      · exact (setc_set_le _ _).1
      · exact Nat.le_refl _
    refine ⟨by omega, ?_⟩
    rcases h2 with h2 | ⟨he, hc⟩
    · left; omega
    · rw [he]
      unfold sweep1
      by_cases hn : l[k]!.need ≤ (cnt l[k]! F : Int)
      · rw [if_pos hn]
        cases hf : F[l[k]!.proc.toNat]! with
        | true =>
          right
          refine ⟨set_same F _ hf, fun i hi hh => ?_⟩
          by_cases e : i = k
          · subst e; exact hf
          · exact hc i (by omega) hh
        | false =>
          left
          have := (ok _ (mem_at l k (by omega))).1
          exact (setc_set_le F _).2 (by omega) hf
      · rw [if_neg hn]
        right
        refine ⟨rfl, fun i hi hh => ?_⟩
        by_cases e : i = k
        · subst e; exact absurd hh hn
        · exact hc i (by omega) hh

theorem sweeps_end {l : List Wt} {N : Nat} (F : List Bool) (hF : F.length = N) (ok : DOk l N) (r : Nat) : r ≤ setc (sweeps l F r) ∨ Closed l (sweeps l F r) := by
  induction r with
  | zero => left; exact Nat.zero_le _
  | succ r ih =>
    have hl := sweeps_len l F r
    obtain ⟨h1, h2⟩ := sweepTo_grow (l := l) (N := N) (sweeps l F r) (by rw [hl, hF]) ok l.length (Nat.le_refl _)
    have closed : (sweepTo l (sweeps l F r) l.length = sweeps l F r ∧ ∀ i, i < l.length → l[i]!.need ≤ (cnt l[i]! (sweeps l F r) : Int) → (sweeps l F r)[l[i]!.proc.toNat]! = true) → Closed l (sweeps l F (r + 1)) := by
      rintro ⟨e, hc⟩
      rw [sweeps, e]
      intro x hx hn
      obtain ⟨i, hi, rfl⟩ := List.getElem_of_mem hx
      have := hc i hi
      rw [getElem!_pos l i hi] at this
      exact this hn
    rcases ih with ih | ih
    · rcases h2 with h2 | h2
      · left; rw [sweeps]; omega
      · right; exact closed h2
    · rcases h2 with h2 | h2
      · -- a closed set is left as it is
        exfalso
        have : sweepTo l (sweeps l F r) l.length = sweeps l F r := by
          have key : ∀ k, k ≤ l.length → sweepTo l (sweeps l F r) k = sweeps l F r := by
            intro k
            induction k with
            | zero => intro _; rfl
            | succ k ihk =>
              intro hk
              rw [sweepTo_succ l _ k (by omega), ihk (by omega)]
              unfold sweep1
              split
              · rename_i hn; exact set_same _ _ (ih _ (mem_at l k (by omega)) hn)
              · rfl
          exact key _ (Nat.le_refl _)
        rw [this] at h2; omega
      · right; exact closed h2

theorem setc_full {F : List Bool} {N : Nat} (hF : F.length = N) (h : N ≤ setc F) (i : Nat) (hi : i < N) : F[i]! = true := by
  subst hF
  rw [getElem!_pos F i hi]
  have hh : (F.filter fun b => b).length = F.length := Nat.le_antisymm (List.length_filter_le _ _) h
  exact List.length_filter_eq_length_iff.1 hh _ (List.getElem_mem _)

theorem free0_get (l : List Wt) (N k i : Nat) (hi : i < N) : (free0 l N k)[i]! = (decide (i < k) && !(l.any fun x => x.proc == (i : Int))) := by
  rw [getElem!_pos _ i (by simp [free0]; exact hi)]
  simp [free0]
theorem free0_len (l : List Wt) (N k : Nat) : (free0 l N k).length = N := by simp [free0]

/-- After as many rounds as there are processes the free ones are those that are not marked. -/
theorem sweeps_marks {l : List Wt} {N : Nat} {M : List Bool} (ok : DOk l N) (one : Once l) (hM : M.length = N) (hs : StuckM l N M) (ha : AllStuck l N M) (i : Nat) (hi : i < N) : (sweeps l (free0 l N N) N)[i]! = !M[i]! := by
  have ap : ∀ r, Apart N (sweeps l (free0 l N N) r) M := by
    intro r
    induction r with
    | zero =>
      intro i hi hf
      rw [sweeps, free0_get l N N i hi] at hf
      cases hm : M[i]! with
      | false => rfl
      | true =>
        obtain ⟨x, hx, hp, _⟩ := hs i hi hm
        simp only [Bool.and_eq_true, Bool.not_eq_true', List.any_eq_false] at hf
        have := hf.2 x hx
        simp [hp] at this
    | succ r ih => exact apart_sweepTo (by rw [sweeps_len, free0_len]) ok one hs ih _ (Nat.le_refl _)
  have hl : (sweeps l (free0 l N N) N).length = N := by rw [sweeps_len, free0_len]
  cases hf : (sweeps l (free0 l N N) N)[i]! with
  | true => rw [ap N i hi hf]; rfl
  | false =>
    rcases sweeps_end (free0 l N N) (free0_len l N N) ok N with h | h
    · rw [setc_full hl h i hi] at hf; simp at hf
    · -- those that are not free are a stuck set
      have mono : ∀ r (j : Nat), j < N → (free0 l N N)[j]! = true → (sweeps l (free0 l N N) r)[j]! = true := by
        intro r
        induction r with
        | zero => intro j _ h; exact h
        | succ r ih =>
          intro j hj h0
          have key : ∀ k, k ≤ l.length → (sweepTo l (sweeps l (free0 l N N) r) k)[j]! = true := by
            intro k
            induction k with
            | zero => intro _; exact ih j hj h0
            | succ k ihk =>
              intro hk
              rw [sweepTo_succ l _ k (by omega)]
              unfold sweep1
              split
              · have hp := (ok _ (mem_at l k (by omega))).1
                rw [get_set' _ _ j true (by rw [sweepTo_len, sweeps_len, free0_len]; omega), ihk (by omega)]
                split <;> rfl
              · exact ihk (by omega)
          exact key _ (Nat.le_refl _)
      let G : List Bool := (sweeps l (free0 l N N) N).map fun b => !b
      have hG : ∀ j : Nat, j < N → G[j]! = !(sweeps l (free0 l N N) N)[j]! := fun j hj => by
        rw [getElem!_pos G j (by simp [G, hl]; exact hj), getElem!_pos _ j (by rw [hl]; exact hj)]
        simp [G]
      have st : StuckM l N G := by
        intro j hj hg
        rw [hG j hj] at hg
        have hnf : (sweeps l (free0 l N N) N)[j]! = false := by simpa using hg
        have h0 : (free0 l N N)[j]! = false := by
          cases hh : (free0 l N N)[j]! with
          | false => rfl
          | true => rw [mono N j hj hh] at hnf; simp at hnf
        rw [free0_get l N N j hj, decide_eq_true hj, Bool.true_and, Bool.not_eq_false'] at h0
        obtain ⟨x, hx, hp⟩ := List.any_eq_true.1 h0
        simp only [beq_iff_eq] at hp
        refine ⟨x, hx, hp, ?_⟩
        unfold blockedB
        rw [decide_eq_true_eq]
        have hno : ¬ x.need ≤ (cnt x (sweeps l (free0 l N N) N) : Int) := fun hn => by
          have := h x hx hn
          rw [hp] at this
          simp only [Int.toNat_natCast] at this
          rw [hnf] at this; simp at this
        have e : (x.fors.filter fun y => !G[y.toNat]!) = x.fors.filter fun y => (sweeps l (free0 l N N) N)[y.toNat]! := by
          apply List.filter_congr
          intro y hy
          have := (ok x hx).2 y hy
          rw [hG y.toNat (by omega)]; simp
        rw [e]
        unfold cnt at hno
        omega
      have := ha G (by simp [G, hl]) st i hi (by rw [hG i hi, hf]; rfl)
      rw [this]; rfl

/-- A request more frees nobody. -/
theorem stuck_more {l : List Wt} {m : Wt} {N : Nat} {M M' : List Bool} (hM : M.length = N) (hs : StuckM l N M) (ha' : AllStuck (l ++ [m]) N M') : ∀ x, x ∈ marks M N → (marks M' N).contains x = true := by
  intro x hx
  obtain ⟨x0, x1, hm⟩ := (mem_marks M N x).1 hx
  have st : StuckM (l ++ [m]) N M := fun i hi h => by
    obtain ⟨y, hy, hp, hb⟩ := hs i hi h
    exact ⟨y, List.mem_append_left _ hy, hp, hb⟩
  have := ha' M hM st x.toNat (by omega) hm
  rw [List.contains_iff_mem, mem_marks]
  exact ⟨x0, x1, this⟩

end Go.Proofs.Ytodkcfebcjgahaa
