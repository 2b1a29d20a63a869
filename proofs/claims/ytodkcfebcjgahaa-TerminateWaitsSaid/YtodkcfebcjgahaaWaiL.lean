/-
  Deadlocks, stuck sets and garbage as the reference finds them, by rounds. No program is named here.
-/
import Derived.Test.YtodkcfebcjgahaaStuckL
namespace Go.Proofs.Ytodkcfebcjgahaa
set_option linter.unusedVariables false

/-! ### Deadlocks by rounds -/
def rndM (l : List Wt) (N : Nat) (B : List Bool) : List Bool := (List.range N).map fun (i : Nat) => B[i]! && heldB l B (i : Int)
def rndsM (l : List Wt) (N : Nat) (B : List Bool) : Nat → List Bool
  | 0 => B
  | r + 1 => rndM l N (rndsM l N B r)
def askM (l : List Wt) (N : Nat) : List Bool := (List.range N).map fun (i : Nat) => l.any fun x => x.proc == (i : Int)
theorem rndM_at {l : List Wt} {N : Nat} {B : List Bool} {i : Nat} (h : i < N) : (rndM l N B)[i]! = (B[i]! && heldB l B (i : Int)) := by
  rw [getElem!_pos _ i (by simpa [rndM] using h)]; simp [rndM]
theorem rndM_len (l : List Wt) (N : Nat) (B : List Bool) : (rndM l N B).length = N := by simp [rndM]
theorem askM_at {l : List Wt} {N i : Nat} (h : i < N) : (askM l N)[i]! = l.any fun x => x.proc == (i : Int) := by
  rw [getElem!_pos _ i (by simpa [askM] using h)]; simp [askM]
theorem rndsM_len {l : List Wt} {N : Nat} {B : List Bool} (h : B.length = N) (r : Nat) : (rndsM l N B r).length = N := by
  cases r with
  | zero => exact h
  | succ r => exact rndM_len _ _ _
theorem heldB_mono {l : List Wt} {N : Nat} {M M' : List Bool} {p : Int} (ok : DOk l N) (one : Once l) (hs : Sub N M M') (h : heldB l M p = true) : heldB l M' p = true := by
  obtain ⟨x, hx, e, hb⟩ := (heldB_iff one).1 h
  exact (heldB_iff one).2 ⟨x, hx, e, blockedB_mono (ok x hx).2 hs hb⟩
theorem rnds_above {l : List Wt} {N : Nat} {M : List Bool} (ok : DOk l N) (one : Once l) (hs : StuckM l N M) : ∀ r, Sub N M (rndsM l N (askM l N) r) := by
  intro r
  induction r with
  | zero =>
    intro i hi hm
    obtain ⟨x, hx, e, _⟩ := hs i hi hm
    show (askM l N)[i]! = true
    rw [askM_at hi]
    exact List.any_eq_true.2 ⟨x, hx, by rw [e]; simp⟩
  | succ r ih =>
    intro i hi hm
    show (rndM l N _)[i]! = true
    rw [rndM_at hi, ih i hi hm, Bool.true_and]
    exact heldB_mono ok one ih ((heldB_iff one).2 (hs i hi hm))
theorem rndM_sub (l : List Wt) (N : Nat) (B : List Bool) : Sub N (rndM l N B) B := by
  intro i hi h
  rw [rndM_at hi, Bool.and_eq_true] at h
  exact h.1
theorem list_bool_ext {a b : List Bool} (hl : a.length = b.length) (h : ∀ j, j < a.length → a[j]! = b[j]!) : a = b := by
  refine List.ext_getElem hl fun j h1 h2 => ?_
  have := h j h1
  rwa [getElem!_pos a j h1, getElem!_pos b j h2] at this
theorem setc_sub : ∀ (a b : List Bool), a.length = b.length → (∀ i : Nat, i < a.length → a[i]! = true → b[i]! = true) → setc a ≤ setc b ∧ (setc a = setc b → a = b) := by
  intro a
  induction a with
  | nil =>
    intro b hl _
    obtain rfl : b = [] := List.eq_nil_of_length_eq_zero (by simpa using hl.symm)
    exact ⟨Nat.le_refl _, fun _ => rfl⟩
  | cons x a ih =>
    intro b hl h
    cases b with
    | nil => simp at hl
    | cons y b =>
      have h0 := h 0 (by simp)
      have hs : ∀ i : Nat, i < a.length → a[i]! = true → b[i]! = true := fun i hi hm => by
        have := h (i + 1) (by simpa using hi)
        simpa using this (by simpa using hm)
      obtain ⟨h1, h2⟩ := ih b (by simpa using hl) hs
      have h0' : x = true → y = true := fun e => by simpa using h0 (by simpa using e)
      cases x <;> cases y <;> simp [setc, List.filter_cons] at h1 h2 h0' ⊢
      · exact ⟨h1, h2⟩
      · exact ⟨by omega, fun e => by omega⟩
      · exact ⟨h1, h2⟩
theorem rnds_down {l : List Wt} {N : Nat} {B : List Bool} (hB : B.length = N) : ∀ r, setc (rndsM l N B r) + r ≤ N ∨ rndM l N (rndsM l N B r) = rndsM l N B r := by
  intro r
  induction r with
  | zero => exact .inl (by show setc B + 0 ≤ N; have := setc_le B; omega)
  | succ r ih =>
    rcases ih with h | h
    · have hl := rndsM_len (l := l) hB r
      obtain ⟨h1, h2⟩ := setc_sub (rndM l N (rndsM l N B r)) (rndsM l N B r) (by rw [rndM_len, hl]) (fun i hi hm => rndM_sub l N _ i (by rw [rndM_len] at hi; exact hi) hm)
      by_cases e : setc (rndM l N (rndsM l N B r)) = setc (rndsM l N B r)
      · right
        have e2 := h2 e
        show rndM l N (rndM l N (rndsM l N B r)) = rndM l N (rndsM l N B r)
        rw [e2]; exact e2
      · left
        show setc (rndM l N (rndsM l N B r)) + (r + 1) ≤ N
        omega
    · right
      show rndM l N (rndM l N (rndsM l N B r)) = rndM l N (rndsM l N B r)
      rw [h]; exact h
/-- The rounds end in the greatest stuck set. -/
theorem rnds_end {l : List Wt} {N : Nat} {M : List Bool} (ok : DOk l N) (one : Once l) (hM : M.length = N) (hs : StuckM l N M) (ha : AllStuck l N M) : marks (rndsM l N (askM l N) (N + 1)) N = marks M N := by
  have hl : (askM l N).length = N := by simp [askM]
  refine marks_congr _ _ _ fun i hi => ?_
  have hst : rndM l N (rndsM l N (askM l N) (N + 1)) = rndsM l N (askM l N) (N + 1) := by
    rcases rnds_down (l := l) hl (N + 1) with h | h
    · omega
    · exact h
  have hup := rnds_above ok one hs (N + 1)
  have hdn : Sub N (rndsM l N (askM l N) (N + 1)) M := ha _ (rndsM_len hl _) (fun j hj hm => by
    have h := rndM_at (l := l) (B := rndsM l N (askM l N) (N + 1)) hj
    rw [hst, hm] at h
    exact (heldB_iff one).1 (by simpa using h.symm))
  cases h1 : M[i]! with
  | true => exact hup i hi h1
  | false =>
    rw [Bool.eq_false_iff]
    intro h2
    rw [hdn i hi h2] at h1; cases h1
theorem marks_askM (l : List Wt) (N : Nat) : marks (askM l N) N = ((List.range N).filter fun (i : Nat) => l.any fun x => x.proc == (i : Int)).map fun (i : Nat) => (i : Int) := by
  unfold marks
  congr 1
  refine List.filter_congr fun i hi => askM_at (List.mem_range.1 hi)
theorem marks_rnd (l : List Wt) (N : Nat) (B : List Bool) : marks (rndM l N B) N = (marks B N).filter fun p => heldB l B p := by
  unfold marks
  rw [List.filter_map, List.filter_filter]
  congr 1
  refine List.filter_congr fun i hi => ?_
  rw [rndM_at (List.mem_range.1 hi), Bool.and_comm]; rfl

/-! ### Whether a list is stuck -/
def staysB (x : Wt) (s : List Int) : Bool := decide (((x.fors.filter fun y => !s.contains y).length : Int) < x.need)
theorem stays_blocked {x : Wt} {N : Nat} {s : List Int} (hx : ∀ y, y ∈ x.fors → 0 ≤ y ∧ y < (N : Int)) : staysB x s = blockedB x (marksOf N s) := by
  unfold staysB blockedB
  have : (x.fors.filter fun y => !s.contains y) = x.fors.filter fun y => !(marksOf N s)[y.toNat]! := List.filter_congr fun y hy => by
    have h := hx y hy
    rw [marksOf_get N s y.toNat (by omega), show ((y.toNat : Nat) : Int) = y by omega]
  rw [this]
def stuckAt (l : List Wt) (s : List Int) (i : Nat) : Bool := !(decide (0 < i) && decide (s[i]! ≤ s[i - 1]!)) && (match l.find? (fun x => x.proc == s[i]!) with | some x => staysB x s | none => false)
def stuckR (l : List Wt) (s : List Int) : Bool := (List.range s.length).all (stuckAt l s)
theorem stuckR_check {l : List Wt} {n : Int} {s : List Int} (hv : validL l n = 0) : stuckR l s = checkB l n s := by
  obtain ⟨h0, h1, ok⟩ := validL_dok hv
  have one := validL_once hv
  have hfind : ∀ p, (match l.find? (fun x => x.proc == p) with | some x => staysB x s | none => false) = heldB l (marksOf n.toNat s) p := fun p => by
    unfold heldB
    cases hf : l.find? (fun x => x.proc == p) with
    | none => rfl
    | some x => exact stays_blocked (ok x (List.mem_of_find?_eq_some hf)).2
  rw [Bool.eq_iff_iff]
  unfold stuckR checkB upAll stuckAt
  rw [hv]
  simp only [hfind, List.all_eq_true, List.mem_range, Bool.and_eq_true, Bool.not_eq_true', Bool.and_eq_false_iff, decide_eq_false_iff_not, beq_self_eq_true, true_and, Bool.or_eq_false_iff, Bool.or_eq_true]
  constructor
  · intro h
    refine ⟨fun i hi => ?_, fun x hx => ?_⟩
    · have h2 := h i hi
      obtain ⟨x, hx, e, _⟩ := (heldB_iff one).1 h2.2
      have := (ok x hx).1
      refine ⟨⟨by omega, by omega⟩, ?_⟩
      rcases h2.1 with g | g
      · exact .inl g
      · exact .inr g
    · obtain ⟨i, hi, rfl⟩ := List.getElem_of_mem hx
      have := (h i hi).2
      rw [getElem!_pos s i hi] at this; exact this
  · rintro ⟨h1, h2⟩ i hi
    refine ⟨(h1 i hi).2, ?_⟩
    rw [getElem!_pos s i hi]; exact h2 _ (List.getElem_mem hi)

end Go.Proofs.Ytodkcfebcjgahaa
