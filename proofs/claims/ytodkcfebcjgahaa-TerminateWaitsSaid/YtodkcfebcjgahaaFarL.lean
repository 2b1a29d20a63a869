/-
  How far numbers are from one, by rounds over all pairs; it is what the search finds. No program is named here.
-/
import Derived.Test.YtodkcfebcjgahaaRelL
namespace Go.Proofs.Ytodkcfebcjgahaa
set_option linter.unusedVariables false

/-- Behind k rounds, and within the next one behind all pairs ahead of (i, j). -/
structure FarR (M : List Nat) (f : Nat) (F : List Int) (k i j : Nat) : Prop where
  len : F.length = M.length
  sound : ∀ x, x < M.length → F[x]! = (M.length : Int) + 1 ∨ ∃ d : Nat, F[x]! = (d : Int) + 1 ∧ WalkTo M f (d + 1) x
  top : ∀ x, x < M.length → F[x]! ≤ (M.length : Int) + 1
  done : ∀ x, x < M.length → ∀ d : Nat, d ≤ k → WalkTo M f (d + 1) x → F[x]! ≤ (d : Int) + 1
  part : ∀ x, x < i → x < M.length → ∀ d : Nat, d ≤ k + 1 → WalkTo M f (d + 1) x → F[x]! ≤ (d : Int) + 1
  row : ∀ y, y < j → hasM M i y = true → ∀ d : Nat, d ≤ k → WalkTo M f (d + 1) y → F[i]! ≤ (d : Int) + 2
theorem int_set_at {l : List Int} {k : Nat} (hk : k < l.length) (b : Int) : (l.set k b)[k]! = b := by
  rw [getElem!_pos _ k (by rw [List.length_set]; exact hk), List.getElem_set_self]
theorem int_set_ne {l : List Int} {k j : Nat} (h : j ≠ k) (x : Int) : (l.set k x)[j]! = l[j]! := by
  by_cases hj : j < l.length
  · rw [getElem!_pos _ j (by rw [List.length_set]; exact hj), getElem!_pos l j hj, List.getElem_set_ne (fun e => h e.symm)]
  · rw [getElem!_neg _ j (by rw [List.length_set]; exact hj), getElem!_neg l j hj]
section
variable {M : List Nat} {f : Nat} {F : List Int} {k i j : Nat}
theorem far_start (hl : F.length = M.length) (h : ∀ x, x < M.length → F[x]! = if hasM M x f = true then 1 else (M.length : Int) + 1) (hf : f < M.length) : FarR M f F 0 0 0 := by
  refine ⟨hl, fun x hx => ?_, fun x hx => ?_, fun x hx d hd hw => ?_, fun x hx => absurd hx (Nat.not_lt_zero _), fun y hy => absurd hy (Nat.not_lt_zero _)⟩
  · rw [h x hx]
    split
    · rename_i hb; exact .inr ⟨0, rfl, f, hf, hb, rfl⟩
    · exact .inl rfl
  · rw [h x hx]; split <;> omega
  · obtain rfl : d = 0 := by omega
    obtain ⟨y, hy, hb, rfl⟩ := hw
    rw [h x hx, if_pos hb]; exact Int.le_refl _
theorem far_row (h : FarR M f F k i M.length) : FarR M f F k (i + 1) 0 := by
  refine ⟨h.len, h.sound, h.top, h.done, fun x hx hxl d hd hw => ?_, fun y hy => absurd hy (Nat.not_lt_zero _)⟩
  by_cases e : x = i
  · subst e
    cases d with
    | zero => exact h.done x hxl 0 (Nat.zero_le _) hw
    | succ d =>
      obtain ⟨y, hy, hb, hw2⟩ := hw
      have := h.row y hy hb d (by omega) hw2
      omega
  · exact h.part x (by omega) hxl d hd hw
theorem far_round (h : FarR M f F k M.length 0) : FarR M f F (k + 1) 0 0 :=
  ⟨h.len, h.sound, h.top, fun x hx d hd hw => h.part x hx hx d hd hw, fun x hx => absurd hx (Nat.not_lt_zero _), fun y hy => absurd hy (Nat.not_lt_zero _)⟩
theorem far_skip (h : FarR M f F k i j) (hj : j < M.length) (hc : hasM M i j = false ∨ F[i]! ≤ F[j]! + 1) : FarR M f F k i (j + 1) := by
  refine ⟨h.len, h.sound, h.top, h.done, h.part, fun y hy hb d hd hw => ?_⟩
  by_cases e : y = j
  · subst e
    rcases hc with hc | hc
    · rw [hb] at hc; cases hc
    · have := h.done y hj d hd hw
      omega
  · exact h.row y (by omega) hb d hd hw
theorem far_hit (h : FarR M f F k i j) (hi : i < M.length) (hj : j < M.length) (hb : hasM M i j = true) (hc : F[j]! + 1 < F[i]!) : FarR M f (F.set i (F[j]! + 1)) k i (j + 1) := by
  have hset : (F.set i (F[j]! + 1))[i]! = F[j]! + 1 := int_set_at (by rw [h.len]; exact hi) _
  have hle : ∀ x, (F.set i (F[j]! + 1))[x]! ≤ F[x]! := fun x => by
    by_cases e : x = i
    · rw [e, hset]; omega
    · rw [int_set_ne e]; exact Int.le_refl _
  have hjn : F[j]! ≠ (M.length : Int) + 1 := by have := h.top i hi; omega
  refine ⟨by rw [List.length_set]; exact h.len, fun x hx => ?_, fun x hx => Int.le_trans (hle x) (h.top x hx), fun x hx d hd hw => Int.le_trans (hle x) (h.done x hx d hd hw), fun x hx hxl d hd hw => Int.le_trans (hle x) (h.part x hx hxl d hd hw), fun y hy hby d hd hw => ?_⟩
  · by_cases e : x = i
    · subst e
      rw [hset]
      rcases h.sound j hj with h0 | ⟨d, h1, h2⟩
      · exact absurd h0 hjn
      · exact .inr ⟨d + 1, by rw [h1]; rfl, j, hj, hb, h2⟩
    · rw [int_set_ne e]; exact h.sound x hx
  · by_cases e : y = j
    · subst e
      rw [hset]
      have := h.done y hj d hd hw
      omega
    · exact Int.le_trans (hle i) (h.row y (by omega) hby d hd hw)
/-- What the rounds find is the least. -/
theorem far_least (h : FarR M f F M.length 0 0) {x d : Nat} (hx : x < M.length) (hl : LeastM M f x d) (hd : d < M.length) : F[x]! = (d : Int) + 1 := by
  have h1 := h.done x hx d (by omega) hl.1
  rcases h.sound x hx with h0 | ⟨e, h2, h3⟩
  · omega
  · have := hl.2 e h3
    omega
theorem far_none (h : FarR M f F M.length 0 0) {x : Nat} (hx : x < M.length) (hn : ¬ PathM M x f) : F[x]! = (M.length : Int) + 1 := by
  rcases h.sound x hx with h0 | ⟨e, h2, h3⟩
  · exact h0
  · exact absurd ⟨e, h3⟩ hn
/-- The next one by the rounds is the next one by the search. -/
theorem far_next {S : List Int} {Q : List Nat} {L : Int} (h : FarR M f F M.length 0 0) (hB : BfsM M f S Q L Q.length 0) {l : Nat} (hl : LeastM M f f l) (hlM : l < M.length) {x left y : Nat} (h1 : 1 ≤ left) (h2 : left ≤ l) (hy : y < M.length) :
    (hasM M x y && (F[y]! == (left : Int))) = nextB M f S x left y := by
  unfold nextB
  congr 1
  by_cases e : y = f
  · subst e
    rw [far_least h hy hl hlM]
    have : ¬ ((l : Int) + 1 = (left : Int)) := by omega
    rw [beq_eq_false_iff_ne.2 this]; simp
  · rw [bne_iff_ne.2 e, Bool.true_and]
    rcases bfs_dist hB hy e with ⟨h3, h4⟩ | ⟨d, h3, h4, h5⟩
    · rw [far_none h hy h4, h3]
      have a : ¬ ((M.length : Int) + 1 = (left : Int)) := by omega
      have b : ¬ ((-1 : Int) = (left : Int)) := by omega
      rw [beq_eq_false_iff_ne.2 a, beq_eq_false_iff_ne.2 b]
    · rw [far_least h hy h4 (by omega), h3]
end

end Go.Proofs.Ytodkcfebcjgahaa
