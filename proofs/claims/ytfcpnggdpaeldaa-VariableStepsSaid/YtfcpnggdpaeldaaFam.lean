/-
  A family of rows of numbers of the call's own, no two of one block; lists that are half renewed. No function is named here.
-/
import Derived.Test.YtfcpnggdpaeldaaGo
namespace Go.Proofs.Ytfcpnggdpaeldaa
open Go.RowKit
set_option linter.unusedVariables false

/-! ### Lists that are half renewed -/
def mixL {α : Type} (n i : Nat) (g1 g2 : Nat → α) : List α := (List.range n).map fun v => if v < i then g1 v else g2 v
theorem mixL_len {α : Type} (n i : Nat) (g1 g2 : Nat → α) : (mixL n i g1 g2).length = n := by simp [mixL]
theorem mixL_get {α : Type} {n i v : Nat} {g1 g2 : Nat → α} (h : v < n) : (mixL n i g1 g2)[v]? = some (if v < i then g1 v else g2 v) := by simp [mixL, h]
theorem mixL_at {α : Type} [Inhabited α] {n i v : Nat} {g1 g2 : Nat → α} (h : v < n) : (mixL n i g1 g2)[v]! = if v < i then g1 v else g2 v := by
  rw [getElem!_pos _ v (by rw [mixL_len]; exact h)]; simp [mixL]
theorem mixL_step {α : Type} {n i : Nat} {g1 g2 : Nat → α} (h : i < n) : (mixL n i g1 g2).set i (g1 i) = mixL n (i + 1) g1 g2 := by
  apply List.ext_getElem?
  intro v
  by_cases hv : v < n
  · rw [List.getElem?_set, mixL_len, mixL_get hv, mixL_get hv]
    by_cases e : i = v
    · subst e; rw [if_pos rfl, if_pos h, if_pos (by omega)]
    · rw [if_neg e]
      by_cases e2 : v < i
      · rw [if_pos e2, if_pos (by omega)]
      · rw [if_neg e2, if_neg (by omega)]
  · rw [List.getElem?_eq_none (by rw [List.length_set, mixL_len]; omega), List.getElem?_eq_none (by rw [mixL_len]; omega)]
theorem mixL_done {α : Type} {n : Nat} {g1 g2 g3 : Nat → α} : mixL n n g1 g2 = mixL n 0 g3 g1 := by
  unfold mixL
  exact List.map_congr_left fun v hv => by rw [if_pos (List.mem_range.1 hv), if_neg (Nat.not_lt_zero _)]
theorem mixL_map {α β : Type} (f : α → β) (n i : Nat) (g1 g2 : Nat → α) : (mixL n i g1 g2).map f = mixL n i (fun v => f (g1 v)) (fun v => f (g2 v)) := by
  unfold mixL
  rw [List.map_map]
  exact List.map_congr_left fun v _ => by simp only [Function.comp]; split <;> rfl
theorem mixL_of {l : List Int} {n : Nat} {g : Nat → Int} {g' : Nat → Int} (hl : l.length = n) (h : ∀ v, v < n → l[v]! = g v) : l = mixL n 0 g' g := by
  apply List.ext_getElem?
  intro v
  by_cases hv : v < n
  · rw [mixL_get hv, if_neg (Nat.not_lt_zero _), ← h v hv, List.getElem?_eq_getElem (by omega), getElem!_pos l v (by omega)]
  · rw [List.getElem?_eq_none (by omega), List.getElem?_eq_none (by rw [mixL_len]; omega)]

/-! ### Rows of numbers -/
abbrev RowI (w : World) (base : Nat) (v : Value) (l : List Int) : Prop := Row w base 3 1 v l.length (l.map (Value.int .i64))
theorem Dis.nilL {u : Value} : Dis (.slice none 0 0) u := .inl rfl
theorem Dis.nilR {u : Value} : Dis u (.slice none 0 0) := Dis.nilL.symm
/-- One slot of a family, anew. -/
def putF {α : Type} (f : Nat → α) (i : Nat) (x : α) : Nat → α := fun r => if r = i then x else f r
theorem putF_same {α : Type} {f : Nat → α} {i : Nat} {x : α} : putF f i x i = x := if_pos rfl
theorem putF_ne {α : Type} {f : Nat → α} {i r : Nat} {x : α} (h : r ≠ i) : putF f i x r = f r := if_neg h
/-- A family of rows of numbers, no two of one block. -/
structure Fam (w : World) (base n : Nat) (vs : Nat → Value) (ls : Nat → List Int) : Prop where
  row : ∀ i, i < n → RowI w base (vs i) (ls i)
  dis : ∀ i j, i < n → j < n → i ≠ j → Dis (vs i) (vs j)
theorem Fam.ext {w w' : World} {base n : Nat} {vs : Nat → Value} {ls : Nat → List Int} (h : Fam w base n vs ls) (x : Ext w w') : Fam w' base n vs ls := ⟨fun i hi => (h.row i hi).ext x, h.dis⟩
theorem Fam.stO {w : World} {base n g o : Nat} {t : TypeId} {vs : Nat → Value} {ls : Nat → List Int} {cs : Array Value} {fr : Nat × Nat} (h : Fam w base n vs ls) (hg : w.heap[g]? = some (.cells cs t fr)) (hne : t ≠ 3) (u : Value) : Fam (w.setCell ⟨g, o, none⟩ u) base n vs ls :=
  ⟨fun i hi => (h.row i hi).stO hg hne u, h.dis⟩
/-- A store into one of the rows. -/
theorem Fam.set {w : World} {base n i g off cap j : Nat} {x : Int} {vs : Nat → Value} {ls : Nat → List Int} (h : Fam w base n vs ls) (hi : i < n) (hv : vs i = .slice (some ⟨g, off, none⟩) (ls i).length cap) (hj : j < (ls i).length) : Fam (w.setCell ⟨g, off + j, none⟩ (.int .i64 x)) base n vs (putF ls i ((ls i).set j x)) := by
  refine ⟨fun r hr => ?_, h.dis⟩
  by_cases e : r = i
  · subst e
    rw [putF_same, RowI, List.length_set, List.map_set, hv]
    have := h.row r hr
    rw [RowI, hv] at this
    exact this.set j _ (by omega)
  · rw [putF_ne e]
    refine (h.row r hr).st ?_ _
    intro e2
    rcases h.dis r i hr hi e with h1 | h1
    · rw [h1] at e2; cases e2
    · rw [e2, hv] at h1; exact h1 rfl
/-- One of the rows grows by an element. -/
theorem Fam.put {w w' : World} {base n i : Nat} {x : Int} {v' : Value} {vs : Nat → Value} {ls : Nat → List Int} (h : Fam w base n vs ls) (hi : i < n) (hg : w.grownBy w' (vs i).ownBlock)
    (hr : Row w' base 3 1 v' ((ls i).length + 1) ((ls i).map (Value.int .i64) ++ [.int .i64 x])) (hb : v'.ownBlock = (vs i).ownBlock ∨ ∃ k, v'.ownBlock = some k ∧ w.heap.size ≤ k) : Fam w' base n (putF vs i v') (putF ls i (ls i ++ [x])) := by
  have hd : ∀ r, r < n → r ≠ i → Dis v' (vs r) := fun r hr' hne => by
    rcases hb with hb | ⟨k, hb, hk⟩
    · rcases h.dis i r hi hr' (Ne.symm hne) with h1 | h1
      · exact .inl (hb.trans h1)
      · exact .inr (by rw [hb]; exact h1)
    · refine .inr (fun e => ?_)
      rw [hb] at e
      have := ((h.row r hr').lt k e.symm).2
      omega
  refine ⟨fun r hr' => ?_, fun a b ha hb' hab => ?_⟩
  · by_cases e : r = i
    · subst e
      rw [putF_same, putF_same, RowI, List.length_append, List.length_singleton, List.map_append]
      exact hr
    · rw [putF_ne e, putF_ne e]
      exact (h.row r hr').grown hg (h.dis r i hr' hi e)
  · by_cases e1 : a = i
    · subst e1
      rw [putF_same, putF_ne (Ne.symm hab)]
      exact hd b hb' (Ne.symm hab)
    · by_cases e2 : b = i
      · subst e2
        rw [putF_same, putF_ne e1]
        exact (hd a ha e1).symm
      · rw [putF_ne e1, putF_ne e2]; exact h.dis a b ha hb' hab
/-- One of the rows is a new one. -/
theorem Fam.new {w w' : World} {base b2 n i : Nat} {v' : Value} {l : List Int} {vs : Nat → Value} {ls : Nat → List Int} (h : Fam w base n vs ls) (x : Ext w w') (hr : RowI w' b2 v' l) (hb : w.heap.size ≤ b2) (hb2 : base ≤ b2) : Fam w' base n (putF vs i v') (putF ls i l) := by
  refine ⟨fun r hr' => ?_, fun a b ha hb' hab => ?_⟩
  · by_cases e : r = i
    · subst e; rw [putF_same, putF_same]; exact hr.mono hb2
    · rw [putF_ne e, putF_ne e]; exact (h.row r hr').ext x
  · by_cases e1 : a = i
    · subst e1
      rw [putF_same, putF_ne (Ne.symm hab)]
      exact (dis_new (h.row b hb') hr hb).symm
    · by_cases e2 : b = i
      · subst e2
        rw [putF_same, putF_ne e1]
        exact dis_new (h.row a ha) hr hb
      · rw [putF_ne e1, putF_ne e2]; exact h.dis a b ha hb' hab
/-- One of the rows is nil. -/
theorem Fam.dropRow {w : World} {base n i : Nat} {vs : Nat → Value} {ls : Nat → List Int} (h : Fam w base n vs ls) : Fam w base n (putF vs i (.slice none 0 0)) (putF ls i []) := by
  refine ⟨fun r hr' => ?_, fun a b ha hb' hab => ?_⟩
  · by_cases e : r = i
    · subst e; rw [putF_same, putF_same]; exact Row.mkNil _ _ _ _
    · rw [putF_ne e, putF_ne e]; exact h.row r hr'
  · by_cases e1 : a = i
    · subst e1; rw [putF_same]; exact Dis.nilL
    · by_cases e2 : b = i
      · subst e2; rw [putF_same]; exact Dis.nilR
      · rw [putF_ne e1, putF_ne e2]; exact h.dis a b ha hb' hab
/-- Row j takes row i's place, and is nil behind that. -/
theorem Fam.move {w : World} {base n i j : Nat} {vs : Nat → Value} {ls : Nat → List Int} (h : Fam w base n vs ls) (hj : j < n) (hij : i ≠ j) : Fam w base n (putF (putF vs i (vs j)) j (.slice none 0 0)) (putF (putF ls i (ls j)) j []) := by
  have h2 := h.dropRow (i := i)
  refine ⟨fun r hr' => ?_, fun a b ha hb' hab => ?_⟩
  · by_cases e : r = j
    · subst e; rw [putF_same, putF_same]; exact Row.mkNil _ _ _ _
    · rw [putF_ne e, putF_ne e]
      by_cases e2 : r = i
      · subst e2; rw [putF_same, putF_same]; exact h.row j hj
      · rw [putF_ne e2, putF_ne e2]; exact h.row r hr'
  · by_cases e1 : a = j
    · subst e1; rw [putF_same]; exact Dis.nilL
    · by_cases e2 : b = j
      · subst e2; rw [putF_same]; exact Dis.nilR
      · rw [putF_ne e1, putF_ne e2]
        by_cases e3 : a = i
        · subst e3; rw [putF_same, putF_ne (Ne.symm hab)]; exact h.dis j b hj hb' (Ne.symm e2)
        · by_cases e4 : b = i
          · subst e4; rw [putF_same, putF_ne e3]; exact h.dis a j ha hj e1
          · rw [putF_ne e3, putF_ne e4]; exact h.dis a b ha hb' hab
theorem Fam.ints {w : World} {base n i : Nat} {vs : Nat → Value} {ls : Nat → List Int} (h : Fam w base n vs ls) (hi : i < n) : Ints w (vs i) (ls i) := (h.row i hi).ints
/-- The cell of a row. -/
theorem Fam.cell {w : World} {base n i k : Nat} {vs : Nat → Value} {ls : Nat → List Int} (h : Fam w base n vs ls) (hi : i < n) (hk : k < (ls i).length) :
    ∃ g off cap, vs i = .slice (some ⟨g, off, none⟩) (ls i).length cap ∧ base ≤ g ∧ g < w.heap.size ∧ w.cell? ⟨g, off + k, none⟩ = some (.int .i64 (ls i)[k]!) ∧ w.frozen? ⟨g, off + k, none⟩ = false ∧ (ls i).length ≤ cap := by
  have hr := h.row i hi
  obtain ⟨g, off, cap, hv, hb, hg, hc⟩ := hr.shape (by omega)
  rw [RowI, hv] at hr
  refine ⟨g, off, cap, hv, hb, hg, ?_, hr.free _, hc⟩
  rw [hr.cell k (by omega), List.getElem?_map, List.getElem?_eq_getElem hk, getElem!_pos _ k hk]; rfl
/-- A row of another type grows. -/
theorem Fam.grownO {w w' : World} {base b2 n m s : Nat} {e : TypeId} {u : Value} {xs : List Value} {vs : Nat → Value} {ls : Nat → List Int} (h : Fam w base n vs ls) (hu : Row w b2 e s u m xs) (hne : e ≠ 3) (hg : w.grownBy w' u.ownBlock) : Fam w' base n vs ls :=
  ⟨fun i hi => (h.row i hi).grown hg ((h.row i hi).apart hu (fun e => hne e.symm)), h.dis⟩
/-- A row of another type where one of the family's rows is stored into, or grows. -/
theorem Fam.otherSt {w : World} {base b2 n i g off cap j s m : Nat} {e : TypeId} {x u : Value} {xs : List Value} {vs : Nat → Value} {ls : Nat → List Int} (h : Fam w base n vs ls) (hi : i < n) (hv : vs i = .slice (some ⟨g, off, none⟩) (ls i).length cap) (hu : Row w b2 e s u m xs) (hne : e ≠ 3) : Row (w.setCell ⟨g, j, none⟩ x) b2 e s u m xs := by
  obtain ⟨cs, t, fr, hg, rfl⟩ := (h.row i hi).block g (by rw [hv]; rfl)
  exact hu.stO hg (fun e => hne e.symm) x
theorem Fam.otherPut {w w' : World} {base b2 n i s m : Nat} {e : TypeId} {u : Value} {xs : List Value} {vs : Nat → Value} {ls : Nat → List Int} (h : Fam w base n vs ls) (hi : i < n) (hu : Row w b2 e s u m xs) (hne : e ≠ 3) (hg : w.grownBy w' (vs i).ownBlock) : Row w' b2 e s u m xs :=
  hu.grown hg (hu.apart (h.row i hi) hne)

end Go.Proofs.Ytfcpnggdpaeldaa
