/-
  Stamps out of records, and the checker out of a journal's records: plain law. No program is named here.
-/
import Derived.Test.YtggofkaakccoeaaRecL52
import Derived.Test.YtggofkaakccoeaaCkZ
import Derived.Test.YtggofkaakccoeaaCkT
import Derived.Test.YtggofkaakccoeaaCkO
import Derived.Test.YtggofkaakccoeaaCkY
namespace Go.Proofs.Ytggofkaakccoeaa
open Go.RowKit
set_option linter.unusedVariables false

def okR (b : List Int) : Bool := decide (2 ≤ b.length) && decide ((b.length : Int) = 2 + 8 * b[1]!)
def cntR (b : List Int) : Nat := b[1]!.toNat
def partR (b : List Int) (i : Nat) : List Int := (b.drop (2 + 8 * i)).take 8
def satStep (n x : Int) : Int := if 1125899906842624 < n * 256 + x then 1125899906842625 else n * 256 + x
def satL (l : List Int) : Int := l.foldl satStep 0
def vecP (b : List Int) : List Int := (List.range (cntR b)).map fun i => wrap64 (valL (partR b i))
def vecR (b : List Int) : List Int := (List.range (cntR b)).map fun i => satL (partR b i)

theorem okR_parts {b : List Int} (h : okR b = true) (hb : ∀ x, x ∈ b → Byte x) : 2 ≤ b.length ∧ b.length = 2 + 8 * cntR b ∧ (cntR b : Int) = b[1]! ∧ cntR b ≤ 255 := by
  simp only [okR, Bool.and_eq_true, decide_eq_true_eq] at h
  have hm := hb b[1]! (mem_at b 1 (by omega))
  unfold Byte at hm
  unfold cntR
  omega
theorem vecP_len (b : List Int) : (vecP b).length = cntR b := by simp [vecP]
theorem vecR_len (b : List Int) : (vecR b).length = cntR b := by simp [vecR]
theorem part_byte {b : List Int} (hb : ∀ x, x ∈ b → Byte x) (i : Nat) : ∀ x, x ∈ partR b i → Byte x := bytes_take (bytes_drop hb)
theorem part_len (b : List Int) (i : Nat) : (partR b i).length ≤ 8 := by unfold partR; rw [List.length_take]; omega

/-- What saturates keeps step with what doesn't. -/
def SatRel (n m : Int) : Prop := 0 ≤ n ∧ ((m = n ∧ n ≤ 1125899906842624) ∨ (m = 1125899906842625 ∧ 1125899906842624 < n))
theorem satRel_step {n m x : Int} (h : SatRel n m) (hx : Byte x) : SatRel (n * 256 + x) (satStep m x) := by
  unfold Byte at hx
  obtain ⟨h0, h | h⟩ := h
  · obtain ⟨rfl, h1⟩ := h
    unfold satStep
    split
    · exact ⟨by omega, .inr ⟨rfl, by omega⟩⟩
    · exact ⟨by omega, .inl ⟨rfl, by omega⟩⟩
  · obtain ⟨rfl, h1⟩ := h
    unfold satStep
    rw [if_pos (by omega)]
    exact ⟨by omega, .inr ⟨rfl, by omega⟩⟩
theorem satRel_fold : ∀ (l : List Int) (n m : Int), (∀ x, x ∈ l → Byte x) → SatRel n m → SatRel (l.foldl (fun n x => n * 256 + x) n) (l.foldl satStep m)
  | [], n, m, _, h => h
  | x :: l, n, m, hl, h => satRel_fold l _ _ (fun y hy => hl y (List.mem_cons_of_mem _ hy)) (satRel_step h (hl x List.mem_cons_self))
theorem sat_rel (l : List Int) (hl : ∀ x, x ∈ l → Byte x) : SatRel (valL l) (satL l) := satRel_fold l 0 0 hl ⟨by omega, .inl ⟨rfl, by omega⟩⟩

/-- Two numbers that the checker cannot tell apart. -/
def Alike (x y : Int) : Prop := x = y ∨ (outC x = true ∧ outC y = true)
theorem val_8 {l : List Int} (hl : ∀ x, x ∈ l → Byte x) (h8 : l.length ≤ 8) : 0 ≤ valL l ∧ valL l < 18446744073709551616 := by
  have h := val_range l hl
  refine ⟨h.1, Int.lt_of_lt_of_le h.2 ?_⟩
  have : ∀ m : Nat, m < 9 → (256 : Int) ^ m ≤ 18446744073709551616 := by decide
  exact this _ (by omega)
theorem part_alike {b : List Int} (hb : ∀ x, x ∈ b → Byte x) (i : Nat) : Alike (wrap64 (valL (partR b i))) (satL (partR b i)) := by
  obtain ⟨h0, h1⟩ := val_8 (part_byte hb i) (part_len b i)
  obtain ⟨_, h | h⟩ := sat_rel (partR b i) (part_byte hb i)
  · left
    rw [h.1]
    unfold wrap64
    omega
  · right
    rw [h.1]
    have h2 := h.2
    generalize valL (partR b i) = v at *
    refine ⟨?_, by decide⟩
    unfold outC wrap64
    rw [Bool.or_eq_true, decide_eq_true_eq, decide_eq_true_eq]
    omega
theorem vec_alike {b : List Int} (hb : ∀ x, x ∈ b → Byte x) (i : Nat) (hi : i < cntR b) : Alike (vecP b)[i]! (vecR b)[i]! := by
  rw [getElem!_pos _ i (by rw [vecP_len]; exact hi), getElem!_pos _ i (by rw [vecR_len]; exact hi)]
  simp only [vecP, vecR, List.getElem_map, List.getElem_range]
  exact part_alike hb i

theorem stamp_alike {v v' : List Int} (hl : v.length = v'.length) (h : ∀ i, i < v.length → Alike v[i]! v'[i]!) (n : Nat) : (v = v') ∨ (stampB v n = false ∧ stampB v' n = false) := by
  by_cases ho : ∃ i, i < v.length ∧ outC v[i]! = true
  · obtain ⟨i, hi, ho⟩ := ho
    have ho' : outC v'[i]! = true := by
      rcases h i hi with e | e
      · rw [← e]; exact ho
      · exact e.2
    right
    unfold stampB
    rw [any_hit outC v i hi ho, any_hit outC v' i (by omega) ho']
    simp
  · left
    refine List.ext_getElem hl fun i h1 h2 => ?_
    rcases h i h1 with e | e
    · rwa [getElem!_pos v i h1, getElem!_pos v' i h2] at e
    · exact absurd ⟨i, h1, e.1⟩ ho
theorem put_alike (s : Ck) (p : Int) {v v' : List Int} (hl : v.length = v'.length) (h : ∀ i, i < v.length → Alike v[i]! v'[i]!) : putErr s p v = putErr s p v' ∧ putRes s p v = putRes s p v' := by
  rcases stamp_alike hl h s.qs.length with e | ⟨e1, e2⟩
  · rw [e]; exact ⟨rfl, rfl⟩
  · have he : ∀ u : List Int, stampB u s.qs.length = false → putErr s p u = if !validC s then 1 else 2 := by
      intro u hu
      unfold putErr
      split
      · rfl
      · rw [if_pos (.inr (.inr hu))]
    refine ⟨by rw [he v e1, he v' e2], ?_⟩
    have hz : ∀ u : List Int, stampB u s.qs.length = false → putRes s p u = zeroC := by
      intro u hu
      unfold putRes
      rw [he u hu, if_neg (by split <;> decide)]
    rw [hz v e1, hz v' e2]

def itemErr (s : Ck) (p : Int) (v : List Int) : Int := if v.length = 0 then endErr s p else putErr s p v
def itemRes (s : Ck) (p : Int) (v : List Int) : Ck := if v.length = 0 then endRes s p else putRes s p v
theorem item_small {s : Ck} (hs : SmallC s) (p : Int) (v : List Int) : SmallC (itemRes s p v) := by
  unfold itemRes
  split
  · exact endRes_small hs p
  · exact putRes_small s p v
theorem item_alike (s : Ck) (p : Int) {v v' : List Int} (hl : v.length = v'.length) (h : ∀ i, i < v.length → Alike v[i]! v'[i]!) : itemErr s p v = itemErr s p v' ∧ itemRes s p v = itemRes s p v' := by
  unfold itemErr itemRes
  rw [← hl]
  split
  · exact ⟨rfl, rfl⟩
  · exact put_alike s p hl h

def foldRec (vec : List Int → List Int) : List (List Int) → Ck → Ck × Int
  | [], s => (s, 0)
  | b :: r, s => if itemErr s b[0]! (vec b) = 0 then foldRec vec r (itemRes s b[0]! (vec b)) else if itemErr s b[0]! (vec b) = 6 ∨ itemErr s b[0]! (vec b) = 11 then foldRec vec r s else (zeroC, itemErr s b[0]! (vec b))
theorem fold_alike : ∀ (l : List (List Int)) (s : Ck), (∀ b, b ∈ l → ∀ x, x ∈ b → Byte x) → foldRec vecP l s = foldRec vecR l s
  | [], s, _ => rfl
  | b :: r, s, h => by
    obtain ⟨h1, h2⟩ := item_alike s b[0]! (v := vecP b) (v' := vecR b) (by rw [vecP_len, vecR_len]) (fun i hi => vec_alike (h b List.mem_cons_self) i (by rw [vecP_len] at hi; exact hi))
    have ih := fun s => fold_alike r s (fun c hc => h c (List.mem_cons_of_mem _ hc))
    unfold foldRec
    rw [h1, h2, ih, ih]
def recov (vec : List Int → List Int) (val : Bool) (n : Int) (l : List (List Int)) : Ck × Int :=
  if !val then (zeroC, 1) else if n < 1 ∨ 8 < n then (zeroC, 2) else if !l.all okR then (zeroC, 3) else foldRec vec l (newC n.toNat)
theorem recov_alike (val : Bool) (n : Int) (l : List (List Int)) (h : ∀ b, b ∈ l → ∀ x, x ∈ b → Byte x) : recov vecP val n l = recov vecR val n l := by
  unfold recov
  rw [fold_alike l _ h]
theorem fold_small (vec : List Int → List Int) : ∀ (l : List (List Int)) (s : Ck), SmallC s → SmallC (foldRec vec l s).1
  | [], s, h => h
  | b :: r, s, h => by
    unfold foldRec
    split
    · exact fold_small vec r _ (item_small h _ _)
    · split
      · exact fold_small vec r _ h
      · exact zero_small
theorem recov_small (vec : List Int → List Int) (val : Bool) (n : Int) (l : List (List Int)) : SmallC (recov vec val n l).1 := by
  unfold recov
  split
  · exact zero_small
  · split
    · exact zero_small
    · split
      · exact zero_small
      · rename_i h
        exact fold_small vec l _ (newC_small _ (by omega))

end Go.Proofs.Ytggofkaakccoeaa
