/-
  Relations: an empty one, a pair asked for, a pair put in, two rows joined, and what is valid.
-/
import Derived.Test.YtodkcfebcjgahaaBase
import Derived.Test.YtodkcfebcjgahaaProg
import Derived.BigQuiet
import Derived.Deep.QuietTactic
import Derived.Deep.LoopGhost
import Derived.Shelf.Abstract
import Derived.Test.YtodkcfebcjgahaaOwnRel
import Derived.Test.YtodkcfebcjgahaaBitL
import Derived.Test.YtodkcfebcjgahaaTail
import Derived.Test.YtodkcfebcjgahaaStepG
import Derived.BigRegion
import Derived.Laws.EntriesVeiled
import Derived.Deep.DeepCutAuto
namespace Go.Proofs.Ytodkcfebcjgahaa
open Go.RowKit
set_option linter.unusedVariables false

theorem enters_52 : ∀ args w, (callFunc 52 args).run Try.prog w = .ok (.enter 52 args) w := enters_of Try.func52 (by kernel_rfl) rfl
theorem info_setR : (Try.prog.info? 79).map (fun i => (i.zero, i.size, i.bytes)) = some (some (.agg #[.int .i64 0, .slice none 0 0]), 2, 32) := by kernel_rfl
theorem info_partsS {P : Program} {t : TypeId} {z : Value} {s b : Nat} (h : (P.info? t).map (fun i => (i.zero, i.size, i.bytes)) = some (some z, s, b)) : ∃ i, P.info? t = some i ∧ i.zero = some z ∧ i.size = s ∧ i.bytes = b := by
  cases hq : P.info? t with
  | none => rw [hq] at h; cases h
  | some i =>
    rw [hq] at h
    simp only [Option.map_some, Option.some.injEq, Prod.mk.injEq] at h
    exact ⟨i, rfl, h.1, h.2.1, h.2.2⟩
theorem mk_word (w : World) : Sem.run Try.prog (Instr.makeSlice 76 (.int .i64 1) (.int .i64 1)) w = .ok (.slice (some ⟨w.heap.size, 0, none⟩) 1 1) (w.alloc (.cells #[.int .u64 0] 80)) := by kernel_rfl
/-- The empty relation in the making. -/
def EmI (w W : World) (n k : Nat) : Prop := ∃ v vw, W.heap[w.heap.size + 1]? = some (.cells #[v] 53) ∧ OwnRel W (w.heap.size + 2) v n (List.replicate k 0) vw ∧ W.heap[w.heap.size]? = some (.cells #[.slice none 0 0] 53) ∧ Ext w W ∧ w.heap.size + 2 ≤ W.heap.size
theorem quo_small {j : Nat} (h : j < 64) : Int.tdiv (j : Int) 64 = 0 := by
  rw [Int.tdiv_eq_ediv_of_nonneg (by omega)]; omega
theorem rem_small {j : Nat} (h : j < 64) : Int.tmod (j : Int) 64 = (j : Int) := by
  rw [Int.tmod_eq_emod_of_nonneg (by omega)]; omega
def BndM (N : Nat) (M : List Nat) : Prop := ∀ i : Nat, M[i]! < 2 ^ N
theorem BndM.u64 {N : Nat} {M : List Nat} (h : BndM N M) (hN : N ≤ 64) (i : Nat) : M[i]! < 2 ^ 64 := Nat.lt_of_lt_of_le (h i) (Nat.pow_le_pow_right (by decide) hN)
theorem BndM.put {N : Nat} {M : List Nat} (h : BndM N M) {i j : Nat} (hj : j < N) : BndM N (putM M i j) := by
  intro a
  unfold putM
  by_cases e : a = i
  · subst e
    by_cases hl : a < M.length
    · rw [nat_set_at hl]; exact Nat.or_lt_two_pow (h a) (Nat.pow_lt_pow_right (by decide) hj)
    · rw [getElem!_neg _ a (by rw [List.length_set]; exact hl)]; exact Nat.two_pow_pos N
  · rw [nat_set_ne e]; exact h a
theorem BndM.merge {N : Nat} {M : List Nat} (h : BndM N M) {i j : Nat} : BndM N (mergeM M i j) := by
  intro a
  unfold mergeM
  by_cases e : a = i
  · subst e
    by_cases hl : a < M.length
    · rw [nat_set_at hl]; exact Nat.or_lt_two_pow (h a) (h j)
    · rw [getElem!_neg _ a (by rw [List.length_set]; exact hl)]; exact Nat.two_pow_pos N
  · rw [nat_set_ne e]; exact h a
theorem BndM.zero (N k : Nat) : BndM N (List.replicate k 0) := by
  intro a
  by_cases hl : a < k
  · rw [getElem!_pos _ a (by simpa using hl)]; simp [Nat.two_pow_pos]
  · rw [getElem!_neg _ a (by simpa using hl)]; exact Nat.two_pow_pos N

/-- All but words stays. -/
def KeepU (w w' : World) : Prop := ∀ (k : Nat) (cs : Array Value) (t : TypeId) (fr : Nat × Nat), t ≠ 80 → w.heap[k]? = some (.cells cs t fr) → w'.heap[k]? = some (.cells cs t fr)
theorem has_eq {M : List Nat} {i j : Nat} {a : Int} (h : a = ((M[i]!.testBit j).toNat : Int)) : (a == 1) = hasM M i j := by
  subst h
  unfold hasM
  cases M[i]!.testBit j <;> rfl
set_option maxHeartbeats 1000000 in
theorem has_calls (v : Value) (N : Nat) (M : List Nat) (i j : Nat) (w : World) (h : Sl (RSet N) 2 w v M) (hi : i < M.length) (hj : j < 64) (hb : M[i]! < 2 ^ 64) :
    Calls Try.prog 48 #[.agg #[v], .int .i64 i, .int .i64 j] w fun e w' => e = .returned (.bool (hasM M i j)) ∧ Ext w w' := by
  obtain ⟨B, O, C, b, o, c, rfl, hlc, hB, h0, h1, hc, hbb, h2⟩ := rset_at h i hi
  have HE := Lib.hid (has_eq (M := M) (i := i) (j := j) (a := bits .and .u64 ((M[i]! : Int) / 2 ^ j) 1) (by rw [div_pow_nat]; exact bits_and_one j hb))
  have HQ := quo_small hj
  have HR := rem_small hj
  obtain ⟨r, hr⟩ : ∃ r, hasM M i j = r := ⟨_, rfl⟩
  rw [hr] at HE ⊢
  generalize M[i]! = m at *
  generalize hn : M.length = n at *
  have hin : (i : Int) < (n : Int) := by omega
  have hjz : (0 : Int) ≤ (j : Int) := by omega
  have hj64 : (j : Int) ≤ 64 := by omega
  have hnb : B ≠ w.heap.size := by omega
  have hnb2 : b ≠ w.heap.size := by omega
  clear h hr hn
  go_enter Try.func48, Try.ntmps48
  go_wp2
  go_ret
  rw [HE.out]
  exact ⟨rfl, (Ext.rf w).al _⟩

set_option maxHeartbeats 1000000 in
theorem words_calls (n : Nat) (w : World) (h1 : 1 ≤ n) (h2 : n ≤ 64) :
    Calls Try.prog 52 #[.int .i64 n] w fun e w' => e = .returned (.int .i64 1) ∧ w' = w := by
  have hz : Int.tdiv ((n : Int) + 63) 64 = 1 := by rw [Int.tdiv_eq_ediv_of_nonneg (by omega)]; omega
  go_enter Try.func52, Try.ntmps52
  go_wp2
  go_ret
  exact ⟨by simp [hz], rfl⟩

set_option maxHeartbeats 2000000 in
set_option maxRecDepth 100000 in
/-- A pair is put in. -/
theorem put_calls (v : Value) (N : Nat) (M : List Nat) (vw : Nat → Value) (i j base : Nat) (w : World) (h : OwnRel w base v N M vw) (hi : i < M.length) (hj : j < 64) (hb : M[i]! < 2 ^ 64) (hbase : base ≤ w.heap.size) :
    Calls Try.prog 45 #[.agg #[v], .int .i64 i, .int .i64 j] w fun e w' => e = .returned (.tuple #[]) ∧ OwnRel w' base v N (putM M i j) vw ∧ Below base w w' ∧ KeepU w w' := by
  have HO := Lib.hid h
  obtain ⟨B, O, C, rfl⟩ := h.shape (Nat.lt_of_le_of_lt (Nat.zero_le _) hi)
  obtain ⟨g, o, c, hvw, hgb, hgw, hc, h2, hfr⟩ := h.wordAt hi
  have h1 := (h.cellsAt rfl hi).2
  rw [hvw] at h1
  have HV := Lib.hid hvw
  have HQ := quo_small hj
  have HR := rem_small hj
  have HW := Lib.hid (shl_one hj)
  have HB := Lib.hid (bits_or_pow hb hj)
  have HI := Lib.hid hi
  have HP : Hid (putM M i j = M.set i (M[i]! ||| 2 ^ j)) := Lib.hid rfl
  generalize M[i]! = m at *
  generalize hn : M.length = n at *
  have HN := Lib.hid hn
  have hin : (i : Int) < (n : Int) := by omega
  have hjz : (0 : Int) ≤ (j : Int) := by omega
  have hj64 : (j : Int) ≤ 64 := by omega
  have hBw := World.block_lt_of_cell? w _ h1
  have HX0 := Lib.hid (heap_alloc_new w (.cells #[.slice (some ⟨B, O, none⟩) n C] 53))
  have HE1 := Lib.hid ((Ext.rf w).al (.cells #[.slice (some ⟨B, O, none⟩) n C] 53))
  have k1 := HE1.out.cl h1
  have k2 := HE1.out.cl h2
  have k3 : (w.alloc (.cells #[.slice (some ⟨B, O, none⟩) n C] 53)).frozen? ⟨g, o, none⟩ = false := by
    have := (((HO.out.ext HE1.out).wordAt (k := i) (by rw [HN.out]; exact HI.out)))
    obtain ⟨g', o', c', e', _, _, _, _, hf'⟩ := this
    rw [HV.out] at e'
    simp only [Value.slice.injEq, Option.some.injEq, Addr.mk.injEq, and_true] at e'
    obtain ⟨⟨rfl, rfl⟩, _⟩ := e'
    exact hf'
  have s0 := cellOf HX0.out 0
  simp only [List.getElem?_toArray, List.getElem?_cons_zero] at s0
  clear h hvw hn hfr h1 h2 hb hi
  go_enter Try.func45, Try.ntmps45
  go_wp2
  generalize hm2 : m ||| 2 ^ j = m2 at *
  have HO1 := Lib.hid (HO.out.ext HE1.out)
  have HW0 := Lib.hid (show w.heap.size ≤ w.heap.size from Nat.le_refl _)
  generalize w.alloc (.cells #[.slice (some ⟨B, O, none⟩) n C] 53) = w1 at *
  refine wp_region_tail (fun W => W.cell? ⟨w.heap.size, 0, none⟩ = some (.slice (some ⟨B, O, none⟩) n C) ∧ W.cell? ⟨B, O + i * 2 + 1, none⟩ = some (.slice (some ⟨g, o, none⟩) 1 c) ∧ W.cell? ⟨g, o, none⟩ = some (.int .u64 m)) 15 (by kernel_rfl) ⟨s0, k1, k2⟩ (fun hHeld => ?_)
  have HE2 := Lib.hid (show Ext w w1.drew from HE1.out.dr)
  have HO2 := Lib.hid (HO1.out.ext (Ext.rf w1).dr)
  have k4 : w1.drew.frozen? ⟨g, o, none⟩ = false := k3
  generalize w1.drew = wT at *
  clear k3 s0 k1 k2 HX0 HO1
  have hw0 : IntKind.i64.wrap 0 = 0 := by decide
  have hw9 := HW.out
  have hw8 := HB.out
  refine wpAnyT_take (i := 0) (d := some 6) (v := ?_) rfl rfl (by kernel_rfl) (by kernel_rfl) (by kernel_rfl) (by kernel_rfl) (fun _ _ _ h => h) (Or.inl ⟨by rfl, ?_⟩) (by assumption) ?_
  rotate_left
  · (intro w hSw; (try dsimp only at hSw); go_simp; try (with_reducible rfl))
  try simp only [Act.put]
  try simp only [List.setIfInBounds_toArray]
  try simp only [List.set_cons_zero, List.set_cons_succ]
  refine wpAnyT_take (i := 1) (d := some 7) (v := ?_) rfl rfl (by kernel_rfl) (by kernel_rfl) (by kernel_rfl) (by kernel_rfl) (fun _ _ _ h => h) (Or.inl ⟨by rfl, ?_⟩) (by assumption) ?_
  rotate_left
  · (intro w hSw; (try dsimp only at hSw); go_simp; try (with_reducible rfl))
  try simp only [Act.put]
  try simp only [List.setIfInBounds_toArray]
  try simp only [List.set_cons_zero, List.set_cons_succ]
  refine wpAnyT_take (i := 2) (d := some 8) (v := ?_) rfl rfl (by kernel_rfl) (by kernel_rfl) (by kernel_rfl) (by kernel_rfl) (fun _ _ _ h => h) (Or.inl ⟨by rfl, ?_⟩) (by assumption) ?_
  rotate_left
  · (intro w hSw; (try dsimp only at hSw); go_simp; try (with_reducible rfl))
  try simp only [Act.put]
  try simp only [List.setIfInBounds_toArray]
  try simp only [List.set_cons_zero, List.set_cons_succ]
  refine wpAnyT_take (i := 3) (d := some 9) (v := ?_) rfl rfl (by kernel_rfl) (by kernel_rfl) (by kernel_rfl) (by kernel_rfl) (fun _ _ _ h => h) (Or.inl ⟨by rfl, ?_⟩) (by assumption) ?_
  rotate_left
  · (intro w hSw; (try dsimp only at hSw); go_simp; try (with_reducible rfl))
  try simp only [Act.put]
  try simp only [List.setIfInBounds_toArray]
  try simp only [List.set_cons_zero, List.set_cons_succ]
  refine wpAnyT_take (i := 4) (d := some 10) (v := ?_) rfl rfl (by kernel_rfl) (by kernel_rfl) (by kernel_rfl) (by kernel_rfl) (fun _ _ _ h => h) (Or.inl ⟨by rfl, ?_⟩) (by assumption) ?_
  rotate_left
  · (intro w hSw; (try dsimp only at hSw); go_simp; try (with_reducible rfl))
  try simp only [Act.put]
  try simp only [List.setIfInBounds_toArray]
  try simp only [List.set_cons_zero, List.set_cons_succ]
  refine wpAnyT_take (i := 5) (d := some 11) (v := ?_) rfl rfl (by kernel_rfl) (by kernel_rfl) (by kernel_rfl) (by kernel_rfl) (fun _ _ _ h => h) (Or.inl ⟨by rfl, ?_⟩) (by assumption) ?_
  rotate_left
  · (intro w hSw; (try dsimp only at hSw); go_simp; try (with_reducible rfl))
  try simp only [Act.put]
  try simp only [List.setIfInBounds_toArray]
  try simp only [List.set_cons_zero, List.set_cons_succ]
  refine wpAnyT_take (i := 6) (d := some 12) (v := ?_) rfl rfl (by kernel_rfl) (by kernel_rfl) (by kernel_rfl) (by kernel_rfl) (fun _ _ _ h => h) (Or.inl ⟨by rfl, ?_⟩) (by assumption) ?_
  rotate_left
  · (intro w hSw; (try dsimp only at hSw); go_simp; try (with_reducible rfl))
  try simp only [Act.put]
  try simp only [List.setIfInBounds_toArray]
  try simp only [List.set_cons_zero, List.set_cons_succ]
  refine wpAnyT_take (i := 7) (d := some 13) (v := ?_) rfl rfl (by kernel_rfl) (by kernel_rfl) (by kernel_rfl) (by kernel_rfl) (fun _ _ _ h => h) (Or.inl ⟨by rfl, ?_⟩) (by assumption) ?_
  rotate_left
  · (intro w hSw; (try dsimp only at hSw); go_simp; try (with_reducible rfl))
  try simp only [Act.put]
  try simp only [List.setIfInBounds_toArray]
  try simp only [List.set_cons_zero, List.set_cons_succ]
  refine wpAnyT_take (i := 8) (d := some 14) (v := ?_) rfl rfl (by kernel_rfl) (by kernel_rfl) (by kernel_rfl) (by kernel_rfl) (fun _ _ _ h => h) (Or.inl ⟨by rfl, ?_⟩) (by assumption) ?_
  rotate_left
  · (intro w hSw; (try dsimp only at hSw); go_simp; try (with_reducible rfl))
  try simp only [Act.put]
  try simp only [List.setIfInBounds_toArray]
  try simp only [List.set_cons_zero, List.set_cons_succ]
  refine wpAnyT_take (i := 9) (d := some 15) (v := ?_) rfl rfl (by kernel_rfl) (by kernel_rfl) (by kernel_rfl) (by kernel_rfl) (fun _ _ _ h => h) (Or.inl ⟨by rfl, ?_⟩) (by assumption) ?_
  rotate_left
  · (intro w hSw; (try dsimp only at hSw); go_simp; try (with_reducible rfl))
  try simp only [Act.put]
  try simp only [List.setIfInBounds_toArray]
  try simp only [List.set_cons_zero, List.set_cons_succ]
  refine wpAnyT_take (i := 10) (d := some 16) (v := ?_) rfl rfl (by kernel_rfl) (by kernel_rfl) (by kernel_rfl) (by kernel_rfl) (fun _ _ _ h => h) (Or.inl ⟨by rfl, ?_⟩) (by assumption) ?_
  rotate_left
  · (intro w hSw; (try dsimp only at hSw); go_simp; try (with_reducible rfl))
  try simp only [Act.put]
  try simp only [List.setIfInBounds_toArray]
  try simp only [List.set_cons_zero, List.set_cons_succ]
  refine wpAnyT_take (i := 11) (d := some 17) (v := ?_) rfl rfl (by kernel_rfl) (by kernel_rfl) (by kernel_rfl) (by kernel_rfl) (fun _ _ _ h => h) (Or.inl ⟨by rfl, ?_⟩) (by assumption) ?_
  rotate_left
  · (intro w hSw; (try dsimp only at hSw); go_simp; try (with_reducible rfl))
  try simp only [Act.put]
  try simp only [List.setIfInBounds_toArray]
  try simp only [List.set_cons_zero, List.set_cons_succ]
  refine wpAnyT_take (i := 12) (d := some 18) (v := ?_) rfl rfl (by kernel_rfl) (by kernel_rfl) (by kernel_rfl) (by kernel_rfl) (fun _ _ _ h => h) (Or.inl ⟨by rfl, ?_⟩) (by assumption) ?_
  rotate_left
  · (intro w hSw; (try dsimp only at hSw); go_simp; try (with_reducible rfl))
  try simp only [Act.put]
  try simp only [List.setIfInBounds_toArray]
  try simp only [List.set_cons_zero, List.set_cons_succ]
  refine wpAnyT_take (i := 13) (d := some 19) (v := ?_) rfl rfl (by kernel_rfl) (by kernel_rfl) (by kernel_rfl) (by kernel_rfl) (fun _ _ _ h => h) (Or.inl ⟨by rfl, ?_⟩) (by assumption) ?_
  rotate_left
  · (intro w hSw; (try dsimp only at hSw); go_simp; try (with_reducible rfl))
  try simp only [Act.put]
  try simp only [List.setIfInBounds_toArray]
  try simp only [List.set_cons_zero, List.set_cons_succ]
  refine wpAnyT_take (i := 14) (d := some 20) (v := ?_) rfl rfl (by kernel_rfl) (by kernel_rfl) (by kernel_rfl) (by kernel_rfl) (fun _ _ _ h => h) (Or.inl ⟨by rfl, ?_⟩) (by assumption) ?_
  rotate_left
  · (intro w hSw; (try dsimp only at hSw); go_simp; try (with_reducible rfl))
  try simp only [Act.put]
  try simp only [List.setIfInBounds_toArray]
  try simp only [List.set_cons_zero, List.set_cons_succ]
  refine wpAnyT_last (by kernel_rfl) rfl (by kernel_rfl) (fun K hK => ?_)
  go_simp
  refine hK.out _ _ ?_
  go_wp2_with fail
  go_end0
  refine ⟨rfl, ?_, (HE2.out.mono hbase).setCell hgb _, fun k cs t fr ht hk => ?_⟩
  · rw [HP.out]
    exact HO2.out.set (by rw [HN.out]; exact HI.out) HV.out m2
  · have h9 := HE2.out.hp hk
    have hkg : k ≠ g := fun e => by
      have hw := HO2.out.word i (by rw [HN.out]; exact HI.out)
      rw [HV.out] at hw
      obtain ⟨cur, fr2, hg⟩ := row_heap hw
      rw [e, hg] at h9
      simp only [Option.some.injEq, Obj.cells.injEq] at h9
      exact ht h9.2.1.symm
    exact (Below.heap_setCell wT ⟨g, o, none⟩ _ k hkg).trans h9

set_option maxHeartbeats 2000000 in
set_option maxRecDepth 100000 in
/-- A row is joined to another one. -/
theorem merge_calls (x y : Value) (g o c g2 o2 c2 a b : Nat) (w : World) (h1 : w.cell? ⟨g, o, none⟩ = some (.int .u64 (a : Int))) (hf : w.frozen? ⟨g, o, none⟩ = false) (h2 : w.cell? ⟨g2, o2, none⟩ = some (.int .u64 (b : Int))) (ha : a < 2 ^ 64) (hb : b < 2 ^ 64) (hx : ∃ n : Int, x = .int .i64 n) (hy : ∃ n : Int, y = .int .i64 n) :
    Calls Try.prog 56 #[.agg #[x, .slice (some ⟨g, o, none⟩) 1 c], .agg #[y, .slice (some ⟨g2, o2, none⟩) 1 c2]] w fun e w' => e = .returned (.tuple #[]) ∧ ∃ wX, Ext w wX ∧ w' = wX.setCell ⟨g, o, none⟩ (.int .u64 ((a ||| b : Nat) : Int)) := by
  obtain ⟨nx, rfl⟩ := hx
  obtain ⟨ny, rfl⟩ := hy
  have HB := Lib.hid (bits_or_nat ha hb)
  have hgw := World.block_lt_of_cell? w _ h1
  have hgw2 := World.block_lt_of_cell? w _ h2
  have HX0 : Hid (((w.alloc (.cells #[.int .i64 nx, .slice (some ⟨g, o, none⟩) 1 c] 79)).alloc (.cells #[.int .i64 ny, .slice (some ⟨g2, o2, none⟩) 1 c2] 79)).heap[w.heap.size]? = some (.cells #[.int .i64 nx, .slice (some ⟨g, o, none⟩) 1 c] 79)) := Lib.hid (by
    have h0 := heap_alloc_new w (.cells #[.int .i64 nx, .slice (some ⟨g, o, none⟩) 1 c] 79)
    exact ((Ext.rf _).al (.cells #[.int .i64 ny, .slice (some ⟨g2, o2, none⟩) 1 c2] 79)).hp h0)
  have HX1 : Hid (((w.alloc (.cells #[.int .i64 nx, .slice (some ⟨g, o, none⟩) 1 c] 79)).alloc (.cells #[.int .i64 ny, .slice (some ⟨g2, o2, none⟩) 1 c2] 79)).heap[w.heap.size + 1]? = some (.cells #[.int .i64 ny, .slice (some ⟨g2, o2, none⟩) 1 c2] 79)) := Lib.hid (by
    have h0 := heap_alloc_new (w.alloc (.cells #[.int .i64 nx, .slice (some ⟨g, o, none⟩) 1 c] 79)) (.cells #[.int .i64 ny, .slice (some ⟨g2, o2, none⟩) 1 c2] 79)
    simpa using h0)
  have HE1 : Hid (Ext w ((w.alloc (.cells #[.int .i64 nx, .slice (some ⟨g, o, none⟩) 1 c] 79)).alloc (.cells #[.int .i64 ny, .slice (some ⟨g2, o2, none⟩) 1 c2] 79))) := Lib.hid (by repeat (first | refine Ext.st ?_ (by first | exact Nat.le_refl _ | exact Nat.le_succ _ | assumption | omega) _ | refine Ext.al ?_ _ | refine Ext.dr ?_ | refine Ext.drN ?_ _ | exact Ext.rf _))
  have hfr : ((w.alloc (.cells #[.int .i64 nx, .slice (some ⟨g, o, none⟩) 1 c] 79)).alloc (.cells #[.int .i64 ny, .slice (some ⟨g2, o2, none⟩) 1 c2] 79)).frozen? ⟨g, o, none⟩ = false := (World.frozen?_of_block (HE1.out.block g (by simpa using hgw))).trans hf
  have k1 := HE1.out.cl h1
  have k2 := HE1.out.cl h2
  have s1 := cellOf HX0.out 1
  have q1 := cellOf HX1.out 1
  simp only [List.getElem?_toArray, List.getElem?_cons_zero, List.getElem?_cons_succ] at s1 q1
  generalize hm2 : a ||| b = m2 at *
  clear h1 h2 hf ha hb hm2
  go_enter Try.func56, Try.ntmps56
  go_wp2
  generalize hw2 : (w.alloc (.cells #[.int .i64 nx, .slice (some ⟨g, o, none⟩) 1 c] 79)).alloc (.cells #[.int .i64 ny, .slice (some ⟨g2, o2, none⟩) 1 c2] 79) = w2 at *
  clear hw2
  go_loopg [9] 1 (fun g9 s9 wr => ∃ k : Nat, k ≤ 1 ∧ 1 - k ≤ g9 ∧ s9 = .int .i64 k ∧ Aside (wr = if k = 0 then w2 else w2.setCell ⟨g, o, none⟩ (.int .u64 (m2 : Int))))
  case atStart => exact ⟨0, Nat.zero_le _, by omega, rfl, rfl⟩
  case round =>
    obtain ⟨k, hk, hg9, rfl, HWR⟩ := hrel
    by_cases hk0 : k = 0
    · subst hk0
      obtain rfl : wr = w2 := HWR.out
      have hw8 := HB.out
      have hz : (0 : Int) < 1 := by decide
      go_wp2
      go_roundg 0
      case measure => omega
      case rel => exact ⟨1, Nat.le_refl _, Nat.le_refl _, by go_num, rfl⟩
    · obtain rfl : k = 1 := by omega
      obtain rfl : wr = w2.setCell ⟨g, o, none⟩ (.int .u64 (m2 : Int)) := HWR.out
      clear k1 k2 s1 q1 hfr
      go_wp2
      go_end0
      exact ⟨rfl, w2, HE1.out, rfl⟩

set_option maxHeartbeats 1000000 in
theorem bwords_calls (n : Nat) (w : World) (h1 : 1 ≤ n) (h2 : n ≤ 63) :
    Calls Try.prog 59 #[.int .i64 n] w fun e w' => e = .returned (.int .i64 1) ∧ w' = w := by
  have hz : Int.tdiv ((n : Int) + 64 - 1) 64 = 1 := by rw [Int.tdiv_eq_ediv_of_nonneg (by omega)]; omega
  have hz2 : Int.tdiv ((n : Int) + 63) 64 = 1 := by rw [Int.tdiv_eq_ediv_of_nonneg (by omega)]; omega
  go_enter Try.func59, Try.ntmps59
  go_wp2
  go_ret
  exact ⟨by simp [hz, hz2], rfl⟩

set_option maxHeartbeats 2000000 in
set_option maxRecDepth 100000 in
theorem bvalid_calls (N b o c m : Nat) (w : World) (h : w.cell? ⟨b, o, none⟩ = some (.int .u64 (m : Int))) (hN : 1 ≤ N) (hN2 : N ≤ 63) (hm : m < 2 ^ N) :
    Calls Try.prog 55 #[.agg #[.int .i64 (N : Int), .slice (some ⟨b, o, none⟩) 1 c]] w fun e w' => e = .returned (.bool true) ∧ Ext w w' := by
  have HWC := Lib.hid (fun W => bwords_calls N W hN hN2)
  have hbw := World.block_lt_of_cell? w _ h
  have HE1 := Lib.hid ((Ext.rf w).al (.cells #[.int .i64 (N : Int), .slice (some ⟨b, o, none⟩) 1 c] 79))
  have k1 := HE1.out.cl h
  have HX0 := Lib.hid (heap_alloc_new w (.cells #[.int .i64 (N : Int), .slice (some ⟨b, o, none⟩) 1 c] 79))
  have s0 := cellOf HX0.out 0
  have s1 := cellOf HX0.out 1
  simp only [List.getElem?_toArray, List.getElem?_cons_zero, List.getElem?_cons_succ] at s0 s1
  have d0 : decide ((N : Int) < 0) = false := decide_eq_false (by omega)
  have d1 : decide (512 < (N : Int)) = false := decide_eq_false (by omega)
  have hr : Int.tmod (N : Int) 64 = (N : Int) := rem_small (by omega)
  have hne : ((N : Int) == 0) = false := by rw [beq_eq_false_iff_ne]; omega
  have hdiv : (m : Int) / 2 ^ N = 0 := by rw [div_pow_nat, Nat.div_eq_of_lt hm]; rfl
  have hNz : (0 : Int) ≤ (N : Int) := by omega
  have hN64 : (N : Int) ≤ 64 := by omega
  clear h hm hbw
  go_enter Try.func55, Try.ntmps55
  go_wp2
  generalize hw2 : w.alloc (.cells #[.int .i64 (N : Int), .slice (some ⟨b, o, none⟩) 1 c] 79) = w2 at *
  clear hw2
  go_region_with (refine (HWC.out _).mono ?_; rintro e w9 ⟨rfl, rfl⟩)
  all_goals
    go_wp2
    go_ret
    exact ⟨by simp [hne], HE1.out.dr⟩

set_option maxHeartbeats 4000000 in
set_option maxRecDepth 100000 in
/-- The empty relation. -/
theorem empty_calls (n : Nat) (w : World) (hn : n ≤ 63) :
    Calls Try.prog 44 #[.int .i64 n] w fun e w' => ∃ v vw, e = .returned (.agg #[v]) ∧ OwnRel w' w.heap.size v n (List.replicate n 0) vw ∧ Ext w w' := by
  obtain ⟨ii, hii, iz0, iz1, iz2⟩ := info_partsS info_setR
  have HX0 : Hid (((w.alloc (.cells #[.slice none 0 0] 53)).alloc (.cells #[.slice none 0 0] 53)).heap[w.heap.size]? = some (.cells #[.slice none 0 0] 53)) := Lib.hid (((Ext.rf _).al (.cells #[.slice none 0 0] 53)).hp (heap_alloc_new w (.cells #[.slice none 0 0] 53)))
  have HX1 : Hid (((w.alloc (.cells #[.slice none 0 0] 53)).alloc (.cells #[.slice none 0 0] 53)).heap[w.heap.size + 1]? = some (.cells #[.slice none 0 0] 53)) := Lib.hid (by
    have h0 := heap_alloc_new (w.alloc (.cells #[.slice none 0 0] 53)) (.cells #[.slice none 0 0] 53)
    simpa using h0)
  have HE1 : Hid (Ext w ((w.alloc (.cells #[.slice none 0 0] 53)).alloc (.cells #[.slice none 0 0] 53))) := Lib.hid (by repeat (first | refine Ext.st ?_ (by first | exact Nat.le_refl _ | exact Nat.le_succ _ | assumption | omega) _ | refine Ext.al ?_ _ | refine Ext.dr ?_ | refine Ext.drN ?_ _ | exact Ext.rf _))
  go_enter Try.func44, Try.ntmps44
  go_wp2
  generalize hw2 : (w.alloc (.cells #[.slice none 0 0] 53)).alloc (.cells #[.slice none 0 0] 53) = w2 at *
  have hsz : w.heap.size + 2 ≤ w2.heap.size := by rw [← hw2]; simp
  clear hw2
  have HE0 : Hid (EmI w w2 n 0) := Lib.hid ⟨_, fun _ => undef, HX1.out, OwnRel.nil _ _ _ _, HX0.out, HE1.out, hsz⟩
  go_loopg [5] n (fun g s5 wr => ∃ k : Nat, k ≤ n ∧ n - k ≤ g ∧ s5 = .int .i64 k ∧ Aside (EmI w wr n k))
  case atStart => exact ⟨0, Nat.zero_le _, by omega, rfl, (show EmI _ _ _ _ from HE0.out)⟩
  case round =>
    obtain ⟨k, hk, hg, rfl, HI⟩ := hrel
    obtain ⟨v, vw, hb, ho, hb0, hX, hs2⟩ := HI.out
    obtain ⟨va, vc, hv⟩ := ho.any
    rw [List.length_replicate] at hv
    subst hv
    have HB := Lib.hid hb
    have HO := Lib.hid ho
    have HB0 := Lib.hid hb0
    have HX := Lib.hid hX
    have s0 := cellOf hb 0
    have f0 := freeOf hb 0
    have r0 := cellOf hb0 0
    have fr0 := freeOf hb0 0
    simp only [List.getElem?_toArray, List.getElem?_cons_zero] at s0 r0
    clear hb ho hb0 hX
    by_cases hlt : k < n
    · have hltz : (k : Int) < (n : Int) := by omega
      have HWC := Lib.hid (fun W => words_calls n W (by omega) (by omega))
      have hws : w.heap.size + 1 < wr.heap.size := by omega
      clear r0 fr0
      go_wp2
      refine wp_region_tail (fun W => W.cell? ⟨w.heap.size + 1, 0, none⟩ = some (.slice va k vc)) 10 (by kernel_rfl) s0 (fun hHeld => ?_)
      have HET := Lib.hid (show Ext wr wr.drew from (Ext.rf wr).dr)
      have hws2 : w.heap.size + 2 ≤ wr.drew.heap.size := hs2
      generalize wr.drew = wT at *
      refine wpAnyT_take (i := 0) (d := some 7) (v := ?_) rfl rfl (by kernel_rfl) (by kernel_rfl) (by kernel_rfl) (by kernel_rfl) (fun _ _ _ h => h) (Or.inl ⟨by rfl, ?_⟩) (by assumption) ?_
      rotate_left
      · (intro w hSw; (try dsimp only at hSw); go_simp; try (with_reducible rfl))
      try simp only [Act.put]
      try simp only [List.setIfInBounds_toArray]
      try simp only [List.set_cons_zero, List.set_cons_succ]
      refine wpAnyT_take (i := 1) (d := some 8) (v := ?_) rfl rfl (by kernel_rfl) (by kernel_rfl) (by kernel_rfl) (by kernel_rfl) (fun _ _ _ h => h) (Or.inl ⟨by rfl, ?_⟩) (by assumption) ?_
      rotate_left
      · (intro w hSw; (try dsimp only at hSw); go_simp; try (with_reducible rfl))
      try simp only [Act.put]
      try simp only [List.setIfInBounds_toArray]
      try simp only [List.set_cons_zero, List.set_cons_succ]
      refine wpAnyT_take (i := 2) (d := some 9) (v := ?_) rfl rfl (by kernel_rfl) (by kernel_rfl) (by kernel_rfl) (by kernel_rfl) (fun _ _ _ h => h) (Or.inl ⟨by rfl, ?_⟩) (by assumption) ?_
      rotate_left
      · (intro w hSw; (try dsimp only at hSw); go_simp; try (with_reducible rfl))
      try simp only [Act.put]
      try simp only [List.setIfInBounds_toArray]
      try simp only [List.set_cons_zero, List.set_cons_succ]
      refine wpAnyT_take (i := 3) (d := some 10) (v := ?_) rfl rfl (by kernel_rfl) (by kernel_rfl) (by kernel_rfl) (by kernel_rfl) (fun _ _ _ h => h) (Or.inl ⟨by rfl, ?_⟩) (by assumption) ?_
      rotate_left
      · (intro w hSw; (try dsimp only at hSw); go_simp; try (with_reducible rfl))
      try simp only [Act.put]
      try simp only [List.setIfInBounds_toArray]
      try simp only [List.set_cons_zero, List.set_cons_succ]
      refine wpAnyT_step (i := 4) (by kernel_rfl) rfl (fun K hK => ?_)
      refine step_callW (by kernel_rfl) 52 _ _ rfl enters_52 [.int .i64 n] (by first | rfl | kernel_rfl | go_simp) (HWC.out _) ?_
      rintro e y ⟨rfl, rfl⟩
      refine ⟨_, rfl, ?_⟩
      refine hK.out _ _ ?_ (fun hHeld => ?_)
      · (try dsimp only)
        exact hHeld
      clear hK K
      try simp only [Act.put]
      try simp only [List.setIfInBounds_toArray]
      try simp only [List.set_cons_zero, List.set_cons_succ]
      refine wpAnyT_step (i := 5) (by kernel_rfl) rfl (fun K hK => ?_)
      have hmk := mk_word y
      go_simp
      clear hmk
      have HE2 := Lib.hid (HET.out.al (.cells #[.int .u64 0] 80))
      have HBW := Lib.hid (heap_alloc_new y (.cells #[.int .u64 0] 80))
      have k0 := HE2.out.cl s0
      refine hK.out _ _ ?_ (fun hHeld => ?_)
      · (try dsimp only)
        exact k0
      clear hK K
      try simp only [Act.put]
      try simp only [List.setIfInBounds_toArray]
      try simp only [List.set_cons_zero, List.set_cons_succ]
      obtain ⟨G, hG⟩ : ∃ G, y.heap.size = G := ⟨_, rfl⟩
      have HG := Lib.hid (show w.heap.size + 2 ≤ G from by rw [← hG]; exact hws2)
      have HG2 := Lib.hid (show wr.heap.size ≤ G from by rw [← hG]; exact HET.out.sz)
      rw [hG] at HBW ⊢
      clear hG
      generalize y.alloc (.cells #[.int .u64 0] 80) = wA at *
      have hGA : G < wA.heap.size := (Array.getElem?_eq_some_iff.1 HBW.out).1
      refine wpAnyT_take (i := 6) (d := some 13) (v := ?_) rfl rfl (by kernel_rfl) (by kernel_rfl) (by kernel_rfl) (by kernel_rfl) (fun _ _ _ h => h) (Or.inl ⟨by rfl, ?_⟩) (by assumption) ?_
      rotate_left
      · (intro w hSw; (try dsimp only at hSw); go_simp; try (with_reducible rfl))
      try simp only [Act.put]
      try simp only [List.setIfInBounds_toArray]
      try simp only [List.set_cons_zero, List.set_cons_succ]
      refine wpAnyT_step (i := 7) (by kernel_rfl) rfl (fun K hK => ?_)
      go_simp
      refine hK.out _ _ ?_ (fun hHeld => ?_)
      · (try dsimp only)
        go_keep
      clear hK K
      try simp only [Act.put]
      try simp only [List.setIfInBounds_toArray]
      try simp only [List.set_cons_zero, List.set_cons_succ]
      refine wpAnyT_step (i := 8) (by kernel_rfl) rfl (fun K hK => ?_)
      obtain ⟨cs, hr, hcs⟩ := HO.out.row
      have HR := Lib.hid hr
      have HCS := Lib.hid hcs
      rw [List.length_replicate] at HR HCS
      have HEB := Lib.hid (HE2.out.al (.cells #[.int .i64 (n : Int), .slice (some ⟨G, 0, none⟩) 1 1] 79))
      have HWR : Hid (Row wA (w.heap.size + 2) 80 1 (.slice (some ⟨G, 0, none⟩) 1 1) 1 [.int .u64 ((0 : Nat) : Int)]) := Lib.hid ⟨rfl, .inr ⟨G, 0, 1, _, rfl, HG.out, HBW.out, Nat.le_refl _, by unfold maxLen; omega, by simp, by simp⟩⟩
      clear hr hcs
      refine step_append_rowN rfl _ _ 51 rfl (w.heap.size + 2) 79 ii (.agg #[.int .i64 0, .slice none 0 0]) 2 32 Try.underlying51 hii iz0 iz1 iz2 rfl (by decide) (.slice va k vc) k cs rfl (HR.out.ext HEB.out) wA.heap.size 1 [.int .i64 (n : Int), .slice (some ⟨G, 0, none⟩) 1 1] rfl rfl ⟨_, heap_alloc_new _ _⟩ (by simp [Value.oneCell']) (by unfold maxLen; omega) (by omega) (Nat.le_trans hs2 HEB.out.sz) ?_
      intro v8 w8 hown8 hgrow8 hblk8
      obtain ⟨a8, c8, rfl, _⟩ := hown8.any
      have HOWN := Lib.hid hown8
      have HGR := Lib.hid hgrow8
      have HX8 := Lib.hid ((HX.out.trans' HEB.out).gr hgrow8 (fun q hq => by have := (HR.out.lt q hq).1; omega))
      have HB8 := Lib.hid (heap_keptR (HEB.out.hp HB.out) hgrow8 (fun q hq => by have := (HR.out.lt q hq).1; omega))
      have HB08 := Lib.hid (heap_keptR (HEB.out.hp HB0.out) hgrow8 (fun q hq => by have := (HR.out.lt q hq).1; omega))
      have e0 := cellOf HB8.out 0
      have f8 := freeOf HB8.out 0
      simp only [List.getElem?_toArray, List.getElem?_cons_zero] at e0
      clear hown8 hgrow8 hblk8
      refine hK.out _ _ ?_ (fun hHeld => ?_)
      · (try dsimp only)
        exact e0
      clear hK K
      try simp only [Act.put]
      try simp only [List.setIfInBounds_toArray]
      try simp only [List.set_cons_zero, List.set_cons_succ]
      refine wpAnyT_take (i := 9) (d := some 16) (v := ?_) rfl rfl (by kernel_rfl) (by kernel_rfl) (by kernel_rfl) (by kernel_rfl) (fun _ _ _ h => h) (Or.inl ⟨by rfl, ?_⟩) (by assumption) ?_
      rotate_left
      · (intro w hSw; (try dsimp only at hSw); go_simp; try (with_reducible rfl))
      try simp only [Act.put]
      try simp only [List.setIfInBounds_toArray]
      try simp only [List.set_cons_zero, List.set_cons_succ]
      refine wpAnyT_last (by kernel_rfl) rfl (by kernel_rfl) (fun K hK => ?_)
      go_simp
      refine hK.out _ _ ?_
      go_wp2_with fail
      go_roundg (n - (k + 1))
      case measure => omega
      case rel =>
        refine ⟨k + 1, by omega, by omega, by go_num, (show EmI _ _ _ _ from ?_)⟩
        have h3 : ∀ j, j < (List.replicate k 0).length → Row wA (w.heap.size + 2) 80 1 (vw j) 1 [.int .u64 (((List.replicate k 0)[j]! : Nat) : Int)] := fun j hj => (HO.out.word j hj).ext HE2.out
        have hs := OwnRel.snoc (M := List.replicate k 0) (by rw [List.length_replicate]; exact HR.out.ext HEB.out) (by rw [List.length_replicate]; exact HCS.out) (fun j hj => (h3 j hj).al _) HO.out.dis (HWR.out.al (.cells #[.int .i64 (n : Int), .slice (some ⟨G, 0, none⟩) 1 1] 79)) (fun j hj e => by
          have := ((HO.out.word j hj).lt G (by rw [e]; rfl)).2
          have := HG2.out; omega) HGR.out (by rw [List.length_replicate]; exact HOWN.out)
        have e1 : List.replicate k 0 ++ [0] = List.replicate (k + 1) 0 := (List.replicate_succ' ..).symm
        rw [e1] at hs
        refine ⟨.slice a8 (k + 1) c8, _, ?_, hs.stO HB8.out (by decide) (by decide) _, ?_, HX8.out.st (by show w.heap.size ≤ w.heap.size + 1; omega) _, ?_⟩
        · rw [heap_setCell_same HB8.out]; simp
        · rw [Below.heap_setCell w8 ⟨w.heap.size + 1, 0, none⟩ _ w.heap.size (by simp)]; exact HB08.out
        · rw [size_setCell]; exact Nat.le_trans (Nat.le_trans hs2 HEB.out.sz) HGR.out.size
    · have hltz : ¬ (k : Int) < (n : Int) := by omega
      obtain rfl : n = k := by omega
      go_wp2
      have z0 := cellOf (heap_setCell_same (o := 0) (u := .slice va n vc) HB0.out) 0
      simp only [Array.setIfInBounds, List.size_toArray, List.length_cons, List.length_nil, Nat.zero_lt_succ] at z0
      refine bodyPost_ret (v := .agg #[.slice va n vc]) (by simp [results, Try.results44, go_sem, z0]) rfl ?_
      exact ⟨_, rfl, ⟨_, (HO.out.mono (by omega)).stO HB0.out (by decide) (by decide) _⟩, HX.out.st (by show w.heap.size ≤ w.heap.size; omega) _⟩

end Go.Proofs.Ytodkcfebcjgahaa
