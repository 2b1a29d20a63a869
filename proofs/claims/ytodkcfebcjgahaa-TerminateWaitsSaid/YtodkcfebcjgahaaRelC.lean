/-
  Relations: the transitive closure.
-/
import Derived.Test.YtodkcfebcjgahaaBase
import Derived.Test.YtodkcfebcjgahaaProg
import Derived.BigQuiet
import Derived.Deep.QuietTactic
import Derived.Deep.LoopGhost
import Derived.Shelf.Abstract
import Derived.Test.YtodkcfebcjgahaaRelA
import Derived.Test.YtodkcfebcjgahaaStepC
namespace Go.Proofs.Ytodkcfebcjgahaa
open Go.RowKit
set_option linter.unusedVariables false

theorem enters_56 : ∀ args w, (callFunc 56 args).run Try.prog w = .ok (.enter 56 args) w := enters_of Try.func56 (by kernel_rfl) rfl
theorem info_u64 : (Try.prog.info? 80).map (·.size) = some 1 := by kernel_rfl
theorem BndM.close {N : Nat} {M : List Nat} (h : BndM N M) (k i : Nat) : BndM N (closeIn M k i) := by
  induction i with
  | zero => exact h
  | succ i ih =>
    rw [closeIn, closeI]
    split
    · exact ih.merge
    · exact ih
theorem BndM.closeT {N : Nat} {M : List Nat} (h : BndM N M) (k : Nat) : BndM N (closeTo M k) := by
  induction k with
  | zero => exact h
  | succ k ih => rw [closeTo]; exact ih.close _ _
/-- Another row's word is written. -/
theorem OwnRel.put {w w' : World} {base : Nat} {v : Value} {N : Nat} {M : List Nat} {vw : Nat → Value} (h : OwnRel w base v N M vw) {k m : Nat} (hk : k < M.length) (hg : w.grownBy w' (vw k).ownBlock) (hr : Row w' base 80 1 (vw k) 1 [.int .u64 (m : Int)]) : OwnRel w' base v N (M.set k m) vw := by
  obtain ⟨⟨cs, g1, g2⟩, g3, g4⟩ := h
  refine ⟨⟨cs, by rw [List.length_set]; exact g1.grown hg (g1.apart (g3 k hk) (by decide)), by rw [List.length_set]; exact g2⟩, fun j hj => ?_, fun i j hi hj => g4 i j (by rw [List.length_set] at hi; exact hi) (by rw [List.length_set] at hj; exact hj)⟩
  rw [List.length_set] at hj
  by_cases e : j = k
  · subst e; rw [nat_set_at hj]; exact hr
  · rw [nat_set_ne e]
    exact (g3 j hj).grown hg (.inr (g4 j k hj hk e))
def halfM (M : List Nat) (i : Nat) : List Nat := M.take i ++ List.replicate (M.length - i) 0
theorem halfM_len {M : List Nat} {i : Nat} (h : i ≤ M.length) : (halfM M i).length = M.length := by unfold halfM; rw [List.length_append, List.length_take, List.length_replicate]; omega
theorem halfM_succ {M : List Nat} {i : Nat} (h : i < M.length) : (halfM M i).set i M[i]! = halfM M (i + 1) := by
  unfold halfM
  rw [List.set_append_right _ _ (by rw [List.length_take]; omega), List.length_take, Nat.min_eq_left (by omega), Nat.sub_self, show M.length - i = (M.length - (i + 1)) + 1 by omega, List.replicate_succ, List.set_cons_zero, List.take_succ_eq_append_getElem h, getElem!_pos M i h, List.append_assoc]
  rfl
/-- The result's box, and the copy's. -/
def ClB (w W : World) (D base N : Nat) (M : List Nat) (a : Option Addr) (c : Nat) : Prop := ∃ vw, W.heap[D]? = some (.cells #[.slice a N c] 53) ∧ OwnRel W base (.slice a N c) N M vw ∧ W.heap[w.heap.size + 1]? = some (.cells #[.slice none 0 0] 53) ∧ Ext w W ∧ base ≤ W.heap.size

set_option maxHeartbeats 8000000 in
set_option maxRecDepth 100000 in
theorem closure_calls (v : Value) (N : Nat) (M : List Nat) (w : World) (h : Sl (RSet N) 2 w v M) (hl : M.length = N) (hN : N ≤ 63) (hb : BndM N M) :
    Calls Try.prog 47 #[.agg #[v]] w fun e w' => ∃ v' vw, e = .returned (.agg #[v']) ∧ OwnRel w' w.heap.size v' N (closeM M) vw ∧ BndM N (closeM M) ∧ Ext w w' := by
  have HR := Lib.hid h
  have HL := Lib.hid hl
  have HBD := Lib.hid hb
  have HEC := Lib.hid (fun W => empty_calls N W hN)
  obtain ⟨ra, rc, rfl, hrc⟩ := h.sh
  rw [hl] at HR ⊢
  have HB0 : Hid (((w.alloc (.cells #[.slice ra N rc] 53)).alloc (.cells #[.slice none 0 0] 53)).heap[w.heap.size]? = some (.cells #[.slice ra N rc] 53)) := Lib.hid (((Ext.rf _).al _).hp (heap_alloc_new w (.cells #[.slice ra N rc] 53)))
  have HB1 : Hid (((w.alloc (.cells #[.slice ra N rc] 53)).alloc (.cells #[.slice none 0 0] 53)).heap[w.heap.size + 1]? = some (.cells #[.slice none 0 0] 53)) := Lib.hid (heap_new_eq (by simp))
  have HE1 : Hid (Ext w ((w.alloc (.cells #[.slice ra N rc] 53)).alloc (.cells #[.slice none 0 0] 53))) := Lib.hid (by repeat (first | refine Ext.st ?_ (by first | exact Nat.le_refl _ | exact Nat.le_succ _ | assumption | omega) _ | refine Ext.al ?_ _ | refine Ext.dr ?_ | refine Ext.drN ?_ _ | exact Ext.rf _))
  have b0 := cellOf HB0.out 0
  simp only [List.getElem?_toArray, List.getElem?_cons_zero] at b0
  clear h hl hb hrc
  go_enter Try.func47, Try.ntmps47
  go_wp2_with fail
  refine (HEC.out _).mono ?_
  rintro e w2 ⟨v, vw, rfl, ho, hx⟩
  obtain ⟨va, vc, hv⟩ := ho.any
  rw [List.length_replicate] at hv
  subst hv
  generalize hw1 : (w.alloc (.cells #[.slice ra N rc] 53)).alloc (.cells #[.slice none 0 0] 53) = w1 at *
  have hw1s : w1.heap.size = w.heap.size + 2 := by rw [← hw1]; simp
  clear hw1
  have HE2 := Lib.hid (HE1.out.trans' hx)
  have HI0 : Hid (ClB w (w2.alloc (.cells #[.slice va N vc] 53)) w2.heap.size w1.heap.size N (halfM M 0) va vc) := Lib.hid (by
    refine ⟨vw, heap_alloc_new _ _, ?_, ((Ext.rf w2).al _).hp (hx.hp HB1.out), HE2.out.al _, Nat.le_trans hx.sz ((Ext.rf w2).al _).sz⟩
    have : halfM M 0 = List.replicate N 0 := by unfold halfM; rw [List.take_zero, HL.out]; simp
    rw [this]; exact ho.ext ((Ext.rf w2).al _))
  have HBA := Lib.hid (((Ext.rf w2).al (.cells #[.slice va N vc] 53)).hp (hx.hp HB0.out))
  have a0 := cellOf HBA.out 0
  have a1 := cellOf (hx.hp HB0.out) 0
  simp only [List.getElem?_toArray, List.getElem?_cons_zero] at a0 a1
  have HXA := Lib.hid (hx.trans' ((Ext.rf w2).al (.cells #[.slice va N vc] 53)))
  have hbw : w.heap.size ≠ w2.heap.size := Nat.ne_of_lt (Nat.lt_of_lt_of_le (by omega) hx.sz)
  clear ho hx b0
  go_wp2
  generalize w2.alloc (.cells #[.slice va N vc] 53) = w3 at *
  generalize hD : w2.heap.size = D at *
  clear hD a0 a1 hbw HXA HBA
  go_loopg [15] N (fun g s15 wr => ∃ i : Nat, i ≤ N ∧ N - i ≤ g ∧ s15 = .int .i64 i ∧ Aside (ClB w wr D w1.heap.size N (halfM M i) va vc))
  case atStart => exact ⟨0, Nat.zero_le _, by omega, rfl, (show ClB _ _ _ _ _ _ _ _ from HI0.out)⟩
  case round =>
    obtain ⟨i, hi, hg, rfl, HI⟩ := hrel
    obtain ⟨vw, hb, ho, hb1, hX, hs⟩ := HI.out
    have HB := Lib.hid hb
    have HO := Lib.hid ho
    have HBB := Lib.hid hb1
    have HX := Lib.hid hX
    have s0 := cellOf hb 0
    simp only [List.getElem?_toArray, List.getElem?_cons_zero] at s0
    have hDw : D < wr.heap.size := (Array.getElem?_eq_some_iff.1 hb).1
    have hHL : (halfM M i).length = N := by rw [halfM_len (by rw [HL.out]; exact hi), HL.out]
    have HHL := Lib.hid hHL
    by_cases hlt : i < N
    · have hltz : (i : Int) < (N : Int) := by omega
      have hiz : (0 : Int) ≤ (i : Int) := by omega
      obtain ⟨B, O, C, b, o, c, hve, hlC, hB, k0, k1, hc, hbb, k2⟩ := rset_at HR.out i (by rw [HL.out]; exact hlt)
      simp only [Value.slice.injEq] at hve
      obtain ⟨rfl, hzz, rfl⟩ := hve
      obtain ⟨g1, o1, c1, hve⟩ := ho.shape (by omega)
      simp only [Value.slice.injEq] at hve
      obtain ⟨rfl, hzz2, rfl⟩ := hve
      have m0 := HX.out.cl k0
      have m1 := HX.out.cl k1
      have K2 := Lib.hid k2
      obtain ⟨gi, oi, ci, hvi, _⟩ := ho.wordAt (k := i) (by omega)
      have HVI := Lib.hid hvi
      have z1 := (ho.cellsAt hHL.symm (k := i) (by omega)).2
      rw [hvi] at z1
      have HWO : Hid (∀ W, Ext wr W → Row W w1.heap.size 80 1 (.slice (some ⟨gi, oi, none⟩) 1 ci) 1 [.int .u64 (((halfM M i)[i]! : Nat) : Int)]) := Lib.hid (fun W hW => by
        have := (HO.out.word i (by rw [HHL.out]; exact hlt)).ext hW
        rw [HVI.out] at this; exact this)
      have hz1 := World.block_lt_of_cell? wr _ z1
      have HHS := Lib.hid (halfM_succ (M := M) (i := i) (by rw [HL.out]; exact hlt))
      have HX1 := Lib.hid (heap_alloc_new wr (.cells #[.int .i64 (N : Int), .slice (some ⟨b, o, none⟩) 1 c] 79))
      have HXE := Lib.hid ((Ext.rf wr).al (.cells #[.int .i64 (N : Int), .slice (some ⟨b, o, none⟩) 1 c] 79))
      have x1 := cellOf HX1.out 1
      simp only [List.getElem?_toArray, List.getElem?_cons_zero, List.getElem?_cons_succ] at x1
      have z2 := HXE.out.cl z1
      have s2 := HXE.out.cl s0
      generalize M[i]! = m at *
      clear hb ho hb1 hX k0 k1 k2 hzz hzz2 hvi hHL
      go_wp2
      clear s0 m0 m1 z1
      generalize hX9 : wr.heap.size = X at *
      refine wp_region_tail (fun W => W.cell? ⟨D, 0, none⟩ = some (.slice (some ⟨g1, o1, none⟩) N vc) ∧ W.cell? ⟨g1, o1 + i * 2 + 1, none⟩ = some (.slice (some ⟨gi, oi, none⟩) 1 ci) ∧ W.cell? ⟨X, 1, none⟩ = some (.slice (some ⟨b, o, none⟩) 1 c)) 8 (by kernel_rfl) ⟨s2, z2, x1⟩ (fun hHeld => ?_)
      have HET := Lib.hid (show Ext wr (wr.alloc (.cells #[.int .i64 (N : Int), .slice (some ⟨b, o, none⟩) 1 c] 79)).drew from HXE.out.dr)
      generalize (wr.alloc (.cells #[.int .i64 (N : Int), .slice (some ⟨b, o, none⟩) 1 c] 79)).drew = wT at *
      refine wpAnyT_take (i := 0) (d := some 20) (v := ?_) rfl rfl (by kernel_rfl) (by kernel_rfl) (by kernel_rfl) (by kernel_rfl) (fun _ _ _ h => h) (Or.inl ⟨by rfl, ?_⟩) (by assumption) ?_
      rotate_left
      · (intro w hSw; (try dsimp only at hSw); go_simp; try (with_reducible rfl))
      try simp only [Act.put]
      try simp only [List.setIfInBounds_toArray]
      try simp only [List.set_cons_zero, List.set_cons_succ]
      refine wpAnyT_take (i := 1) (d := some 21) (v := ?_) rfl rfl (by kernel_rfl) (by kernel_rfl) (by kernel_rfl) (by kernel_rfl) (fun _ _ _ h => h) (Or.inl ⟨by rfl, ?_⟩) (by assumption) ?_
      rotate_left
      · (intro w hSw; (try dsimp only at hSw); go_simp; try (with_reducible rfl))
      try simp only [Act.put]
      try simp only [List.setIfInBounds_toArray]
      try simp only [List.set_cons_zero, List.set_cons_succ]
      refine wpAnyT_take (i := 2) (d := some 22) (v := ?_) rfl rfl (by kernel_rfl) (by kernel_rfl) (by kernel_rfl) (by kernel_rfl) (fun _ _ _ h => h) (Or.inl ⟨by rfl, ?_⟩) (by assumption) ?_
      rotate_left
      · (intro w hSw; (try dsimp only at hSw); go_simp; try (with_reducible rfl))
      try simp only [Act.put]
      try simp only [List.setIfInBounds_toArray]
      try simp only [List.set_cons_zero, List.set_cons_succ]
      refine wpAnyT_take (i := 3) (d := some 23) (v := ?_) rfl rfl (by kernel_rfl) (by kernel_rfl) (by kernel_rfl) (by kernel_rfl) (fun _ _ _ h => h) (Or.inl ⟨by rfl, ?_⟩) (by assumption) ?_
      rotate_left
      · (intro w hSw; (try dsimp only at hSw); go_simp; try (with_reducible rfl))
      try simp only [Act.put]
      try simp only [List.setIfInBounds_toArray]
      try simp only [List.set_cons_zero, List.set_cons_succ]
      refine wpAnyT_take (i := 4) (d := some 24) (v := ?_) rfl rfl (by kernel_rfl) (by kernel_rfl) (by kernel_rfl) (by kernel_rfl) (fun _ _ _ h => h) (Or.inl ⟨by rfl, ?_⟩) (by assumption) ?_
      rotate_left
      · (intro w hSw; (try dsimp only at hSw); go_simp; try (with_reducible rfl))
      try simp only [Act.put]
      try simp only [List.setIfInBounds_toArray]
      try simp only [List.set_cons_zero, List.set_cons_succ]
      refine wpAnyT_take (i := 5) (d := some 25) (v := ?_) rfl rfl (by kernel_rfl) (by kernel_rfl) (by kernel_rfl) (by kernel_rfl) (fun _ _ _ h => h) (Or.inl ⟨by rfl, ?_⟩) (by assumption) ?_
      rotate_left
      · (intro w hSw; (try dsimp only at hSw); go_simp; try (with_reducible rfl))
      try simp only [Act.put]
      try simp only [List.setIfInBounds_toArray]
      try simp only [List.set_cons_zero, List.set_cons_succ]
      refine wpAnyT_take (i := 6) (d := some 26) (v := ?_) rfl rfl (by kernel_rfl) (by kernel_rfl) (by kernel_rfl) (by kernel_rfl) (fun _ _ _ h => h) (Or.inl ⟨by rfl, ?_⟩) (by assumption) ?_
      rotate_left
      · (intro w hSw; (try dsimp only at hSw); go_simp; try (with_reducible rfl))
      try simp only [Act.put]
      try simp only [List.setIfInBounds_toArray]
      try simp only [List.set_cons_zero, List.set_cons_succ]
      refine wpAnyT_take (i := 7) (d := some 27) (v := ?_) rfl rfl (by kernel_rfl) (by kernel_rfl) (by kernel_rfl) (by kernel_rfl) (fun _ _ _ h => h) (Or.inl ⟨by rfl, ?_⟩) (by assumption) ?_
      rotate_left
      · (intro w hSw; (try dsimp only at hSw); go_simp; try (with_reducible rfl))
      try simp only [Act.put]
      try simp only [List.setIfInBounds_toArray]
      try simp only [List.set_cons_zero, List.set_cons_succ]
      refine wpAnyT_last (by kernel_rfl) rfl (by kernel_rfl) (fun K hK => ?_)
      refine step_copyA rfl _ _ 76 76 rfl 80 1 Try.underlying76 info_u64 w1.heap.size 1 (.slice (some ⟨gi, oi, none⟩) 1 ci) (.slice (some ⟨b, o, none⟩) 1 c) _ [.int .u64 (m : Int)] rfl (HWO.out _ HET.out) rfl ⟨rfl, _, _, rfl, hc, fun _ => ⟨b, o, rfl, by have := (HX.out.trans' HET.out).sz; omega, fun j hj => by
        obtain rfl : j = 0 := by omega
        have := (HX.out.trans' HET.out).cl K2.out
        simpa using this⟩⟩ (by intro x hx; rw [List.mem_singleton.1 hx]; rfl) ?_
      intro w9 hrow9 hgrow9
      have HIN : Hid (ClB w w9 D w1.heap.size N (halfM M (i + 1)) (some ⟨g1, o1, none⟩) vc) := Lib.hid (by
        have hkeep : KeepU wr w9 := fun k cs t fr ht hk => heap_keptR (HET.out.hp hk) hgrow9 (fun q hq e => by
          have hw := HWO.out wr (Ext.rf _)
          obtain ⟨cur, fr2, hg⟩ := row_heap hw
          have : q = gi := by simpa [Value.ownBlock] using hq.symm
          rw [← this, e, hk] at hg
          simp only [Option.some.injEq, Obj.cells.injEq] at hg
          exact ht hg.2.1)
        refine ⟨vw, hkeep _ _ _ _ (by decide) HB.out, ?_, hkeep _ _ _ _ (by decide) HBB.out, ?_, Nat.le_trans (by have h := HET.out.sz; omega) hgrow9.size⟩
        · rw [← HHS.out]
          exact (HO.out.ext HET.out).put (by rw [HHL.out]; exact hlt) (by rw [HVI.out]; exact hgrow9) (by rw [HVI.out]; exact hrow9)
        · exact (HX.out.trans' HET.out).gr hgrow9 (fun q hq => by have := ((HWO.out wr (Ext.rf _)).lt q hq).1; omega))
      refine hK.out _ _ ?_
      clear hrow9 hgrow9
      go_wp2_with fail
      go_roundg (N - (i + 1))
      case measure => omega
      case rel => exact ⟨i + 1, by omega, by omega, by go_num, (show ClB _ _ _ _ _ _ _ _ from HIN.out)⟩
    · have hltz : ¬ (i : Int) < (N : Int) := by omega
      obtain rfl : N = i := by omega
      have HM0 : Hid (ClB w wr D w1.heap.size N (closeTo M 0) va vc) := Lib.hid (by
        have h := HI.out
        have e : halfM M N = M := by unfold halfM; rw [HL.out, Nat.sub_self, ← HL.out, List.take_length]; simp
        rw [e] at h; exact h)
      clear hb ho hb1 hX hHL hs hDw
      go_wp2
      clear s0
      go_loopg [33] N (fun g s33 wr => ∃ k : Nat, k ≤ N ∧ N - k ≤ g ∧ s33 = .int .i64 k ∧ Aside (ClB w wr D w1.heap.size N (closeTo M k) va vc))
      case atStart => exact ⟨0, Nat.zero_le _, by omega, rfl, (show ClB _ _ _ _ _ _ _ _ from HM0.out)⟩
      case round =>
        obtain ⟨k, hk, hg3, rfl, HI3⟩ := hrel
        obtain ⟨vw, hb, ho, hb1, hX, hs⟩ := HI3.out
        have HO := Lib.hid ho
        have HBB := Lib.hid hb1
        have HX := Lib.hid hX
        have s0 := cellOf hb 0
        simp only [List.getElem?_toArray, List.getElem?_cons_zero] at s0
        by_cases hlk : k < N
        · have hlkz : (k : Int) < (N : Int) := by omega
          clear hb ho hb1 hX
          go_wp2
          clear s0
          go_loopg [39] N (fun g s39 wr => ∃ i : Nat, i ≤ N ∧ N - i ≤ g ∧ s39 = .int .i64 i ∧ Aside (ClB w wr D w1.heap.size N (closeIn (closeTo M k) k i) va vc))
          case atStart => exact ⟨0, Nat.zero_le _, by omega, rfl, (show ClB _ _ _ _ _ _ _ _ from HI3.out)⟩
          case round =>
            obtain ⟨i, hi, hg4, rfl, HI4⟩ := hrel
            obtain ⟨vw, hb, ho, hb1, hX, hs⟩ := HI4.out
            have HB := Lib.hid hb
            have HO := Lib.hid ho
            have HBB := Lib.hid hb1
            have HX := Lib.hid hX
            have s0 := cellOf hb 0
            simp only [List.getElem?_toArray, List.getElem?_cons_zero] at s0
            have HML : Hid ((closeIn (closeTo M k) k i).length = N) := Lib.hid (by rw [closeIn_len, closeTo_len, HL.out])
            have HBM := Lib.hid ((HBD.out.closeT k).close k i)
            have HNX : Hid (closeIn (closeTo M k) k (i + 1) = closeI (closeIn (closeTo M k) k i) k i) := Lib.hid rfl
            have HNT : Hid (i = N → closeTo M (k + 1) = closeIn (closeTo M k) k i) := Lib.hid (fun e => by rw [e, closeTo, HL.out])
            generalize hMM : closeIn (closeTo M k) k i = M' at *
            clear hMM
            by_cases hli : i < N
            · have hliz : (i : Int) < (N : Int) := by omega
              have hiz : (0 : Int) ≤ (i : Int) := by omega
              have hkz : (0 : Int) ≤ (k : Int) := by omega
              have HHC := Lib.hid (fun W (hW : Ext wr W) => has_calls _ N M' i k W (HO.out.sl.ext (rset_lasts N) hW) (by rw [HML.out]; exact hli) (by omega) (HBM.out.u64 (by omega) i))
              obtain ⟨g1, o1, c1, hve⟩ := ho.shape (by have := HML.out; omega)
              simp only [Value.slice.injEq] at hve
              obtain ⟨rfl, hzz2, rfl⟩ := hve
              obtain ⟨z0, z1⟩ := ho.cellsAt HML.out.symm (k := i) (by have := HML.out; omega)
              obtain ⟨y0, y1⟩ := ho.cellsAt HML.out.symm (k := k) (by have := HML.out; omega)
              obtain ⟨gi, oi, ci, hvi, hgi1, hgi2, _, hci, hfi⟩ := ho.wordAt (k := i) (by have := HML.out; omega)
              obtain ⟨gk, ok, ck, hvk, _, _, _, hck, _⟩ := ho.wordAt (k := k) (by have := HML.out; omega)
              rw [hvi] at z1
              rw [hvk] at y1
              have HVI := Lib.hid hvi
              have HCI := Lib.hid hci
              have HCK := Lib.hid hck
              have HFI := Lib.hid hfi
              have HZ0 := Lib.hid z0
              have HZ1 := Lib.hid z1
              have HY0 := Lib.hid y0
              have HY1 := Lib.hid y1
              have HS0 := Lib.hid s0
              have HGI := Lib.hid hgi1
              have HGW := Lib.hid hgi2
              clear hb ho hb1 hX hvi hvk hci hck hfi hzz2 hgi1 hgi2
              obtain ⟨r, hr⟩ : ∃ r, hasM M' i k = r := ⟨_, rfl⟩
              have HRR := Lib.hid hr
              rw [hr] at HHC
              clear hr z0 z1 y0 y1
              go_wp2_with fail
              refine (HHC.out _ (Ext.rf _)).mono ?_
              rintro e w8 ⟨rfl, hX8⟩
              have HX8 := Lib.hid hX8
              have HI8 : Hid (ClB w w8 D w1.heap.size N M' (some ⟨g1, o1, none⟩) vc) := Lib.hid ⟨vw, hX8.hp HB.out, HO.out.ext hX8, hX8.hp HBB.out, HX.out.trans' hX8, Nat.le_trans hs hX8.sz⟩
              cases r with
              | false =>
                have HN2 : Hid (closeIn (closeTo M k) k (i + 1) = M') := Lib.hid (by rw [HNX.out, closeI, HRR.out]; rfl)
                clear hX8 s0
                go_wp2
                go_roundg (N - (i + 1))
                case measure => omega
                case rel => exact ⟨i + 1, by omega, by omega, by go_num, (show ClB _ _ _ _ _ _ _ _ from by rw [HN2.out]; exact HI8.out)⟩
              | true =>
                have HN2 : Hid (closeIn (closeTo M k) k (i + 1) = M'.set i (M'[i]! ||| M'[k]!)) := Lib.hid (by rw [HNX.out, closeI, HRR.out]; rfl)
                have HMC := Lib.hid (fun W (hW : Ext w8 W) => merge_calls (.int .i64 (N : Int)) (.int .i64 (N : Int)) gi oi ci gk ok ck M'[i]! M'[k]! W ((hX8.trans' hW).cl HCI.out) ((World.frozen?_of_block ((hX8.trans' hW).block gi HGW.out)).trans HFI.out) ((hX8.trans' hW).cl HCK.out) (HBM.out.u64 (by omega) i) (HBM.out.u64 (by omega) k) ⟨_, rfl⟩ ⟨_, rfl⟩)
                generalize M'[i]! ||| M'[k]! = mm at HMC HN2
                have t0 := hX8.cl HS0.out
                have t1 := hX8.cl HZ0.out
                have t2 := hX8.cl HZ1.out
                have t3 := hX8.cl HY0.out
                have t4 := hX8.cl HY1.out
                clear hX8 s0
                go_wp2
                refine wp_region_tail (fun W => W.cell? ⟨D, 0, none⟩ = some (.slice (some ⟨g1, o1, none⟩) N vc) ∧ W.cell? ⟨g1, o1 + i * 2, none⟩ = some (.int .i64 (N : Int)) ∧ W.cell? ⟨g1, o1 + i * 2 + 1, none⟩ = some (.slice (some ⟨gi, oi, none⟩) 1 ci) ∧ W.cell? ⟨g1, o1 + k * 2, none⟩ = some (.int .i64 (N : Int)) ∧ W.cell? ⟨g1, o1 + k * 2 + 1, none⟩ = some (.slice (some ⟨gk, ok, none⟩) 1 ck)) 10 (by kernel_rfl) ⟨t0, t1, t2, t3, t4⟩ (fun hHeld => ?_)
                have HET := Lib.hid (show Ext w8 w8.drew from (Ext.rf _).dr)
                generalize w8.drew = wT at *
                refine wpAnyT_take (i := 0) (d := some 46) (v := ?_) rfl rfl (by kernel_rfl) (by kernel_rfl) (by kernel_rfl) (by kernel_rfl) (fun _ _ _ h => h) (Or.inl ⟨by rfl, ?_⟩) (by assumption) ?_
                rotate_left
                · (intro w hSw; (try dsimp only at hSw); go_simp; try (with_reducible rfl))
                try simp only [Act.put]
                try simp only [List.setIfInBounds_toArray]
                try simp only [List.set_cons_zero, List.set_cons_succ]
                refine wpAnyT_take (i := 1) (d := some 47) (v := ?_) rfl rfl (by kernel_rfl) (by kernel_rfl) (by kernel_rfl) (by kernel_rfl) (fun _ _ _ h => h) (Or.inl ⟨by rfl, ?_⟩) (by assumption) ?_
                rotate_left
                · (intro w hSw; (try dsimp only at hSw); go_simp; try (with_reducible rfl))
                try simp only [Act.put]
                try simp only [List.setIfInBounds_toArray]
                try simp only [List.set_cons_zero, List.set_cons_succ]
                refine wpAnyT_take (i := 2) (d := some 48) (v := ?_) rfl rfl (by kernel_rfl) (by kernel_rfl) (by kernel_rfl) (by kernel_rfl) (fun _ _ _ h => h) (Or.inl ⟨by rfl, ?_⟩) (by assumption) ?_
                rotate_left
                · (intro w hSw; (try dsimp only at hSw); go_simp; try (with_reducible rfl))
                try simp only [Act.put]
                try simp only [List.setIfInBounds_toArray]
                try simp only [List.set_cons_zero, List.set_cons_succ]
                refine wpAnyT_take (i := 3) (d := some 49) (v := ?_) rfl rfl (by kernel_rfl) (by kernel_rfl) (by kernel_rfl) (by kernel_rfl) (fun _ _ _ h => h) (Or.inl ⟨by rfl, ?_⟩) (by assumption) ?_
                rotate_left
                · (intro w hSw; (try dsimp only at hSw); go_simp; try (with_reducible rfl))
                try simp only [Act.put]
                try simp only [List.setIfInBounds_toArray]
                try simp only [List.set_cons_zero, List.set_cons_succ]
                refine wpAnyT_take (i := 4) (d := some 50) (v := ?_) rfl rfl (by kernel_rfl) (by kernel_rfl) (by kernel_rfl) (by kernel_rfl) (fun _ _ _ h => h) (Or.inl ⟨by rfl, ?_⟩) (by assumption) ?_
                rotate_left
                · (intro w hSw; (try dsimp only at hSw); go_simp; try (with_reducible rfl))
                try simp only [Act.put]
                try simp only [List.setIfInBounds_toArray]
                try simp only [List.set_cons_zero, List.set_cons_succ]
                refine wpAnyT_take (i := 5) (d := some 51) (v := ?_) rfl rfl (by kernel_rfl) (by kernel_rfl) (by kernel_rfl) (by kernel_rfl) (fun _ _ _ h => h) (Or.inl ⟨by rfl, ?_⟩) (by assumption) ?_
                rotate_left
                · (intro w hSw; (try dsimp only at hSw); go_simp; try (with_reducible rfl))
                try simp only [Act.put]
                try simp only [List.setIfInBounds_toArray]
                try simp only [List.set_cons_zero, List.set_cons_succ]
                refine wpAnyT_take (i := 6) (d := some 52) (v := ?_) rfl rfl (by kernel_rfl) (by kernel_rfl) (by kernel_rfl) (by kernel_rfl) (fun _ _ _ h => h) (Or.inl ⟨by rfl, ?_⟩) (by assumption) ?_
                rotate_left
                · (intro w hSw; (try dsimp only at hSw); go_simp; try (with_reducible rfl))
                try simp only [Act.put]
                try simp only [List.setIfInBounds_toArray]
                try simp only [List.set_cons_zero, List.set_cons_succ]
                refine wpAnyT_take (i := 7) (d := some 53) (v := ?_) rfl rfl (by kernel_rfl) (by kernel_rfl) (by kernel_rfl) (by kernel_rfl) (fun _ _ _ h => h) (Or.inl ⟨by rfl, ?_⟩) (by assumption) ?_
                rotate_left
                · (intro w hSw; (try dsimp only at hSw); go_simp; try (with_reducible rfl))
                try simp only [Act.put]
                try simp only [List.setIfInBounds_toArray]
                try simp only [List.set_cons_zero, List.set_cons_succ]
                refine wpAnyT_take (i := 8) (d := some 54) (v := ?_) rfl rfl (by kernel_rfl) (by kernel_rfl) (by kernel_rfl) (by kernel_rfl) (fun _ _ _ h => h) (Or.inl ⟨by rfl, ?_⟩) (by assumption) ?_
                rotate_left
                · (intro w hSw; (try dsimp only at hSw); go_simp; try (with_reducible rfl))
                try simp only [Act.put]
                try simp only [List.setIfInBounds_toArray]
                try simp only [List.set_cons_zero, List.set_cons_succ]
                refine wpAnyT_take (i := 9) (d := some 55) (v := ?_) rfl rfl (by kernel_rfl) (by kernel_rfl) (by kernel_rfl) (by kernel_rfl) (fun _ _ _ h => h) (Or.inl ⟨by rfl, ?_⟩) (by assumption) ?_
                rotate_left
                · (intro w hSw; (try dsimp only at hSw); go_simp; try (with_reducible rfl))
                try simp only [Act.put]
                try simp only [List.setIfInBounds_toArray]
                try simp only [List.set_cons_zero, List.set_cons_succ]
                refine wpAnyT_last (by kernel_rfl) rfl (by kernel_rfl) (fun K hK => ?_)
                refine step_callW (by kernel_rfl) 56 _ _ rfl enters_56 [.agg #[.int .i64 (N : Int), .slice (some ⟨gi, oi, none⟩) 1 ci], .agg #[.int .i64 (N : Int), .slice (some ⟨gk, ok, none⟩) 1 ck]] (by first | rfl | kernel_rfl | go_simp) (HMC.out _ HET.out) ?_
                rintro e w9 ⟨rfl, wX, hXX, rfl⟩
                have HIN : Hid (ClB w (wX.setCell ⟨gi, oi, none⟩ (.int .u64 (mm : Int))) D w1.heap.size N (closeIn (closeTo M k) k (i + 1)) (some ⟨g1, o1, none⟩) vc) := Lib.hid (by
                  obtain ⟨vw8, q1, q2, q3, q4, q5⟩ := HI8.out
                  have hEX := HET.out.trans' hXX
                  have ho9 := HO.out.ext (HX8.out.trans' hEX)
                  have hw := ho9.word i (by rw [HML.out]; exact hli)
                  rw [HVI.out] at hw
                  obtain ⟨cur, fr2, hgw⟩ := row_heap hw
                  have hkeep : ∀ (q : Nat) (cs : Array Value) (t : TypeId) (fr : Nat × Nat), t ≠ 80 → w8.heap[q]? = some (.cells cs t fr) → (wX.setCell ⟨gi, oi, none⟩ (.int .u64 (mm : Int))).heap[q]? = some (.cells cs t fr) := fun q cs t fr ht hq => by
                    have h9 := hEX.hp hq
                    refine (Below.heap_setCell wX ⟨gi, oi, none⟩ _ q (fun e => ?_)).trans h9
                    have e : q = gi := e
                    rw [e, hgw] at h9
                    simp only [Option.some.injEq, Obj.cells.injEq] at h9
                    exact ht h9.2.1.symm
                  refine ⟨vw, hkeep _ _ _ _ (by decide) q1, ?_, hkeep _ _ _ _ (by decide) q3, (q4.trans' hEX).st (by show w.heap.size ≤ gi; have := HGI.out; omega) _, ?_⟩
                  · rw [HN2.out]; exact ho9.set (by rw [HML.out]; exact hli) HVI.out _
                  · rw [size_setCell]; exact Nat.le_trans q5 hEX.sz)
                refine ⟨_, rfl, ?_⟩
                refine hK.out _ _ ?_
                clear hXX
                go_wp2_with fail
                go_roundg (N - (i + 1))
                case measure => omega
                case rel => exact ⟨i + 1, by omega, by omega, by go_num, (show ClB _ _ _ _ _ _ _ _ from HIN.out)⟩
            · have hliz : ¬ (i : Int) < (N : Int) := by omega
              obtain rfl : N = i := by omega
              have HE9 := Lib.hid (HNT.out rfl)
              clear hb ho hb1 hX s0
              go_wp2
              go_roundg (N - (k + 1))
              case measure => omega
              case rel => exact ⟨k + 1, by omega, by omega, by go_num, (show ClB _ _ _ _ _ _ _ _ from by rw [HE9.out]; exact HI4.out)⟩
        · have hlkz : ¬ (k : Int) < (N : Int) := by omega
          obtain rfl : N = k := by omega
          have r0 := cellOf HBB.out 0
          have fr0 := freeOf HBB.out 0
          simp only [List.getElem?_toArray, List.getElem?_cons_zero] at r0
          clear hb ho hb1 hX
          go_wp2
          have z0 := cellOf (heap_setCell_same (o := 0) (u := .slice va N vc) HBB.out) 0
          simp only [Array.setIfInBounds, List.size_toArray, List.length_cons, List.length_nil, Nat.zero_lt_succ] at z0
          refine bodyPost_ret (v := .agg #[.slice va N vc]) (by simp [results, Try.results47, go_sem, z0]) rfl ?_
          have hE : closeM M = closeTo M N := by unfold closeM; rw [HL.out]
          rw [hE]
          exact ⟨_, rfl, ⟨_, (HO.out.mono (by omega)).stO HBB.out (by decide) (by decide) _⟩, HBD.out.closeT N, HX.out.st (by show w.heap.size ≤ w.heap.size + 1; omega) _⟩

end Go.Proofs.Ytodkcfebcjgahaa
