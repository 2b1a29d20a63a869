/-
  The library's Repeat of one number.
-/
import Derived.Test.YtodkcfebcjgahaaBase
import Derived.Test.YtodkcfebcjgahaaProg
import Derived.BigQuiet
import Derived.Deep.QuietTactic
import Derived.Deep.LoopGhost
import Derived.Shelf.Abstract
import Derived.Test.YtodkcfebcjgahaaBitL
import Derived.Test.YtodkcfebcjgahaaBoxG
import Derived.Test.YtodkcfebcjgahaaRelL
import Derived.Test.YtodkcfebcjgahaaRow
import Derived.Test.YtodkcfebcjgahaaTail
import Derived.Laws.CopyOwn
import Derived.OwnWalk
import Derived.Deep.DeepCutAuto
import Derived.BigRegion
import Derived.Laws.EntriesVeiled
namespace Go.Proofs.Ytodkcfebcjgahaa
open Go.RowKit
set_option linter.unusedVariables false

theorem and_mask {a : Nat} (h : a < 4294967296) : bits .and .u64 (a : Int) 4294967295 = (a : Int) := by
  show IntKind.u64.wrap (((BitVec.ofInt 64 (a : Int)) &&& (BitVec.ofInt 64 ((4294967295 : Nat) : Int))).toNat : Int) = _
  rw [BitVec.toNat_and, bv_nat (by omega), bv_nat (by decide)]
  have h2 : a &&& 4294967295 = a := by
    have := Nat.and_two_pow_sub_one_eq_mod a 32
    rw [show (2 : Nat) ^ 32 - 1 = 4294967295 by decide] at this
    rw [this]; exact Nat.mod_eq_of_lt (by simpa using h)
  rw [h2]
  exact u64_wrap_nat (by omega)
set_option maxHeartbeats 2000000 in
theorem mul64_calls (n : Nat) (w : World) (hn : n ≤ 63) :
    Calls Try.prog 61 #[.int .u64 1, .int .u64 n] w fun e w' => e = .returned (.tuple #[.int .u64 0, .int .u64 n]) ∧ w' = w := by
  have h1 : bits .and .u64 1 4294967295 = 1 := by decide
  have h2 : bits .and .u64 (n : Int) 4294967295 = (n : Int) := and_mask (by omega)
  have h3 : (1 : Int) / 4294967296 = 0 := by decide
  have h4 : (n : Int) / 4294967296 = 0 := by omega
  have h5 : IntKind.u64.wrap (n : Int) = (n : Int) := u64_wrap_nat (by omega)
  have h6 : IntKind.u64.wrap 0 = 0 := by decide
  have h7 : bits .and .u64 0 4294967295 = 0 := by decide
  go_enter Try.func61, Try.ntmps61
  go_wp2
  go_ret2
  exact ⟨rfl, rfl⟩
set_option maxHeartbeats 2000000 in
theorem mul_calls (n : Nat) (w : World) (hn : n ≤ 63) :
    Calls Try.prog 57 #[.int .u64 1, .int .u64 n] w fun e w' => e = .returned (.tuple #[.int .u64 0, .int .u64 n]) ∧ w' = w := by
  have HM := Lib.hid (fun W => mul64_calls n W hn)
  go_enter Try.func57, Try.ntmps57
  go_wp2_with fail
  refine (HM.out _).mono ?_
  rintro e w1 ⟨rfl, rfl⟩
  go_wp2
  go_ret2
  exact ⟨rfl, rfl⟩

def fillV (N c : Nat) : List Value := List.replicate c (.int .i64 (-1)) ++ List.replicate (N - c) (.int .i64 0)
theorem fillV_len {N c : Nat} (h : c ≤ N) : (fillV N c).length = N := by simp [fillV]; omega
theorem fillV_splice {N c k : Nat} (h : c + k ≤ N) : splice (fillV N c) c (List.replicate k (.int .i64 (-1))) = fillV N (c + k) := by
  have e1 : (fillV N c).take c = List.replicate c (.int .i64 (-1)) := by
    unfold fillV; rw [List.take_left' (by simp)]
  have e2 : (fillV N c).drop (c + (List.replicate k (Value.int .i64 (-1))).length) = List.replicate (N - (c + k)) (.int .i64 0) := by
    unfold fillV
    rw [List.length_replicate, List.drop_append, List.drop_replicate, List.drop_replicate, List.length_replicate]
    rw [show c - (c + k) = 0 by omega, show N - c - (c + k - c) = N - (c + k) by omega]; rfl
  unfold splice
  rw [e1, e2, ← List.append_assoc, List.replicate_append_replicate]
  rfl
theorem info_int8 : (Try.prog.info? 3).map (·.size) = some 1 := by kernel_rfl
theorem info_int9 : (Try.prog.info? 3).map (fun i => (i.zero, i.size, i.bytes)) = some (some (.int .i64 0), 1, 8) := by kernel_rfl
theorem info_partsI {P : Program} {t : TypeId} {z : Value} {s b : Nat} (h : (P.info? t).map (fun i => (i.zero, i.size, i.bytes)) = some (some z, s, b)) : ∃ i, P.info? t = some i ∧ i.zero = some z ∧ i.size = s ∧ i.bytes = b := by
  cases hq : P.info? t with
  | none => rw [hq] at h; cases h
  | some i =>
    rw [hq] at h
    simp only [Option.map_some, Option.some.injEq, Prod.mk.injEq] at h
    exact ⟨i, rfl, h.1, h.2.1, h.2.2⟩
theorem owns_heap {w : World} {base g n : Nat} {e : TypeId} {xs : List Value} (h : w.ownsRow base e 1 (.slice (some ⟨g, 0, none⟩) n n) n xs) : w.heap[g]? = some (.cells xs.toArray e (0, 0)) := by
  rcases h.2 with ⟨h, _⟩ | ⟨g', cap, cur, e1, _, hg, _, _, hs, ht⟩
  · cases h
  · simp only [Value.slice.injEq, Option.some.injEq, Addr.mk.injEq, and_true, true_and] at e1
    obtain ⟨rfl, rfl⟩ := e1
    rw [hg]
    have : cur.toList = xs := by rw [← ht, List.take_of_length_le (by rw [Array.length_toList]; omega)]
    rw [← this]
set_option maxHeartbeats 4000000 in
set_option maxRecDepth 100000 in
theorem repeat_calls (n b c : Nat) (w : World) (hc : w.heap[b]? = some (.cells #[.int .i64 (-1)] 3)) (h1 : 1 ≤ n) (hn : n ≤ 63) :
    Calls Try.prog 49 #[.slice (some ⟨b, 0, none⟩) 1 c, .int .i64 n] w fun e w' => ∃ v, e = .returned v ∧ Row w' w.heap.size 3 1 v n ((List.replicate n (-1 : Int)).map (Value.int .i64)) ∧ Ext w w' := by
  have HM := Lib.hid (fun W => mul_calls n W hn)
  have HC := Lib.hid hc
  have hbw : b < w.heap.size := (Array.getElem?_eq_some_iff.1 hc).1
  have h5 : IntKind.u64.wrap (n : Int) = (n : Int) := u64_wrap_nat (by omega)
  have h6 : IntKind.u64.wrap 1 = 1 := by decide
  have h7 : IntKind.i64.wrap (n : Int) = (n : Int) := IntWalk.i64_in _ (by omega)
  have h8 : ¬ (n : Int) < 0 := by omega
  have h9 : ¬ (9223372036854775807 : Int) < (n : Int) := by omega
  obtain ⟨ii, hii, iz0, iz1, iz2⟩ := info_partsI info_int9
  clear hc
  have hmin : [Value.int .i64 (-1)].length = Nat.min 1 n := (Nat.min_eq_left h1).symm
  have HFL := Lib.hid (show 0 + [Value.int .i64 (-1)].length ≤ (fillV n 0).length from by rw [fillV_len (Nat.zero_le _)]; simpa using h1)
  have HSRC := Lib.hid (fun (W : World) (hW : W.cell? ⟨b, 0, none⟩ = some (.int .i64 (-1))) (j : Nat) (v : Value) (hj : [Value.int .i64 (-1)][j]? = some v) => (by
    have hj0 : j = 0 := by have := (List.getElem?_eq_some_iff.1 hj).1; simpa using this
    subst hj0
    have hv : v = .int .i64 (-1) := by simpa using hj.symm
    rw [hv, Addr.add_lit]; exact hW : W.cell? (Addr.add ⟨b, 0, none⟩ j) = some v))
  go_enter Try.func49, Try.ntmps49
  go_wp2_with fail
  refine (HM.out _).mono ?_
  rintro e w1 ⟨rfl, rfl⟩
  go_wp2_with (first
    | (at_make; refine wpList_make_full _ rfl _ _ 26 rfl w1.heap.size 3 ii (.int .i64 0) 1 Try.underlying26 hii iz0 iz1 .i64 .i64 _ _ n rfl rfl rfl rfl (by rw [iz2]; omega) (by unfold maxLen; omega) (Nat.le_refl _) ?_; intro w3 hown3 hgrow3
       have HG3 : Hid (w3.heap[w1.heap.size]? = some (.cells (fillV n 0).toArray 3 (0, 0))) := Lib.hid (by
         have h := hown3
         rw [show (Value.int .i64 0).cells = #[.int .i64 0] from rfl, Nat.mul_one, toList_madeCells_one] at h
         have := owns_heap h
         rw [this]; simp [fillV])
       have HX3 := Lib.hid ((Ext.rf w1).gr hgrow3 (by simp))
       have HC3 := Lib.hid (cellOf (HX3.out.hp HC.out) 0)
       clear hown3 hgrow3)
    | (refine wpList_copy_splice rfl _ _ 26 26 rfl 3 Try.underlying26 info_int8 _ _ n n 1 c rfl rfl w1.heap.size 0 (fillV n 0) 3 HG3.out [.int .i64 (-1)] hmin (fun _ => ⟨rfl, _, rfl, HSRC.out _ (by simpa using HC3.out)⟩) HFL.out (by intro v hv; rw [List.mem_singleton.1 hv]; rfl) w1.heap.size w1 HX3.out (Nat.le_refl _) ?_; intro w4 hg4 hb4))
  have HG4 : Hid (w4.heap[w1.heap.size]? = some (.cells (fillV n 1).toArray 3 (0, 0))) := Lib.hid (by
    have h := hg4.out
    have e := fillV_splice (N := n) (c := 0) (k := 1) (by omega)
    rw [Nat.zero_add] at e
    rw [← e]; exact h)
  have HX4 := Lib.hid (show Ext w1 w4 from hb4)
  clear hg4 hb4
  generalize hG : w1.heap.size = G at *
  go_loopg [8] n (fun g s8 wr => ∃ k : Nat, 1 ≤ k ∧ k ≤ n ∧ n - k ≤ g ∧ s8 = .int .i64 k ∧ Aside (wr.heap[G]? = some (.cells (fillV n k).toArray 3 (0, 0))) ∧ Aside (Ext w1 wr))
  case atStart => exact ⟨1, Nat.le_refl _, h1, by omega, by go_num, (show _ = _ from HG4.out), (show Ext _ _ from HX4.out)⟩
  case round =>
    obtain ⟨k, hk1, hk, hg, rfl, HGK, HXK⟩ := hrel
    by_cases hlt : k < n
    · have hltz : (k : Int) < (n : Int) := by omega
      have hkz : (0 : Int) ≤ (k : Int) := by omega
      have hkn : (k : Int) ≤ (n : Int) := by omega
      obtain ⟨d, hd⟩ : ∃ d, min k (n - k) = d := ⟨_, rfl⟩
      have HDL : Hid ((List.replicate d (Value.int .i64 (-1))).length = Nat.min k (n - k)) := Lib.hid (by rw [List.length_replicate]; exact hd.symm)
      have HFT : Hid (k + (List.replicate d (Value.int .i64 (-1))).length ≤ (fillV n k).length) := Lib.hid (by rw [fillV_len hk, List.length_replicate]; omega)
      have HSR := Lib.hid (fun (W : World) (hW : W.heap[G]? = some (.cells (fillV n k).toArray 3 (0, 0))) (j : Nat) (v : Value) (hj : (List.replicate d (Value.int .i64 (-1)))[j]? = some v) => (by
        have hjd : j < d := by have := (List.getElem?_eq_some_iff.1 hj).1; simpa using this
        have hv : v = .int .i64 (-1) := by
          rw [List.getElem?_replicate, if_pos hjd] at hj
          exact (Option.some.inj hj).symm
        rw [hv, Addr.add_lit, cellOf hW (0 + j)]
        simp [fillV, List.getElem?_append_left, List.getElem?_replicate, show j < k by omega] : W.cell? (Addr.add ⟨G, 0, none⟩ j) = some v))
      have HON : Hid (∀ v ∈ List.replicate d (Value.int .i64 (-1)), v.oneCell' = true) := Lib.hid (fun v hv => by rw [(List.mem_replicate.1 hv).2]; rfl)
      have HSP : Hid (splice (fillV n k) k (List.replicate d (.int .i64 (-1))) = fillV n (k + d)) := Lib.hid (fillV_splice (by omega))
      have hdk : 1 ≤ d := by omega
      have HNK : Hid (¬ n = k) := Lib.hid (by omega)
      have hdn : k + d ≤ n := by omega
      clear hd
      go_wp2
      refine wp_region_tail (fun _ => True) 9 (by kernel_rfl) trivial (fun hHeld => ?_)
      have HGT := Lib.hid (show wr.drew.heap[G]? = some (.cells (fillV n k).toArray 3 (0, 0)) from HGK.out)
      have HXT := Lib.hid (show Ext w1 wr.drew from HXK.out.dr)
      generalize wr.drew = wT at *
      refine wpAnyT_take (i := 0) (d := some 38) (v := ?_) rfl rfl (by kernel_rfl) (by kernel_rfl) (by kernel_rfl) (by kernel_rfl) (fun _ _ _ h => h) (Or.inl ⟨by rfl, ?_⟩) (by assumption) ?_
      rotate_left
      · (intro w hSw; (try dsimp only at hSw); go_simp; try (with_reducible rfl))
      try simp only [Act.put]
      try simp only [List.setIfInBounds_toArray]
      try simp only [List.set_cons_zero, List.set_cons_succ]
      refine wpAnyT_take (i := 1) (d := some 39) (v := ?_) rfl rfl (by kernel_rfl) (by kernel_rfl) (by kernel_rfl) (by kernel_rfl) (fun _ _ _ h => h) (Or.inl ⟨by rfl, ?_⟩) (by assumption) ?_
      rotate_left
      · (intro w hSw; (try dsimp only at hSw); go_simp; try (with_reducible rfl))
      try simp only [Act.put]
      try simp only [List.setIfInBounds_toArray]
      try simp only [List.set_cons_zero, List.set_cons_succ]
      refine wpAnyT_take (i := 2) (d := some 40) (v := ?_) rfl rfl (by kernel_rfl) (by kernel_rfl) (by kernel_rfl) (by kernel_rfl) (fun _ _ _ h => h) (Or.inl ⟨by rfl, ?_⟩) (by assumption) ?_
      rotate_left
      · (intro w hSw; (try dsimp only at hSw); go_simp; try (with_reducible rfl))
      try simp only [Act.put]
      try simp only [List.setIfInBounds_toArray]
      try simp only [List.set_cons_zero, List.set_cons_succ]
      refine wpAnyT_take (i := 3) (d := some 41) (v := ?_) rfl rfl (by kernel_rfl) (by kernel_rfl) (by kernel_rfl) (by kernel_rfl) (fun _ _ _ h => h) (Or.inl ⟨by rfl, ?_⟩) (by assumption) ?_
      rotate_left
      · (intro w hSw; (try dsimp only at hSw); go_simp; try (with_reducible rfl))
      try simp only [Act.put]
      try simp only [List.setIfInBounds_toArray]
      try simp only [List.set_cons_zero, List.set_cons_succ]
      refine wpAnyT_take (i := 4) (d := some 42) (v := ?_) rfl rfl (by kernel_rfl) (by kernel_rfl) (by kernel_rfl) (by kernel_rfl) (fun _ _ _ h => h) (Or.inl ⟨by rfl, ?_⟩) (by assumption) ?_
      rotate_left
      · (intro w hSw; (try dsimp only at hSw); go_simp; try (with_reducible rfl))
      try simp only [Act.put]
      try simp only [List.setIfInBounds_toArray]
      try simp only [List.set_cons_zero, List.set_cons_succ]
      refine wpAnyT_take (i := 5) (d := some 43) (v := ?_) rfl rfl (by kernel_rfl) (by kernel_rfl) (by kernel_rfl) (by kernel_rfl) (fun _ _ _ h => h) (Or.inl ⟨by rfl, ?_⟩) (by assumption) ?_
      rotate_left
      · (intro w hSw; (try dsimp only at hSw); go_simp; try (with_reducible rfl))
      try simp only [Act.put]
      try simp only [List.setIfInBounds_toArray]
      try simp only [List.set_cons_zero, List.set_cons_succ]
      refine wpAnyT_take (i := 6) (d := some 44) (v := ?_) rfl rfl (by kernel_rfl) (by kernel_rfl) (by kernel_rfl) (by kernel_rfl) (fun _ _ _ h => h) (Or.inl ⟨by rfl, ?_⟩) (by assumption) ?_
      rotate_left
      · (intro w hSw; (try dsimp only at hSw); go_simp; try (with_reducible rfl))
      try simp only [Act.put]
      try simp only [List.setIfInBounds_toArray]
      try simp only [List.set_cons_zero, List.set_cons_succ]
      refine wpAnyT_step (i := 7) (by kernel_rfl) rfl (fun K hK => ?_)
      refine step_copy_splice rfl (.tmp 41) (.tmp 44) 26 26 rfl 3 Try.underlying26 info_int8 _ (some ⟨G, 0, none⟩) (n - k) (n - k) k n rfl rfl G k (fillV n k) 3 HGT.out (List.replicate d (.int .i64 (-1))) HDL.out (fun _ => ⟨if_neg HNK.out, _, rfl, HSR.out _ HGT.out⟩) HFT.out HON.out w1.heap.size w1 HXT.out (by omega) ?_
      intro w4 hg4 hb4
      have HG4 : Hid (w4.heap[G]? = some (.cells (fillV n (k + d)).toArray 3 (0, 0))) := Lib.hid (by rw [← HSP.out]; exact hg4.out)
      have HX4 := Lib.hid (show Ext w1 w4 from hb4)
      clear hg4 hb4
      rw [List.length_replicate]
      refine hK.out _ _ ?_ (fun hHeld => ?_)
      · (try dsimp only)
        try trivial
      clear hK K
      try simp only [Act.put]
      try simp only [List.setIfInBounds_toArray]
      try simp only [List.set_cons_zero, List.set_cons_succ]
      have hwr : IntKind.i64.wrap ((k : Int) + (d : Int)) = (k : Int) + (d : Int) := IntWalk.i64_in _ (by omega)
      have hgi : goInt d = .int .i64 (d : Int) := rfl
      refine wpAnyT_take (i := 8) (d := some 46) (v := ?_) rfl rfl (by kernel_rfl) (by kernel_rfl) (by kernel_rfl) (by kernel_rfl) (fun _ _ _ h => h) (Or.inl ⟨by rfl, ?_⟩) (by assumption) ?_
      rotate_left
      · (intro w hSw; (try dsimp only at hSw); go_simp; try (with_reducible rfl))
      try simp only [Act.put]
      try simp only [List.setIfInBounds_toArray]
      try simp only [List.set_cons_zero, List.set_cons_succ]
      refine wpAnyT_last (by kernel_rfl) rfl (by kernel_rfl) (fun K hK => ?_)
      go_simp
      refine hK.out _ _ ?_
      go_wp2_with fail
      go_roundg (n - (k + d))
      case measure => omega
      case rel => exact ⟨k + d, by omega, hdn, by omega, by go_num, (show _ = _ from HG4.out), (show Ext _ _ from HX4.out)⟩
    · have hltz : ¬ (k : Int) < (n : Int) := by omega
      obtain rfl : n = k := by omega
      go_wp2
      go_ret
      refine ⟨_, rfl, ?_, HXK.out⟩
      refine ⟨by simp, .inr ⟨G, 0, n, _, rfl, by omega, HGK.out, Nat.le_refl _, by unfold maxLen; omega, by simp [fillV], by simp [fillV]⟩⟩

end Go.Proofs.Ytodkcfebcjgahaa
