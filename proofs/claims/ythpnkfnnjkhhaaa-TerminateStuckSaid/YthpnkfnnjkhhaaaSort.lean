/-
  The library's IsSorted on numbers, and Clone.
-/
import Derived.Test.YthpnkfnnjkhhaaaBase
import Derived.Test.YthpnkfnnjkhhaaaProg
import Derived.BigQuiet
import Derived.Deep.QuietTactic
import Derived.Deep.LoopGhost
import Derived.Shelf.Abstract
import Derived.Test.YthpnkfnnjkhhaaaRow
import Derived.Test.YthpnkfnnjkhhaaaLawGarbL
namespace Go.Proofs.Ythpnkfnnjkhhaaa
open Go.RowKit
set_option linter.unusedVariables false

set_option maxHeartbeats 400000 in
theorem isNaN_int (x : Int) (w : World) : Calls Try.prog 53 #[.int .i64 x] w fun e w' => e = .returned (.bool false) ∧ w = w' := by
  have h : (x != x) = false := by simp
  go_enter Try.func53, Try.ntmps53
  go_wp2
  go_ret
  exact ⟨rfl, rfl⟩

theorem enters_53 : ∀ args w, (callFunc 53 args).run Try.prog w = .ok (.enter 53 args) w := enters_of Try.func53 (by kernel_rfl) rfl

set_option maxHeartbeats 400000 in
theorem less_int (x y : Int) (w : World) : Calls Try.prog 36 #[.int .i64 x, .int .i64 y] w fun e w' => e = .returned (.bool (decide (x < y))) ∧ w' = w := by
  go_enter Try.func36, Try.ntmps36
  go_wp2_with (go_at_call 53; refine (isNaN_int _ _).mono ?_; rintro e w' ⟨rfl, rfl⟩)
  go_ret
  exact ⟨rfl, rfl⟩

theorem enters_36 : ∀ args w, (callFunc 36 args).run Try.prog w = .ok (.enter 36 args) w := enters_of Try.func36 (by kernel_rfl) rfl

set_option maxHeartbeats 400000 in
theorem isSorted_int (v : Value) (l : List Int) (w : World) (hv : Ints w v l) (hn : l.length ≤ 1000000) :
    Calls Try.prog 9 #[v] w fun e w' => e = .returned (.bool (upB l)) ∧ Ext w w' := by
  obtain ⟨a, c, rfl, hlc, hv⟩ := hv
  have HLC := Lib.hid hlc; clear hlc
  have HV := Lib.hid hv; clear hv
  generalize hln : l.length = n at hn
  have HL := Lib.hid hln; clear hln
  go_enter Try.func9, Try.ntmps9
  go_wp2
  go_loopg [3] n (fun g s3 wr => ∃ i : Int, -1 ≤ i ∧ i < (n : Int) ∧ i ≤ (g : Int) ∧ s3 = .int .i64 i ∧ Ext w wr ∧ Aside (∀ k : Nat, i ≤ (k : Int) → k + 1 < n → l[k]! ≤ l[k + 1]!))
  case atStart => exact ⟨(n : Int) - 1, by omega, by omega, by omega, rfl, Ext.rf _, (fun k h1 h2 => by omega)⟩
  case round =>
    obtain ⟨i, hi, hin, hg, rfl, he, A⟩ := hrel
    have HE := Lib.hid he; clear he
    by_cases hlt : 0 < i
    · obtain ⟨k, rfl⟩ : ∃ k : Nat, i = (k : Int) + 1 := ⟨(i - 1).toNat, by omega⟩
      obtain ⟨b, off, rfl, hb, hc⟩ := HV.out (by intro e; have := HL.out; simp [e] at this; omega)
      have hcell : wr.cell? ⟨b, off + k, none⟩ = some (.int .i64 l[k]!) := HE.out.cl (hc k (by rw [HL.out]; omega))
      have hcell2 : wr.cell? ⟨b, off + (k + 1), none⟩ = some (.int .i64 l[k + 1]!) := HE.out.cl (hc (k + 1) (by rw [HL.out]; omega))
      clear hc HV
      generalize hy : l[k]! = y at hcell
      generalize hz : l[k + 1]! = z at hcell2
      have B := Lib.hid hy
      have C := Lib.hid hz
      clear hy hz
      have e1 : ((k : Int) + 1).toNat = k + 1 := by omega
      have e2 : ((k : Int) + 1 - 1).toNat = k := by omega
      have e3 : (k : Int) + 1 - 1 = (k : Int) := by omega
      have hk1 : (0 : Int) ≤ (k : Int) + 1 := by omega
      have hk2 : (k : Int) + 1 < (n : Int) := by omega
      by_cases hq : z < y
      · have HQ := Lib.hid hq
        go_wp2
        go_quiet ((go_at_call 36; exact Calls.quiet_of_same (less_int _ _ _)))
        go_wp2
        go_ret
        exact ⟨by rw [upB_no l k (by rw [HL.out]; omega) (by rw [B.out, C.out]; exact HQ.out)]; rfl, HE.out.drN _⟩
      · have HQ := Lib.hid hq
        go_wp2
        go_quiet ((go_at_call 36; exact Calls.quiet_of_same (less_int _ _ _)))
        go_wp2
        go_roundg k
        case measure => omega
        case rel =>
          refine ⟨k, by omega, by omega, by omega, by go_num, HE.out.drN _, (show Aside _ from fun j h1 h2 => ?_)⟩
          by_cases e : j = k
          · subst e
            rw [B.out, C.out]; have := HQ.out; omega
          · exact A.out j (by omega) h2
    · go_wp2
      go_ret
      exact ⟨by rw [upB_yes l (fun k hk => A.out k (by omega) (by rw [HL.out] at hk; exact hk))]; rfl, HE.out⟩

theorem info_int : (Try.prog.info? 3).map (fun i => (i.zero, i.size, i.bytes)) = some (some (.int .i64 0), 1, 8) := by kernel_rfl

set_option maxHeartbeats 400000 in
theorem clone_int (v : Value) (n : Nat) (xs : List Value) (w : World) (hv : CellsAt w v 1 n xs) (h1 : ∀ u ∈ xs, u.oneCell' = true) (hn : n ≤ 1000000) :
    Calls Try.prog 35 #[v] w fun e w' => ∃ v', e = .returned v' ∧ Row w' w.heap.size 3 1 v' n xs ∧ Ext w w' := by
  obtain ⟨i0, hi, hz0, hz1, hz2⟩ := info_parts info_int
  obtain ⟨hl, a, c, rfl, hlc, hv⟩ := hv
  have HLC := Lib.hid hlc; clear hlc
  cases a with
  | none =>
    have hn0 : n = 0 := by
      rcases Nat.eq_zero_or_pos n with h | h
      · exact h
      · obtain ⟨_, _, h, _⟩ := hv h; simp at h
    subst hn0
    obtain rfl : xs = [] := List.eq_nil_of_length_eq_zero (by omega)
    clear hv h1 hn hl
    have heq := fun wx => Lib.run_eql_slice_nil (P := Try.prog) wx 23 3 none 0 c 0 0 Try.underlying23
    go_enter Try.func35, Try.ntmps35
    go_wp2
    go_ret
    exact ⟨_, rfl, Row.mkNil _ _ _ _, Ext.rf _⟩
  | some ad =>
    have heq := fun wx => Lib.run_eql_slice_nil (P := Try.prog) wx 23 3 (some ad) n c 0 0 Try.underlying23
    have HV := Lib.hid hv; clear hv
    have H1 := Lib.hid h1; clear h1
    have HL := Lib.hid hl; clear hl
    have hrow : Row (w.alloc (.cells #[] 3)) w.heap.size 3 1 (.slice (some ⟨w.heap.size, 0, none⟩) 0 0) 0 [] :=
      ⟨by simp, .inr ⟨w.heap.size, 0, 0, #[], rfl, Nat.le_refl _, heap_alloc_new w _, Nat.le_refl _, Nat.zero_le _, by simp, by simp⟩⟩
    have HR := Lib.hid hrow; clear hrow
    have hcs : 0 < n → ∃ ad', some ad = some ad' ∧ ∀ j u, xs[j]? = some u → (w.alloc (.cells #[] 3)).cell? (ad'.add j) = some u := by
      intro hp
      obtain ⟨b, off, hab, hb, hc⟩ := HV.out hp
      refine ⟨ad, rfl, fun j u hj => ?_⟩
      simp only [Option.some.injEq] at hab
      subst hab
      have hjl : j < n * 1 := by have := (List.getElem?_eq_some_iff.1 hj).1; rw [HL.out] at this; exact this
      rw [Addr.add_lit]
      exact ((Ext.rf w).al _).cl ((hc j hjl).trans hj)
    have HC := Lib.hid hcs; clear hcs
    go_enter Try.func35, Try.ntmps35
    go_wp2_with ((at_builtin; refine wpList_append_row rfl _ _ 23 rfl w.heap.size 3 i0 (.int .i64 0) 1 8 Try.underlying23 hi hz0 hz1 hz2 rfl (by decide) _ 0 [] rfl HR.out _ n c xs rfl HL.out HC.out H1.out (by unfold maxLen; omega) (by omega) (by simp) ?_; intro v' w1 hown1 hgrow1 hblk))
    go_ret
    exact ⟨_, rfl, by simpa using hown1, ((Ext.rf w).al _).gr hgrow1 (fun k hk => by have e : some w.heap.size = some k := hk; simp at e; omega)⟩

theorem info_pair : (Try.prog.info? 24).map (fun i => (i.zero, i.size, i.bytes)) = some (some (.agg #[.int .i64 0, .int .i64 0]), 2, 16) := by kernel_rfl

set_option maxHeartbeats 400000 in
theorem clone_pair (v : Value) (n : Nat) (xs : List Value) (w : World) (hv : CellsAt w v 2 n xs) (h1 : ∀ u ∈ xs, u.oneCell' = true) (hn : n ≤ 1000000) :
    Calls Try.prog 16 #[v] w fun e w' => ∃ v', e = .returned v' ∧ Row w' w.heap.size 24 2 v' n xs ∧ Ext w w' := by
  obtain ⟨i0, hi, hz0, hz1, hz2⟩ := info_parts info_pair
  obtain ⟨hl, a, c, rfl, hlc, hv⟩ := hv
  have HLC := Lib.hid hlc; clear hlc
  cases a with
  | none =>
    have hn0 : n = 0 := by
      rcases Nat.eq_zero_or_pos n with h | h
      · exact h
      · obtain ⟨_, _, h, _⟩ := hv h; simp at h
    subst hn0
    obtain rfl : xs = [] := List.eq_nil_of_length_eq_zero (by omega)
    clear hv h1 hn hl
    have heq := fun wx => Lib.run_eql_slice_nil (P := Try.prog) wx 22 24 none 0 c 0 0 Try.underlying22
    go_enter Try.func16, Try.ntmps16
    go_wp2
    go_ret
    exact ⟨_, rfl, Row.mkNil _ _ _ _, Ext.rf _⟩
  | some ad =>
    have heq := fun wx => Lib.run_eql_slice_nil (P := Try.prog) wx 22 24 (some ad) n c 0 0 Try.underlying22
    have HV := Lib.hid hv; clear hv
    have H1 := Lib.hid h1; clear h1
    have HL := Lib.hid hl; clear hl
    have hrow : Row (w.alloc (.cells #[] 24)) w.heap.size 24 2 (.slice (some ⟨w.heap.size, 0, none⟩) 0 0) 0 [] :=
      ⟨by simp, .inr ⟨w.heap.size, 0, 0, #[], rfl, Nat.le_refl _, heap_alloc_new w _, Nat.le_refl _, Nat.zero_le _, by simp, by simp⟩⟩
    have HR := Lib.hid hrow; clear hrow
    have hcs : 0 < n → ∃ ad', some ad = some ad' ∧ ∀ j u, xs[j]? = some u → (w.alloc (.cells #[] 24)).cell? (ad'.add j) = some u := by
      intro hp
      obtain ⟨b, off, hab, hb, hc⟩ := HV.out hp
      refine ⟨ad, rfl, fun j u hj => ?_⟩
      simp only [Option.some.injEq] at hab
      subst hab
      have hjl : j < n * 2 := by have := (List.getElem?_eq_some_iff.1 hj).1; rw [HL.out] at this; exact this
      rw [Addr.add_lit]
      exact ((Ext.rf w).al _).cl ((hc j hjl).trans hj)
    have HC := Lib.hid hcs; clear hcs
    go_enter Try.func16, Try.ntmps16
    go_wp2_with ((at_builtin; refine wpList_append_row rfl _ _ 22 rfl w.heap.size 24 i0 (.agg #[.int .i64 0, .int .i64 0]) 2 16 Try.underlying22 hi hz0 hz1 hz2 rfl (by decide) _ 0 [] rfl HR.out _ n c xs rfl HL.out HC.out H1.out (by unfold maxLen; omega) (by omega) (by simp) ?_; intro v' w1 hown1 hgrow1 hblk))
    go_ret
    exact ⟨_, rfl, by simpa using hown1, ((Ext.rf w).al _).gr hgrow1 (fun k hk => by have e : some w.heap.size = some k := hk; simp at e; omega)⟩

theorem info_wait : (Try.prog.info? 40).map (fun i => (i.zero, i.size, i.bytes)) = some (some (.agg #[.int .i64 0, .int .i64 0, .slice none 0 0]), 3, 40) := by kernel_rfl

set_option maxHeartbeats 400000 in
theorem clone_wait (v : Value) (n : Nat) (xs : List Value) (w : World) (hv : CellsAt w v 3 n xs) (h1 : ∀ u ∈ xs, u.oneCell' = true) (hn : n ≤ 1000000) :
    Calls Try.prog 24 #[v] w fun e w' => ∃ v', e = .returned v' ∧ Row w' w.heap.size 40 3 v' n xs ∧ Ext w w' := by
  obtain ⟨i0, hi, hz0, hz1, hz2⟩ := info_parts info_wait
  obtain ⟨hl, a, c, rfl, hlc, hv⟩ := hv
  have HLC := Lib.hid hlc; clear hlc
  cases a with
  | none =>
    have hn0 : n = 0 := by
      rcases Nat.eq_zero_or_pos n with h | h
      · exact h
      · obtain ⟨_, _, h, _⟩ := hv h; simp at h
    subst hn0
    obtain rfl : xs = [] := List.eq_nil_of_length_eq_zero (by omega)
    clear hv h1 hn hl
    have heq := fun wx => Lib.run_eql_slice_nil (P := Try.prog) wx 38 40 none 0 c 0 0 Try.underlying38
    go_enter Try.func24, Try.ntmps24
    go_wp2
    go_ret
    exact ⟨_, rfl, Row.mkNil _ _ _ _, Ext.rf _⟩
  | some ad =>
    have heq := fun wx => Lib.run_eql_slice_nil (P := Try.prog) wx 38 40 (some ad) n c 0 0 Try.underlying38
    have HV := Lib.hid hv; clear hv
    have H1 := Lib.hid h1; clear h1
    have HL := Lib.hid hl; clear hl
    have hrow : Row (w.alloc (.cells #[] 40)) w.heap.size 40 3 (.slice (some ⟨w.heap.size, 0, none⟩) 0 0) 0 [] :=
      ⟨by simp, .inr ⟨w.heap.size, 0, 0, #[], rfl, Nat.le_refl _, heap_alloc_new w _, Nat.le_refl _, Nat.zero_le _, by simp, by simp⟩⟩
    have HR := Lib.hid hrow; clear hrow
    have hcs : 0 < n → ∃ ad', some ad = some ad' ∧ ∀ j u, xs[j]? = some u → (w.alloc (.cells #[] 40)).cell? (ad'.add j) = some u := by
      intro hp
      obtain ⟨b, off, hab, hb, hc⟩ := HV.out hp
      refine ⟨ad, rfl, fun j u hj => ?_⟩
      simp only [Option.some.injEq] at hab
      subst hab
      have hjl : j < n * 3 := by have := (List.getElem?_eq_some_iff.1 hj).1; rw [HL.out] at this; exact this
      rw [Addr.add_lit]
      exact ((Ext.rf w).al _).cl ((hc j hjl).trans hj)
    have HC := Lib.hid hcs; clear hcs
    go_enter Try.func24, Try.ntmps24
    go_wp2_with ((at_builtin; refine wpList_append_row rfl _ _ 38 rfl w.heap.size 40 i0 (.agg #[.int .i64 0, .int .i64 0, .slice none 0 0]) 3 40 Try.underlying38 hi hz0 hz1 hz2 rfl (by decide) _ 0 [] rfl HR.out _ n c xs rfl HL.out HC.out H1.out (by unfold maxLen; omega) (by omega) (by simp) ?_; intro v' w1 hown1 hgrow1 hblk))
    go_ret
    exact ⟨_, rfl, by simpa using hown1, ((Ext.rf w).al _).gr hgrow1 (fun k hk => by have e : some w.heap.size = some k := hk; simp at e; omega)⟩

end Go.Proofs.Ythpnkfnnjkhhaaa
