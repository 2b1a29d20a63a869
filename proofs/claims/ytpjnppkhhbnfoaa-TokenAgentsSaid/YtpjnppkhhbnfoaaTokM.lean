/-
  New of both texts.
-/
import Derived.Test.YtpjnppkhhbnfoaaBase
import Derived.Test.YtpjnppkhhbnfoaaProg
import Derived.BigQuiet
import Derived.Deep.QuietTactic
import Derived.Deep.LoopGhost
import Derived.Shelf.Abstract
import Derived.Test.YtpjnppkhhbnfoaaTokK
import Derived.Deep.OwnRows
import Derived.Laws.OwnMore
import Derived.RegionTactic
import Derived.ChangeAlike
import Derived.BigRegion
namespace Go.Proofs.Ytpjnppkhhbnfoaa
open Go.RowKit
set_option linter.unusedVariables false

/-- A token's lists, of the call's own. -/
def OwnBa (w : World) (base : Nat) (vc vg : Value) (b : Ba) : Prop := Row w base 3 1 vc b.cut.length (b.cut.map (Value.int .i64)) ∧ Row w base 4 1 vg b.good.length (b.good.map Value.bool)
theorem OwnBa.ext {w w' : World} {base : Nat} {vc vg : Value} {b : Ba} (h : OwnBa w base vc vg b) (x : Ext w w') : OwnBa w' base vc vg b := ⟨h.1.ext x, h.2.ext x⟩
theorem OwnBa.mono {w : World} {base base' : Nat} {vc vg : Value} {b : Ba} (h : OwnBa w base vc vg b) (x : base' ≤ base) : OwnBa w base' vc vg b := ⟨h.1.mono x, h.2.mono x⟩
def newB (n : Nat) : Ba := ⟨0, List.replicate n 0, List.replicate n false, 0⟩
def newA (n : Nat) : List Ag := List.replicate n ⟨[], 0, false⟩
def NewT (w w' : World) (e : Ending) (b : Ba) (l : List Ag) : Prop := ∃ vc vg va, e = .returned (.tuple #[.agg #[.int .i64 b.at_, vc, vg, .int .i64 b.state], va, .int .i64 0]) ∧ OwnBa w' w.heap.size vc vg b ∧ OwnA w' w.heap.size va l ∧ Ext w w'
def NewTR (w w' : World) (e : Ending) (b : Ba) (l : List Ag) : Prop := ∃ vc vg va, e = .returned (.tuple #[.agg #[.int .i64 b.at_, vc, vg, .int .i64 b.state], va]) ∧ OwnBa w' w.heap.size vc vg b ∧ OwnA w' w.heap.size va l ∧ Ext w w'

theorem made_list (z : Value) (n : Nat) : madeCells #[z] n = (List.replicate n z).toArray := by
  rw [← toList_madeCells_one]
theorem rep_at {α : Type} [Inhabited α] (x : α) (n i : Nat) (hi : i < n) : (List.replicate n x)[i]! = x := by
  rw [getElem!_pos _ i (by simpa using hi), List.getElem_replicate]
theorem made_row {W : World} {base b n : Nat} {t : TypeId} {z : Value} (hb : W.heap[b]? = some (.cells (madeCells #[z] n) t)) (hbase : base ≤ b) (hn : n ≤ 1000000) : Row W base t 1 (.slice (some ⟨b, 0, none⟩) n n) n (List.replicate n z) := by
  rw [made_list] at hb
  refine ⟨by simp, .inr ⟨b, 0, n, (List.replicate n z).toArray, rfl, hbase, hb, Nat.le_refl _, by unfold maxLen; omega, by simp, ?_⟩⟩
  simp
theorem made_agents {W : World} {base b n : Nat} (hb : W.heap[b]? = some (.cells (madeCells (Value.agg #[.slice none 0 0, .int .i64 0, .bool false]).cells (n * 3)) 49)) (hbase : base ≤ b) (hn : n ≤ 1000000) : OwnA W base (.slice (some ⟨b, 0, none⟩) n n) (newA n) := by
  have hc : (Value.agg #[.slice none 0 0, .int .i64 0, .bool false]).cells = #[.slice none 0 0, .int .i64 0, .bool false] := by rfl
  rw [hc] at hb
  have hln : (newA n).length = n := by simp [newA]
  refine ⟨(madeCells #[.slice none 0 0, .int .i64 0, .bool false] (n * 3)).toList, List.replicate n (.slice none 0 0), ?_, ⟨by simp [size_madeCells, newA], by simp [newA], fun p hp => ?_⟩, by simp [queuesOf, newA], fun p hp => ?_, fun p q hp _ _ => .inl ?_⟩
  · rw [hln]
    refine ⟨by simp [size_madeCells], .inr ⟨b, 0, n, _, rfl, hbase, hb, Nat.le_refl _, by unfold maxLen; omega, by simp [size_madeCells], ?_⟩⟩
    rw [List.drop_zero, List.take_of_length_le (by simp [size_madeCells])]
  · rw [hln] at hp
    have e0 : (newA n)[p]! = ⟨[], 0, false⟩ := rep_at _ _ _ hp
    rw [e0, rep_at _ _ _ hp]
    refine ⟨?_, ?_, ?_⟩
    · have h1 : p * 3 < n * 3 := by omega
      simp [madeCells, h1]
    · have h1 : p * 3 + 1 < n * 3 := by omega
      have h2 : (p * 3 + 1) % 3 = 1 := by omega
      simp [madeCells, h1, h2]
    · have h1 : p * 3 + 2 < n * 3 := by omega
      have h2 : (p * 3 + 2) % 3 = 2 := by omega
      simp [madeCells, h1, h2]
  · rw [queuesOf_len, hln] at hp
    rw [rep_at _ _ _ hp, queuesOf_at _ p (by rw [hln]; exact hp), show (newA n)[p]! = ⟨[], 0, false⟩ from rep_at _ _ _ hp]
    exact RowRows.mkNil _ _ _ _ _
  · rw [queuesOf_len, hln] at hp
    rw [rep_at _ _ _ hp]
    rfl
theorem made_ba {W : World} {base b b2 n : Nat} (hb : W.heap[b]? = some (.cells (madeCells #[.int .i64 0] n) 3)) (hb2 : W.heap[b2]? = some (.cells (madeCells #[.bool false] n) 4)) (h1 : base ≤ b) (h2 : base ≤ b2) (hn : n ≤ 1000000) :
    OwnBa W base (.slice (some ⟨b, 0, none⟩) n n) (.slice (some ⟨b2, 0, none⟩) n n) (newB n) := by
  refine ⟨?_, ?_⟩
  · show Row _ _ _ 1 _ (List.replicate n (0 : Int)).length ((List.replicate n (0 : Int)).map (Value.int .i64))
    rw [List.length_replicate, List.map_replicate]
    exact made_row hb h1 hn
  · show Row _ _ _ 1 _ (List.replicate n false).length ((List.replicate n false).map Value.bool)
    rw [List.length_replicate, List.map_replicate]
    exact made_row hb2 h2 hn

theorem info_b1 : (Try.prog.info? 4).map (fun i => (i.zero, i.size, i.bytes)) = some (some (.bool false), 1, 1) := by kernel_rfl

set_option maxHeartbeats 1000000 in
theorem newTP_bad (n : Int) (w : World) (h : n < 1 ∨ 8 < n) : Calls Try.prog 6 #[.int .i64 n] w fun e w' => e = .returned (.tuple #[.agg #[.int .i64 0, .slice none 0 0, .slice none 0 0, .int .i64 0], .slice none 0 0, .int .i64 2]) ∧ Ext w w' := by
  have key : n < 1 ∨ (¬ n < 1 ∧ 8 < n) := by omega
  rcases key with h1 | ⟨h1, h2⟩
  · go_enter Try.func6, Try.ntmps6
    go_wp2
    exact bodyPost_ret (v := .tuple #[.agg #[.int .i64 0, .slice none 0 0, .slice none 0 0, .int .i64 0], .slice none 0 0, .int .i64 2]) (by simp [results, Try.results6, go_sem]) rfl ⟨rfl, (by repeat (first | refine Ext.st ?_ (by first | exact Nat.le_refl _ | exact Nat.le_succ _ | assumption | omega) _ | refine Ext.al ?_ _ | refine Ext.dr ?_ | refine Ext.drN ?_ _ | exact Ext.rf _))⟩
  · go_enter Try.func6, Try.ntmps6
    go_wp2
    exact bodyPost_ret (v := .tuple #[.agg #[.int .i64 0, .slice none 0 0, .slice none 0 0, .int .i64 0], .slice none 0 0, .int .i64 2]) (by simp [results, Try.results6, go_sem]) rfl ⟨rfl, (by repeat (first | refine Ext.st ?_ (by first | exact Nat.le_refl _ | exact Nat.le_succ _ | assumption | omega) _ | refine Ext.al ?_ _ | refine Ext.dr ?_ | refine Ext.drN ?_ _ | exact Ext.rf _))⟩

set_option maxHeartbeats 4000000 in
theorem newTP_ok (n : Nat) (w : World) (h1 : 1 ≤ n) (h2 : n ≤ 8) : Calls Try.prog 6 #[.int .i64 n] w fun e w' => NewT w w' e (newB n) (newA n) := by
  have b1 : decide ((n : Int) < 1) = false := by simp; omega
  have b1n : decide (n < 1) = false := by simp; omega
  have b2 : decide (8 < (n : Int)) = false := by simp; omega
  have b2n : decide (8 < n) = false := by simp; omega
  obtain ⟨i3, hi3, jz0, jz1, jz2⟩ := info_parts info_ag
  have hmi := run_make_row' (P := Try.prog) 22 3 (.int .i64 0) 8 Try.underlying22 info_int1 rfl .i64 .i64 n (by omega) (by omega)
  have hmb := run_make_row' (P := Try.prog) 23 4 (.bool false) 1 Try.underlying23 info_b1 rfl .i64 .i64 n (by omega) (by omega)
  have hma := fun w : World => run_make (P := Try.prog) w 26 49 i3 _ Try.underlying26 hi3 jz0 .i64 .i64 n n (by omega) (Int.le_refl _) (by rw [jz2]; omega) (by omega)
  simp only [Int.toNat_natCast, jz1] at hma
  have hx := Lib.hid (heap_alloc_new w (.cells #[.int .i64 0, .slice none 0 0, .slice none 0 0, .int .i64 0] 25))
  have x0 := cellOf hx.out 0
  have x1 := cellOf hx.out 1
  have x2 := cellOf hx.out 2
  have x3 := cellOf hx.out 3
  simp only [List.getElem?_toArray, List.getElem?_cons_zero, List.getElem?_cons_succ] at x0 x1 x2 x3
  have f0 := freeOf hx.out 0
  have f1 := freeOf hx.out 1
  have f2 := freeOf hx.out 2
  have f3 := freeOf hx.out 3
  go_enter Try.func6, Try.ntmps6
  go_wp2
  go_region
  all_goals go_wp2
  · exact bodyPost_ret (v := .tuple #[.agg #[.int .i64 0, .slice (some ⟨w.heap.size + 1, 0, none⟩) n n, .slice (some ⟨w.heap.size + 1 + 1, 0, none⟩) n n, .int .i64 0], .slice (some ⟨w.heap.size + 1 + 1 + 1, 0, none⟩) n n, .int .i64 0]) (by simp [results, Try.results6, go_sem]) rfl ⟨_, _, _, rfl, made_ba (n := n) ((((Ext.rf _).al _).al _).hp (heap_new_eq (by simp))) (((Ext.rf _).al _).hp (heap_new_eq (by simp))) (by omega) (by omega) (by omega), made_agents (n := n) (heap_new_eq (by simp)) (by omega) (by omega), (by repeat (first | refine Ext.st ?_ (by first | exact Nat.le_refl _ | exact Nat.le_succ _ | assumption | omega) _ | refine Ext.al ?_ _ | refine Ext.dr ?_ | refine Ext.drN ?_ _ | exact Ext.rf _))⟩
  · exact bodyPost_ret (v := .tuple #[.agg #[.int .i64 0, .slice (some ⟨w.heap.size + 1, 0, none⟩) n n, .slice (some ⟨w.heap.size + 1 + 1 + 1, 0, none⟩) n n, .int .i64 0], .slice (some ⟨w.heap.size + 1 + 1, 0, none⟩) n n, .int .i64 0]) (by simp [results, Try.results6, go_sem]) rfl ⟨_, _, _, rfl, made_ba (n := n) ((((Ext.rf _).al _).al _).hp (heap_new_eq (by simp))) (heap_new_eq (by simp)) (by omega) (by omega) (by omega), made_agents (n := n) (((Ext.rf _).al _).hp (heap_new_eq (by simp))) (by omega) (by omega), (by repeat (first | refine Ext.st ?_ (by first | exact Nat.le_refl _ | exact Nat.le_succ _ | assumption | omega) _ | refine Ext.al ?_ _ | refine Ext.dr ?_ | refine Ext.drN ?_ _ | exact Ext.rf _))⟩
  · exact bodyPost_ret (v := .tuple #[.agg #[.int .i64 0, .slice (some ⟨w.heap.size + 1 + 1, 0, none⟩) n n, .slice (some ⟨w.heap.size + 1, 0, none⟩) n n, .int .i64 0], .slice (some ⟨w.heap.size + 1 + 1 + 1, 0, none⟩) n n, .int .i64 0]) (by simp [results, Try.results6, go_sem]) rfl ⟨_, _, _, rfl, made_ba (n := n) (((Ext.rf _).al _).hp (heap_new_eq (by simp))) ((((Ext.rf _).al _).al _).hp (heap_new_eq (by simp))) (by omega) (by omega) (by omega), made_agents (n := n) (heap_new_eq (by simp)) (by omega) (by omega), (by repeat (first | refine Ext.st ?_ (by first | exact Nat.le_refl _ | exact Nat.le_succ _ | assumption | omega) _ | refine Ext.al ?_ _ | refine Ext.dr ?_ | refine Ext.drN ?_ _ | exact Ext.rf _))⟩
  · exact bodyPost_ret (v := .tuple #[.agg #[.int .i64 0, .slice (some ⟨w.heap.size + 1 + 1 + 1, 0, none⟩) n n, .slice (some ⟨w.heap.size + 1, 0, none⟩) n n, .int .i64 0], .slice (some ⟨w.heap.size + 1 + 1, 0, none⟩) n n, .int .i64 0]) (by simp [results, Try.results6, go_sem]) rfl ⟨_, _, _, rfl, made_ba (n := n) (heap_new_eq (by simp)) ((((Ext.rf _).al _).al _).hp (heap_new_eq (by simp))) (by omega) (by omega) (by omega), made_agents (n := n) (((Ext.rf _).al _).hp (heap_new_eq (by simp))) (by omega) (by omega), (by repeat (first | refine Ext.st ?_ (by first | exact Nat.le_refl _ | exact Nat.le_succ _ | assumption | omega) _ | refine Ext.al ?_ _ | refine Ext.dr ?_ | refine Ext.drN ?_ _ | exact Ext.rf _))⟩
  · exact bodyPost_ret (v := .tuple #[.agg #[.int .i64 0, .slice (some ⟨w.heap.size + 1 + 1, 0, none⟩) n n, .slice (some ⟨w.heap.size + 1 + 1 + 1, 0, none⟩) n n, .int .i64 0], .slice (some ⟨w.heap.size + 1, 0, none⟩) n n, .int .i64 0]) (by simp [results, Try.results6, go_sem]) rfl ⟨_, _, _, rfl, made_ba (n := n) (((Ext.rf _).al _).hp (heap_new_eq (by simp))) (heap_new_eq (by simp)) (by omega) (by omega) (by omega), made_agents (n := n) ((((Ext.rf _).al _).al _).hp (heap_new_eq (by simp))) (by omega) (by omega), (by repeat (first | refine Ext.st ?_ (by first | exact Nat.le_refl _ | exact Nat.le_succ _ | assumption | omega) _ | refine Ext.al ?_ _ | refine Ext.dr ?_ | refine Ext.drN ?_ _ | exact Ext.rf _))⟩
  · exact bodyPost_ret (v := .tuple #[.agg #[.int .i64 0, .slice (some ⟨w.heap.size + 1 + 1 + 1, 0, none⟩) n n, .slice (some ⟨w.heap.size + 1 + 1, 0, none⟩) n n, .int .i64 0], .slice (some ⟨w.heap.size + 1, 0, none⟩) n n, .int .i64 0]) (by simp [results, Try.results6, go_sem]) rfl ⟨_, _, _, rfl, made_ba (n := n) (heap_new_eq (by simp)) (((Ext.rf _).al _).hp (heap_new_eq (by simp))) (by omega) (by omega) (by omega), made_agents (n := n) ((((Ext.rf _).al _).al _).hp (heap_new_eq (by simp))) (by omega) (by omega), (by repeat (first | refine Ext.st ?_ (by first | exact Nat.le_refl _ | exact Nat.le_succ _ | assumption | omega) _ | refine Ext.al ?_ _ | refine Ext.dr ?_ | refine Ext.drN ?_ _ | exact Ext.rf _))⟩

set_option maxHeartbeats 4000000 in
theorem newTR_ok (n : Nat) (w : World) (h1 : 1 ≤ n) (h2 : n ≤ 8) : Calls Try.prog 8 #[.int .i64 n] w fun e w' => NewTR w w' e (newB n) (newA n) := by
  obtain ⟨i3, hi3, jz0, jz1, jz2⟩ := info_parts info_ag
  have hmi := run_make_row' (P := Try.prog) 22 3 (.int .i64 0) 8 Try.underlying22 info_int1 rfl .i64 .i64 n (by omega) (by omega)
  have hmb := run_make_row' (P := Try.prog) 23 4 (.bool false) 1 Try.underlying23 info_b1 rfl .i64 .i64 n (by omega) (by omega)
  have hma := fun w : World => run_make (P := Try.prog) w 26 49 i3 _ Try.underlying26 hi3 jz0 .i64 .i64 n n (by omega) (Int.le_refl _) (by rw [jz2]; omega) (by omega)
  simp only [Int.toNat_natCast, jz1] at hma
  have hx := Lib.hid (heap_alloc_new w (.cells #[.int .i64 0, .slice none 0 0, .slice none 0 0, .int .i64 0] 25))
  have x0 := cellOf hx.out 0
  have x1 := cellOf hx.out 1
  have x2 := cellOf hx.out 2
  have x3 := cellOf hx.out 3
  simp only [List.getElem?_toArray, List.getElem?_cons_zero, List.getElem?_cons_succ] at x0 x1 x2 x3
  have f0 := freeOf hx.out 0
  have f1 := freeOf hx.out 1
  have f2 := freeOf hx.out 2
  have f3 := freeOf hx.out 3
  go_enter Try.func8, Try.ntmps8
  go_wp2
  go_region
  all_goals go_wp2
  · exact bodyPost_ret (v := .tuple #[.agg #[.int .i64 0, .slice (some ⟨w.heap.size + 1, 0, none⟩) n n, .slice (some ⟨w.heap.size + 1 + 1, 0, none⟩) n n, .int .i64 0], .slice (some ⟨w.heap.size + 1 + 1 + 1, 0, none⟩) n n]) (by simp [results, Try.results8, go_sem]) rfl ⟨_, _, _, rfl, made_ba (n := n) ((((Ext.rf _).al _).al _).hp (heap_new_eq (by simp))) (((Ext.rf _).al _).hp (heap_new_eq (by simp))) (by omega) (by omega) (by omega), made_agents (n := n) (heap_new_eq (by simp)) (by omega) (by omega), (by repeat (first | refine Ext.st ?_ (by first | exact Nat.le_refl _ | exact Nat.le_succ _ | assumption | omega) _ | refine Ext.al ?_ _ | refine Ext.dr ?_ | refine Ext.drN ?_ _ | exact Ext.rf _))⟩
  · exact bodyPost_ret (v := .tuple #[.agg #[.int .i64 0, .slice (some ⟨w.heap.size + 1, 0, none⟩) n n, .slice (some ⟨w.heap.size + 1 + 1 + 1, 0, none⟩) n n, .int .i64 0], .slice (some ⟨w.heap.size + 1 + 1, 0, none⟩) n n]) (by simp [results, Try.results8, go_sem]) rfl ⟨_, _, _, rfl, made_ba (n := n) ((((Ext.rf _).al _).al _).hp (heap_new_eq (by simp))) (heap_new_eq (by simp)) (by omega) (by omega) (by omega), made_agents (n := n) (((Ext.rf _).al _).hp (heap_new_eq (by simp))) (by omega) (by omega), (by repeat (first | refine Ext.st ?_ (by first | exact Nat.le_refl _ | exact Nat.le_succ _ | assumption | omega) _ | refine Ext.al ?_ _ | refine Ext.dr ?_ | refine Ext.drN ?_ _ | exact Ext.rf _))⟩
  · exact bodyPost_ret (v := .tuple #[.agg #[.int .i64 0, .slice (some ⟨w.heap.size + 1 + 1, 0, none⟩) n n, .slice (some ⟨w.heap.size + 1, 0, none⟩) n n, .int .i64 0], .slice (some ⟨w.heap.size + 1 + 1 + 1, 0, none⟩) n n]) (by simp [results, Try.results8, go_sem]) rfl ⟨_, _, _, rfl, made_ba (n := n) (((Ext.rf _).al _).hp (heap_new_eq (by simp))) ((((Ext.rf _).al _).al _).hp (heap_new_eq (by simp))) (by omega) (by omega) (by omega), made_agents (n := n) (heap_new_eq (by simp)) (by omega) (by omega), (by repeat (first | refine Ext.st ?_ (by first | exact Nat.le_refl _ | exact Nat.le_succ _ | assumption | omega) _ | refine Ext.al ?_ _ | refine Ext.dr ?_ | refine Ext.drN ?_ _ | exact Ext.rf _))⟩
  · exact bodyPost_ret (v := .tuple #[.agg #[.int .i64 0, .slice (some ⟨w.heap.size + 1 + 1 + 1, 0, none⟩) n n, .slice (some ⟨w.heap.size + 1, 0, none⟩) n n, .int .i64 0], .slice (some ⟨w.heap.size + 1 + 1, 0, none⟩) n n]) (by simp [results, Try.results8, go_sem]) rfl ⟨_, _, _, rfl, made_ba (n := n) (heap_new_eq (by simp)) ((((Ext.rf _).al _).al _).hp (heap_new_eq (by simp))) (by omega) (by omega) (by omega), made_agents (n := n) (((Ext.rf _).al _).hp (heap_new_eq (by simp))) (by omega) (by omega), (by repeat (first | refine Ext.st ?_ (by first | exact Nat.le_refl _ | exact Nat.le_succ _ | assumption | omega) _ | refine Ext.al ?_ _ | refine Ext.dr ?_ | refine Ext.drN ?_ _ | exact Ext.rf _))⟩
  · exact bodyPost_ret (v := .tuple #[.agg #[.int .i64 0, .slice (some ⟨w.heap.size + 1 + 1, 0, none⟩) n n, .slice (some ⟨w.heap.size + 1 + 1 + 1, 0, none⟩) n n, .int .i64 0], .slice (some ⟨w.heap.size + 1, 0, none⟩) n n]) (by simp [results, Try.results8, go_sem]) rfl ⟨_, _, _, rfl, made_ba (n := n) (((Ext.rf _).al _).hp (heap_new_eq (by simp))) (heap_new_eq (by simp)) (by omega) (by omega) (by omega), made_agents (n := n) ((((Ext.rf _).al _).al _).hp (heap_new_eq (by simp))) (by omega) (by omega), (by repeat (first | refine Ext.st ?_ (by first | exact Nat.le_refl _ | exact Nat.le_succ _ | assumption | omega) _ | refine Ext.al ?_ _ | refine Ext.dr ?_ | refine Ext.drN ?_ _ | exact Ext.rf _))⟩
  · exact bodyPost_ret (v := .tuple #[.agg #[.int .i64 0, .slice (some ⟨w.heap.size + 1 + 1 + 1, 0, none⟩) n n, .slice (some ⟨w.heap.size + 1 + 1, 0, none⟩) n n, .int .i64 0], .slice (some ⟨w.heap.size + 1, 0, none⟩) n n]) (by simp [results, Try.results8, go_sem]) rfl ⟨_, _, _, rfl, made_ba (n := n) (heap_new_eq (by simp)) (((Ext.rf _).al _).hp (heap_new_eq (by simp))) (by omega) (by omega) (by omega), made_agents (n := n) ((((Ext.rf _).al _).al _).hp (heap_new_eq (by simp))) (by omega) (by omega), (by repeat (first | refine Ext.st ?_ (by first | exact Nat.le_refl _ | exact Nat.le_succ _ | assumption | omega) _ | refine Ext.al ?_ _ | refine Ext.dr ?_ | refine Ext.drN ?_ _ | exact Ext.rf _))⟩

end Go.Proofs.Ytpjnppkhhbnfoaa
