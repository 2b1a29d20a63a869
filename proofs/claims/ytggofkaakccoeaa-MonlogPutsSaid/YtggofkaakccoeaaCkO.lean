/-
  New of both texts.
-/
import Derived.Test.YtggofkaakccoeaaBase
import Derived.Test.YtggofkaakccoeaaProg
import Derived.BigQuiet
import Derived.Deep.QuietTactic
import Derived.Deep.LoopGhost
import Derived.Shelf.Abstract
import Derived.Test.YtggofkaakccoeaaCkH
import Derived.Test.YtggofkaakccoeaaBoxG
import Derived.Deep.OwnRows
import Derived.Laws.OwnMore
import Derived.RegionTactic
import Derived.ChangeAlike
import Derived.BigRegion
namespace Go.Proofs.Ytggofkaakccoeaa
open Go.RowKit
set_option linter.unusedVariables false

def newC (n : Nat) : Ck := ⟨List.replicate n [], List.replicate n false, false, []⟩
/-- A checker and an error of 0, handed back. -/
def NewOut (w w' : World) (e : Ending) (s : Ck) : Prop := ∃ vq ve vc, e = .returned (.tuple #[.agg #[vq, ve, .bool s.done, vc], .int .i64 0]) ∧ OwnCk w' w.heap.size vq ve vc s ∧ Ext w w'
def NewOutR (w w' : World) (e : Ending) (s : Ck) : Prop := ∃ vq ve vc, e = .returned (.agg #[vq, ve, .bool s.done, vc]) ∧ OwnCk w' w.heap.size vq ve vc s ∧ Ext w w'

theorem made_list (z : Value) (n : Nat) : madeCells #[z] n = (List.replicate n z).toArray := by
  rw [← toList_madeCells_one]
theorem rep_at {α : Type} [Inhabited α] (x : α) (n i : Nat) (hi : i < n) : (List.replicate n x)[i]! = x := by
  rw [getElem!_pos _ i (by simpa using hi), List.getElem_replicate]
/-- A row just made. -/
theorem made_row {W : World} {base b n : Nat} {t : TypeId} {z : Value} (hb : W.heap[b]? = some (.cells (madeCells #[z] n) t)) (hbase : base ≤ b) (hn : n ≤ 1000000) : Row W base t 1 (.slice (some ⟨b, 0, none⟩) n n) n (List.replicate n z) := by
  rw [made_list] at hb
  refine ⟨by simp, .inr ⟨b, 0, n, (List.replicate n z).toArray, rfl, hbase, hb, Nat.le_refl _, by unfold maxLen; omega, by simp, ?_⟩⟩
  simp
theorem made_qs {W : World} {base b n : Nat} (hb : W.heap[b]? = some (.cells (madeCells #[.slice none 0 0] n) 109)) (hbase : base ≤ b) (hn : n ≤ 1000000) : OwnQs W base 109 38 3 (.slice (some ⟨b, 0, none⟩) n n) (List.replicate n []) := by
  refine ⟨List.replicate n (.slice none 0 0), by rw [List.length_replicate]; exact made_row hb hbase hn, by simp, fun p hp => ?_, fun p q hp _ _ => .inl ?_⟩
  · rw [List.length_replicate] at hp
    rw [rep_at _ _ _ hp, rep_at _ _ _ hp]
    exact RowRows.mkNil _ _ _ _ _
  · rw [List.length_replicate] at hp
    rw [rep_at _ _ _ hp]
    rfl
theorem made_ck {W : World} {base b b2 n : Nat} (hb : W.heap[b]? = some (.cells (madeCells #[.slice none 0 0] n) 109)) (hb2 : W.heap[b2]? = some (.cells (madeCells #[.bool false] n) 4)) (h1 : base ≤ b) (h2 : base ≤ b2) (hn : n ≤ 1000000) :
    OwnCk W base (.slice (some ⟨b, 0, none⟩) n n) (.slice (some ⟨b2, 0, none⟩) n n) (.slice none 0 0) (newC n) := by
  refine ⟨made_qs hb h1 hn, ?_, Row.mkNil _ _ _ _⟩
  show Row _ _ _ 1 _ (List.replicate n false).length ((List.replicate n false).map Value.bool)
  rw [List.length_replicate, List.map_replicate]
  exact made_row hb2 h2 hn
theorem info_q2 : (Try.prog.info? 109).map (fun i => (i.zero, i.size, i.bytes)) = some (some (.slice none 0 0), 1, 24) := by kernel_rfl
theorem info_b2 : (Try.prog.info? 4).map (fun i => (i.zero, i.size, i.bytes)) = some (some (.bool false), 1, 1) := by kernel_rfl

set_option maxHeartbeats 1000000 in
theorem newP_bad (n : Int) (w : World) (h : n < 1 ∨ 8 < n) : Calls Try.prog 56 #[.int .i64 n] w fun e w' => e = .returned (.tuple #[.agg #[.slice none 0 0, .slice none 0 0, .bool false, .slice none 0 0], .int .i64 2]) ∧ Ext w w' := by
  have key : n < 1 ∨ (¬ n < 1 ∧ 8 < n) := by omega
  rcases key with h1 | ⟨h1, h2⟩
  · go_enter Try.func56, Try.ntmps56
    go_wp2
    exact bodyPost_ret (v := .tuple #[.agg #[.slice none 0 0, .slice none 0 0, .bool false, .slice none 0 0], .int .i64 2]) (by simp [results, Try.results56, go_sem]) rfl ⟨rfl, (by repeat (first | refine Ext.st ?_ (by first | exact Nat.le_refl _ | exact Nat.le_succ _ | assumption | omega) _ | refine Ext.al ?_ _ | refine Ext.dr ?_ | refine Ext.drN ?_ _ | exact Ext.rf _))⟩
  · go_enter Try.func56, Try.ntmps56
    go_wp2
    exact bodyPost_ret (v := .tuple #[.agg #[.slice none 0 0, .slice none 0 0, .bool false, .slice none 0 0], .int .i64 2]) (by simp [results, Try.results56, go_sem]) rfl ⟨rfl, (by repeat (first | refine Ext.st ?_ (by first | exact Nat.le_refl _ | exact Nat.le_succ _ | assumption | omega) _ | refine Ext.al ?_ _ | refine Ext.dr ?_ | refine Ext.drN ?_ _ | exact Ext.rf _))⟩

set_option maxHeartbeats 2000000 in
theorem newP_ok (n : Nat) (w : World) (h1 : 1 ≤ n) (h2 : n ≤ 8) : Calls Try.prog 56 #[.int .i64 n] w fun e w' => NewOut w w' e (newC n) := by
  have b1 : decide ((n : Int) < 1) = false := by simp; omega
  have b1n : decide (n < 1) = false := by simp; omega
  have b2 : decide (8 < (n : Int)) = false := by simp; omega
  have b2n : decide (8 < n) = false := by simp; omega
  have hmq := run_make_row' (P := Try.prog) 59 109 (.slice none 0 0) 24 Try.underlying59 info_q2 rfl .i64 .i64 n (by omega) (by omega)
  have hmb := run_make_row' (P := Try.prog) 60 4 (.bool false) 1 Try.underlying60 info_b2 rfl .i64 .i64 n (by omega) (by omega)
  have hx := Lib.hid (heap_alloc_new w (ckT (.slice none 0 0) (.slice none 0 0) (.bool false) (.slice none 0 0)))
  have x0 := cellOf hx.out 0
  have x1 := cellOf hx.out 1
  have x2 := cellOf hx.out 2
  have x3 := cellOf hx.out 3
  simp only [List.getElem?_toArray, List.getElem?_cons_zero, List.getElem?_cons_succ] at x0 x1 x2 x3
  have f0 := freeOf hx.out 0
  have f1 := freeOf hx.out 1
  have f2 := freeOf hx.out 2
  have f3 := freeOf hx.out 3
  go_enter Try.func56, Try.ntmps56
  go_wp2
  go_region
  all_goals go_wp2
  · refine bodyPost_ret (v := .tuple #[.agg #[.slice (some ⟨w.heap.size + 1, 0, none⟩) n n, .slice (some ⟨w.heap.size + 1 + 1, 0, none⟩) n n, .bool false, .slice none 0 0], .int .i64 0]) (by simp [results, Try.results56, go_sem]) rfl ⟨_, _, _, rfl, made_ck ?_ ?_ (by omega) (by omega) (by omega), (by repeat (first | refine Ext.st ?_ (by first | exact Nat.le_refl _ | exact Nat.le_succ _ | assumption | omega) _ | refine Ext.al ?_ _ | refine Ext.dr ?_ | refine Ext.drN ?_ _ | exact Ext.rf _))⟩
    · exact ((Ext.rf _).al _).hp (heap_new_eq (by simp))
    · exact heap_new_eq (by simp)
  · refine bodyPost_ret (v := .tuple #[.agg #[.slice (some ⟨w.heap.size + 1 + 1, 0, none⟩) n n, .slice (some ⟨w.heap.size + 1, 0, none⟩) n n, .bool false, .slice none 0 0], .int .i64 0]) (by simp [results, Try.results56, go_sem]) rfl ⟨_, _, _, rfl, made_ck ?_ ?_ (by omega) (by omega) (by omega), (by repeat (first | refine Ext.st ?_ (by first | exact Nat.le_refl _ | exact Nat.le_succ _ | assumption | omega) _ | refine Ext.al ?_ _ | refine Ext.dr ?_ | refine Ext.drN ?_ _ | exact Ext.rf _))⟩
    · exact heap_new_eq (by simp)
    · exact ((Ext.rf _).al _).hp (heap_new_eq (by simp))

set_option maxHeartbeats 2000000 in
theorem newR_ok (n : Nat) (w : World) (h1 : 1 ≤ n) (h2 : n ≤ 8) : Calls Try.prog 61 #[.int .i64 n] w fun e w' => NewOutR w w' e (newC n) := by
  have hmq := run_make_row' (P := Try.prog) 59 109 (.slice none 0 0) 24 Try.underlying59 info_q2 rfl .i64 .i64 n (by omega) (by omega)
  have hmb := run_make_row' (P := Try.prog) 60 4 (.bool false) 1 Try.underlying60 info_b2 rfl .i64 .i64 n (by omega) (by omega)
  have hx := Lib.hid (heap_alloc_new w (ckT (.slice none 0 0) (.slice none 0 0) (.bool false) (.slice none 0 0)))
  have x0 := cellOf hx.out 0
  have x1 := cellOf hx.out 1
  have x2 := cellOf hx.out 2
  have x3 := cellOf hx.out 3
  simp only [List.getElem?_toArray, List.getElem?_cons_zero, List.getElem?_cons_succ] at x0 x1 x2 x3
  have f0 := freeOf hx.out 0
  have f1 := freeOf hx.out 1
  have f2 := freeOf hx.out 2
  have f3 := freeOf hx.out 3
  go_enter Try.func61, Try.ntmps61
  go_wp2
  go_region
  all_goals go_wp2
  · refine bodyPost_ret (v := .agg #[.slice (some ⟨w.heap.size + 1, 0, none⟩) n n, .slice (some ⟨w.heap.size + 1 + 1, 0, none⟩) n n, .bool false, .slice none 0 0]) (by simp [results, Try.results61, go_sem]) rfl ⟨_, _, _, rfl, made_ck ?_ ?_ (by omega) (by omega) (by omega), (by repeat (first | refine Ext.st ?_ (by first | exact Nat.le_refl _ | exact Nat.le_succ _ | assumption | omega) _ | refine Ext.al ?_ _ | refine Ext.dr ?_ | refine Ext.drN ?_ _ | exact Ext.rf _))⟩
    · exact ((Ext.rf _).al _).hp (heap_new_eq (by simp))
    · exact heap_new_eq (by simp)
  · refine bodyPost_ret (v := .agg #[.slice (some ⟨w.heap.size + 1 + 1, 0, none⟩) n n, .slice (some ⟨w.heap.size + 1, 0, none⟩) n n, .bool false, .slice none 0 0]) (by simp [results, Try.results61, go_sem]) rfl ⟨_, _, _, rfl, made_ck ?_ ?_ (by omega) (by omega) (by omega), (by repeat (first | refine Ext.st ?_ (by first | exact Nat.le_refl _ | exact Nat.le_succ _ | assumption | omega) _ | refine Ext.al ?_ _ | refine Ext.dr ?_ | refine Ext.drN ?_ _ | exact Ext.rf _))⟩
    · exact heap_new_eq (by simp)
    · exact ((Ext.rf _).al _).hp (heap_new_eq (by simp))

end Go.Proofs.Ytggofkaakccoeaa
