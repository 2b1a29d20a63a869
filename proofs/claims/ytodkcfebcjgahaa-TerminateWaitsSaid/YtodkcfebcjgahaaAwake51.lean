/-
  The walk of the examples of the chapter: they are as the chapter says.
-/
import Derived.Test.YtodkcfebcjgahaaBase
import Derived.Test.YtodkcfebcjgahaaProg
import Derived.BigQuiet
import Derived.Deep.QuietTactic
import Derived.Deep.LoopGhost
import Derived.Shelf.Abstract
import Derived.Test.YtodkcfebcjgahaaAwake51L
import Derived.Test.YtodkcfebcjgahaaDead
import Derived.Test.YtodkcfebcjgahaaGarbM
import Derived.Test.YtodkcfebcjgahaaEq
namespace Go.Proofs.Ytodkcfebcjgahaa
open Go.RowKit
set_option linter.unusedVariables false

theorem ex1_laid {W : World} {b1 b2 b : Nat} {t1 t2 t : TypeId} {f1 f2 f : Nat × Nat} (h1 : W.heap[b1]? = some (.cells #[.int .i64 1] t1 f1)) (h2 : W.heap[b2]? = some (.cells #[.int .i64 0] t2 f2))
    (h : W.heap[b]? = some (.cells #[.int .i64 0, .int .i64 1, .slice (some ⟨b1, 0, none⟩) 1 1, .int .i64 1, .int .i64 1, .slice (some ⟨b2, 0, none⟩) 1 1] t f)) : Sl RWait 3 W (.slice (some ⟨b, 0, none⟩) 2 2) ex1 := by
  refine (cells_laid 3 2 (xs := [_, _, _, _, _, _]) h rfl).sl (l := ex1) ?_
  intro i hi
  match i, hi with
  | 0, _ => exact ⟨_, rfl, ints_laid [1] h1⟩
  | 1, _ => exact ⟨_, rfl, ints_laid [0] h2⟩
theorem ex2_laid {W : World} {b1 b2 b : Nat} {t1 t2 t : TypeId} {f1 f2 f : Nat × Nat} (h1 : W.heap[b1]? = some (.cells #[.int .i64 1, .int .i64 2] t1 f1)) (h2 : W.heap[b2]? = some (.cells #[.int .i64 0] t2 f2))
    (h : W.heap[b]? = some (.cells #[.int .i64 0, .int .i64 1, .slice (some ⟨b1, 0, none⟩) 2 2, .int .i64 1, .int .i64 1, .slice (some ⟨b2, 0, none⟩) 1 1] t f)) : Sl RWait 3 W (.slice (some ⟨b, 0, none⟩) 2 2) ex2 := by
  refine (cells_laid 3 2 (xs := [_, _, _, _, _, _]) h rfl).sl (l := ex2) ?_
  intro i hi
  match i, hi with
  | 0, _ => exact ⟨_, rfl, ints_laid [1, 2] h1⟩
  | 1, _ => exact ⟨_, rfl, ints_laid [0] h2⟩
theorem exRefs_laid {W : World} {b : Nat} {t : TypeId} {f : Nat × Nat}
    (h : W.heap[b]? = some (.cells #[.int .i64 0, .int .i64 1, .int .i64 2, .int .i64 3, .int .i64 3, .int .i64 2] t f)) : Sl RPair 2 W (.slice (some ⟨b, 0, none⟩) 3 3) exRefs := by
  refine (cells_laid 2 3 (xs := [_, _, _, _, _, _]) h rfl).sl (l := exRefs) ?_
  intro i hi
  match i, hi with
  | 0, _ => exact rfl
  | 1, _ => exact rfl
  | 2, _ => exact rfl
theorem ex_fors (l : List Wt) (h : l = ex1 ∨ l = ex2) : l.length ≤ 1000000 ∧ ∀ x, x ∈ l → x.fors.length ≤ 1000000 := by
  rcases h with rfl | rfl
  · refine ⟨by decide, fun x hx => ?_⟩
    simp only [ex1, List.mem_cons, List.not_mem_nil, or_false] at hx
    rcases hx with rfl | rfl <;> simp
  · refine ⟨by decide, fun x hx => ?_⟩
    simp only [ex2, List.mem_cons, List.not_mem_nil, or_false] at hx
    rcases hx with rfl | rfl <;> simp

theorem dead1 (W : World) (b1 b2 b : Nat) (t1 t2 t : TypeId) (f1 f2 f : Nat × Nat) (h1 : W.heap[b1]? = some (.cells #[.int .i64 1] t1 f1)) (h2 : W.heap[b2]? = some (.cells #[.int .i64 0] t2 f2))
    (h : W.heap[b]? = some (.cells #[.int .i64 0, .int .i64 1, .slice (some ⟨b1, 0, none⟩) 1 1, .int .i64 1, .int .i64 1, .slice (some ⟨b2, 0, none⟩) 1 1] t f)) :
    Calls Try.prog 8 #[.slice (some ⟨b, 0, none⟩) 2 2, .int .i64 3] W fun e w' => ∃ v', e = .returned (.tuple #[v', .int .i64 0]) ∧ Ext W w' ∧ Ints w' v' [0, 1] :=
  (deadlock_good _ ex1 3 W (ex1_laid h1 h2 h) (ex_fors _ (.inl rfl)).1 (ex_fors _ (.inl rfl)).2 ex1_valid).mono fun e w' ⟨v', he, hx, M, hr, hM, hs, ha⟩ => ⟨v', he, hx, by
    rw [show (3 : Int).toNat = 3 from rfl] at hr hM hs ha
    rw [ex1_marks hM hs ha] at hr
    exact hr.ints⟩
theorem dead2 (W : World) (b1 b2 b : Nat) (t1 t2 t : TypeId) (f1 f2 f : Nat × Nat) (h1 : W.heap[b1]? = some (.cells #[.int .i64 1, .int .i64 2] t1 f1)) (h2 : W.heap[b2]? = some (.cells #[.int .i64 0] t2 f2))
    (h : W.heap[b]? = some (.cells #[.int .i64 0, .int .i64 1, .slice (some ⟨b1, 0, none⟩) 2 2, .int .i64 1, .int .i64 1, .slice (some ⟨b2, 0, none⟩) 1 1] t f)) :
    Calls Try.prog 8 #[.slice (some ⟨b, 0, none⟩) 2 2, .int .i64 3] W fun e w' => ∃ v', e = .returned (.tuple #[v', .int .i64 0]) ∧ Ext W w' ∧ Ints w' v' [] :=
  (deadlock_good _ ex2 3 W (ex2_laid h1 h2 h) (ex_fors _ (.inr rfl)).1 (ex_fors _ (.inr rfl)).2 ex2_valid).mono fun e w' ⟨v', he, hx, M, hr, hM, hs, ha⟩ => ⟨v', he, hx, by
    rw [show (3 : Int).toNat = 3 from rfl] at hr hM hs ha
    rw [ex2_marks hM hs] at hr
    exact hr.ints⟩
theorem garb1 (W : World) (b b2 : Nat) (t t2 : TypeId) (f f2 : Nat × Nat) (h : W.heap[b]? = some (.cells #[.int .i64 0, .int .i64 1, .int .i64 2, .int .i64 3, .int .i64 3, .int .i64 2] t f)) (h2 : W.heap[b2]? = some (.cells #[.int .i64 0] t2 f2)) :
    Calls Try.prog 14 #[.slice (some ⟨b, 0, none⟩) 3 3, .slice (some ⟨b2, 0, none⟩) 1 1, .int .i64 4] W fun e w' => ∃ v', e = .returned (.tuple #[v', .int .i64 0]) ∧ Ext W w' ∧ Ints w' v' [2, 3] :=
  (garbage_good _ _ exRefs [0] 4 W (exRefs_laid h) (ints_laid [0] h2) (by decide) (by decide) exRefs_good).mono fun e w' ⟨v', he, hx, M, hr, hM, hs⟩ => ⟨v', he, hx, by
    rw [show (4 : Int).toNat = 4 from rfl] at hr hM hs
    rw [exRefs_gaps hM hs] at hr
    exact hr.ints⟩

set_option maxHeartbeats 4000000 in
set_option maxRecDepth 100000 in
theorem awake_calls (w : World) : Calls Try.prog 5 #[] w fun e w' => e = .returned (.bool true) ∧ Ext w w' := by
  go_enter Try.func5, Try.ntmps5
  go_wp2_with fail
  refine (dead1 _ w.heap.size (w.heap.size + 1) _ _ _ _ _ _ _ (((Ext.rf _).al _).al _ |>.hp (heap_new_eq rfl)) (((Ext.rf _).al _).hp (heap_new_eq (by simp))) (heap_new_eq (by simp))).mono ?_
  rintro e w1 ⟨v1, rfl, he1, hi1⟩
  have HE1 := Lib.hid ((((Ext.rf w).al _).al _ |>.al _).trans' he1)
  have HI1 := Lib.hid hi1
  clear he1 hi1
  go_wp2_with fail
  refine (dead2 _ w1.heap.size (w1.heap.size + 1) _ _ _ _ _ _ _ (((Ext.rf _).al _).al _ |>.hp (heap_new_eq rfl)) (((Ext.rf _).al _).hp (heap_new_eq (by simp))) (heap_new_eq (by simp))).mono ?_
  rintro e w2 ⟨v2, rfl, he2, hi2⟩
  have HX2 := Lib.hid ((((Ext.rf w1).al _).al _ |>.al _).trans' he2)
  have HI2 := Lib.hid hi2
  clear he2 hi2
  go_wp2_with fail
  refine (garb1 _ w2.heap.size (w2.heap.size + 1) _ _ _ _ ((Ext.rf _).al _ |>.hp (heap_new_eq rfl)) (heap_new_eq (by simp))).mono ?_
  rintro e w3 ⟨v3, rfl, he3, hi3⟩
  have HX3 := Lib.hid (HX2.out.trans' (((Ext.rf w2).al _).al _ |>.trans' he3))
  have HY3 := Lib.hid ((((Ext.rf w2).al _).al _).trans' he3)
  have HI3 := Lib.hid hi3
  clear he3 hi3
  have HE3 := Lib.hid (HE1.out.trans' HX3.out)
  have HQ1 := Lib.hid (HI1.out.ext HX3.out)
  have HQ2 := Lib.hid (HI2.out.ext HY3.out)
  obtain ⟨a2, c2, rfl, hc2, _⟩ := HI2.out
  go_wp2_with fail
  refine (equal_int _ _ [0, 1] [0, 1] _ (HQ1.out.ext ((Ext.rf _).al _)) (ints_laid [0, 1] (heap_new_eq rfl)) (by decide) (by decide)).mono ?_
  rw [show (([0, 1] : List Int) == [0, 1]) = true from by decide]
  rintro e w4 ⟨rfl, he4⟩
  have HX4 := Lib.hid (((Ext.rf w3).al _).trans' he4); clear he4
  go_wp2_with fail
  refine (equal_int _ _ [2, 3] [2, 3] _ ((HI3.out.ext HX4.out).ext ((Ext.rf _).al _)) (ints_laid [2, 3] (heap_new_eq rfl)) (by decide) (by decide)).mono ?_
  rw [show (([2, 3] : List Int) == [2, 3]) = true from by decide]
  rintro e w5 ⟨rfl, he5⟩
  have HX5 := Lib.hid (((Ext.rf w4).al _).trans' he5); clear he5
  go_wp2
  go_ret
  exact ⟨rfl, (HE3.out.trans' HX4.out).trans' HX5.out⟩

theorem enters_5 : ∀ args w, (callFunc 5 args).run Try.prog w = .ok (.enter 5 args) w := enters_of Try.func5 (by kernel_rfl) rfl

end Go.Proofs.Ytodkcfebcjgahaa
