import Derived.Test.YtbpdbikphlhaiaaGreatDoorGa
import Derived.Test.YtbpdbikphlhaiaaGreatDoorProg
import Derived.Test.YtbpdbikphlhaiaaGreatDoorGm
import Derived.BigQuiet
import Derived.Deep.QuietTactic
import Derived.Deep.LoopGhost
import Derived.Shelf.Abstract
import Derived.Deep.DeepCutAuto
namespace Go.Proofs.YtbpdbikphlhaiaaGreatDoor
open Go.RowKit
set_option linter.unusedVariables false
attribute [local go_sem ↓] Go.wp_at_zero Go.wp_at_succ
set_option maxHeartbeats 1000000 in
theorem words0_calls (w : World) : Calls Tryz.prog 31 #[.int .i64 0] w fun e w' => e = .returned (.int .i64 0) ∧ w' = w := by
 have hz : Int.tdiv ((0 : Int) + 64 - 1) 64 = 0 := by decide
 have hz2 : Int.tdiv (63 : Int) 64 = 0 := by decide
 go_enter Tryz.func31, Tryz.ntmps31
 go_wp2
 go_ret
 exact ⟨by first | rfl | simp [hz, hz2], rfl⟩
set_option maxHeartbeats 2000000 in
theorem bvalid0_calls (a : Option Addr) (c : Nat) (w : World) :
  Calls Tryz.prog 72 #[.agg #[.int .i64 0, .slice a 0 c]] w fun e w' => e = .returned (.bool true) ∧ Ext w w' := by
 have HWC := Lib.hid (fun W => words0_calls W)
 have hr : Int.tmod (0 : Int) 64 = 0 := by decide
 have HE1 := Lib.hid ((Ext.rf w).al (.cells #[.int .i64 0, .slice a 0 c] 42))
 have HX0 := Lib.hid (heap_alloc_new w (.cells #[.int .i64 0, .slice a 0 c] 42))
 have s0 := cellOf HX0.out 0
 have s1 := cellOf HX0.out 1
 simp only [List.getElem?_toArray, List.getElem?_cons_zero, List.getElem?_cons_succ] at s0 s1
 go_enter Tryz.func72, Tryz.ntmps72
 go_wp2
 generalize hw2 : w.alloc (.cells #[.int .i64 0, .slice a 0 c] 42) = w2 at *
 clear hw2
 go_region_with (refine (HWC.out _).mono ?_; rintro e w9 ⟨rfl, rfl⟩)
 all_goals
  go_wp2
  go_ret
  exact ⟨rfl, by first | exact HE1.out | exact HE1.out.dr | exact HE1.out.dr.dr⟩
theorem mk_none (w : World) : Sem.run Tryz.prog (Instr.makeSlice 40 (.int .i64 0) (.int .i64 0)) w = .ok (.slice (some ⟨w.heap.size, 0, none⟩) 0 0) (w.alloc (.cells #[] 78)) := by kernel_rfl
theorem ofZ_calls (a0 : Option Addr) (c0 : Nat) (w : World) :
  Calls Tryz.prog 12 #[.int .i64 0, .slice a0 0 c0] w fun e w' => ∃ a c, e = .returned (.tuple #[.agg #[.int .i64 0, .slice a 0 c], .int .i64 0]) ∧ Ext w w' := by
 have HWC := Lib.hid (fun W => words0_calls W)
 have HMK := mk_none
 go_enter Tryz.func12, Tryz.ntmps12
 go_wp2_with fail
 refine (HWC.out _).mono ?_
 rintro e w9 ⟨rfl, hw9⟩
 subst hw9
 go_wp2
 have HRB := Lib.hid (show (((w.alloc (.cells #[.int .i64 0, .slice none 0 0] 42)).alloc (.cells #[] 78)).alloc (.cells #[.int .i64 0, .slice (some ⟨w.heap.size + 1, 0, none⟩) 0 0] 42)).heap[w.heap.size]? = some (.cells #[.int .i64 0, .slice none 0 0] 42) from (((Ext.rf _).al _).al _).hp (heap_alloc_new w _))
 have HSB := Lib.hid (show (((w.alloc (.cells #[.int .i64 0, .slice none 0 0] 42)).alloc (.cells #[] 78)).alloc (.cells #[.int .i64 0, .slice (some ⟨w.heap.size + 1, 0, none⟩) 0 0] 42)).heap[w.heap.size + 1 + 1]? = some (.cells #[.int .i64 0, .slice (some ⟨w.heap.size + 1, 0, none⟩) 0 0] 42) from heap_new_eq (by simp))
 have HX := Lib.hid (show Ext w (((w.alloc (.cells #[.int .i64 0, .slice none 0 0] 42)).alloc (.cells #[] 78)).alloc (.cells #[.int .i64 0, .slice (some ⟨w.heap.size + 1, 0, none⟩) 0 0] 42)) from (by repeat (first | refine Ext.st ?_ (by first | exact Nat.le_refl _ | exact Nat.le_succ _ | assumption | omega) _ | refine Ext.al ?_ _ | refine Ext.dr ?_ | refine Ext.drN ?_ _ | exact Ext.rf _)))
 generalize ((w.alloc (.cells #[.int .i64 0, .slice none 0 0] 42)).alloc (.cells #[] 78)).alloc (.cells #[.int .i64 0, .slice (some ⟨w.heap.size + 1, 0, none⟩) 0 0] 42) = w3 at *
 go_loopg [23] 0 (fun g s23 wr => s23 = .int .i64 0 ∧ wr = w3)
 case atStart => exact ⟨rfl, rfl⟩
 case round =>
  obtain ⟨rfl, rfl⟩ := hrel
  have s0 := cellOf HSB.out 0
  have s1 := cellOf HSB.out 1
  have r0 := cellOf HRB.out 0
  have r1 := cellOf HRB.out 1
  have f0 := freeOf HRB.out 0
  have f1 := freeOf HRB.out 1
  simp only [List.getElem?_toArray, List.getElem?_cons_zero, List.getElem?_cons_succ] at s0 s1 r0 r1
  go_wp2
  have e1 := heap_setCell_same (o := 1) (u := .slice (some ⟨w.heap.size + 1, 0, none⟩) 0 0) (heap_setCell_same (o := 0) (u := .int .i64 0) HRB.out)
  have z0 := cellOf e1 0
  have z1 := cellOf e1 1
  simp only [Array.setIfInBounds, List.size_toArray, List.length_cons, List.length_nil, Nat.zero_lt_succ] at z0 z1
  refine bodyPost_ret (v := .tuple #[.agg #[.int .i64 0, .slice (some ⟨w.heap.size + 1, 0, none⟩) 0 0], .int .i64 0]) (by simp [results, Tryz.results12, go_sem, z0, z1]) rfl ⟨_, _, rfl, ?_⟩
  exact (HX.out.st (p := ⟨w.heap.size, 0, none⟩) (by show w.heap.size ≤ w.heap.size; omega) _).st (p := ⟨w.heap.size, 1, none⟩) (by show w.heap.size ≤ w.heap.size; omega) _
set_option maxHeartbeats 2000000 in
theorem membersZ_calls (a : Option Addr) (c : Nat) (w : World) :
  Calls Tryz.prog 88 #[.agg #[.int .i64 0, .slice a 0 c]] w fun e w' => e = .returned (.tuple #[.slice none 0 0, .int .i64 0]) ∧ Ext w w' := by
 have HVC := Lib.hid (fun W => bvalid0_calls a c W)
 have HX0 := Lib.hid (heap_alloc_new w (.cells #[.int .i64 0, .slice a 0 c] 42))
 have HE1 := Lib.hid ((Ext.rf w).al (.cells #[.int .i64 0, .slice a 0 c] 42))
 go_enter Tryz.func88, Tryz.ntmps88
 go_wp2_with fail
 refine (HVC.out _).mono ?_
 rintro e w2 ⟨rfl, hX2⟩
 have HE2 := Lib.hid (HE1.out.trans' hX2)
 have HY2 := Lib.hid (hX2.hp HX0.out)
 have t1 := cellOf HY2.out 1
 simp only [List.getElem?_toArray, List.getElem?_cons_zero, List.getElem?_cons_succ] at t1
 clear hX2
 go_wp2
 go_loopg [4, 13] 0 (fun g s4 s13 wr => s4 = .slice none 0 0 ∧ s13 = .int .i64 0 ∧ wr = w2)
 case atStart => exact ⟨rfl, rfl, rfl⟩
 case round =>
  obtain ⟨rfl, rfl, rfl⟩ := hrel
  go_wp2
  exact bodyPost_ret (v := .tuple #[.slice none 0 0, .int .i64 0]) (by simp [results, Tryz.results88, go_sem]) rfl ⟨rfl, HE2.out⟩
set_option maxHeartbeats 2000000 in
theorem bmatchingZ_calls (a a2 : Option Addr) (c c2 : Nat) (w : World) :
  Calls Tryz.prog 111 #[.agg #[.int .i64 0, .slice a 0 c], .agg #[.int .i64 0, .slice a2 0 c2]] w fun e w' => e = .returned (.bool true) ∧ Ext w w' := by
 have HX0 := Lib.hid (((Ext.rf _).al (.cells #[.int .i64 0, .slice a2 0 c2] 42)).hp (heap_alloc_new w (.cells #[.int .i64 0, .slice a 0 c] 42)))
 have HX1 := Lib.hid (heap_new_eq (w := w.alloc (.cells #[.int .i64 0, .slice a 0 c] 42)) (o := .cells #[.int .i64 0, .slice a2 0 c2] 42) (b := w.heap.size + 1) (by simp))
 have HE2 := Lib.hid (((Ext.rf w).al (.cells #[.int .i64 0, .slice a 0 c] 42)).al (.cells #[.int .i64 0, .slice a2 0 c2] 42))
 go_enter Tryz.func111, Tryz.ntmps111
 go_upto_region 1 with (fail)
 generalize (w.alloc (.cells #[.int .i64 0, .slice a 0 c] 42)).alloc (.cells #[.int .i64 0, .slice a2 0 c2] 42) = w2 at *
 have a0 := cellOf HX0.out 0
 have a1 := cellOf HX0.out 1
 have c0 := cellOf HX1.out 0
 have c1 := cellOf HX1.out 1
 simp only [List.getElem?_toArray, List.getElem?_cons_zero, List.getElem?_cons_succ] at a0 a1 c0 c1
 go_wp2_with fail
 refine (bvalid0_calls a c _).mono ?_
 rintro e w3 ⟨rfl, hX3⟩
 have HE3 := Lib.hid (HE2.out.trans' hX3)
 have a0 := hX3.cl a0
 have c0 := hX3.cl c0
 have c1 := hX3.cl c1
 clear hX3
 go_wp2_with fail
 refine (bvalid0_calls a2 c2 _).mono ?_
 rintro e w4 ⟨rfl, hX4⟩
 have HE4 := Lib.hid (HE3.out.trans' hX4)
 have a0 := hX4.cl a0
 have c0 := hX4.cl c0
 clear hX4
 go_wp2
 go_ret
 exact ⟨rfl, HE4.out⟩
theorem none_cells (a : Option Addr) (c : Nat) (w : World) : CellsAt w (.slice a 0 c) 1 0 [] := ⟨rfl, _, _, rfl, Nat.zero_le _, fun h => absurd h (by decide)⟩
set_option maxHeartbeats 4000000 in
set_option maxRecDepth 100000 in
theorem copiedZ_calls (a : Option Addr) (c : Nat) (w : World) :
  Calls Tryz.prog 112 #[.agg #[.int .i64 0, .slice a 0 c]] w fun e w' => ∃ a' c', e = .returned (.agg #[.int .i64 0, .slice a' 0 c']) ∧ Ext w w' := by
 have HMK := mk_none
 go_enter Tryz.func112, Tryz.ntmps112
 go_wp2
 go_region
 ·clear HMK
  have HR0 : Hid (Row ((((w.alloc (.cells #[.int .i64 0, .slice a 0 c] 42)).alloc (.cells #[.int .i64 0, .slice none 0 0] 42)).alloc (.cells #[] 78)).alloc (.cells #[.int .i64 0, .slice (some ⟨w.heap.size + 1 + 1, 0, none⟩) 0 0] 42)) w.heap.size 78 1 (.slice (some ⟨w.heap.size + 1 + 1, 0, none⟩) 0 0) 0 []) := Lib.hid ⟨rfl, .inr ⟨w.heap.size + 1 + 1, 0, 0, #[], rfl, by omega, by first | exact heap_new_eq (by simp) | exact ((Ext.rf _).al _).hp (heap_new_eq (by simp)), Nat.le_refl _, by unfold maxLen; omega, by simp, by simp⟩⟩
  have HSB : Hid (((((w.alloc (.cells #[.int .i64 0, .slice a 0 c] 42)).alloc (.cells #[.int .i64 0, .slice none 0 0] 42)).alloc (.cells #[] 78)).alloc (.cells #[.int .i64 0, .slice (some ⟨w.heap.size + 1 + 1, 0, none⟩) 0 0] 42)).heap[w.heap.size + 1 + 1 + 1]? = some (.cells #[.int .i64 0, .slice (some ⟨w.heap.size + 1 + 1, 0, none⟩) 0 0] 42)) := Lib.hid (by first | exact heap_new_eq (by simp) | exact ((Ext.rf _).al _).hp (heap_new_eq (by simp)))
  have HRB : Hid (((((w.alloc (.cells #[.int .i64 0, .slice a 0 c] 42)).alloc (.cells #[.int .i64 0, .slice none 0 0] 42)).alloc (.cells #[] 78)).alloc (.cells #[.int .i64 0, .slice (some ⟨w.heap.size + 1 + 1, 0, none⟩) 0 0] 42)).heap[w.heap.size + 1]? = some (.cells #[.int .i64 0, .slice none 0 0] 42)) := Lib.hid ((((Ext.rf _).al _).al _).hp (heap_new_eq (by simp)))
  have HAB : Hid (((((w.alloc (.cells #[.int .i64 0, .slice a 0 c] 42)).alloc (.cells #[.int .i64 0, .slice none 0 0] 42)).alloc (.cells #[] 78)).alloc (.cells #[.int .i64 0, .slice (some ⟨w.heap.size + 1 + 1, 0, none⟩) 0 0] 42)).heap[w.heap.size]? = some (.cells #[.int .i64 0, .slice a 0 c] 42)) := Lib.hid ((((Ext.rf _).al _).al _).hp (((Ext.rf _).al _).hp (heap_alloc_new w _)))
  have HX : Hid (Ext w ((((w.alloc (.cells #[.int .i64 0, .slice a 0 c] 42)).alloc (.cells #[.int .i64 0, .slice none 0 0] 42)).alloc (.cells #[] 78)).alloc (.cells #[.int .i64 0, .slice (some ⟨w.heap.size + 1 + 1, 0, none⟩) 0 0] 42))) := Lib.hid (by repeat (first | refine Ext.st ?_ (by first | exact Nat.le_refl _ | exact Nat.le_succ _ | assumption | omega) _ | refine Ext.al ?_ _ | refine Ext.dr ?_ | refine Ext.drN ?_ _ | exact Ext.rf _))
  generalize ((((w.alloc (.cells #[.int .i64 0, .slice a 0 c] 42)).alloc (.cells #[.int .i64 0, .slice none 0 0] 42)).alloc (.cells #[] 78)).alloc (.cells #[.int .i64 0, .slice (some ⟨w.heap.size + 1 + 1, 0, none⟩) 0 0] 42)) = w3 at *
  have HR := Lib.hid (HR0.out.ext (Ext.rf w3).dr)
  have HSB := Lib.hid ((Ext.rf w3).dr.hp HSB.out)
  have HRB := Lib.hid ((Ext.rf w3).dr.hp HRB.out)
  have HAB := Lib.hid ((Ext.rf w3).dr.hp HAB.out)
  have HX := Lib.hid (HX.out.dr)
  clear HR0
  generalize w3.drew = w4 at *
  have a1 := cellOf HAB.out 1
  have s1 := cellOf HSB.out 1
  simp only [List.getElem?_toArray, List.getElem?_cons_zero, List.getElem?_cons_succ] at a1 s1
  go_wp2_with ((refine wpList_copy_all rfl _ _ 40 40 rfl 78 1 Tryz.underlying40 info_u64s w.heap.size 0 (.slice (some ⟨w.heap.size + 1 + 1, 0, none⟩) 0 0) (.slice a 0 c) _ [] rfl HR.out rfl (none_cells a c _) (by simp) ?_; intro w8 hown8 hgrow8; have HSB8 := Lib.hid (grownKeep hgrow8 (by first | (simp [Value.ownBlock]; done) | (simp [Value.ownBlock]; omega)) HSB.out); have HRB8 := Lib.hid (grownKeep hgrow8 (by first | (simp [Value.ownBlock]; done) | (simp [Value.ownBlock]; omega)) HRB.out); have HX8 := Lib.hid (HX.out.gr hgrow8 (fun q hq => (HR.out.lt q hq).1)); have s0 := cellOf HSB8.out 0; have s1 := cellOf HSB8.out 1; have r0 := cellOf HRB8.out 0; have r1 := cellOf HRB8.out 1; have f0 := freeOf HRB8.out 0; have f1 := freeOf HRB8.out 1; simp only [List.getElem?_toArray, List.getElem?_cons_zero, List.getElem?_cons_succ] at s0 s1 r0 r1; clear hown8 hgrow8))
  have e1 := heap_setCell_same (o := 1) (u := .slice (some ⟨w.heap.size + 1 + 1, 0, none⟩) 0 0) (heap_setCell_same (o := 0) (u := .int .i64 0) HRB8.out)
  have z0 := cellOf e1 0
  have z1 := cellOf e1 1
  simp only [Array.setIfInBounds, List.size_toArray, List.length_cons, List.length_nil, Nat.zero_lt_succ] at z0 z1
  refine bodyPost_ret (v := .agg #[.int .i64 0, .slice (some ⟨w.heap.size + 1 + 1, 0, none⟩) 0 0]) (by simp [results, Tryz.results112, go_sem, z0, z1]) rfl ⟨_, _, rfl, ?_⟩
  exact (HX8.out.st (p := ⟨w.heap.size + 1, 0, none⟩) (by show w.heap.size ≤ w.heap.size + 1; omega) _).st (p := ⟨w.heap.size + 1, 1, none⟩) (by show w.heap.size ≤ w.heap.size + 1; omega) _
 ·clear HMK
  have HR0 : Hid (Row ((((w.alloc (.cells #[.int .i64 0, .slice a 0 c] 42)).alloc (.cells #[.int .i64 0, .slice none 0 0] 42)).alloc (.cells #[.int .i64 0, .slice (some ⟨w.heap.size + 1 + 1 + 1, 0, none⟩) 0 0] 42)).alloc (.cells #[] 78)) w.heap.size 78 1 (.slice (some ⟨w.heap.size + 1 + 1 + 1, 0, none⟩) 0 0) 0 []) := Lib.hid ⟨rfl, .inr ⟨w.heap.size + 1 + 1 + 1, 0, 0, #[], rfl, by omega, by first | exact heap_new_eq (by simp) | exact ((Ext.rf _).al _).hp (heap_new_eq (by simp)), Nat.le_refl _, by unfold maxLen; omega, by simp, by simp⟩⟩
  have HSB : Hid (((((w.alloc (.cells #[.int .i64 0, .slice a 0 c] 42)).alloc (.cells #[.int .i64 0, .slice none 0 0] 42)).alloc (.cells #[.int .i64 0, .slice (some ⟨w.heap.size + 1 + 1 + 1, 0, none⟩) 0 0] 42)).alloc (.cells #[] 78)).heap[w.heap.size + 1 + 1]? = some (.cells #[.int .i64 0, .slice (some ⟨w.heap.size + 1 + 1 + 1, 0, none⟩) 0 0] 42)) := Lib.hid (by first | exact heap_new_eq (by simp) | exact ((Ext.rf _).al _).hp (heap_new_eq (by simp)))
  have HRB : Hid (((((w.alloc (.cells #[.int .i64 0, .slice a 0 c] 42)).alloc (.cells #[.int .i64 0, .slice none 0 0] 42)).alloc (.cells #[.int .i64 0, .slice (some ⟨w.heap.size + 1 + 1 + 1, 0, none⟩) 0 0] 42)).alloc (.cells #[] 78)).heap[w.heap.size + 1]? = some (.cells #[.int .i64 0, .slice none 0 0] 42)) := Lib.hid ((((Ext.rf _).al _).al _).hp (heap_new_eq (by simp)))
  have HAB : Hid (((((w.alloc (.cells #[.int .i64 0, .slice a 0 c] 42)).alloc (.cells #[.int .i64 0, .slice none 0 0] 42)).alloc (.cells #[.int .i64 0, .slice (some ⟨w.heap.size + 1 + 1 + 1, 0, none⟩) 0 0] 42)).alloc (.cells #[] 78)).heap[w.heap.size]? = some (.cells #[.int .i64 0, .slice a 0 c] 42)) := Lib.hid ((((Ext.rf _).al _).al _).hp (((Ext.rf _).al _).hp (heap_alloc_new w _)))
  have HX : Hid (Ext w ((((w.alloc (.cells #[.int .i64 0, .slice a 0 c] 42)).alloc (.cells #[.int .i64 0, .slice none 0 0] 42)).alloc (.cells #[.int .i64 0, .slice (some ⟨w.heap.size + 1 + 1 + 1, 0, none⟩) 0 0] 42)).alloc (.cells #[] 78))) := Lib.hid (by repeat (first | refine Ext.st ?_ (by first | exact Nat.le_refl _ | exact Nat.le_succ _ | assumption | omega) _ | refine Ext.al ?_ _ | refine Ext.dr ?_ | refine Ext.drN ?_ _ | exact Ext.rf _))
  generalize ((((w.alloc (.cells #[.int .i64 0, .slice a 0 c] 42)).alloc (.cells #[.int .i64 0, .slice none 0 0] 42)).alloc (.cells #[.int .i64 0, .slice (some ⟨w.heap.size + 1 + 1 + 1, 0, none⟩) 0 0] 42)).alloc (.cells #[] 78)) = w3 at *
  have HR := Lib.hid (HR0.out.ext (Ext.rf w3).dr)
  have HSB := Lib.hid ((Ext.rf w3).dr.hp HSB.out)
  have HRB := Lib.hid ((Ext.rf w3).dr.hp HRB.out)
  have HAB := Lib.hid ((Ext.rf w3).dr.hp HAB.out)
  have HX := Lib.hid (HX.out.dr)
  clear HR0
  generalize w3.drew = w4 at *
  have a1 := cellOf HAB.out 1
  have s1 := cellOf HSB.out 1
  simp only [List.getElem?_toArray, List.getElem?_cons_zero, List.getElem?_cons_succ] at a1 s1
  go_wp2_with ((refine wpList_copy_all rfl _ _ 40 40 rfl 78 1 Tryz.underlying40 info_u64s w.heap.size 0 (.slice (some ⟨w.heap.size + 1 + 1 + 1, 0, none⟩) 0 0) (.slice a 0 c) _ [] rfl HR.out rfl (none_cells a c _) (by simp) ?_; intro w8 hown8 hgrow8; have HSB8 := Lib.hid (grownKeep hgrow8 (by first | (simp [Value.ownBlock]; done) | (simp [Value.ownBlock]; omega)) HSB.out); have HRB8 := Lib.hid (grownKeep hgrow8 (by first | (simp [Value.ownBlock]; done) | (simp [Value.ownBlock]; omega)) HRB.out); have HX8 := Lib.hid (HX.out.gr hgrow8 (fun q hq => (HR.out.lt q hq).1)); have s0 := cellOf HSB8.out 0; have s1 := cellOf HSB8.out 1; have r0 := cellOf HRB8.out 0; have r1 := cellOf HRB8.out 1; have f0 := freeOf HRB8.out 0; have f1 := freeOf HRB8.out 1; simp only [List.getElem?_toArray, List.getElem?_cons_zero, List.getElem?_cons_succ] at s0 s1 r0 r1; clear hown8 hgrow8))
  have e1 := heap_setCell_same (o := 1) (u := .slice (some ⟨w.heap.size + 1 + 1 + 1, 0, none⟩) 0 0) (heap_setCell_same (o := 0) (u := .int .i64 0) HRB8.out)
  have z0 := cellOf e1 0
  have z1 := cellOf e1 1
  simp only [Array.setIfInBounds, List.size_toArray, List.length_cons, List.length_nil, Nat.zero_lt_succ] at z0 z1
  refine bodyPost_ret (v := .agg #[.int .i64 0, .slice (some ⟨w.heap.size + 1 + 1 + 1, 0, none⟩) 0 0]) (by simp [results, Tryz.results112, go_sem, z0, z1]) rfl ⟨_, _, rfl, ?_⟩
  exact (HX8.out.st (p := ⟨w.heap.size + 1, 0, none⟩) (by show w.heap.size ≤ w.heap.size + 1; omega) _).st (p := ⟨w.heap.size + 1, 1, none⟩) (by show w.heap.size ≤ w.heap.size + 1; omega) _
set_option maxHeartbeats 4000000 in
set_option maxRecDepth 100000 in
theorem combinedZ_calls (g : Nat) (a a2 : Option Addr) (c c2 : Nat) (w : World) :
  Calls Tryz.prog 94 #[.agg #[.int .i64 0, .slice a 0 c], .agg #[.int .i64 0, .slice a2 0 c2], .func (.func g) #[] #[]] w fun e w' => ∃ a' c', e = .returned (.tuple #[.agg #[.int .i64 0, .slice a' 0 c'], .int .i64 0]) ∧ Ext w w' := by
 have HX0 := Lib.hid ((((Ext.rf _).al (.cells #[.int .i64 0, .slice a2 0 c2] 42)).al (.cells #[.int .i64 0, .slice none 0 0] 42)).hp (heap_alloc_new w (.cells #[.int .i64 0, .slice a 0 c] 42)))
 have HX1 := Lib.hid (((Ext.rf _).al (.cells #[.int .i64 0, .slice none 0 0] 42)).hp (heap_new_eq (w := w.alloc (.cells #[.int .i64 0, .slice a 0 c] 42)) (o := .cells #[.int .i64 0, .slice a2 0 c2] 42) (b := w.heap.size + 1) (by simp)))
 have HX2 := Lib.hid (heap_new_eq (w := (w.alloc (.cells #[.int .i64 0, .slice a 0 c] 42)).alloc (.cells #[.int .i64 0, .slice a2 0 c2] 42)) (o := .cells #[.int .i64 0, .slice none 0 0] 42) (b := w.heap.size + 2) (by simp))
 have HE2 := Lib.hid ((((Ext.rf w).al (.cells #[.int .i64 0, .slice a 0 c] 42)).al (.cells #[.int .i64 0, .slice a2 0 c2] 42)).al (.cells #[.int .i64 0, .slice none 0 0] 42))
 go_enter Tryz.func94, Tryz.ntmps94
 go_upto_region 1 with (fail)
 generalize ((w.alloc (.cells #[.int .i64 0, .slice a 0 c] 42)).alloc (.cells #[.int .i64 0, .slice a2 0 c2] 42)).alloc (.cells #[.int .i64 0, .slice none 0 0] 42) = w2 at *
 have a0 := cellOf HX0.out 0
 have a1 := cellOf HX0.out 1
 have c0 := cellOf HX1.out 0
 have c1 := cellOf HX1.out 1
 simp only [List.getElem?_toArray, List.getElem?_cons_zero, List.getElem?_cons_succ] at a0 a1 c0 c1
 go_wp2_with fail
 refine (bmatchingZ_calls a a2 c c2 _).mono ?_
 rintro e w3 ⟨rfl, hX3⟩
 have HE3 := Lib.hid (HE2.out.trans' hX3)
 have a0 := hX3.cl a0
 have a1 := hX3.cl a1
 have HX1 := Lib.hid (hX3.hp HX1.out)
 have HX2 := Lib.hid (hX3.hp HX2.out)
 clear hX3 c0 c1
 go_wp2_with fail
 refine (copiedZ_calls a c _).mono ?_
 rintro e w4 ⟨wa, wc, rfl, hX4⟩
 have HE4 := Lib.hid ((HE3.out.trans' hX4).al (.cells #[.int .i64 0, .slice wa 0 wc] 42))
 have HX1 := Lib.hid (((Ext.rf w4).al (.cells #[.int .i64 0, .slice wa 0 wc] 42)).hp (hX4.hp HX1.out))
 have HRB := Lib.hid (((Ext.rf w4).al (.cells #[.int .i64 0, .slice wa 0 wc] 42)).hp (hX4.hp HX2.out))
 have HSB := Lib.hid (heap_alloc_new w4 (.cells #[.int .i64 0, .slice wa 0 wc] 42))
 have c1 := cellOf HX1.out 1
 simp only [List.getElem?_toArray, List.getElem?_cons_zero, List.getElem?_cons_succ] at c1
 clear hX4 a0 a1
 go_wp2
 clear c1
 generalize w4.alloc (.cells #[.int .i64 0, .slice wa 0 wc] 42) = w5 at *
 generalize w4.heap.size = sb at *
 go_loopg [21] 0 (fun g s21 wr => s21 = .int .i64 0 ∧ wr = w5)
 case atStart => exact ⟨rfl, rfl⟩
 case round =>
  obtain ⟨rfl, rfl⟩ := hrel
  have s0 := cellOf HSB.out 0
  have s1 := cellOf HSB.out 1
  simp only [List.getElem?_toArray, List.getElem?_cons_zero, List.getElem?_cons_succ] at s0 s1
  have r0 := cellOf HRB.out 0
  have r1 := cellOf HRB.out 1
  have f0 := freeOf HRB.out 0
  have f1 := freeOf HRB.out 1
  simp only [List.getElem?_toArray, List.getElem?_cons_zero, List.getElem?_cons_succ] at r0 r1
  go_wp2
  have e1 := heap_setCell_same (o := 1) (u := .slice wa 0 wc) (heap_setCell_same (o := 0) (u := .int .i64 0) HRB.out)
  have z0 := cellOf e1 0
  have z1 := cellOf e1 1
  simp only [Array.setIfInBounds, List.size_toArray, List.length_cons, List.length_nil, Nat.zero_lt_succ] at z0 z1
  refine bodyPost_ret (v := .tuple #[.agg #[.int .i64 0, .slice wa 0 wc], .int .i64 0]) (by simp [results, Tryz.results94, go_sem, z0, z1]) rfl ⟨_, _, rfl, ?_⟩
  exact (HE4.out.st (p := ⟨w.heap.size + 2, 0, none⟩) (by show w.heap.size ≤ w.heap.size + 2; omega) _).st (p := ⟨w.heap.size + 2, 1, none⟩) (by show w.heap.size ≤ w.heap.size + 2; omega) _
set_option maxHeartbeats 4000000 in
set_option maxRecDepth 100000 in
theorem unionZ_calls (a a2 : Option Addr) (c c2 : Nat) (w : World) :
  Calls Tryz.prog 77 #[.agg #[.int .i64 0, .slice a 0 c], .agg #[.int .i64 0, .slice a2 0 c2]] w fun e w' => ∃ a' c', e = .returned (.tuple #[.agg #[.int .i64 0, .slice a' 0 c'], .int .i64 0]) ∧ Ext w w' := by
 have HX0 := Lib.hid ((((Ext.rf _).al (.cells #[.int .i64 0, .slice a2 0 c2] 42)).al (.cells #[.int .i64 0, .slice none 0 0] 42)).hp (heap_alloc_new w (.cells #[.int .i64 0, .slice a 0 c] 42)))
 have HX1 := Lib.hid (((Ext.rf _).al (.cells #[.int .i64 0, .slice none 0 0] 42)).hp (heap_new_eq (w := w.alloc (.cells #[.int .i64 0, .slice a 0 c] 42)) (o := .cells #[.int .i64 0, .slice a2 0 c2] 42) (b := w.heap.size + 1) (by simp)))
 have HX2 := Lib.hid (heap_new_eq (w := (w.alloc (.cells #[.int .i64 0, .slice a 0 c] 42)).alloc (.cells #[.int .i64 0, .slice a2 0 c2] 42)) (o := .cells #[.int .i64 0, .slice none 0 0] 42) (b := w.heap.size + 2) (by simp))
 have HE2 := Lib.hid ((((Ext.rf w).al (.cells #[.int .i64 0, .slice a 0 c] 42)).al (.cells #[.int .i64 0, .slice a2 0 c2] 42)).al (.cells #[.int .i64 0, .slice none 0 0] 42))
 go_enter Tryz.func77, Tryz.ntmps77
 go_upto_region 1 with (fail)
 generalize ((w.alloc (.cells #[.int .i64 0, .slice a 0 c] 42)).alloc (.cells #[.int .i64 0, .slice a2 0 c2] 42)).alloc (.cells #[.int .i64 0, .slice none 0 0] 42) = w2 at *
 have a0 := cellOf HX0.out 0
 have a1 := cellOf HX0.out 1
 have c0 := cellOf HX1.out 0
 have c1 := cellOf HX1.out 1
 simp only [List.getElem?_toArray, List.getElem?_cons_zero, List.getElem?_cons_succ] at a0 a1 c0 c1
 go_wp2_with fail
 refine (combinedZ_calls _ a a2 c c2 _).mono ?_
 rintro e w4 ⟨wa, wc, rfl, hX4⟩
 have HE4 := Lib.hid (HE2.out.trans' hX4)
 have HRB := Lib.hid (hX4.hp HX2.out)
 clear hX4 a0 a1 c0 c1
 have r0 := cellOf HRB.out 0
 have r1 := cellOf HRB.out 1
 have f0 := freeOf HRB.out 0
 have f1 := freeOf HRB.out 1
 simp only [List.getElem?_toArray, List.getElem?_cons_zero, List.getElem?_cons_succ] at r0 r1
 go_wp2
 have e1 := heap_setCell_same (o := 1) (u := .slice wa 0 wc) (heap_setCell_same (o := 0) (u := .int .i64 0) HRB.out)
 have z0 := cellOf e1 0
 have z1 := cellOf e1 1
 simp only [Array.setIfInBounds, List.size_toArray, List.length_cons, List.length_nil, Nat.zero_lt_succ] at z0 z1
 refine bodyPost_ret (v := .tuple #[.agg #[.int .i64 0, .slice wa 0 wc], .int .i64 0]) (by simp [results, Tryz.results77, go_sem, z0, z1]) rfl ⟨_, _, rfl, ?_⟩
 exact (HE4.out.st (p := ⟨w.heap.size + 2, 0, none⟩) (by show w.heap.size ≤ w.heap.size + 2; omega) _).st (p := ⟨w.heap.size + 2, 1, none⟩) (by show w.heap.size ≤ w.heap.size + 2; omega) _
end Go.Proofs.YtbpdbikphlhaiaaGreatDoor
namespace Go.Proofs.YtbpdbikphlhaiaaGreatDoor
open Go.RowKit
set_option linter.unusedVariables false
attribute [local go_sem ↓] Go.wp_at_zero Go.wp_at_succ
theorem posZ : PosM 0 [] := ⟨rfl, (fun i => by rw [getElem!_neg _ i (by simp)]; exact Nat.two_pow_pos _), (fun i j k h => by rw [hasM_out (show ¬ i < ([] : List Nat).length by simp)] at h; cases h), fun i => hasM_out (by simp)⟩
set_option maxHeartbeats 4000000 in
set_option maxRecDepth 100000 in
theorem emptyZ_calls (a : Option Addr) (c : Nat) (w : World) :
  Calls Tryz.prog 96 #[.agg #[.slice a 0 c]] w fun e w' => ∃ a' c', e = .returned (.agg #[.int .i64 0, .slice a' 0 c']) ∧ Ext w w' := by
 have HX0 := Lib.hid (((Ext.rf _).al (.cells #[.int .i64 0, .slice none 0 0] 42)).hp (heap_alloc_new w (.cells #[.slice a 0 c] 32)))
 have HX1 := Lib.hid (heap_new_eq (w := w.alloc (.cells #[.slice a 0 c] 32)) (o := .cells #[.int .i64 0, .slice none 0 0] 42) (b := w.heap.size + 1) (by simp))
 have HE2 := Lib.hid (((Ext.rf w).al (.cells #[.slice a 0 c] 32)).al (.cells #[.int .i64 0, .slice none 0 0] 42))
 go_enter Tryz.func96, Tryz.ntmps96
 go_upto_region 1 with (fail)
 generalize (w.alloc (.cells #[.slice a 0 c] 32)).alloc (.cells #[.int .i64 0, .slice none 0 0] 42) = w2 at *
 have t0 := cellOf HX0.out 0
 simp only [List.getElem?_toArray, List.getElem?_cons_zero] at t0
 go_wp2_with fail
 refine (ofZ_calls none 0 _).mono ?_
 rintro e w3 ⟨ua, uc, rfl, hX3⟩
 have HE3 := Lib.hid (HE2.out.trans' hX3)
 have HRB := Lib.hid (hX3.hp HX1.out)
 have r0 := cellOf HRB.out 0
 have r1 := cellOf HRB.out 1
 have f0 := freeOf HRB.out 0
 have f1 := freeOf HRB.out 1
 simp only [List.getElem?_toArray, List.getElem?_cons_zero, List.getElem?_cons_succ] at r0 r1
 have hbw : w.heap.size + 1 < w3.heap.size := (Array.getElem?_eq_some_iff.1 HRB.out).1
 clear t0 hX3
 go_wp2
 have e1 := ((Ext.rf _).al (.cells #[.int .i64 0, .slice ua 0 uc] 42)).hp (heap_setCell_same (o := 1) (u := .slice ua 0 uc) (heap_setCell_same (o := 0) (u := .int .i64 0) HRB.out))
 have z0 := cellOf e1 0
 have z1 := cellOf e1 1
 simp only [Array.setIfInBounds, List.size_toArray, List.length_cons, List.length_nil, Nat.zero_lt_succ] at z0 z1
 refine bodyPost_ret (v := .agg #[.int .i64 0, .slice ua 0 uc]) (by simp [results, Tryz.results96, go_sem, z0, z1]) rfl ⟨_, _, rfl, ?_⟩
 exact ((HE3.out.st (p := ⟨w.heap.size + 1, 0, none⟩) (by show w.heap.size ≤ w.heap.size + 1; omega) _).st (p := ⟨w.heap.size + 1, 1, none⟩) (by show w.heap.size ≤ w.heap.size + 1; omega) _).al _
set_option maxHeartbeats 4000000 in
set_option maxRecDepth 100000 in
theorem aboveZ_calls (a a2 : Option Addr) (c c2 : Nat) (w : World) :
  Calls Tryz.prog 78 #[.agg #[.slice a 0 c], .agg #[.int .i64 0, .slice a2 0 c2]] w fun e w' => ∃ a' c', e = .returned (.agg #[.int .i64 0, .slice a' 0 c']) ∧ Ext w w' := by
 have HX0 := Lib.hid ((((Ext.rf _).al (.cells #[.int .i64 0, .slice a2 0 c2] 42)).al (.cells #[.int .i64 0, .slice none 0 0] 42)).hp (heap_alloc_new w (.cells #[.slice a 0 c] 32)))
 have HX1 := Lib.hid (((Ext.rf _).al (.cells #[.int .i64 0, .slice none 0 0] 42)).hp (heap_new_eq (w := w.alloc (.cells #[.slice a 0 c] 32)) (o := .cells #[.int .i64 0, .slice a2 0 c2] 42) (b := w.heap.size + 1) (by simp)))
 have HX2 := Lib.hid (heap_new_eq (w := (w.alloc (.cells #[.slice a 0 c] 32)).alloc (.cells #[.int .i64 0, .slice a2 0 c2] 42)) (o := .cells #[.int .i64 0, .slice none 0 0] 42) (b := w.heap.size + 2) (by simp))
 have HE2 := Lib.hid ((((Ext.rf w).al (.cells #[.slice a 0 c] 32)).al (.cells #[.int .i64 0, .slice a2 0 c2] 42)).al (.cells #[.int .i64 0, .slice none 0 0] 42))
 go_enter Tryz.func78, Tryz.ntmps78
 go_upto_region 1 with (fail)
 generalize ((w.alloc (.cells #[.slice a 0 c] 32)).alloc (.cells #[.int .i64 0, .slice a2 0 c2] 42)).alloc (.cells #[.int .i64 0, .slice none 0 0] 42) = w2 at *
 have a0 := cellOf HX0.out 0
 have x0 := cellOf HX1.out 0
 have x1 := cellOf HX1.out 1
 simp only [List.getElem?_toArray, List.getElem?_cons_zero, List.getElem?_cons_succ] at a0 x0 x1
 go_wp2_with fail
 refine (emptyZ_calls a c _).mono ?_
 rintro e w3 ⟨ua, uc, rfl, hX3⟩
 have HE3 := Lib.hid (HE2.out.trans' hX3)
 have HX1 := Lib.hid (hX3.hp HX1.out)
 have HX2 := Lib.hid (hX3.hp HX2.out)
 have x0 := cellOf HX1.out 0
 have x1 := cellOf HX1.out 1
 simp only [List.getElem?_toArray, List.getElem?_cons_zero, List.getElem?_cons_succ] at x0 x1
 have hbw1 : w.heap.size + 1 < w3.heap.size := (Array.getElem?_eq_some_iff.1 HX1.out).1
 clear a0 hX3
 go_wp2_with fail
 refine (membersZ_calls a2 c2 _).mono ?_
 rintro e w5 ⟨rfl, hX5⟩
 have HE5 := Lib.hid ((HE3.out.al (.cells #[.int .i64 0, .slice ua 0 uc] 42)).trans' hX5)
 have HRB := Lib.hid (hX5.hp (((Ext.rf w3).al (.cells #[.int .i64 0, .slice ua 0 uc] 42)).hp HX2.out))
 have HDB := Lib.hid (hX5.hp (heap_alloc_new w3 (.cells #[.int .i64 0, .slice ua 0 uc] 42)))
 clear hX5 x0 x1
 go_wp2
 generalize w3.heap.size = D at *
 go_loopg [19] 0 (fun g s19 wr => s19 = .int .i64 0 ∧ wr = w5)
 case atStart => exact ⟨rfl, rfl⟩
 case round =>
  obtain ⟨rfl, rfl⟩ := hrel
  have d0 := cellOf HDB.out 0
  have d1 := cellOf HDB.out 1
  simp only [List.getElem?_toArray, List.getElem?_cons_zero, List.getElem?_cons_succ] at d0 d1
  have r0 := cellOf HRB.out 0
  have r1 := cellOf HRB.out 1
  have f0 := freeOf HRB.out 0
  have f1 := freeOf HRB.out 1
  simp only [List.getElem?_toArray, List.getElem?_cons_zero, List.getElem?_cons_succ] at r0 r1
  go_wp2
  have e1 := heap_setCell_same (o := 1) (u := .slice ua 0 uc) (heap_setCell_same (o := 0) (u := .int .i64 0) HRB.out)
  have z0 := cellOf e1 0
  have z1 := cellOf e1 1
  simp only [Array.setIfInBounds, List.size_toArray, List.length_cons, List.length_nil, Nat.zero_lt_succ] at z0 z1
  refine bodyPost_ret (v := .agg #[.int .i64 0, .slice ua 0 uc]) (by simp [results, Tryz.results78, go_sem, z0, z1]) rfl ⟨_, _, rfl, ?_⟩
  exact (HE5.out.st (p := ⟨w.heap.size + 2, 0, none⟩) (by show w.heap.size ≤ w.heap.size + 2; omega) _).st (p := ⟨w.heap.size + 2, 1, none⟩) (by show w.heap.size ≤ w.heap.size + 2; omega) _
set_option maxHeartbeats 4000000 in
set_option maxRecDepth 100000 in
theorem pmatchingZ_calls (a a2 : Option Addr) (c c2 : Nat) (w : World) (h : Sl (RSet 0) 2 w (.slice a 0 c) []) (hT : TabG w) :
  Calls Tryz.prog 55 #[.agg #[.slice a 0 c], .agg #[.int .i64 0, .slice a2 0 c2]] w fun e w' => e = .returned (.bool true) ∧ Ext w w' := by
 have HVC := Lib.hid (fun W (hW : Ext w W) => pvalid_calls (.slice a 0 c) 0 [] W (h.ext (rset_lasts 0) hW) posZ (by decide) (hT.ext hW))
 have HX0 := Lib.hid (((Ext.rf _).al (.cells #[.int .i64 0, .slice a2 0 c2] 42)).hp (heap_alloc_new w (.cells #[.slice a 0 c] 32)))
 have HX1 := Lib.hid (heap_new_eq (w := w.alloc (.cells #[.slice a 0 c] 32)) (o := .cells #[.int .i64 0, .slice a2 0 c2] 42) (b := w.heap.size + 1) (by simp))
 have HE2 := Lib.hid (((Ext.rf w).al (.cells #[.slice a 0 c] 32)).al (.cells #[.int .i64 0, .slice a2 0 c2] 42))
 clear h hT
 go_enter Tryz.func55, Tryz.ntmps55
 go_upto_region 1 with (fail)
 generalize (w.alloc (.cells #[.slice a 0 c] 32)).alloc (.cells #[.int .i64 0, .slice a2 0 c2] 42) = w2 at *
 have a0 := cellOf HX0.out 0
 have x0 := cellOf HX1.out 0
 have x1 := cellOf HX1.out 1
 simp only [List.getElem?_toArray, List.getElem?_cons_zero, List.getElem?_cons_succ] at a0 x0 x1
 go_wp2_with fail
 refine (HVC.out _ HE2.out).mono ?_
 rintro e w3 ⟨rfl, hX3⟩
 have HE3 := Lib.hid (HE2.out.trans' hX3)
 have a0 := hX3.cl a0
 have x0 := hX3.cl x0
 have x1 := hX3.cl x1
 clear hX3
 go_wp2_with fail
 refine (bvalid0_calls a2 c2 _).mono ?_
 rintro e w4 ⟨rfl, hX4⟩
 have HE4 := Lib.hid (HE3.out.trans' hX4)
 have a0 := hX4.cl a0
 have x0 := hX4.cl x0
 clear hX4
 go_wp2
 go_ret
 exact ⟨rfl, HE4.out⟩
set_option maxHeartbeats 8000000 in
set_option maxRecDepth 100000 in
theorem upZ_calls (a a2 : Option Addr) (c c2 : Nat) (w : World) (h : Sl (RSet 0) 2 w (.slice a 0 c) []) (hT : TabG w) :
  Calls Tryz.prog 57 #[.agg #[.slice a 0 c], .agg #[.int .i64 0, .slice a2 0 c2]] w fun e w' => ∃ a' c', e = .returned (.tuple #[.agg #[.int .i64 0, .slice a' 0 c'], .int .i64 0]) ∧ Ext w w' := by
 have HMC := Lib.hid (fun W (hW : Ext w W) => pmatchingZ_calls a a2 c c2 W (h.ext (rset_lasts 0) hW) (hT.ext hW))
 have HX0 := Lib.hid ((((Ext.rf _).al (.cells #[.int .i64 0, .slice a2 0 c2] 42)).al (.cells #[.int .i64 0, .slice none 0 0] 42)).hp (heap_alloc_new w (.cells #[.slice a 0 c] 32)))
 have HX1 := Lib.hid (((Ext.rf _).al (.cells #[.int .i64 0, .slice none 0 0] 42)).hp (heap_new_eq (w := w.alloc (.cells #[.slice a 0 c] 32)) (o := .cells #[.int .i64 0, .slice a2 0 c2] 42) (b := w.heap.size + 1) (by simp)))
 have HX2 := Lib.hid (heap_new_eq (w := (w.alloc (.cells #[.slice a 0 c] 32)).alloc (.cells #[.int .i64 0, .slice a2 0 c2] 42)) (o := .cells #[.int .i64 0, .slice none 0 0] 42) (b := w.heap.size + 2) (by simp))
 have HE2 := Lib.hid ((((Ext.rf w).al (.cells #[.slice a 0 c] 32)).al (.cells #[.int .i64 0, .slice a2 0 c2] 42)).al (.cells #[.int .i64 0, .slice none 0 0] 42))
 clear h hT
 go_enter Tryz.func57, Tryz.ntmps57
 go_upto_region 1 with (fail)
 generalize ((w.alloc (.cells #[.slice a 0 c] 32)).alloc (.cells #[.int .i64 0, .slice a2 0 c2] 42)).alloc (.cells #[.int .i64 0, .slice none 0 0] 42) = w2 at *
 have a0 := cellOf HX0.out 0
 have x0 := cellOf HX1.out 0
 have x1 := cellOf HX1.out 1
 simp only [List.getElem?_toArray, List.getElem?_cons_zero, List.getElem?_cons_succ] at a0 x0 x1
 go_wp2_with fail
 refine (HMC.out _ HE2.out).mono ?_
 rintro e w3 ⟨rfl, hX3⟩
 have HE3 := Lib.hid (HE2.out.trans' hX3)
 have a0 := hX3.cl a0
 have x0 := hX3.cl x0
 have x1 := hX3.cl x1
 have HX2 := Lib.hid (hX3.hp HX2.out)
 clear hX3
 go_wp2
 go_region_with (first | (go_at_call 78; refine (aboveZ_calls a a2 c c2 _).mono ?_; rintro e w7 ⟨na, nc, rfl, hX7⟩; have hX7 : Ext w3 w7 := (by first | exact hX7 | exact (Ext.rf w3).dr.trans' hX7 | exact (Ext.rf w3).dr.dr.trans' hX7); have HX7 := Lib.hid hX7; have y0 := hX7.cl a0; have y1 := hX7.cl x0; have y2 := hX7.cl x1; clear hX7) | (go_at_call 77; refine (unionZ_calls a2 na c2 nc _).mono ?_; rintro e w8 ⟨ma, mc, rfl, hX8⟩; have hX8 : Ext w7 w8 := (by first | exact hX8 | exact (Ext.rf w7).dr.trans' hX8 | exact (Ext.rf w7).dr.dr.trans' hX8); have HE8 := Lib.hid (HE3.out.trans' (HX7.out.trans' hX8)); have HRB := Lib.hid (hX8.hp (HX7.out.hp HX2.out)); have r0 := cellOf HRB.out 0; have r1 := cellOf HRB.out 1; have f0 := freeOf HRB.out 0; have f1 := freeOf HRB.out 1; simp only [List.getElem?_toArray, List.getElem?_cons_zero, List.getElem?_cons_succ] at r0 r1; clear hX8))
 all_goals
  go_wp2
  have e1 := heap_setCell_same (o := 1) (u := .slice ma 0 mc) (heap_setCell_same (o := 0) (u := .int .i64 0) HRB.out)
  have z0 := cellOf e1 0
  have z1 := cellOf e1 1
  simp only [Array.setIfInBounds, List.size_toArray, List.length_cons, List.length_nil, Nat.zero_lt_succ] at z0 z1
  refine bodyPost_ret (v := .tuple #[.agg #[.int .i64 0, .slice ma 0 mc], .int .i64 0]) (by first | (simp [results, Tryz.results57, go_sem, z0, z1]; done) | (simp [results, Tryz.results57, go_sem, World.drew, z0, z1]; done)) rfl ⟨_, _, rfl, ?_⟩
  first
   | exact (HE8.out.st (p := ⟨w.heap.size + 2, 0, none⟩) (by show w.heap.size ≤ w.heap.size + 2; omega) _).st (p := ⟨w.heap.size + 2, 1, none⟩) (by show w.heap.size ≤ w.heap.size + 2; omega) _
   | exact ((HE8.out.st (p := ⟨w.heap.size + 2, 0, none⟩) (by show w.heap.size ≤ w.heap.size + 2; omega) _).st (p := ⟨w.heap.size + 2, 1, none⟩) (by show w.heap.size ≤ w.heap.size + 2; omega) _).dr
set_option maxHeartbeats 8000000 in
set_option maxRecDepth 100000 in
theorem downZ_calls (a a2 : Option Addr) (c c2 : Nat) (w : World) (h : Sl (RSet 0) 2 w (.slice a 0 c) []) (hT : TabG w) :
  Calls Tryz.prog 34 #[.agg #[.slice a 0 c], .agg #[.int .i64 0, .slice a2 0 c2]] w fun e w' => ∃ a' c', e = .returned (.tuple #[.agg #[.int .i64 0, .slice a' 0 c'], .int .i64 0]) ∧ Ext w w' := by
 have HMC := Lib.hid (fun W (hW : Ext w W) => pmatchingZ_calls a a2 c c2 W (h.ext (rset_lasts 0) hW) (hT.ext hW))
 have HIC := Lib.hid (fun W (hW : Ext w W) => inverse_calls (.slice a 0 c) 0 [] W (h.ext (rset_lasts 0) hW) rfl (by decide) posZ.bnd)
 have HTT := Lib.hid hT
 have hinv : invM [] 0 = [] := rfl
 rw [hinv] at HIC
 have HX0 := Lib.hid ((((Ext.rf _).al (.cells #[.int .i64 0, .slice a2 0 c2] 42)).al (.cells #[.int .i64 0, .slice none 0 0] 42)).hp (heap_alloc_new w (.cells #[.slice a 0 c] 32)))
 have HX1 := Lib.hid (((Ext.rf _).al (.cells #[.int .i64 0, .slice none 0 0] 42)).hp (heap_new_eq (w := w.alloc (.cells #[.slice a 0 c] 32)) (o := .cells #[.int .i64 0, .slice a2 0 c2] 42) (b := w.heap.size + 1) (by simp)))
 have HX2 := Lib.hid (heap_new_eq (w := (w.alloc (.cells #[.slice a 0 c] 32)).alloc (.cells #[.int .i64 0, .slice a2 0 c2] 42)) (o := .cells #[.int .i64 0, .slice none 0 0] 42) (b := w.heap.size + 2) (by simp))
 have HE2 := Lib.hid ((((Ext.rf w).al (.cells #[.slice a 0 c] 32)).al (.cells #[.int .i64 0, .slice a2 0 c2] 42)).al (.cells #[.int .i64 0, .slice none 0 0] 42))
 clear h hT hinv
 go_enter Tryz.func34, Tryz.ntmps34
 go_upto_region 1 with (fail)
 generalize ((w.alloc (.cells #[.slice a 0 c] 32)).alloc (.cells #[.int .i64 0, .slice a2 0 c2] 42)).alloc (.cells #[.int .i64 0, .slice none 0 0] 42) = w2 at *
 have a0 := cellOf HX0.out 0
 have x0 := cellOf HX1.out 0
 have x1 := cellOf HX1.out 1
 simp only [List.getElem?_toArray, List.getElem?_cons_zero, List.getElem?_cons_succ] at a0 x0 x1
 go_wp2_with fail
 refine (HMC.out _ HE2.out).mono ?_
 rintro e w3 ⟨rfl, hX3⟩
 have HE3 := Lib.hid (HE2.out.trans' hX3)
 have a0 := hX3.cl a0
 have HX1 := Lib.hid (hX3.hp HX1.out)
 have HX2 := Lib.hid (hX3.hp HX2.out)
 clear hX3 x0 x1
 go_wp2_with fail
 refine (HIC.out _ HE3.out).mono ?_
 rintro e w4 ⟨q, vw, rfl, hO4, hb4, hX4⟩
 have hsl4 := hO4.sl
 obtain ⟨qa, qc, rfl, hqc⟩ := hsl4.sh
 have HSL := Lib.hid (hsl4.ext (rset_lasts 0) ((Ext.rf w4).al (.cells #[.slice qa 0 qc] 32)))
 have HE4 := Lib.hid ((HE3.out.trans' hX4).al (.cells #[.slice qa 0 qc] 32))
 have HX1 := Lib.hid (((Ext.rf w4).al (.cells #[.slice qa 0 qc] 32)).hp (hX4.hp HX1.out))
 have HX2 := Lib.hid (((Ext.rf w4).al (.cells #[.slice qa 0 qc] 32)).hp (hX4.hp HX2.out))
 have x0 := cellOf HX1.out 0
 have x1 := cellOf HX1.out 1
 simp only [List.getElem?_toArray, List.getElem?_cons_zero, List.getElem?_cons_succ] at x0 x1
 clear hO4 hb4 hX4 a0 hsl4 hqc
 simp only [List.length_nil] at HSL ⊢
 go_upto_region 4 with (fail)
 have hD := heap_alloc_new w4 (.cells #[.slice qa 0 qc] 32)
 generalize w4.alloc (.cells #[.slice qa 0 qc] 32) = w5 at *
 generalize w4.heap.size = D at *
 have d0 := cellOf hD 0
 simp only [List.getElem?_toArray, List.getElem?_cons_zero] at d0
 clear hD
 go_wp2_with fail
 refine (upZ_calls qa a2 qc c2 _ HSL.out (HTT.out.ext HE4.out)).mono ?_
 rintro e w6 ⟨ma, mc, rfl, hX6⟩
 have HE6 := Lib.hid (HE4.out.trans' hX6)
 have HRB := Lib.hid (hX6.hp HX2.out)
 have r0 := cellOf HRB.out 0
 have r1 := cellOf HRB.out 1
 have f0 := freeOf HRB.out 0
 have f1 := freeOf HRB.out 1
 simp only [List.getElem?_toArray, List.getElem?_cons_zero, List.getElem?_cons_succ] at r0 r1
 clear hX6 d0 x0 x1
 go_wp2
 have e1 := heap_setCell_same (o := 1) (u := .slice ma 0 mc) (heap_setCell_same (o := 0) (u := .int .i64 0) HRB.out)
 have z0 := cellOf e1 0
 have z1 := cellOf e1 1
 simp only [Array.setIfInBounds, List.size_toArray, List.length_cons, List.length_nil, Nat.zero_lt_succ] at z0 z1
 refine bodyPost_ret (v := .tuple #[.agg #[.int .i64 0, .slice ma 0 mc], .int .i64 0]) (by simp [results, Tryz.results34, go_sem, z0, z1]) rfl ⟨_, _, rfl, ?_⟩
 exact (HE6.out.st (p := ⟨w.heap.size + 2, 0, none⟩) (by show w.heap.size ≤ w.heap.size + 2; omega) _).st (p := ⟨w.heap.size + 2, 1, none⟩) (by show w.heap.size ≤ w.heap.size + 2; omega) _
set_option maxHeartbeats 4000000 in
set_option maxRecDepth 100000 in
theorem equalZ_calls (a a2 : Option Addr) (c c2 : Nat) (w : World) :
  Calls Tryz.prog 35 #[.slice a 0 c, .slice a2 0 c2] w fun e w' => e = .returned (.bool true) ∧ Ext w w' := by
 go_enter Tryz.func35, Tryz.ntmps35
 go_wp2
 go_loopg [13] 0 (fun g s13 wr => s13 = .int .i64 0 ∧ wr = w)
 case atStart => exact ⟨rfl, rfl⟩
 case round =>
  obtain ⟨rfl, rfl⟩ := hrel
  go_wp2
  go_ret
  exact ⟨rfl, Ext.rf _⟩
set_option maxHeartbeats 8000000 in
set_option maxRecDepth 100000 in
theorem idealZ_calls (a a2 : Option Addr) (c c2 : Nat) (w : World) (h : Sl (RSet 0) 2 w (.slice a 0 c) []) (hT : TabG w) :
  Calls Tryz.prog 14 #[.agg #[.slice a 0 c], .agg #[.int .i64 0, .slice a2 0 c2]] w fun e w' => e = .returned (.bool true) ∧ Ext w w' := by
 have HDC := Lib.hid (fun W (hW : Ext w W) => downZ_calls a a2 c c2 W (h.ext (rset_lasts 0) hW) (hT.ext hW))
 have HX0 := Lib.hid (((Ext.rf _).al (.cells #[.int .i64 0, .slice a2 0 c2] 42)).hp (heap_alloc_new w (.cells #[.slice a 0 c] 32)))
 have HX1 := Lib.hid (heap_new_eq (w := w.alloc (.cells #[.slice a 0 c] 32)) (o := .cells #[.int .i64 0, .slice a2 0 c2] 42) (b := w.heap.size + 1) (by simp))
 have HE2 := Lib.hid (((Ext.rf w).al (.cells #[.slice a 0 c] 32)).al (.cells #[.int .i64 0, .slice a2 0 c2] 42))
 clear h hT
 go_enter Tryz.func14, Tryz.ntmps14
 go_upto_region 1 with (fail)
 generalize (w.alloc (.cells #[.slice a 0 c] 32)).alloc (.cells #[.int .i64 0, .slice a2 0 c2] 42) = w2 at *
 have a0 := cellOf HX0.out 0
 have x0 := cellOf HX1.out 0
 have x1 := cellOf HX1.out 1
 simp only [List.getElem?_toArray, List.getElem?_cons_zero, List.getElem?_cons_succ] at a0 x0 x1
 go_wp2_with fail
 refine (HDC.out _ HE2.out).mono ?_
 rintro e w3 ⟨ma, mc, rfl, hX3⟩
 have HE3 := Lib.hid ((HE2.out.trans' hX3).al (.cells #[.int .i64 0, .slice ma 0 mc] 42))
 have x1 := hX3.cl x1
 have hbw := World.block_lt_of_cell? w3 _ x1
 clear hX3 a0 x0
 go_wp2_with fail
 refine (equalZ_calls ma a2 mc c2 _).mono ?_
 rintro e w5 ⟨rfl, hX5⟩
 have HE5 := Lib.hid (HE3.out.trans' hX5)
 clear hX5
 go_wp2
 go_ret
 exact ⟨rfl, HE5.out⟩
end Go.Proofs.YtbpdbikphlhaiaaGreatDoor
