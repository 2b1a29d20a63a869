/-
  Boxes of the laws of chapter 52.
-/
import Derived.Test.YtggofkaakccoeaaBase
import Derived.Test.YtggofkaakccoeaaProg
import Derived.BigQuiet
import Derived.Deep.QuietTactic
import Derived.Deep.LoopGhost
import Derived.Shelf.Abstract
import Derived.Test.YtggofkaakccoeaaAwake52
import Derived.Test.YtggofkaakccoeaaSame52
namespace Go.Proofs.Ytggofkaakccoeaa
open Go.RowKit
set_option linter.unusedVariables false
attribute [local go_sem ↓] Go.wp_at_zero Go.wp_at_succ

theorem box_cells {w wx : World} {v : Value} {d f : Int} (h : Ext (w.alloc (.cells #[v, .int .i64 d, .int .i64 f] 24)) wx) :
    wx.heap[w.heap.size]? = some (.cells #[v, .int .i64 d, .int .i64 f] 24) ∧ Ext w wx ∧ w.heap.size < wx.heap.size := by
  refine ⟨h.hp (heap_alloc_new w _), ((Ext.rf w).al _).trans' h, ?_⟩
  have := h.sz
  simp at this
  omega

theorem validJ_parts {q : Nat} {d f : Int} (h : validJ q d f = true) : q ≤ 163840 ∧ 0 ≤ d ∧ d ≤ q ∧ -1 ≤ f ∧ f ≤ 1073741824 := by
  simp only [validJ, Bool.and_eq_true, decide_eq_true_eq] at h
  exact h


end Go.Proofs.Ytggofkaakccoeaa
