/-
  A function's boxes: its journal, and the one that it hands back.
-/
import Derived.Test.YtggofkaakccoeaaBase
import Derived.Test.YtggofkaakccoeaaProg
import Derived.BigQuiet
import Derived.Deep.QuietTactic
import Derived.Deep.LoopGhost
import Derived.Shelf.Abstract
import Derived.Test.YtggofkaakccoeaaRow
namespace Go.Proofs.Ytggofkaakccoeaa
open Go.RowKit
set_option linter.unusedVariables false

abbrev journalT (v : Value) (d f : Int) : Obj := .cells #[v, .int .i64 d, .int .i64 f] 24
/-- A function's two boxes: its journal, and the one that it hands back. -/
theorem two_boxes {w w1 : World} {v : Value} {d f : Int} (hE : Ext ((w.alloc (journalT v d f)).alloc (journalT (.slice none 0 0) 0 0)) w1) :
    w1.heap[w.heap.size]? = some (journalT v d f) ∧ w1.heap[w.heap.size + 1]? = some (journalT (.slice none 0 0) 0 0) ∧ w.heap.size + 2 ≤ w1.heap.size ∧ Ext w w1 := by
  refine ⟨hE.hp (((Ext.rf _).al _).hp (heap_alloc_new w _)), ?_, by have := hE.sz; simp at this; omega, (((Ext.rf w).al _).al _).trans' hE⟩
  have := hE.hp (heap_alloc_new (w.alloc (journalT v d f)) (journalT (.slice none 0 0) 0 0))
  rwa [show (w.alloc (journalT v d f)).heap.size = w.heap.size + 1 from by simp] at this

theorem Row.far {w : World} {base : Nat} {e : TypeId} {size : Nat} {v : Value} {n : Nat} {xs : List Value} {g : Nat} (h : Row w base e size v n xs) (hg : g < base) : v.ownBlock ≠ some g := fun hk => by have := (h.lt _ hk).1; omega
theorem Row.st3 {w : World} {base : Nat} {e : TypeId} {size : Nat} {v : Value} {n : Nat} {xs : List Value} {g : Nat} (h : Row w base e size v n xs) (hg : g < base) (x y z : Value) : Row (((w.setCell ⟨g, 0, none⟩ x).setCell ⟨g, 1, none⟩ y).setCell ⟨g, 2, none⟩ z) base e size v n xs :=
  ((h.st (p := ⟨g, 0, none⟩) (h.far hg) x).st (p := ⟨g, 1, none⟩) (h.far hg) y).st (p := ⟨g, 2, none⟩) (h.far hg) z

end Go.Proofs.Ytggofkaakccoeaa
