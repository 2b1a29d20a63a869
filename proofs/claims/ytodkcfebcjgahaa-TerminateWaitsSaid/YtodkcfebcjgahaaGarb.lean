/-
  The walk of terminate.Garbage.
-/
import Derived.Test.YtodkcfebcjgahaaBase
import Derived.Test.YtodkcfebcjgahaaProg
import Derived.BigQuiet
import Derived.Deep.QuietTactic
import Derived.Deep.LoopGhost
import Derived.Shelf.Abstract
import Derived.Test.YtodkcfebcjgahaaGarbL
import Derived.Test.YtodkcfebcjgahaaFnsI
import Derived.Test.YtodkcfebcjgahaaFnsP
import Derived.Test.YtodkcfebcjgahaaSoC
namespace Go.Proofs.Ytodkcfebcjgahaa
open Go.RowKit
set_option linter.unusedVariables false

theorem enters_30 : ∀ args w, (callFunc 30 args).run Try.prog w = .ok (.enter 30 args) w := enters_of Try.func30 (by kernel_rfl) rfl
theorem enters_32 : ∀ args w, (callFunc 32 args).run Try.prog w = .ok (.enter 32 args) w := enters_of Try.func32 (by kernel_rfl) rfl

def RPair (_ : World) (vs : List Value) (x : Int × Int) : Prop := vs = [.int .i64 x.1, .int .i64 x.2]
theorem rpair_lasts : Lasts RPair := fun _ _ _ _ h _ => h

set_option maxHeartbeats 400000 in
theorem garbage1_calls (x n : Int) (bn : Nat) (w : World) (hc : w.cell? ⟨bn, 0, none⟩ = some (.int .i64 n)) :
    Calls Try.prog 30 #[.int .i64 x, .pointer (some ⟨bn, 0, none⟩)] w fun e w' => e = .returned (.bool (outB n x)) ∧ Ext w w' := by
  by_cases h1 : x < 0
  · go_enter Try.func30, Try.ntmps30
    go_wp2
    go_ret
    exact ⟨by simp [outB, h1], Below.refl _ _⟩
  · go_enter Try.func30, Try.ntmps30
    go_wp2
    go_ret
    exact ⟨by simp [outB]; omega, Below.refl _ _⟩

set_option maxHeartbeats 400000 in
theorem garbage2_calls (x y n : Int) (bn bo : Nat) (w : World) (hc : w.cell? ⟨bn, 0, none⟩ = some (.int .i64 n))
    (ho : w.cell? ⟨bo, 0, none⟩ = some (.func (.func 30) #[] #[.pointer (some ⟨bn, 0, none⟩)])) :
    Calls Try.prog 32 #[.agg #[.int .i64 x, .int .i64 y], .pointer (some ⟨bo, 0, none⟩)] w fun e w' => e = .returned (.bool (outB n x || outB n y)) ∧ Ext w w' := by
  have C : ∀ x W, Ext w W → Calls Try.prog 30 #[.int .i64 x, .pointer (some ⟨bn, 0, none⟩)] W fun e w' => e = .returned (.bool (outB n x)) ∧ Ext W w' :=
    fun x W hW => garbage1_calls x n bn W (hW.cl hc)
  have HC := Lib.hid C; clear C
  have hbo : bo < w.heap.size := World.block_lt_of_cell? w _ ho
  have HO := Lib.hid ho
  generalize hp : outB n x = p at *
  generalize hq : outB n y = q at *
  have HP := Lib.hid hp
  have HQ := Lib.hid hq
  clear hp hq
  cases p with
  | true =>
    go_enter Try.func32, Try.ntmps32
    go_wp2_with fail
    refine (HC.out x _ ((Ext.rf _).al _)).mono ?_
    rw [HP.out]
    rintro e w' ⟨rfl, he'⟩
    go_wp2
    go_ret
    exact ⟨rfl, ((Ext.rf _).al _).trans' he'⟩
  | false =>
    go_enter Try.func32, Try.ntmps32
    go_wp2_with fail
    refine (HC.out x _ ((Ext.rf _).al _)).mono ?_
    rw [HP.out]
    rintro e w' ⟨rfl, he'⟩
    have h2 : w'.cell? ⟨bo, 0, none⟩ = some (.func (.func 30) #[] #[.pointer (some ⟨bn, 0, none⟩)]) := (((Ext.rf _).al _).trans' he').cl HO.out
    have h3 : w'.cell? ⟨w.heap.size, 1, none⟩ = some (.int .i64 y) := he'.cl (cell_new _ _ _ _ _ rfl)
    have HE := Lib.hid he'; clear he'
    go_wp2_with fail
    refine (HC.out y _ (((Ext.rf _).al _).trans' HE.out)).mono ?_
    rw [HQ.out]
    rintro e w2 ⟨rfl, he2⟩
    go_wp2
    go_ret
    exact ⟨rfl, (((Ext.rf _).al _).trans' HE.out).trans' he2⟩

theorem garbage_says1 {n : Int} {bn : Nat} {w : World} (hc : w.cell? ⟨bn, 0, none⟩ = some (.int .i64 n)) (l : List Int) : Says Try.prog 30 #[.pointer (some ⟨bn, 0, none⟩)] (outB n) l w :=
  fun x _ W hW => garbage1_calls x n bn W (hW.cl hc)
theorem garbage_says2 {n : Int} {bn bo : Nat} {w : World} (hc : w.cell? ⟨bn, 0, none⟩ = some (.int .i64 n))
    (ho : w.cell? ⟨bo, 0, none⟩ = some (.func (.func 30) #[] #[.pointer (some ⟨bn, 0, none⟩)])) (l : List (Int × Int)) :
    SaysOf Try.prog RPair encAgg 32 #[.pointer (some ⟨bo, 0, none⟩)] (fun r => outB n r.1 || outB n r.2) l w := by
  intro r _ W vs hW hr
  obtain rfl : vs = _ := hr
  exact garbage2_calls r.1 r.2 n bn bo W (hW.cl hc) (hW.cl ho)

end Go.Proofs.Ytodkcfebcjgahaa
