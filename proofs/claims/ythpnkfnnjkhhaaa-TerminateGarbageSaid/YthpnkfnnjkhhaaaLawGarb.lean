/-
  The walk of the law on garbage.
-/
import Derived.Test.YthpnkfnnjkhhaaaBase
import Derived.Test.YthpnkfnnjkhhaaaProg
import Derived.BigQuiet
import Derived.Deep.QuietTactic
import Derived.Deep.LoopGhost
import Derived.Shelf.Abstract
import Derived.Test.YthpnkfnnjkhhaaaAwake51
import Derived.Test.YthpnkfnnjkhhaaaLawGarbL
import Derived.Test.YthpnkfnnjkhhaaaStep
namespace Go.Proofs.Ythpnkfnnjkhhaaa
open Go.RowKit
set_option linter.unusedVariables false

theorem enters_11 : ∀ args w, (callFunc 11 args).run Try.prog w = .ok (.enter 11 args) w := enters_of Try.func11 (by kernel_rfl) rfl
theorem enters_14 : ∀ args w, (callFunc 14 args).run Try.prog w = .ok (.enter 14 args) w := enters_of Try.func14 (by kernel_rfl) rfl
theorem enters_15 : ∀ args w, (callFunc 15 args).run Try.prog w = .ok (.enter 15 args) w := enters_of Try.func15 (by kernel_rfl) rfl

set_option maxHeartbeats 400000 in
theorem lawg1_calls (x : Int) (gv : Value) (g : List Int) (bg : Nat) (w : World) (hc : w.cell? ⟨bg, 0, none⟩ = some gv) (hg : Ints w gv g) (hn : g.length ≤ 1000000) :
    Calls Try.prog 11 #[.int .i64 x, .pointer (some ⟨bg, 0, none⟩)] w fun e w' => e = .returned (.bool (g.contains x)) ∧ Ext w w' := by
  have HC := Lib.hid (contains_int x gv g w hg hn)
  clear hg hn
  generalize g.contains x = r at *
  go_enter Try.func11, Try.ntmps11
  go_wp2_with (go_at_call 12; refine HC.out.mono ?_; rintro e w' ⟨rfl, rfl⟩)
  go_ret
  exact ⟨rfl, Ext.rf _⟩

set_option maxHeartbeats 400000 in
theorem lawg2_calls (x y : Int) (gv : Value) (g : List Int) (bg : Nat) (w : World) (hc : w.cell? ⟨bg, 0, none⟩ = some gv) (hg : Ints w gv g) (hn : g.length ≤ 1000000) :
    Calls Try.prog 14 #[.agg #[.int .i64 x, .int .i64 y], .pointer (some ⟨bg, 0, none⟩)] w fun e w' => e = .returned (.bool (!g.contains x && g.contains y)) ∧ Ext w w' := by
  have HC := Lib.hid (contains_int x gv g (w.alloc (.cells #[.int .i64 x, .int .i64 y] 24)) (hg.ext ((Ext.rf _).al _)) hn)
  have HC2 := Lib.hid (contains_int y gv g (w.alloc (.cells #[.int .i64 x, .int .i64 y] 24)) (hg.ext ((Ext.rf _).al _)) hn)
  have hb := World.block_lt_of_cell? w _ hc
  simp only at hb
  clear hg hn
  generalize g.contains x = r at *
  generalize g.contains y = r2 at *
  cases r with
  | true =>
    go_enter Try.func14, Try.ntmps14
    go_wp2_with fail
    refine (HC.out).mono ?_
    rintro e w' ⟨rfl, rfl⟩
    go_wp2
    go_ret
    exact ⟨rfl, (Ext.rf _).al _⟩
  | false =>
    go_enter Try.func14, Try.ntmps14
    go_wp2_with fail
    refine (HC.out).mono ?_
    rintro e w' ⟨rfl, rfl⟩
    go_wp2_with fail
    refine (HC2.out).mono ?_
    rintro e w' ⟨rfl, rfl⟩
    go_wp2
    go_ret
    exact ⟨rfl, (Ext.rf _).al _⟩

set_option maxHeartbeats 1000000 in
theorem lawg3_calls (a b x : Int) (gv : Value) (g : List Int) (bx bg : Nat) (w : World) (hx : w.cell? ⟨bx, 0, none⟩ = some (.int .i64 x)) (hc : w.cell? ⟨bg, 0, none⟩ = some gv) (hg : Ints w gv g) (hn : g.length ≤ 1000000) :
    Calls Try.prog 15 #[.agg #[.int .i64 a, .int .i64 b], .pointer (some ⟨bx, 0, none⟩), .pointer (some ⟨bg, 0, none⟩)] w fun e w' => e = .returned (.bool ((b == x) && (a != x) && !g.contains a)) ∧ Ext w w' := by
  have HC := Lib.hid (contains_int a gv g (w.alloc (.cells #[.int .i64 a, .int .i64 b] 24)) (hg.ext ((Ext.rf _).al _)) hn)
  have hb := World.block_lt_of_cell? w _ hc
  have hb2 := World.block_lt_of_cell? w _ hx
  simp only at hb hb2
  clear hg hn
  generalize g.contains a = r at *
  cases h1 : (b == x) with
  | false =>
    go_enter Try.func15, Try.ntmps15
    go_wp2
    go_ret
    exact ⟨rfl, (Ext.rf _).al _⟩
  | true =>
    cases h2 : (a != x) with
    | false =>
      go_enter Try.func15, Try.ntmps15
      go_wp2
      go_ret
      exact ⟨rfl, (Ext.rf _).al _⟩
    | true =>
      go_enter Try.func15, Try.ntmps15
      go_wp2_with fail
      refine (HC.out).mono ?_
      rintro e w' ⟨rfl, rfl⟩
      go_wp2
      go_ret
      exact ⟨rfl, (Ext.rf _).al _⟩

theorem lawg1_says {gv : Value} {g : List Int} {bg : Nat} {w : World} (hc : w.cell? ⟨bg, 0, none⟩ = some gv) (hg : Ints w gv g) (hn : g.length ≤ 1000000) (l : List Int) :
    Says Try.prog 11 #[.pointer (some ⟨bg, 0, none⟩)] (fun x => g.contains x) l w :=
  fun x _ W hW => lawg1_calls x gv g bg W (hW.cl hc) (hg.ext hW) hn
theorem lawg2_says {gv : Value} {g : List Int} {bg : Nat} {w : World} (hc : w.cell? ⟨bg, 0, none⟩ = some gv) (hg : Ints w gv g) (hn : g.length ≤ 1000000) (l : List (Int × Int)) :
    SaysOf Try.prog RPair encAgg 14 #[.pointer (some ⟨bg, 0, none⟩)] (fun r => !g.contains r.1 && g.contains r.2) l w := by
  intro r _ W vs hW hr
  obtain rfl : vs = _ := hr
  exact lawg2_calls r.1 r.2 gv g bg W (hW.cl hc) (hg.ext hW) hn
theorem lawg3_says {x : Int} {gv : Value} {g : List Int} {bx bg : Nat} {w : World} (hx : w.cell? ⟨bx, 0, none⟩ = some (.int .i64 x)) (hc : w.cell? ⟨bg, 0, none⟩ = some gv) (hg : Ints w gv g) (hn : g.length ≤ 1000000) (l : List (Int × Int)) :
    SaysOf Try.prog RPair encAgg 15 #[.pointer (some ⟨bx, 0, none⟩), .pointer (some ⟨bg, 0, none⟩)] (fun y => (y.2 == x) && (y.1 != x) && !g.contains y.1) l w := by
  intro r _ W vs hW hr
  obtain rfl : vs = _ := hr
  exact lawg3_calls r.1 r.2 x gv g bx bg W (hW.cl hx) (hW.cl hc) (hg.ext hW) hn


theorem enters_8 : ∀ args w, (callFunc 8 args).run Try.prog w = .ok (.enter 8 args) w := enters_of Try.func8 (by kernel_rfl) rfl
theorem enters_16 : ∀ args w, (callFunc 16 args).run Try.prog w = .ok (.enter 16 args) w := enters_of Try.func16 (by kernel_rfl) rfl

theorem gaps_le (M : List Bool) (N : Nat) (h : N ≤ 512) : (gaps M N).length ≤ 1000000 := by have := gaps_len M N; omega

set_option maxHeartbeats 4000000 in
set_option maxRecDepth 100000 in
/-- Outside the bounds, and where a number is out of range. -/
theorem lawGarb_out (u v : Value) (refs : List (Int × Int)) (roots : List Int) (n a b : Int) (w : World) (hu : Sl RPair 2 w u refs) (hv : Ints w v roots) (hs : refs.length ≤ 9223372036854775807) (hs2 : roots.length ≤ 9223372036854775807)
    (hout : 40 < n ∨ 60 < refs.length ∨ 60 < roots.length ∨ garbBad refs roots n = true) :
    Calls Try.prog 3 #[u, v, .int .i64 n, .agg #[.int .i64 a, .int .i64 b]] w fun e w' => e = .returned (.bool true) ∧ Ext w w' := by
  have AW := Lib.hid awake_calls
  have HU := Lib.hid hu
  have HV := Lib.hid hv
  obtain ⟨ua, uc, rfl, _, _⟩ := hu
  obtain ⟨va, vc, rfl, _, _⟩ := hv
  generalize hun : refs.length = un at *
  generalize hvn : roots.length = vn at *
  have HUN := Lib.hid hun
  have HVN := Lib.hid hvn
  clear hun hvn
  by_cases h1 : 40 < n
  · clear hout
    go_enter Try.func3, Try.ntmps3
    go_wp2_with fail
    refine (AW.out _).mono ?_
    rintro e w1 ⟨rfl, he1⟩
    have HE := Lib.hid (((Ext.rf w).al _).trans' he1); clear he1
    go_wp2
    go_ret
    exact ⟨rfl, HE.out⟩
  by_cases h2 : 60 < un
  · have h2z : (60 : Int) < (un : Int) := by omega
    clear hout
    go_enter Try.func3, Try.ntmps3
    go_wp2_with fail
    refine (AW.out _).mono ?_
    rintro e w1 ⟨rfl, he1⟩
    have HE := Lib.hid (((Ext.rf w).al _).trans' he1); clear he1
    go_wp2
    go_ret
    exact ⟨rfl, HE.out⟩
  have h2z : ¬ (60 : Int) < (un : Int) := by omega
  by_cases h3 : 60 < vn
  · have h3z : (60 : Int) < (vn : Int) := by omega
    clear hout
    go_enter Try.func3, Try.ntmps3
    go_wp2_with fail
    refine (AW.out _).mono ?_
    rintro e w1 ⟨rfl, he1⟩
    have HE := Lib.hid (((Ext.rf w).al _).trans' he1); clear he1
    go_wp2
    go_ret
    exact ⟨rfl, HE.out⟩
  have h3z : ¬ (60 : Int) < (vn : Int) := by omega
  have hbad : garbBad refs roots n = true := by
    rcases hout with h | h | h | h
    · exact absurd h h1
    · exact absurd h h2
    · exact absurd h h3
    · exact h
  have GB := Lib.hid (fun (W : World) (hW : Ext w W) => garbage_bad _ _ refs roots n W (HU.out.ext rpair_lasts hW) (HV.out.ext hW) (by rw [HUN.out]; omega) (by rw [HVN.out]; omega) hbad)
  clear hout hbad
  go_enter Try.func3, Try.ntmps3
  go_wp2_with fail
  refine (AW.out _).mono ?_
  rintro e w1 ⟨rfl, he1⟩
  have HE := Lib.hid (((Ext.rf w).al _).trans' he1); clear he1
  go_wp2_with fail
  refine (GB.out _ HE.out).mono ?_
  rintro e w2 ⟨rfl, he2⟩
  have HE2 := Lib.hid (HE.out.trans' he2); clear he2
  go_wp2
  go_ret
  exact ⟨rfl, HE2.out.al _⟩

end Go.Proofs.Ythpnkfnnjkhhaaa
