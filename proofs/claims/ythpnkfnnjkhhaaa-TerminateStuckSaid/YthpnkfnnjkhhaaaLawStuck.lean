/-
  The walk of the law on stuck sets: its closures, and the ways out of its bounds.
-/
import Derived.Test.YthpnkfnnjkhhaaaBase
import Derived.Test.YthpnkfnnjkhhaaaProg
import Derived.BigQuiet
import Derived.Deep.QuietTactic
import Derived.Deep.LoopGhost
import Derived.Shelf.Abstract
import Derived.Test.YthpnkfnnjkhhaaaAwake51
import Derived.Test.YthpnkfnnjkhhaaaLawStuckL
import Derived.Test.YthpnkfnnjkhhaaaFault
import Derived.Test.YthpnkfnnjkhhaaaStep
import Derived.Test.YthpnkfnnjkhhaaaDead
namespace Go.Proofs.Ythpnkfnnjkhhaaa
open Go.RowKit
set_option linter.unusedVariables false

theorem enters_22 : ∀ args w, (callFunc 22 args).run Try.prog w = .ok (.enter 22 args) w := enters_of Try.func22 (by kernel_rfl) rfl
theorem enters_25 : ∀ args w, (callFunc 25 args).run Try.prog w = .ok (.enter 25 args) w := enters_of Try.func25 (by kernel_rfl) rfl

set_option maxHeartbeats 400000 in
theorem stuck1_calls (x : Int) (gv : Value) (g : List Int) (bg : Nat) (w : World) (hc : w.cell? ⟨bg, 0, none⟩ = some gv) (hg : Ints w gv g) (hn : g.length ≤ 1000000) :
    Calls Try.prog 22 #[.int .i64 x, .pointer (some ⟨bg, 0, none⟩)] w fun e w' => e = .returned (.bool (!g.contains x)) ∧ Ext w w' := by
  have HC := Lib.hid (contains_int x gv g w hg hn)
  clear hg hn
  generalize g.contains x = r at *
  go_enter Try.func22, Try.ntmps22
  go_wp2_with (go_at_call 12; refine HC.out.mono ?_; rintro e w' ⟨rfl, rfl⟩)
  go_ret
  exact ⟨rfl, Ext.rf _⟩

theorem stuck1_says {gv : Value} {g : List Int} {bg : Nat} {w : World} (hc : w.cell? ⟨bg, 0, none⟩ = some gv) (hg : Ints w gv g) (hn : g.length ≤ 1000000) (l : List Int) :
    Says Try.prog 22 #[.pointer (some ⟨bg, 0, none⟩)] (fun x => !g.contains x) l w :=
  fun x _ W hW => stuck1_calls x gv g bg W (hW.cl hc) (hg.ext hW) hn

set_option maxHeartbeats 400000 in
theorem stuck2_calls (x : Int) (gv : Value) (g : List Int) (bg : Nat) (w : World) (hc : w.cell? ⟨bg, 0, none⟩ = some gv) (hg : Ints w gv g) (hn : g.length ≤ 1000000) :
    Calls Try.prog 25 #[.int .i64 x, .pointer (some ⟨bg, 0, none⟩)] w fun e w' => e = .returned (.bool (!g.contains x)) ∧ Ext w w' := by
  have HC := Lib.hid (contains_int x gv g w hg hn)
  clear hg hn
  generalize g.contains x = r at *
  go_enter Try.func25, Try.ntmps25
  go_wp2_with (go_at_call 12; refine HC.out.mono ?_; rintro e w' ⟨rfl, rfl⟩)
  go_ret
  exact ⟨rfl, Ext.rf _⟩

theorem stuck2_says {gv : Value} {g : List Int} {bg : Nat} {w : World} (hc : w.cell? ⟨bg, 0, none⟩ = some gv) (hg : Ints w gv g) (hn : g.length ≤ 1000000) (l : List Int) :
    Says Try.prog 25 #[.pointer (some ⟨bg, 0, none⟩)] (fun x => !g.contains x) l w :=
  fun x _ W hW => stuck2_calls x gv g bg W (hW.cl hc) (hg.ext hW) hn

set_option maxHeartbeats 4000000 in
set_option maxRecDepth 100000 in
/-- Outside the bounds, and where the requests are not valid. -/
theorem lawStuck_out (u v mv : Value) (l : List Wt) (n : Int) (st : List Int) (m : Wt) (w : World) (hu : Sl RWaitL 3 w u l) (hv : Ints w v st) (hmv : Ints w mv m.fors)
    (hs : l.length ≤ 9223372036854775807) (hs2 : st.length ≤ 9223372036854775807) (hs3 : m.fors.length ≤ 9223372036854775807)
    (hout : bigB l n = true ∨ 60 < st.length ∨ 40 < m.fors.length ∨ validL l n ≠ 0) :
    Calls Try.prog 4 #[u, .int .i64 n, v, .agg #[.int .i64 m.proc, .int .i64 m.need, mv]] w fun e w' => e = .returned (.bool true) ∧ Ext w w' := by
  have AW := Lib.hid awake_calls
  have BG := Lib.hid (fun (W : World) (hW : Ext w W) => big_calls u l n W (hu.ext rwaitL_lasts hW) hs)
  obtain ⟨hu2, hfl⟩ := sl_waitL hu
  have SL := Lib.hid hu2
  obtain ⟨ua, uc, rfl, _, _⟩ := hu
  obtain ⟨va, vc, rfl, _, _⟩ := hv
  obtain ⟨ma, mc, rfl, _, _⟩ := hmv
  cases h1 : bigB l n with
  | true =>
    rw [h1] at BG
    clear h1 hout hu2 hfl hs
    generalize l.length = L at *
    generalize st.length = S at *
    generalize m.fors.length = F at *
    generalize m.proc = p at *
    generalize m.need = q at *
    go_enter Try.func4, Try.ntmps4
    go_wp2_with fail
    refine (AW.out _).mono ?_
    rintro e w1 ⟨rfl, he1⟩
    have HE1 := Lib.hid (((Ext.rf w).al _).trans' he1)
    clear he1 AW
    go_wp2_with fail
    refine (BG.out _ HE1.out).mono ?_
    rintro e w2 ⟨rfl, he2⟩
    have HE2 := Lib.hid (HE1.out.trans' he2)
    clear he2 BG
    go_wp2
    go_ret
    exact ⟨rfl, HE2.out⟩
  | false =>
    rw [h1] at BG
    obtain ⟨b1, b2, b3⟩ := big_not h1
    have FT := Lib.hid (fun (W : World) (hW : Ext w W) => fault_calls _ l n W (SL.out.ext rwait_lasts hW) (by omega) (fun x hx => by have := b3 x hx; omega))
    have hout2 : 60 < st.length ∨ 40 < m.fors.length ∨ validL l n ≠ 0 := hout.resolve_left (by rw [h1]; simp)
    clear h1 hout hu2 hfl hs b1 b2 b3
    generalize l.length = L at *
    generalize st.length = S at *
    generalize m.fors.length = F at *
    generalize m.proc = p at *
    generalize m.need = q at *
    generalize validL l n = r at *
    go_enter Try.func4, Try.ntmps4
    go_wp2_with fail
    refine (AW.out _).mono ?_
    rintro e w1 ⟨rfl, he1⟩
    have HE1 := Lib.hid (((Ext.rf w).al _).trans' he1)
    have C2 := Lib.hid (he1.cl (cell_new _ _ _ 2 _ rfl))
    clear he1 AW
    have hB0 : w.heap.size < w1.heap.size := by have := World.block_lt_of_cell? w1 _ C2.out; simpa using this
    generalize w.heap.size = B0 at C2 hB0
    go_wp2_with fail
    refine (BG.out _ HE1.out).mono ?_
    rintro e w2 ⟨rfl, he2⟩
    have HE2 := Lib.hid (HE1.out.trans' he2)
    have c2 := he2.cl C2.out
    have hB2 : B0 < w2.heap.size := by have := World.block_lt_of_cell? w2 _ c2; simpa using this
    clear he2 BG C2
    by_cases t1 : 60 < S
    · have t1z : (60 : Int) < (S : Int) := by omega
      go_wp2
      go_ret
      exact ⟨rfl, HE2.out⟩
    have t1z : ¬ (60 : Int) < (S : Int) := by omega
    by_cases t2 : 40 < F
    · have t2z : (40 : Int) < (F : Int) := by omega
      go_wp2
      go_ret
      exact ⟨rfl, HE2.out⟩
    have t2z : ¬ (40 : Int) < (F : Int) := by omega
    have t3 : (r != 0) = true := by rw [bne_iff_ne]; omega
    have T3 := Lib.hid t3
    have t4 : ¬ r = 0 := by omega
    go_wp2_with fail
    refine (FT.out _ HE2.out).mono ?_
    rintro e w3 ⟨rfl, he3⟩
    have HE3 := Lib.hid (HE2.out.trans' he3)
    clear he3 FT
    go_wp2
    go_ret
    exact ⟨rfl, HE3.out⟩

end Go.Proofs.Ythpnkfnnjkhhaaa
