/-
  The reference's SameEvent and Same of equal traces.
-/
import Derived.Test.YtfcpnggdpaeldaaGa
import Derived.Test.YtfcpnggdpaeldaaProg
import Derived.BigQuiet
import Derived.Deep.QuietTactic
import Derived.Deep.LoopGhost
import Derived.Shelf.Abstract
import Derived.Test.YtfcpnggdpaeldaaWrB
namespace Go.Proofs.Ytfcpnggdpaeldaa
open Go.RowKit
set_option linter.unusedVariables false
attribute [local go_sem ↓] Go.wp_at_zero Go.wp_at_succ

theorem enters_64 : ∀ args w, (callFunc 64 args).run Try.prog w = .ok (.enter 64 args) w := enters_of Try.func64 (by kernel_rfl) rfl
set_option maxHeartbeats 4000000 in
set_option maxRecDepth 100000 in
theorem sameE_calls (u1 u2 : Value) (x : Ev) (w : World) (h1 : Sl RAsg 2 w u1 x.asg) (h2 : Sl RAsg 2 w u2 x.asg) (hn : x.asg.length ≤ 1000000) :
    Calls Try.prog 64 #[.agg #[.int .i64 x.kind, .int .i64 x.peer, .int .i64 x.msg, .int .i64 x.time, u1], .agg #[.int .i64 x.kind, .int .i64 x.peer, .int .i64 x.msg, .int .i64 x.time, u2]] w fun e w' => e = .returned (.bool true) ∧ Ext w w' := by
  have HA := Lib.hid h1
  have HB := Lib.hid h2
  obtain ⟨a1, c1, rfl, hc1⟩ := h1.shape
  obtain ⟨a2, c2, rfl, hc2⟩ := h2.shape
  generalize hk : x.kind = k1
  generalize hp : x.peer = k2
  generalize hm : x.msg = k3
  generalize ht : x.time = k4
  clear hk hp hm ht
  generalize x.asg = l at *
  obtain ⟨n, hln⟩ : ∃ n, l.length = n := ⟨_, rfl⟩
  have HL := Lib.hid hln
  rw [hln] at hn HA HB ⊢
  clear h1 h2 hc1 hc2 hln
  have HX0 := Lib.hid (heap_alloc_new w (.cells #[.int .i64 k1, .int .i64 k2, .int .i64 k3, .int .i64 k4, .slice a1 n c1] 55))
  have HW1 := Lib.hid ((Ext.rf (w.alloc (.cells #[.int .i64 k1, .int .i64 k2, .int .i64 k3, .int .i64 k4, .slice a1 n c1] 55))).al (.cells #[.int .i64 k1, .int .i64 k2, .int .i64 k3, .int .i64 k4, .slice a2 n c2] 55))
  have HX1 := Lib.hid (heap_alloc_new (w.alloc (.cells #[.int .i64 k1, .int .i64 k2, .int .i64 k3, .int .i64 k4, .slice a1 n c1] 55)) (.cells #[.int .i64 k1, .int .i64 k2, .int .i64 k3, .int .i64 k4, .slice a2 n c2] 55))
  have HX0b := Lib.hid (HW1.out.hp HX0.out)
  have HE1 := Lib.hid (((Ext.rf w).al (.cells #[.int .i64 k1, .int .i64 k2, .int .i64 k3, .int .i64 k4, .slice a1 n c1] 55)).al (.cells #[.int .i64 k1, .int .i64 k2, .int .i64 k3, .int .i64 k4, .slice a2 n c2] 55))
  have hsz : (w.alloc (.cells #[.int .i64 k1, .int .i64 k2, .int .i64 k3, .int .i64 k4, .slice a1 n c1] 55)).heap.size = w.heap.size + 1 := by simp
  rw [hsz] at HX1
  have s0 := cellOf HX0b.out 0
  have s1 := cellOf HX0b.out 1
  have s2 := cellOf HX0b.out 2
  have s3 := cellOf HX0b.out 3
  have s4 := cellOf HX0b.out 4
  have q0 := cellOf HX1.out 0
  have q1 := cellOf HX1.out 1
  have q2 := cellOf HX1.out 2
  have q3 := cellOf HX1.out 3
  have q4 := cellOf HX1.out 4
  simp only [List.getElem?_toArray, List.getElem?_cons_zero, List.getElem?_cons_succ] at s0 s1 s2 s3 s4 q0 q1 q2 q3 q4
  clear hsz HW1 HX0
  go_enter Try.func64, Try.ntmps64
  go_wp2
  generalize hw2 : (w.alloc (.cells #[.int .i64 k1, .int .i64 k2, .int .i64 k3, .int .i64 k4, .slice a1 n c1] 55)).alloc (.cells #[.int .i64 k1, .int .i64 k2, .int .i64 k3, .int .i64 k4, .slice a2 n c2] 55) = w2 at *
  clear hw2 s0 s1 s2 s3 s4 q0 q1 q2 q3 q4
  go_loopg [5] n (fun g s5 wr => ∃ i : Nat, i ≤ n ∧ n - i ≤ g ∧ s5 = .int .i64 i ∧ Aside (Ext w2 wr))
  case atStart => exact ⟨0, Nat.zero_le _, by omega, rfl, Ext.rf _⟩
  case round =>
    obtain ⟨i, hi, hg, rfl, HEK⟩ := hrel
    have HEW := Lib.hid (HE1.out.trans' HEK.out)
    have s4 := cellOf (HEK.out.hp HX0b.out) 4
    have q4 := cellOf (HEK.out.hp HX1.out) 4
    simp only [List.getElem?_toArray, List.getElem?_cons_zero, List.getElem?_cons_succ] at s4 q4
    by_cases hlt : i < n
    · have hltz : (i : Int) < (n : Int) := by omega
      have hiz : (0 : Int) ≤ (i : Int) := by omega
      obtain ⟨B1, O1, C1, he1, hl1, hb1, f0, f1⟩ := asg_at HA.out i (by rw [HL.out]; exact hlt)
      obtain ⟨B2, O2, C2, he2, hl2, hb2, g0, g1⟩ := asg_at HB.out i (by rw [HL.out]; exact hlt)
      simp only [Value.slice.injEq] at he1 he2
      obtain ⟨rfl, hz1, rfl⟩ := he1
      obtain ⟨rfl, hz2, rfl⟩ := he2
      have f0 := HEW.out.cl f0
      have f1 := HEW.out.cl f1
      have g0 := HEW.out.cl g0
      have g1 := HEW.out.cl g1
      generalize l[i]!.var = v0 at *
      generalize l[i]!.value = v1 at *
      clear hz1 hz2 hl1 hl2 hb1 hb2
      go_wp2
      go_region
      go_wp2
      go_roundg (n - (i + 1))
      case measure => omega
      case rel => exact ⟨i + 1, by omega, by omega, by go_num, (show Ext _ _ from HEK.out.dr)⟩
    · have hltz : ¬ (i : Int) < (n : Int) := by omega
      obtain rfl : n = i := by omega
      go_wp2
      go_ret
      exact ⟨rfl, HEW.out⟩

end Go.Proofs.Ytfcpnggdpaeldaa
