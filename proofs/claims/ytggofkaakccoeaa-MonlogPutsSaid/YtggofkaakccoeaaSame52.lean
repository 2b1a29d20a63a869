/-
  The reference's Same and SameRecords, of equal ones.
-/
import Derived.Test.YtggofkaakccoeaaBase
import Derived.Test.YtggofkaakccoeaaProg
import Derived.BigQuiet
import Derived.Deep.QuietTactic
import Derived.Deep.LoopGhost
import Derived.Shelf.Abstract
import Derived.Test.YtggofkaakccoeaaRecW52
namespace Go.Proofs.Ytggofkaakccoeaa
open Go.RowKit
set_option linter.unusedVariables false

set_option maxHeartbeats 4000000 in
theorem same_calls (u v : Value) (l : List Int) (d f : Int) (w : World) (hu : Bys w u l) (hv : Bys w v l) (hn : l.length ≤ 1000000) :
    Calls Try.prog 11 #[.agg #[u, .int .i64 d, .int .i64 f], .agg #[v, .int .i64 d, .int .i64 f]] w fun e w' => e = .returned (.bool true) ∧ Ext w w' := by
  obtain ⟨_, a, c, rfl, _, hu⟩ := hu
  obtain ⟨_, a2, c2, rfl, _, hv⟩ := hv
  have HU := Lib.hid hu
  have HV := Lib.hid hv
  clear hu hv
  generalize hln : l.length = n at *
  have HL := Lib.hid hln; clear hln
  have b1 : (d != d) = false := by simp
  have b2 : (f != f) = false := by simp
  have b3 : ((n : Int) != (n : Int)) = false := by simp
  have HC : Hid (Ext w ((w.alloc (.cells #[.slice a n c, .int .i64 d, .int .i64 f] 24)).alloc (.cells #[.slice a2 n c2, .int .i64 d, .int .i64 f] 24))) := Lib.hid (((Ext.rf w).al _).al _)
  go_enter Try.func11, Try.ntmps11
  go_wp2
  go_loopg [5] n (fun g s5 wr => ∃ k : Nat, k ≤ n ∧ n - k ≤ g ∧ s5 = .int .i64 k ∧ Aside (Ext ((w.alloc (.cells #[.slice a n c, .int .i64 d, .int .i64 f] 24)).alloc (.cells #[.slice a2 n c2, .int .i64 d, .int .i64 f] 24)) wr))
  case atStart => exact ⟨0, Nat.zero_le _, by omega, rfl, Ext.rf _⟩
  case round =>
    obtain ⟨k, hk, hg, rfl, HE⟩ := hrel
    have hc0 := HE.out.cl (((Ext.rf (w.alloc (.cells #[.slice a n c, .int .i64 d, .int .i64 f] 24))).al (.cells #[.slice a2 n c2, .int .i64 d, .int .i64 f] 24)).cl (cell_new w #[.slice a n c, .int .i64 d, .int .i64 f] 24 0 _ rfl))
    have hc1 := HE.out.cl (cell_new_eq (b := w.heap.size + 1) (by simp) (show (#[.slice a2 n c2, .int .i64 d, .int .i64 f] : Array Value)[0]? = some _ from rfl) : ((w.alloc (.cells #[.slice a n c, .int .i64 d, .int .i64 f] 24)).alloc (.cells #[.slice a2 n c2, .int .i64 d, .int .i64 f] 24)).cell? ⟨w.heap.size + 1, 0, none⟩ = some (.slice a2 n c2))
    by_cases hlt : k < n
    · obtain ⟨b, off, rfl, hb, hc⟩ := HU.out (by intro e; have := HL.out; simp [e] at this; omega)
      obtain ⟨b2, off2, rfl, hb2, hc2⟩ := HV.out (by intro e; have := HL.out; simp [e] at this; omega)
      have hcell : wr.cell? ⟨b, off + k, none⟩ = some (.int .u8 l[k]!) := (HC.out.trans' HE.out).cl (hc k hlt)
      have hcell2 : wr.cell? ⟨b2, off2 + k, none⟩ = some (.int .u8 l[k]!) := (HC.out.trans' HE.out).cl (hc2 k hlt)
      have hltz : (k : Int) < (n : Int) := by omega
      have hkz : (0 : Int) ≤ (k : Int) := by omega
      clear hc hc2
      generalize l[k]! = y at hcell hcell2
      have b4 : (y != y) = false := by simp
      go_wp2
      go_quiet (fail)
      go_wp2
      go_roundg (n - (k + 1))
      case measure => omega
      case rel => exact ⟨k + 1, by omega, by omega, by go_num, HE.out.drN _⟩
    · have hltz : ¬ (k : Int) < (n : Int) := by omega
      go_wp2
      go_ret
      exact ⟨rfl, HC.out.trans' HE.out⟩

set_option maxHeartbeats 4000000 in
theorem sameRecords_calls (u v : Value) (l : List (List Int)) (w : World) (hu : Sl RBys 1 w u l) (hv : Sl RBys 1 w v l) (hn : l.length ≤ 1000000) (hl : ∀ r, r ∈ l → r.length ≤ 1000000) :
    Calls Try.prog 21 #[u, v] w fun e w' => e = .returned (.bool true) ∧ Ext w w' := by
  obtain ⟨a, c, rfl, _, hu⟩ := hu
  obtain ⟨a2, c2, rfl, _, hv⟩ := hv
  have HU := Lib.hid hu
  have HV := Lib.hid hv
  have HLL := Lib.hid hl
  clear hu hv hl
  generalize hln : l.length = n at *
  have HL := Lib.hid hln; clear hln
  have b3 : ((n : Int) != (n : Int)) = false := by simp
  go_enter Try.func21, Try.ntmps21
  go_wp2
  go_loopg [5] n (fun g s5 wr => ∃ k : Nat, k ≤ n ∧ n - k ≤ g ∧ s5 = .int .i64 k ∧ Aside (Ext w wr))
  case atStart => exact ⟨0, Nat.zero_le _, by omega, rfl, Ext.rf _⟩
  case round =>
    obtain ⟨k, hk, hg, rfl, HE⟩ := hrel
    by_cases hlt : k < n
    · obtain ⟨b, off, rfl, hb, hc⟩ := HU.out (by intro e; have := HL.out; simp [e] at this; omega)
      obtain ⟨b2, off2, rfl, hb2, hc2⟩ := HV.out (by intro e; have := HL.out; simp [e] at this; omega)
      obtain ⟨vs, hvl, ⟨x, rfl, hx⟩, hcx⟩ := hc k hlt
      obtain ⟨vs2, hvl2, ⟨x2, rfl, hx2⟩, hcx2⟩ := hc2 k hlt
      have hxl := HLL.out _ (mem_at l k (by rw [HL.out]; exact hlt))
      have hd := HE.out.cl (hcx 0 (by omega))
      have hd2 := HE.out.cl (hcx2 0 (by omega))
      rw [Nat.mul_one, Nat.add_zero] at hd hd2
      clear hc hc2 hcx hcx2
      generalize l[k]! = r at *
      obtain ⟨_, xa, xc, rfl, _, hxc⟩ := hx
      obtain ⟨_, xa2, xc2, rfl, _, hxc2⟩ := hx2
      have hd : wr.cell? ⟨b, off + k, none⟩ = some (.slice xa r.length xc) := hd
      have hd2 : wr.cell? ⟨b2, off2 + k, none⟩ = some (.slice xa2 r.length xc2) := hd2
      generalize hm : r.length = m at *
      have HM := Lib.hid hm
      have HX := Lib.hid hxc
      have HX2 := Lib.hid hxc2
      have HD := Lib.hid hd
      have HD2 := Lib.hid hd2
      clear hm hxc hxc2
      have hltz : (k : Int) < (n : Int) := by omega
      have hkz : (0 : Int) ≤ (k : Int) := by omega
      have b5 : ((m : Int) != (m : Int)) = false := by simp
      go_wp2
      go_quiet (fail)
      go_wp2
      clear hd hd2
      obtain ⟨wo, rfl⟩ : ∃ x, x = wr := ⟨_, rfl⟩
      go_loopg [6] m (fun g2 s6 wr => ∃ j : Nat, j ≤ m ∧ m - j ≤ g2 ∧ s6 = .int .i64 j ∧ Aside (Ext wo wr))
      case atStart => exact ⟨0, Nat.zero_le _, by omega, rfl, (Ext.rf _).drN _⟩
      case round =>
        obtain ⟨j, hj, hg2, rfl, HE2⟩ := hrel
        have hd := HE2.out.cl HD.out
        have hd2 := HE2.out.cl HD2.out
        by_cases hjt : j < m
        · obtain ⟨e1, o1, rfl, he1, hec⟩ := HX.out (by intro e; have := HM.out; simp [e] at this; omega)
          obtain ⟨e2, o2, rfl, he2, hec2⟩ := HX2.out (by intro e; have := HM.out; simp [e] at this; omega)
          have hcell : wr.cell? ⟨e1, o1 + j, none⟩ = some (.int .u8 r[j]!) := (HE.out.trans' HE2.out).cl (hec j hjt)
          have hcell2 : wr.cell? ⟨e2, o2 + j, none⟩ = some (.int .u8 r[j]!) := (HE.out.trans' HE2.out).cl (hec2 j hjt)
          have hjtz : (j : Int) < (m : Int) := by omega
          have hjz : (0 : Int) ≤ (j : Int) := by omega
          clear hec hec2
          generalize r[j]! = y at hcell hcell2
          have b4 : (y != y) = false := by simp
          go_wp2
          go_quiet (fail)
          go_wp2
          go_roundg (m - (j + 1))
          case measure => omega
          case rel => exact ⟨j + 1, by omega, by omega, by go_num, HE2.out.drN _⟩
        · have hjtz : ¬ (j : Int) < (m : Int) := by omega
          go_wp2
          go_roundg (n - (k + 1))
          case measure => omega
          case rel => exact ⟨k + 1, by omega, by omega, by go_num, HE.out.trans' HE2.out⟩
    · have hltz : ¬ (k : Int) < (n : Int) := by omega
      go_wp2
      go_ret
      exact ⟨rfl, HE.out⟩

end Go.Proofs.Ytggofkaakccoeaa
