/-
  The library's Equal on slices of numbers.
-/
import Derived.Test.YtodkcfebcjgahaaBase
import Derived.Test.YtodkcfebcjgahaaProg
import Derived.BigQuiet
import Derived.Deep.QuietTactic
import Derived.Deep.LoopGhost
import Derived.Shelf.Abstract

namespace Go.Proofs.Ytodkcfebcjgahaa
open Go.RowKit
set_option linter.unusedVariables false

theorem beq_at (l m : List Int) (h : l.length = m.length) : (∃ k, k < l.length ∧ l[k]! ≠ m[k]!) → (l == m) = false := by
  rintro ⟨k, hk, hne⟩
  rw [beq_eq_false_iff_ne]
  rintro rfl
  exact hne rfl
theorem beq_all (l m : List Int) (h : l.length = m.length) (hall : ∀ k, k < l.length → l[k]! = m[k]!) : (l == m) = true := by
  rw [beq_iff_eq]
  refine List.ext_getElem h fun i h1 h2 => ?_
  have := hall i h1
  rwa [getElem!_pos l i h1, getElem!_pos m i h2] at this
theorem beq_len (l m : List Int) (h : l.length ≠ m.length) : (l == m) = false := by
  rw [beq_eq_false_iff_ne]
  rintro rfl
  exact h rfl

set_option maxHeartbeats 400000 in
theorem equal_int (u v : Value) (l m : List Int) (w : World) (hu : Ints w u l) (hv : Ints w v m) (hn : l.length ≤ 1000000) (hm : m.length ≤ 1000000) :
    Calls Try.prog 16 #[u, v] w fun e w' => e = .returned (.bool (l == m)) ∧ Ext w w' := by
  obtain ⟨a, c, rfl, _, hu⟩ := hu
  obtain ⟨a2, c2, rfl, _, hv⟩ := hv
  have HU := Lib.hid hu; clear hu
  have HV := Lib.hid hv; clear hv
  generalize hln : l.length = n at hn
  generalize hlm : m.length = n2 at hm
  have HL := Lib.hid hln; clear hln
  have HM := Lib.hid hlm; clear hlm
  by_cases hne : n = n2
  · subst hne
    go_enter Try.func16, Try.ntmps16
    go_wp2
    go_loopg [5, 13] n (fun g _ s13 wr => ∃ k : Nat, k ≤ n ∧ n - k ≤ g ∧ s13 = .int .i64 k ∧ Ext w wr ∧ Aside (∀ j, j < k → l[j]! = m[j]!))
    case atStart => exact ⟨0, Nat.zero_le _, by omega, rfl, Ext.rf _, (fun j hj => absurd hj (Nat.not_lt_zero _))⟩
    case round =>
      obtain ⟨k, hk, hg, rfl, he, A⟩ := hrel
      have HE := Lib.hid he; clear he
      by_cases hlt : k < n
      · obtain ⟨b, off, rfl, hb, hc⟩ := HU.out (by intro e; have := HL.out; simp [e] at this; omega)
        obtain ⟨b2, off2, rfl, hb2, hc2⟩ := HV.out (by intro e; have := HM.out; simp [e] at this; omega)
        have hcell : wr.cell? ⟨b, off + k, none⟩ = some (.int .i64 l[k]!) := HE.out.cl (hc k (by rw [HL.out]; exact hlt))
        have hcell2 : wr.cell? ⟨b2, off2 + k, none⟩ = some (.int .i64 m[k]!) := HE.out.cl (hc2 k (by rw [HM.out]; exact hlt))
        have hltz : (k : Int) < (n : Int) := by omega
        have hkz : (0 : Int) ≤ (k : Int) := by omega
        clear hc HV hc2 HU
        generalize hy : l[k]! = y at hcell
        generalize hz : m[k]! = z at hcell2
        have B := Lib.hid hy
        have C := Lib.hid hz
        clear hy hz
        cases hq : (y != z) with
        | true =>
          go_wp2
          go_quiet (fail)
          go_wp2
          go_ret
          exact ⟨by rw [beq_at l m (by rw [HL.out, HM.out]) ⟨k, by rw [HL.out]; exact hlt, by rw [B.out, C.out]; simpa using hq⟩]; rfl, HE.out.drN _⟩
        | false =>
          go_wp2
          go_quiet (fail)
          go_wp2
          go_roundg (n - (k + 1))
          case measure => omega
          case rel =>
            refine ⟨k + 1, by omega, by omega, by go_num, HE.out.drN _, (show Aside _ from fun j hj => ?_)⟩
            by_cases e : j = k
            · subst e
              rw [B.out, C.out]; simpa using hq
            · exact A.out j (by omega)
      · have hltz : ¬ (k : Int) < (n : Int) := by omega
        go_wp2
        go_ret
        exact ⟨by rw [beq_all l m (by rw [HL.out, HM.out]) (fun j hj => A.out j (by rw [HL.out] at hj; omega))]; rfl, HE.out⟩
  · have h1 : ((n : Int) != (n2 : Int)) = true := by rw [bne_iff_ne]; omega
    go_enter Try.func16, Try.ntmps16
    go_wp2
    go_ret
    exact ⟨by rw [beq_len l m (by rw [HL.out, HM.out]; exact hne)]; rfl, Ext.rf _⟩

end Go.Proofs.Ytodkcfebcjgahaa
