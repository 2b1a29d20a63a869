/-
  The walks that write numbers as bytes.
-/
import Derived.Test.YtggofkaakccoeaaBase
import Derived.Test.YtggofkaakccoeaaProg
import Derived.BigQuiet
import Derived.Deep.QuietTactic
import Derived.Deep.LoopGhost
import Derived.Shelf.Abstract
import Derived.Test.YtggofkaakccoeaaBytes
import Derived.Test.YtggofkaakccoeaaStep
namespace Go.Proofs.Ytggofkaakccoeaa
open Go.RowKit
set_option linter.unusedVariables false

theorem info_byte : (Try.prog.info? 5).map (fun i => (i.zero, i.size, i.bytes)) = some (some (.int .u8 0), 1, 1) := by kernel_rfl

set_option maxHeartbeats 1000000 in
set_option maxRecDepth 100000 in
/-- A number's bytes are written behind bytes of the call's own. -/
theorem number_calls (v : Value) (l : List Int) (x : Int) (size : Nat) (base : Nat) (w : World) (hr : Row w base 5 1 v l.length (l.map (Value.int .u8))) (hb : base ≤ w.heap.size) (hn : l.length ≤ 1000000) (hs : size ≤ 8) (h0 : 0 ≤ x) (h1 : x < 18446744073709551616) :
    Calls Try.prog 54 #[v, .int .u64 x, .int .i64 size] w fun e w' => ∃ v', e = .returned v' ∧ Row w' base 5 1 v' (l.length + size) ((l ++ wordL x size).map (Value.int .u8)) ∧ Below base w w' := by
  obtain ⟨i, hi, hz0, hz1, hz2⟩ := info_parts info_byte
  generalize hln : l.length = n at *
  have HL := Lib.hid hln; clear hln
  have HR := Lib.hid hr; clear hr
  have HB := Lib.hid hb
  go_enter Try.func54, Try.ntmps54
  go_wp2
  go_loopg [0, 9] size (fun g s0 s9 wr => ∃ k : Nat, k ≤ size ∧ size - k ≤ g ∧ s9 = .int .i64 k ∧ Aside (Row wr base 5 1 s0 (n + k) ((l ++ (wordL x size).take k).map (Value.int .u8))) ∧ Aside (Below base w wr))
  case atStart => exact ⟨0, Nat.zero_le _, by omega, rfl, by rw [Nat.add_zero, List.take_zero, List.append_nil]; exact HR.out, Below.refl _ _⟩
  case round =>
    obtain ⟨k, hk, hg, rfl, hR, hB⟩ := hrel
    by_cases hlt : k < size
    · have hltz : (k : Int) < (size : Int) := by omega
      have hwl := word_len x size
      have hsz := (Below.alloc hB.out (Nat.le_trans HB.out hB.out.size) (.cells #[.int .u8 (x / 2 ^ (8 * (size - 1 - k)) % 256)] 5))
      have HSZ := Lib.hid hsz; clear hsz
      have ST := Lib.hid (show (wordL x size).take (k + 1) = (wordL x size).take k ++ [x / 2 ^ (8 * (size - 1 - k)) % 256] from by
        rw [take_snoc' _ k (by rw [hwl]; exact hlt), word_get x size k hlt])
      clear hwl
      go_wp2_with ((at_builtin; refine wpList_append_one rfl _ _ 22 rfl base 5 i (.int .u8 0) 1 1 Try.underlying22 hi hz0 hz1 hz2 rfl (by decide) _ _ _ rfl (hR.out.al _) wr.heap.size 1 [.int .u8 (x / 2 ^ (8 * (size - 1 - k)) % 256)] rfl rfl ⟨_, heap_alloc_new _ _⟩ (by simp [Value.oneCell']) (by unfold maxLen; omega) (by omega) (Nat.le_trans HB.out HSZ.out.size) ?_; intro v5 w5 hown5 hgrow5 hblk5))
      go_roundg (size - (k + 1))
      case measure => omega
      case rel =>
        refine ⟨k + 1, by omega, by omega, by go_num, (show Aside _ from ?_), (show Aside _ from ?_)⟩
        · rw [ST.out, ← List.append_assoc, List.map_append]; exact hown5
        · exact Below.grown HSZ.out hgrow5 (Nat.le_trans HB.out HSZ.out.size) (fun kk hkk => (hR.out.lt kk hkk).1)
    · have hltz : ¬ (k : Int) < (size : Int) := by omega
      obtain rfl : k = size := by omega
      go_wp2
      go_ret
      exact ⟨_, rfl, by have := hR.out; rw [List.take_of_length_le (by rw [word_len]; omega)] at this; first | exact this | (rw [List.map_append] at this; exact this), hB.out⟩

set_option maxHeartbeats 1000000 in
set_option maxRecDepth 100000 in
theorem word_calls (x : Int) (size : Nat) (w : World) (hs : size ≤ 8) (h0 : 0 ≤ x) (h1 : x < 9223372036854775808) :
    Calls Try.prog 55 #[.int .i64 x, .int .i64 size] w fun e w' => ∃ v', e = .returned v' ∧ Row w' w.heap.size 5 1 v' size ((wordL x size).map (Value.int .u8)) ∧ Ext w w' := by
  obtain ⟨i, hi, hz0, hz1, hz2⟩ := info_parts info_byte
  go_enter Try.func55, Try.ntmps55
  go_wp2
  go_loopg [5, 6] size (fun g s5 s6 wr => ∃ k : Nat, k ≤ size ∧ size - k ≤ g ∧ s6 = .int .i64 ((size : Int) - 1 - k) ∧ Aside (Row wr w.heap.size 5 1 s5 k (((wordL x size).take k).map (Value.int .u8))) ∧ Aside (Ext w wr))
  case atStart => exact ⟨0, Nat.zero_le _, by omega, by first | rfl | (congr 1; omega) | simp, Row.mkNil _ _ _ _, Ext.rf _⟩
  case round =>
    obtain ⟨k, hk, hg, rfl, hR, hB⟩ := hrel
    by_cases hlt : k < size
    · obtain ⟨j, hj⟩ : ∃ j : Nat, (size : Int) - 1 - k = (j : Int) := ⟨size - 1 - k, by omega⟩
      have hj2 : j = size - 1 - k := by omega
      rw [hj]
      have hj0 : (0 : Int) ≤ (j : Int) := by omega
      have hj7 : (j : Int) ≤ 7 := by omega
      have hwl := word_len x size
      have HSZ := Lib.hid (hB.out.al (.cells #[.int .u8 (x / 2 ^ (8 * j) % 256)] 5))
      have ST := Lib.hid (show (wordL x size).take (k + 1) = (wordL x size).take k ++ [x / 2 ^ (8 * j) % 256] from by
        rw [take_snoc' _ k (by rw [hwl]; exact hlt), word_get x size k hlt, hj2])
      clear hwl
      have HJ := Lib.hid hj; clear hj hj2
      go_wp2_with ((at_builtin; refine wpList_append_one rfl _ _ 22 rfl w.heap.size 5 i (.int .u8 0) 1 1 Try.underlying22 hi hz0 hz1 hz2 rfl (by decide) _ _ _ rfl (hR.out.al _) wr.heap.size 1 [.int .u8 (x / 2 ^ (8 * j) % 256)] rfl rfl ⟨_, heap_alloc_new _ _⟩ (by simp [Value.oneCell']) (by unfold maxLen; omega) (by omega) HSZ.out.sz ?_; intro v5 w5 hown5 hgrow5 hblk5))
      go_roundg (size - (k + 1))
      case measure => omega
      case rel =>
        refine ⟨k + 1, by omega, by omega, by first | (congr 1; have := HJ.out; omega) | (have := HJ.out; go_num), (show Aside _ from ?_), (show Aside _ from ?_)⟩
        · rw [ST.out, List.map_append]; exact hown5
        · exact HSZ.out.gr hgrow5 (fun kk hkk => (hR.out.lt kk hkk).1)
    · obtain rfl : k = size := by omega
      have hj : (k : Int) - 1 - k = -1 := by omega
      rw [hj]
      go_wp2
      go_ret
      exact ⟨_, rfl, by have := hR.out; rw [List.take_of_length_le (by rw [word_len]; omega)] at this; exact this, hB.out⟩

end Go.Proofs.Ytggofkaakccoeaa
