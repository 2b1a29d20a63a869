/-
  The walks that read numbers from bytes.
-/
import Derived.Test.YtggofkaakccoeaaBase
import Derived.Test.YtggofkaakccoeaaProg
import Derived.BigQuiet
import Derived.Deep.QuietTactic
import Derived.Deep.LoopGhost
import Derived.Shelf.Abstract
import Derived.Test.YtggofkaakccoeaaBytes
namespace Go.Proofs.Ytggofkaakccoeaa
open Go.RowKit
set_option linter.unusedVariables false

theorem pow_le7 : ∀ m : Nat, m < 8 → (256 : Int) ^ m ≤ 72057594037927936 := by decide
theorem pow_le5 : ∀ m : Nat, m < 6 → (256 : Int) ^ m ≤ 1099511627776 := by decide

theorem join8 (s x : Int) (r0 : 0 ≤ s) (r1 : s < 72057594037927936) (hx : Byte x) : bits .or .u64 (s * 256) x = s * 256 + x := by
  have := hx.1; have := hx.2
  rw [u64_or (s * 256) x (by omega) (by omega) (by omega) (by omega), nat_join 8 _ _ (by omega) (by omega)]
  omega

theorem valTo_range (l : List Int) (hl : ∀ x, x ∈ l → Byte x) (k : Nat) (hk : k < 8) : 0 ≤ valL (l.take k) ∧ valL (l.take k) < 72057594037927936 := by
  have h := val_range (l.take k) (fun x hx => hl x (List.mem_of_mem_take hx))
  refine ⟨h.1, Int.lt_of_lt_of_le h.2 ?_⟩
  exact pow_le7 _ (by rw [List.length_take]; omega)
theorem val_snoc (l : List Int) (k : Nat) (hk : k < l.length) : valL (l.take (k + 1)) = valL (l.take k) * 256 + l[k]! := foldl_snoc (fun n x => n * 256 + x) 0 l k hk

set_option maxHeartbeats 1000000 in
theorem value_calls (v : Value) (l : List Int) (w : World) (hv : Bys w v l) (hn : l.length ≤ 8) :
    Calls Try.prog 67 #[v] w fun e w' => e = .returned (.int .u64 (valL l)) ∧ w' = w := by
  obtain ⟨hby, a, c, rfl, hlc, hv⟩ := hv
  have HB := Lib.hid hby; clear hby
  have HV := Lib.hid hv; clear hv
  generalize hln : l.length = n at hn hlc
  have HL := Lib.hid hln; clear hln
  clear hlc
  go_enter Try.func67, Try.ntmps67
  go_wp2
  go_loopg [3, 7] n (fun g s3 s7 wr => ∃ k : Nat, k ≤ n ∧ n - k ≤ g ∧ s7 = .int .i64 k ∧ s3 = .int .u64 (valL (l.take k)) ∧ wr = w)
  case atStart => exact ⟨0, Nat.zero_le _, by omega, rfl, rfl, rfl⟩
  case round =>
    obtain ⟨k, hk, hg, rfl, rfl, rfl⟩ := hrel
    by_cases hlt : k < n
    · have hltz : (k : Int) < (n : Int) := by omega
      obtain ⟨b, off, rfl, hb, hc⟩ := HV.out (by intro e; have := HL.out; simp [e] at this; omega)
      have hcell : wr.cell? ⟨b, off + k, none⟩ = some (.int .u8 l[k]!) := hc k (by rw [HL.out]; exact hlt)
      obtain ⟨x0, x1⟩ := HB.out _ (mem_at l k (by rw [HL.out]; exact hlt))
      obtain ⟨r0, r1⟩ := valTo_range l HB.out k (by omega)
      have ST := Lib.hid (val_snoc l k (by rw [HL.out]; exact hlt))
      clear hc HV
      generalize l[k]! = x at *
      generalize valL (l.take k) = s at *
      have hor := join8 s x r0 r1 ⟨x0, x1⟩
      go_wp2
      go_roundg (n - (k + 1))
      case measure => omega
      case rel =>
        refine ⟨k + 1, by omega, by omega, by go_num, ?_, rfl⟩
        rw [ST.out]
    · have hltz : ¬ (k : Int) < (n : Int) := by omega
      obtain rfl : k = n := by omega
      have hs : l.take k = l := List.take_of_length_le (by rw [HL.out]; omega)
      rw [hs]
      go_wp2
      go_ret
      exact ⟨rfl, rfl⟩

set_option maxHeartbeats 1000000 in
theorem refNumber_calls (v : Value) (l : List Int) (w : World) (hv : Bys w v l) (hn : l.length ≤ 6) :
    Calls Try.prog 45 #[v] w fun e w' => e = .returned (.int .i64 (valL l)) ∧ w' = w := by
  obtain ⟨hby, a, c, rfl, hlc, hv⟩ := hv
  have HB := Lib.hid hby; clear hby
  have HV := Lib.hid hv; clear hv
  generalize hln : l.length = n at hn hlc
  have HL := Lib.hid hln; clear hln
  clear hlc
  go_enter Try.func45, Try.ntmps45
  go_wp2
  go_loopg [3, 4] n (fun g s3 s4 wr => ∃ k : Nat, k ≤ n ∧ n - k ≤ g ∧ s4 = .int .i64 k ∧ s3 = .int .i64 (valL (l.take k)) ∧ wr = w)
  case atStart => exact ⟨0, Nat.zero_le _, by omega, rfl, rfl, rfl⟩
  case round =>
    obtain ⟨k, hk, hg, rfl, rfl, rfl⟩ := hrel
    by_cases hlt : k < n
    · have hltz : (k : Int) < (n : Int) := by omega
      obtain ⟨b, off, rfl, hb, hc⟩ := HV.out (by intro e; have := HL.out; simp [e] at this; omega)
      have hcell : wr.cell? ⟨b, off + k, none⟩ = some (.int .u8 l[k]!) := hc k (by rw [HL.out]; exact hlt)
      obtain ⟨x0, x1⟩ := HB.out _ (mem_at l k (by rw [HL.out]; exact hlt))
      have r01 : 0 ≤ valL (l.take k) ∧ valL (l.take k) < 1099511627776 := by
        have h := val_range (l.take k) (fun x hx => HB.out x (List.mem_of_mem_take hx))
        refine ⟨h.1, Int.lt_of_lt_of_le h.2 ?_⟩
        exact pow_le5 _ (by rw [List.length_take]; omega)
      obtain ⟨r0, r1⟩ := r01
      have ST := Lib.hid (val_snoc l k (by rw [HL.out]; exact hlt))
      clear hc HV
      generalize l[k]! = x at *
      generalize valL (l.take k) = s at *
      have hgt : ¬ 1125899906842624 < s * 256 + x := by omega
      go_wp2
      go_roundg (n - (k + 1))
      case measure => omega
      case rel =>
        refine ⟨k + 1, by omega, by omega, by go_num, ?_, rfl⟩
        rw [ST.out]
    · have hltz : ¬ (k : Int) < (n : Int) := by omega
      obtain rfl : k = n := by omega
      have hs : l.take k = l := List.take_of_length_le (by rw [HL.out]; omega)
      rw [hs]
      go_wp2
      go_ret
      exact ⟨rfl, rfl⟩

end Go.Proofs.Ytggofkaakccoeaa
