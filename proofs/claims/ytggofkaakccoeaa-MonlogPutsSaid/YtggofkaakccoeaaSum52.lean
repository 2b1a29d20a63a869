/-
  The walks of the check sums.
-/
import Derived.Test.YtggofkaakccoeaaBase
import Derived.Test.YtggofkaakccoeaaProg
import Derived.BigQuiet
import Derived.Deep.QuietTactic
import Derived.Deep.LoopGhost
import Derived.Shelf.Abstract
import Derived.Test.YtggofkaakccoeaaBytes
namespace Go.Proofs.Ytggofkaakccoeaa
open Go.RowKit
set_option linter.unusedVariables false

set_option maxHeartbeats 1000000 in
theorem sum_calls (v : Value) (l : List Int) (w : World) (hv : Bys w v l) (hn : l.length ≤ 1000000) :
    Calls Try.prog 66 #[v] w fun e w' => e = .returned (.int .u32 (sumL l)) ∧ w' = w := by
  obtain ⟨hby, a, c, rfl, hlc, hv⟩ := hv
  have HB := Lib.hid hby; clear hby
  have HV := Lib.hid hv; clear hv
  generalize hln : l.length = n at hn hlc
  have HL := Lib.hid hln; clear hln
  clear hlc
  go_enter Try.func66, Try.ntmps66
  go_wp2
  go_loopg [3, 8] n (fun g s3 s8 wr => ∃ k : Nat, k ≤ n ∧ n - k ≤ g ∧ s8 = .int .i64 k ∧ s3 = .int .u32 ((l.take k).foldl sumStep 2166136261) ∧ wr = w)
  case atStart => exact ⟨0, Nat.zero_le _, by omega, rfl, rfl, rfl⟩
  case round =>
    obtain ⟨k, hk, hg, rfl, rfl, rfl⟩ := hrel
    by_cases hlt : k < n
    · have hltz : (k : Int) < (n : Int) := by omega
      obtain ⟨b, off, rfl, hb, hc⟩ := HV.out (by intro e; have := HL.out; simp [e] at this; omega)
      have hcell : wr.cell? ⟨b, off + k, none⟩ = some (.int .u8 l[k]!) := hc k (by rw [HL.out]; exact hlt)
      obtain ⟨x0, x1⟩ := HB.out _ (mem_at l k (by rw [HL.out]; exact hlt))
      obtain ⟨r0, r1⟩ := sumTo_range (l.take k)
      have ST := Lib.hid (foldl_snoc sumStep 2166136261 l k (by rw [HL.out]; exact hlt))
      clear hc HV
      generalize l[k]! = x at *
      generalize (l.take k).foldl sumStep 2166136261 = s at *
      have hxor := xor_u32 s x r0 r1 ⟨x0, x1⟩
      have HXL := Lib.hid (xor_lt s x r1 ⟨x0, x1⟩)
      have hcv : IntKind.u32.wrap x = x := by rw [IntKind.wrap_u32']; omega
      have hmul : IntKind.u32.wrap (((s.toNat ^^^ x.toNat : Nat) : Int) * 16777619) = sumStep s x := by rw [IntKind.wrap_u32']; rfl
      go_wp2
      go_roundg (n - (k + 1))
      case measure => omega
      case rel =>
        refine ⟨k + 1, by omega, by omega, by go_num, ?_, rfl⟩
        rw [ST.out]
    · have hltz : ¬ (k : Int) < (n : Int) := by omega
      obtain rfl : k = n := by omega
      have hs : (l.take k).foldl sumStep 2166136261 = sumL l := by rw [List.take_of_length_le (by rw [HL.out]; omega)]; rfl
      rw [hs]
      go_wp2
      go_ret
      exact ⟨rfl, rfl⟩

set_option maxHeartbeats 1000000 in
theorem refSum_calls (v : Value) (l : List Int) (w : World) (hv : Bys w v l) (hn : l.length ≤ 1000000) :
    Calls Try.prog 46 #[v] w fun e w' => e = .returned (.int .i64 (sumL l)) ∧ w' = w := by
  obtain ⟨hby, a, c, rfl, hlc, hv⟩ := hv
  have HB := Lib.hid hby; clear hby
  have HV := Lib.hid hv; clear hv
  generalize hln : l.length = n at hn hlc
  have HL := Lib.hid hln; clear hln
  clear hlc
  go_enter Try.func46, Try.ntmps46
  go_wp2
  go_loopg [3, 4] n (fun g s3 s4 wr => ∃ k : Nat, k ≤ n ∧ n - k ≤ g ∧ s4 = .int .i64 k ∧ s3 = .int .i64 ((l.take k).foldl sumStep 2166136261) ∧ wr = w)
  case atStart => exact ⟨0, Nat.zero_le _, by omega, rfl, rfl, rfl⟩
  case round =>
    obtain ⟨k, hk, hg, rfl, rfl, rfl⟩ := hrel
    by_cases hlt : k < n
    · have hltz : (k : Int) < (n : Int) := by omega
      obtain ⟨b, off, rfl, hb, hc⟩ := HV.out (by intro e; have := HL.out; simp [e] at this; omega)
      have hcell : wr.cell? ⟨b, off + k, none⟩ = some (.int .u8 l[k]!) := hc k (by rw [HL.out]; exact hlt)
      obtain ⟨x0, x1⟩ := HB.out _ (mem_at l k (by rw [HL.out]; exact hlt))
      obtain ⟨r0, r1⟩ := sumTo_range (l.take k)
      have ST := Lib.hid (foldl_snoc sumStep 2166136261 l k (by rw [HL.out]; exact hlt))
      clear hc HV
      generalize l[k]! = x at *
      generalize (l.take k).foldl sumStep 2166136261 = s at *
      have hxor := xor_i64 s x r0 r1 ⟨x0, x1⟩
      have HXL := xor_lt s x r1 ⟨x0, x1⟩
      have hss : sumStep s x = ((s.toNat ^^^ x.toNat : Nat) : Int) * 16777619 % 4294967296 := rfl
      generalize s.toNat ^^^ x.toNat = q at *
      have hrem : ((q : Int) * 16777619).tmod 4294967296 = sumStep s x := by rw [hss, Int.tmod_eq_emod_of_nonneg (by omega)]
      have HSS := Lib.hid hss
      clear hss
      go_wp2
      go_roundg (n - (k + 1))
      case measure => omega
      case rel =>
        refine ⟨k + 1, by omega, by omega, by go_num, ?_, rfl⟩
        rw [ST.out]
    · have hltz : ¬ (k : Int) < (n : Int) := by omega
      obtain rfl : k = n := by omega
      have hs : (l.take k).foldl sumStep 2166136261 = sumL l := by rw [List.take_of_length_le (by rw [HL.out]; omega)]; rfl
      rw [hs]
      go_wp2
      go_ret
      exact ⟨rfl, rfl⟩

end Go.Proofs.Ytggofkaakccoeaa
