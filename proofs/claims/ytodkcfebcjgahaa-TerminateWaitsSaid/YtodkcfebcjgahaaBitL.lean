/-
  Words of 64 bits in the walk's terms: a bit set, a bit asked for, two words joined. No program is named here.
-/
import Derived.Test.YtodkcfebcjgahaaBase
import Derived.Laws.Shifts
namespace Go.Proofs.Ytodkcfebcjgahaa
set_option linter.unusedVariables false

theorem u64_wrap_nat {a : Nat} (h : a < 2 ^ 64) : IntKind.u64.wrap (a : Int) = (a : Int) := by
  simp only [IntKind.wrap, IntKind.bits, IntKind.signed, Bool.false_and, Bool.false_eq_true, if_false]
  omega
theorem bv_nat {a : Nat} (h : a < 2 ^ 64) : (BitVec.ofInt 64 (a : Int)).toNat = a := by
  rw [BitVec.ofInt_natCast, BitVec.toNat_ofNat]
  exact Nat.mod_eq_of_lt h
theorem bits_or_nat {a b : Nat} (ha : a < 2 ^ 64) (hb : b < 2 ^ 64) : bits .or .u64 (a : Int) (b : Int) = ((a ||| b : Nat) : Int) := by
  show IntKind.u64.wrap (((BitVec.ofInt 64 (a : Int)) ||| (BitVec.ofInt 64 (b : Int))).toNat : Int) = _
  rw [BitVec.toNat_or, bv_nat ha, bv_nat hb]
  exact u64_wrap_nat (Nat.or_lt_two_pow ha hb)
theorem div_pow_nat (a k : Nat) : (a : Int) / (2 : Int) ^ k = ((a / 2 ^ k : Nat) : Int) := by norm_cast
theorem bits_and_one {a : Nat} (k : Nat) (ha : a < 2 ^ 64) : bits .and .u64 ((a / 2 ^ k : Nat) : Int) 1 = ((a.testBit k).toNat : Int) := by
  have h1 : a / 2 ^ k < 2 ^ 64 := Nat.lt_of_le_of_lt (Nat.div_le_self _ _) ha
  show IntKind.u64.wrap (((BitVec.ofInt 64 ((a / 2 ^ k : Nat) : Int)) &&& (BitVec.ofInt 64 ((1 : Nat) : Int))).toNat : Int) = _
  rw [BitVec.toNat_and, bv_nat h1, bv_nat (by decide)]
  have h2 : (a / 2 ^ k) &&& 1 = (a.testBit k).toNat := by
    rw [Nat.and_one_is_mod, Nat.testBit_eq_decide_div_mod_eq]
    have : a / 2 ^ k % 2 < 2 := Nat.mod_lt _ (by decide)
    by_cases e : a / 2 ^ k % 2 = 1
    · rw [e]; rfl
    · have : a / 2 ^ k % 2 = 0 := by omega
      rw [this]; rfl
  rw [h2]
  refine u64_wrap_nat ?_
  cases a.testBit k <;> decide
theorem shl_one {k : Nat} (h : k < 64) : IntKind.u64.wrap ((2 : Int) ^ k) = (2 : Int) ^ k := by
  rw [show (2 : Int) ^ k = ((2 ^ k : Nat) : Int) by norm_cast]
  exact u64_wrap_nat (Nat.pow_lt_pow_right (by decide) h)
theorem bits_or_pow {a k : Nat} (ha : a < 2 ^ 64) (h : k < 64) : bits .or .u64 (a : Int) ((2 : Int) ^ k) = ((a ||| 2 ^ k : Nat) : Int) := by
  rw [show (2 : Int) ^ k = ((2 ^ k : Nat) : Int) by norm_cast]
  exact bits_or_nat ha (Nat.pow_lt_pow_right (by decide) h)

end Go.Proofs.Ytodkcfebcjgahaa
