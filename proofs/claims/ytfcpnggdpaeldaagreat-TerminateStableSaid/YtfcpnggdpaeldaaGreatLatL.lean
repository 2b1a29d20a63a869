/-
  Consistent cuts are a distributive lattice: the laws of joins and meets, number by number. No program is named here.
-/
import Derived.Test.YtfcpnggdpaeldaaGreatGv
namespace Go.Proofs.YtfcpnggdpaeldaaGreat
open Go.RowKit
set_option linter.unusedVariables false

theorem given_two {t : Tr} {a b : List Int} (hv : validT t = true) (ha : ConsC t a) (hb : ConsC t b) : givenE t [a, b] [] = 0 := by
  have h1 : fitsB t a = true := decide_eq_true ha.1.1
  have h2 : fitsB t b = true := decide_eq_true hb.1.1
  unfold givenE
  simp only [List.all_cons, List.all_nil, Bool.and_true, hv, h1, h2, ha.1.2, hb.1.2, ha.2, hb.2, Option.isNone_none, Bool.and_self, if_true]
theorem joinC_len (a b : List Int) : (joinC a b).length = a.length := zipC_len _ _ _
theorem meetC_len (a b : List Int) : (meetC a b).length = a.length := zipC_len _ _ _
theorem joinC_at {a b : List Int} {p : Nat} (hp : p < a.length) : (joinC a b)[p]! = max a[p]! b[p]! := zipC_at hp
theorem meetC_at {a b : List Int} {p : Nat} (hp : p < a.length) : (meetC a b)[p]! = min a[p]! b[p]! := zipC_at hp
theorem meet_join {a b c x y z : List Int} {n : Nat} (ha : a.length = n) (hb : b.length = n) (hc : c.length = n) (h1 : joinC b c = x) (h2 : meetC a b = y) (h3 : meetC a c = z) : meetC a x = joinC y z := by
  subst h1; subst h2; subst h3
  refine list_ext (by rw [meetC_len, joinC_len, meetC_len]) fun p hp => ?_
  rw [meetC_len] at hp
  rw [meetC_at hp, joinC_at (by omega), joinC_at (by rw [meetC_len]; exact hp), meetC_at hp, meetC_at hp]
  omega
theorem join_meet {a b c x y z : List Int} {n : Nat} (ha : a.length = n) (hb : b.length = n) (hc : c.length = n) (h1 : meetC b c = x) (h2 : joinC a b = y) (h3 : joinC a c = z) : joinC a x = meetC y z := by
  subst h1; subst h2; subst h3
  refine list_ext (by rw [joinC_len, meetC_len, joinC_len]) fun p hp => ?_
  rw [joinC_len] at hp
  rw [joinC_at hp, meetC_at (by omega), meetC_at (by rw [joinC_len]; exact hp), joinC_at hp, joinC_at hp]
  omega
theorem le_join {b c : List Int} {n : Nat} (hb : b.length = n) (hc : c.length = n) : leCB b (joinC b c) = true ∧ leCB c (joinC b c) = true := by
  refine ⟨leCB_iff.2 ⟨(joinC_len _ _).symm, fun p hp => ?_⟩, leCB_iff.2 ⟨by rw [joinC_len]; omega, fun p hp => ?_⟩⟩
  · rw [joinC_at hp]; omega
  · rw [joinC_at (by omega)]; omega
theorem meet_le {a b : List Int} {n : Nat} (ha : a.length = n) (hb : b.length = n) : leCB (meetC a b) a = true ∧ leCB (meetC a b) b = true := by
  refine ⟨leCB_iff.2 ⟨meetC_len _ _, fun p hp => ?_⟩, leCB_iff.2 ⟨by rw [meetC_len]; omega, fun p hp => ?_⟩⟩
  · rw [meetC_len] at hp; rw [meetC_at hp]; omega
  · rw [meetC_len] at hp; rw [meetC_at hp]; omega
theorem join_eq {a b : List Int} {n : Nat} (ha : a.length = n) (hb : b.length = n) : (joinC a b == b) = leCB a b := by
  rw [Bool.eq_iff_iff, beq_iff_eq, leCB_iff]
  constructor
  · intro h
    refine ⟨by omega, fun p hp => ?_⟩
    have : (joinC a b)[p]! = b[p]! := by rw [h]
    rw [joinC_at hp] at this
    omega
  · rintro ⟨_, h⟩
    refine list_ext (by rw [joinC_len]; omega) fun p hp => ?_
    rw [joinC_len] at hp
    rw [joinC_at hp]
    have := h p hp
    omega
theorem meet_eq {a b : List Int} {n : Nat} (ha : a.length = n) (hb : b.length = n) : (meetC a b == a) = leCB a b := by
  rw [Bool.eq_iff_iff, beq_iff_eq, leCB_iff]
  constructor
  · intro h
    refine ⟨by omega, fun p hp => ?_⟩
    have : (meetC a b)[p]! = a[p]! := by rw [h]
    rw [meetC_at hp] at this
    omega
  · rintro ⟨_, h⟩
    refine list_ext (by rw [meetC_len]) fun p hp => ?_
    rw [meetC_len] at hp
    rw [meetC_at hp]
    have := h p hp
    omega

end Go.Proofs.YtfcpnggdpaeldaaGreat
