/-
  At each consistent cut but the final one some process is enabled: since no event happens before itself. No program is named here.
-/
import Derived.Test.YtijncboddmjdcaaStepL
import Derived.Test.YtijncboddmjdcaaGn
namespace Go.Proofs.Ytijncboddmjdcaa
open Go.RowKit
set_option linter.unusedVariables false

open Classical in
/-- How many events happen before an event. -/
noncomputable def ancN (t : Tr) (x : Eid) : Nat := ((ids t).filter fun y => decide (Relation.TransGen (Dir t) y x)).length
theorem ancN_lt {t : Tr} (hc : ¬ Cyc t) {y x : Eid} (h : Relation.TransGen (Dir t) y x) : ancN t y < ancN t x := by
  classical
  unfold ancN
  refine filter_lt _ _ _ (fun z _ hz => ?_) y (mem_ids.2 (tg_inn_l h)) (by simpa using h) ?_
  · rw [decide_eq_true_eq] at hz ⊢; exact hz.trans h
  · rw [decide_eq_false_iff_not]; exact fun hy => hc ⟨y, hy⟩
theorem row_before {t : Tr} {p j : Nat} (hp : p < t.length) : ∀ i, j < i → i < t[p]!.events.length → Relation.TransGen (Dir t) (p, j) (p, i) := by
  intro i
  induction i with
  | zero => intro h; exact absurd h (Nat.not_lt_zero _)
  | succ i ih =>
    intro h hi
    have hd : Dir t (p, i) (p, i + 1) := ⟨⟨hp, hi⟩, .inl ⟨rfl, rfl⟩⟩
    by_cases e : j = i
    · subst e; exact .single hd
    · exact .tail (ih (by omega) (by omega)) hd
theorem enTo_nil {t : Tr} {c : List Int} (h : enabledC t c = []) {p : Nat} (hp : p < c.length) : enC t c p = false := by
  unfold enabledC enTo at h
  rw [List.map_eq_nil_iff, List.filter_eq_nil_iff] at h
  have := h p (List.mem_range.2 hp)
  simpa using this
/-- Where nothing is enabled, all events are in the cut. -/
theorem all_in {t : Tr} {c : List Int} (hv : validT t = true) (hc : ConsC t c) (h : enabledC t c = []) : ∀ n x, Inn t x → ancN t x < n → InC c x := by
  obtain ⟨_, hpb, hcy⟩ := validT_parts2.1 hv
  intro n
  induction n with
  | zero => intro x _ h; exact absurd h (Nat.not_lt_zero _)
  | succ n ih =>
    rintro ⟨p, i⟩ hx hn
    have hpl : p < t.length := hx.1
    have hil : i < t[p]!.events.length := hx.2
    have hpc : p < c.length := by have := hc.1.1; omega
    by_cases hin : (i : Int) < c[p]!
    · exact ⟨hpc, hin⟩
    exfalso
    have hr := hc.1.at hpl
    obtain ⟨k, hk⟩ : ∃ k : Nat, c[p]! = (k : Int) := ⟨c[p]!.toNat, by omega⟩
    have hki : k ≤ i := by omega
    have he := enTo_nil h hpc
    unfold enC at he
    rw [decide_eq_true (by omega), Bool.true_and, hk, Int.toNat_natCast] at he
    have hkx : Inn t (p, k) := ⟨hpl, by show k < t[p]!.events.length; omega⟩
    have h3 : (ev t (p, k)).kind = 3 := by
      by_cases h3 : (ev t (p, k)).kind = 3
      · exact h3
      · rw [sentB_other h3] at he; cases he
    cases hf : findE t 2 (ev t (p, k)).msg with
    | none => rw [show sentB t c (p, k) = true from by simp [sentB, hf]] at he; cases he
    | some s =>
      rw [sentB_recv h3 hf] at he
      have hs := of_decide_eq_false he
      have hd : Dir t s (p, k) := ⟨hkx, .inr ⟨h3, hf⟩⟩
      have htg : Relation.TransGen (Dir t) s (p, i) := by
        by_cases e : k = i
        · subst e; exact .single hd
        · exact (Relation.TransGen.single hd).trans (row_before hpl i (by omega) hil)
      have hlt := ancN_lt hcy htg
      have := (ih s (findE_some hf).1 (by omega)).2
      omega
theorem enabled_end {t : Tr} {c : List Int} (hv : validT t = true) (hc : ConsC t c) : (enabledC t c = []) ↔ c = lensC t := by
  constructor
  · intro h
    refine list_ext (by unfold lensC; rw [lensTo_len]; exact hc.1.1) fun p hp => ?_
    have hpl : p < t.length := by have := hc.1.1; omega
    have hl : (lensC t)[p]! = (t[p]!.events.length : Int) := by
      unfold lensC lensTo
      rw [getElem!_pos _ p (by simpa using hpl)]; simp
    rw [hl]
    have hr := hc.1.at hpl
    by_cases e : c[p]! = (t[p]!.events.length : Int)
    · exact e
    · exfalso
      have hx : Inn t (p, c[p]!.toNat) := ⟨hpl, by show c[p]!.toNat < t[p]!.events.length; omega⟩
      have := (all_in hv hc h (ancN t (p, c[p]!.toNat) + 1) _ hx (Nat.lt_succ_self _)).2
      have h2 : ((c[p]!.toNat : Nat) : Int) < c[p]! := this
      omega
  · intro h
    unfold enabledC enTo
    rw [List.map_eq_nil_iff, List.filter_eq_nil_iff]
    intro p hp
    rw [List.mem_range] at hp
    have hpl : p < t.length := by have := hc.1.1; omega
    have hl : (lensC t)[p]! = (t[p]!.events.length : Int) := by
      unfold lensC lensTo
      rw [getElem!_pos _ p (by simpa using hpl)]; simp
    unfold enC
    have hcp : c[p]! = (t[p]!.events.length : Int) := by rw [h]; exact hl
    rw [decide_eq_false (by omega)]
    simp
/-- The enabled processes ascend. -/
theorem enTo_sorted (t : Tr) (c : List Int) : ∀ p, (enTo t c p).Pairwise (· < ·) ∧ ∀ x, x ∈ enTo t c p → x < (p : Int) := by
  intro p
  induction p with
  | zero => exact ⟨by simp [enTo], by simp [enTo]⟩
  | succ p ih =>
    cases h : enC t c p with
    | true =>
      rw [enTo_yes h]
      refine ⟨?_, fun x hx => ?_⟩
      · rw [List.pairwise_append]
        refine ⟨ih.1, by simp, fun x hx y hy => ?_⟩
        rw [List.mem_singleton] at hy; subst hy
        exact ih.2 x hx
      · rcases List.mem_append.1 hx with hx | hx
        · have := ih.2 x hx; omega
        · rw [List.mem_singleton] at hx; subst hx; omega
    | false =>
      rw [enTo_no h]
      exact ⟨ih.1, fun x hx => by have := ih.2 x hx; omega⟩
theorem enabled_mem {t : Tr} {c : List Int} {p : Nat} (hp : p < c.length) : (enabledC t c).contains (p : Int) = enC t c p := by
  rw [Bool.eq_iff_iff, List.contains_iff_mem]
  unfold enabledC enTo
  rw [List.mem_map]
  constructor
  · rintro ⟨q, hq, e⟩
    have : q = p := by omega
    subst this
    exact (List.mem_filter.1 hq).2
  · intro h
    exact ⟨p, List.mem_filter.2 ⟨List.mem_range.2 hp, h⟩, rfl⟩
theorem advE_en {t : Tr} {c : List Int} {p : Nat} (h0 : givenE t [c] [] = 0) (hp : p < t.length) : (advE t c (p : Int) == 0) = enC t c p := by
  rw [advE_ok h0 hp]
  unfold enC
  by_cases h : c[p]! < (t[p]!.events.length : Int)
  · rw [if_pos h, decide_eq_true h]
    cases sentB t c (p, c[p]!.toNat) <;> rfl
  · rw [if_neg h, decide_eq_false h]; rfl
theorem front_mem {c : List Int} {p : Nat} (hp : p < c.length) (h : 0 < c[p]!) : ((p : Int), c[p]!) ∈ frontC c := by
  unfold frontC frTo
  rw [List.mem_map]
  exact ⟨p, List.mem_filter.2 ⟨List.mem_range.2 hp, decide_eq_true h⟩, rfl⟩

end Go.Proofs.Ytijncboddmjdcaa
