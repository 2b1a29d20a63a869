import Derived.Test.YtfcpnggdpaeldaaGreatGw
import Derived.Test.YtfcpnggdpaeldaaGreatGu
import Derived.Test.YtfcpnggdpaeldaaGreatJa
import Derived.Test.YtfcpnggdpaeldaaGreatProg
import Derived.BigQuiet
import Derived.Deep.QuietTactic
import Derived.Deep.LoopGhost
import Derived.Shelf.Abstract
/-
  One event more: when a cut with a further event is consistent. No program is named here.
-/
namespace Go.Proofs.YtfcpnggdpaeldaaGreat
open Go.RowKit
set_option linter.unusedVariables false

theorem given_dup (t : Tr) (c : List Int) : givenE t [c, c] [] = givenE t [c] [] := by
  unfold givenE
  simp only [List.all_cons, List.all_nil, Bool.and_true, Bool.and_self]
theorem given_proc {t : Tr} {c : List Int} {p : Int} : givenE t [c] [p] = if givenE t [c] [] = 1 ∨ givenE t [c] [] = 2 then givenE t [c] [] else if (decide (0 ≤ p) && decide (p < (t.length : Int))) = true then givenE t [c] [] else 2 := by
  unfold givenE
  simp only [List.all_cons, List.all_nil, Bool.and_true]
  generalize (decide (0 ≤ p) && decide (p < (t.length : Int))) = pb
  generalize (missE t c).isNone = mb
  generalize validT t = vb
  cases vb <;> cases fitsB t c <;> cases rangeB t c <;> cases pb <;> cases mb <;> simp
theorem given_vals (t : Tr) (c : List Int) : givenE t [c] [] = 0 ∨ givenE t [c] [] = 1 ∨ givenE t [c] [] = 2 ∨ givenE t [c] [] = 18 := by
  unfold givenE
  simp only [List.all_cons, List.all_nil, Bool.and_true]
  generalize (missE t c).isNone = mb
  generalize validT t = vb
  cases vb <;> cases fitsB t c <;> cases rangeB t c <;> cases mb <;> simp
theorem withC_len (c : List Int) (p : Nat) : (withC c p).length = c.length := by simp [withC]
theorem withC_range {t : Tr} {c : List Int} {p : Nat} (hr : RangeC t c) (hp : p < t.length) (hlt : c[p]! < (t[p]!.events.length : Int)) : RangeC t (withC c p) :=
  set_range hr (by have := (hr.at hp).1; omega) (by omega)
theorem withC_le {t : Tr} {c : List Int} {p : Nat} (hr : RangeC t c) (hp : p < t.length) : LeC c (withC c p) := by
  intro q hq
  unfold withC
  by_cases e : q = p
  · subst e; rw [setC_at hq]; omega
  · rw [setC_ne e]; omega
/-- A cut with one event more is consistent just where that event's message is sent. -/
theorem with_cons {t : Tr} {c : List Int} {p : Nat} (hv : validT t = true) (hc : ConsC t c) (hp : p < t.length) (hlt : c[p]! < (t[p]!.events.length : Int)) : consB t (withC c p) = sentB t c (p, c[p]!.toNat) := by
  have hr := hc.1
  have hk0 := (hr.at hp).1
  have hpc : p < c.length := by have := hr.1; omega
  obtain ⟨k, hk⟩ : ∃ k : Nat, c[p]! = (k : Int) := ⟨c[p]!.toNat, by omega⟩
  have hkt : c[p]!.toNat = k := by rw [hk]; simp
  rw [hkt]
  rw [Bool.eq_iff_iff, consB_iff]
  have hin : InC (withC c p) (p, k) := ⟨by rw [withC_len]; exact hpc, by show (k : Int) < (withC c p)[p]!; unfold withC; rw [setC_at hpc]; omega⟩
  have key : sentB t (withC c p) (p, k) = sentB t c (p, k) := by
    by_cases h3 : (ev t (p, k)).kind = 3
    · cases hf : findE t 2 (ev t (p, k)).msg with
      | none => simp [sentB, hf]
      | some s =>
        rw [sentB_recv h3 hf, sentB_recv h3 hf]
        by_cases e : s.1 = p
        · have hne : s.2 ≠ k := by
            intro e2
            have hs : s = (p, k) := by obtain ⟨a, b⟩ := s; simp only at e e2; rw [e, e2]
            have := (findE_some hf).2.1
            rw [hs, h3] at this
            exact absurd this (by decide)
          rw [e]
          unfold withC
          rw [setC_at hpc, hk, decide_eq_decide]
          omega
        · unfold withC
          rw [setC_ne e]
    · rw [sentB_other h3, sentB_other h3]
  constructor
  · rintro ⟨_, h⟩
    have := missE_none.1 h.2 (p, k) hin
    rw [← key]; exact this
  · intro hs
    refine ⟨hv, withC_range hr hp hlt, missE_none.2 fun x hx => ?_⟩
    by_cases h1 : InC c x
    · exact sentB_mono hr (withC_le hr hp) (missE_none.1 hc.2 x h1)
    · have hx1 := hx.1
      rw [withC_len] at hx1
      have hx2 := hx.2
      unfold withC at hx2
      have e : x.1 = p := by
        by_cases e : x.1 = p
        · exact e
        · rw [setC_ne e] at hx2; exact absurd ⟨hx1, hx2⟩ h1
      have e2 : x.2 = k := by
        rw [e, setC_at hpc] at hx2
        have : ¬ (x.2 : Int) < c[x.1]! := fun h => h1 ⟨hx1, h⟩
        rw [e] at this
        omega
      have : x = (p, k) := by obtain ⟨a, b⟩ := x; simp only at e e2; rw [e, e2]
      rw [this, key]; exact hs
/-- The error of an advance at a consistent cut. -/
theorem advE_ok {t : Tr} {c : List Int} {p : Nat} (h0 : givenE t [c] [] = 0) (hp : p < t.length) : advE t c (p : Int) = if c[p]! < (t[p]!.events.length : Int) then if sentB t c (p, c[p]!.toNat) = true then 0 else 11 else 4 := by
  have hc : validT t = true ∧ ConsC t c := consB_iff.1 ((givenE_one t c).1 h0)
  have hg : givenE t [c] [(p : Int)] = 0 := by
    rw [given_proc, h0]
    have : (decide (0 ≤ (p : Int)) && decide ((p : Int) < (t.length : Int))) = true := by simp; omega
    rw [if_neg (by decide), if_pos this]
  unfold advE
  rw [if_pos hg, Int.toNat_natCast]
  have := hc.2.1.at hp
  by_cases h : c[p]! < (t[p]!.events.length : Int)
  · rw [if_pos h, if_neg (by omega)]
  · rw [if_neg h, if_pos (by omega)]
theorem advE_out {t : Tr} {c : List Int} {p : Int} (h0 : givenE t [c] [] = 0) (hp : (decide (0 ≤ p) && decide (p < (t.length : Int))) = false) : advE t c p = 2 := by
  have hg : givenE t [c] [p] = 2 := by rw [given_proc, h0, if_neg (by decide), hp]; rfl
  unfold advE
  rw [if_neg (by rw [hg]; decide)]; exact hg
theorem advE_bad {t : Tr} {c : List Int} {p : Int} (h0 : givenE t [c] [] ≠ 0) : advE t c p = if givenE t [c] [] = 18 ∧ (decide (0 ≤ p) && decide (p < (t.length : Int))) = false then 2 else givenE t [c] [] := by
  have hg := @given_proc t c p
  have hne : givenE t [c] [p] = if givenE t [c] [] = 18 ∧ (decide (0 ≤ p) && decide (p < (t.length : Int))) = false then 2 else givenE t [c] [] := by
    rw [hg]
    generalize (decide (0 ≤ p) && decide (p < (t.length : Int))) = pb
    rcases given_vals t c with h | h | h | h
    · exact absurd h h0
    · rw [h]; simp
    · rw [h]; simp
    · rw [h]; cases pb <;> simp
  unfold advE
  rw [if_neg ?_]
  · exact hne
  · rw [hne]; split
    · decide
    · exact h0

end Go.Proofs.YtfcpnggdpaeldaaGreat

/-
  Termination in plain words: idle processes, waves, what is announced. No function is named here.
-/
namespace Go.Proofs.YtfcpnggdpaeldaaGreat
open Go.RowKit
set_option linter.unusedVariables false

/-- Each process has a variable with the name. -/
def hasV (s : ByteArray) (x : Pr) : Bool := x.vars.any (isV s)
def hasT (t : Tr) (s : ByteArray) : Bool := t.all (hasV s)
theorem hasV_idx (x : Pr) (s : ByteArray) : hasV s x = decide (0 ≤ idxV x s) := (firstAt_any _ _).symm
theorem hasT_at {t : Tr} {s : ByteArray} (h : hasT t s = true) {p : Nat} (hp : p < t.length) : 0 ≤ idxV t[p]! s := by
  have := all_at h hp
  rw [hasV_idx, decide_eq_true_eq] at this; exact this
theorem hasT_iff {t : Tr} {s : ByteArray} : hasT t s = true ↔ ∀ p, p < t.length → 0 ≤ idxV t[p]! s :=
  ⟨fun h p hp => hasT_at h hp, fun h => all_of fun p hp => by rw [hasV_idx, decide_eq_true_eq]; exact h p hp⟩
/-- The error of a trace and a name. -/
noncomputable def chkE (t : Tr) (s : ByteArray) : Int := if validT t = true then (if hasT t s = true then 0 else 13) else 1
theorem chkE_ok {t : Tr} {s : ByteArray} : chkE t s = 0 ↔ validT t = true ∧ hasT t s = true := by
  unfold chkE
  split
  · rename_i h
    split
    · rename_i h2; simp [h, h2]
    · rename_i h2; simp [h, h2]
  · rename_i h; simp [h]
/-- A process is passive in a state. -/
def idleB (t : Tr) (s : ByteArray) (p k : Nat) : Bool := decide (valF t p (idxV t[p]! s).toNat k = 0)
def passB (t : Tr) (s : ByteArray) (c : List Int) : Bool := (List.range c.length).all fun p => idleB t s p c[p]!.toNat
theorem passB_iff {t : Tr} {s : ByteArray} {c : List Int} : passB t s c = true ↔ ∀ p, p < c.length → idleB t s p c[p]!.toNat = true := by
  simp only [passB, List.all_eq_true, List.mem_range]
theorem passB_no {t : Tr} {s : ByteArray} {c : List Int} {p : Nat} (hp : p < c.length) (h : idleB t s p c[p]!.toNat = false) : passB t s c = false := by
  rw [Bool.eq_false_iff]; intro e; have := passB_iff.1 e p hp; rw [h] at this; cases this
/-- How many events of a kind lie within counts. -/
def cntTo (t : Tr) (kd : Int) (c : List Int) (p i : Nat) : Nat := ((idsCTo c p i).filter fun x => decide ((ev t x).kind = kd)).length
def cntE (t : Tr) (kd : Int) (c : List Int) : Int := ((cntTo t kd c c.length 0 : Nat) : Int)
theorem cntTo_zero (t : Tr) (kd : Int) (c : List Int) : cntTo t kd c 0 0 = 0 := rfl
theorem cntTo_hit {t : Tr} {kd : Int} {c : List Int} {p i : Nat} (h : (ev t (p, i)).kind = kd) : cntTo t kd c p (i + 1) = cntTo t kd c p i + 1 := by
  unfold cntTo; rw [idsCTo_succ, List.filter_append, List.length_append]; simp [h]
theorem cntTo_miss {t : Tr} {kd : Int} {c : List Int} {p i : Nat} (h : (ev t (p, i)).kind ≠ kd) : cntTo t kd c p (i + 1) = cntTo t kd c p i := by
  unfold cntTo; rw [idsCTo_succ, List.filter_append, List.length_append]; simp [h]
theorem cntTo_next {t : Tr} {kd : Int} {c : List Int} {p k : Nat} (h : k = c[p]!.toNat) : cntTo t kd c p k = cntTo t kd c (p + 1) 0 := by
  subst h; unfold cntTo; rw [idsCTo_next]
theorem cntE_evs (t : Tr) (kd : Int) (c : List Int) : cntE t kd c = ((evsC t kd c).length : Int) := rfl
/-- A consistent cut has terminated. -/
def termB (t : Tr) (s : ByteArray) (c : List Int) : Bool := passB t s c && decide (cntE t 2 c = cntE t 3 c)
noncomputable def pasE (t : Tr) (s : ByteArray) (c : List Int) : Int := if chkE t s = 0 then (if consB t c = true then 0 else 18) else chkE t s
theorem pasE_ok {t : Tr} {s : ByteArray} {c : List Int} : pasE t s c = 0 ↔ (validT t = true ∧ hasT t s = true) ∧ ConsC t c := by
  unfold pasE
  split
  · rename_i h
    have h' := chkE_ok.1 h
    split
    · rename_i h2; simp [h', (consB_iff.1 h2).2]
    · rename_i h2
      simp only [h', true_and, and_self]
      exact ⟨fun e => (by cases e), fun e => absurd (consB_iff.2 ⟨h'.1, e⟩) h2⟩
  · rename_i h
    rw [← chkE_ok]
    exact ⟨fun e => absurd e h, fun e => e.1⟩

/-! ### Waves -/
def rngB (t : Tr) (c : List Int) : Bool := fitsB t c && rangeB t c
theorem rngB_iff {t : Tr} {c : List Int} : rngB t c = true ↔ RangeC t c := by
  unfold rngB RangeC fitsB; rw [Bool.and_eq_true, decide_eq_true_eq]
noncomputable def leqW (t : Tr) (ws : List (List Int)) (k : Nat) : Bool := leCB (closeC t ws[k - 1]!) ws[k]!
noncomputable def ordB (t : Tr) (ws : List (List Int)) : Bool := (List.range ws.length).all fun k => decide (k = 0) || leqW t ws k
theorem ordB_iff {t : Tr} {ws : List (List Int)} : ordB t ws = true ↔ ∀ k, 1 ≤ k → k < ws.length → leqW t ws k = true := by
  simp only [ordB, List.all_eq_true, List.mem_range, Bool.or_eq_true, decide_eq_true_eq]
  exact ⟨fun h k h1 h2 => (h k h2).resolve_left (by omega), fun h k h2 => by by_cases e : k = 0; exact .inl e; exact .inr (h k (by omega) h2)⟩
def annB (t : Tr) (s : ByteArray) (ws : List (List Int)) (k : Nat) : Bool := passB t s ws[k - 1]! && (passB t s ws[k]! && decide (cntE t 3 ws[k - 1]! = cntE t 2 ws[k]!))
def annI (t : Tr) (s : ByteArray) (ws : List (List Int)) : Option Nat := (List.range ws.length).find? fun k => decide (1 ≤ k) && annB t s ws k
theorem annI_none {t : Tr} {s : ByteArray} {ws : List (List Int)} : annI t s ws = none ↔ ∀ k, 1 ≤ k → k < ws.length → annB t s ws k = false := by
  unfold annI
  rw [List.find?_eq_none]
  simp only [List.mem_range, Bool.and_eq_true, decide_eq_true_eq, not_and, Bool.not_eq_true]
  exact ⟨fun h k h1 h2 => h k h2 h1, fun h k h2 h1 => h k h1 h2⟩
theorem annI_hit {t : Tr} {s : ByteArray} {ws : List (List Int)} {k : Nat} (h1 : 1 ≤ k) (hk : k < ws.length) (h : annB t s ws k = true) (hn : ∀ j, 1 ≤ j → j < k → annB t s ws j = false) : annI t s ws = some k := by
  unfold annI
  rw [List.find?_eq_some_iff_getElem]
  refine ⟨by simp [h1, h], k, by simpa using hk, by simp, fun j hj => ?_⟩
  rw [List.getElem_range]
  by_cases e : 1 ≤ j
  · simp [hn j e hj]
  · simp [e]
theorem annI_some {t : Tr} {s : ByteArray} {ws : List (List Int)} {k : Nat} (h : annI t s ws = some k) : 1 ≤ k ∧ k < ws.length ∧ annB t s ws k = true := by
  unfold annI at h
  have h1 := List.find?_some h
  have h2 := List.mem_of_find?_eq_some h
  rw [Bool.and_eq_true, decide_eq_true_eq] at h1
  exact ⟨h1.1, List.mem_range.1 h2, h1.2⟩
noncomputable def cgE (t : Tr) (s : ByteArray) (ws : List (List Int)) : Int :=
  if chkE t s = 0 then (if 100 < ws.length then 5 else if ws.all (rngB t) = true then (if ordB t ws = true then (if (annI t s ws).isSome = true then 0 else 7) else 11) else 2) else chkE t s
noncomputable def cgK (t : Tr) (s : ByteArray) (ws : List (List Int)) : Int := if cgE t s ws = 0 then (((annI t s ws).getD 0 : Nat) : Int) else 0
theorem cgE_chk {t : Tr} {s : ByteArray} {ws : List (List Int)} (h : chkE t s ≠ 0) : cgE t s ws = chkE t s ∧ cgK t s ws = 0 := by
  have e : cgE t s ws = chkE t s := by unfold cgE; rw [if_neg h]
  exact ⟨e, by unfold cgK; rw [if_neg (by rw [e]; exact h)]⟩
theorem cgE_full {t : Tr} {s : ByteArray} {ws : List (List Int)} (h : chkE t s = 0) (h2 : 100 < ws.length) : cgE t s ws = 5 ∧ cgK t s ws = 0 := by
  have e : cgE t s ws = 5 := by unfold cgE; rw [if_pos h, if_pos h2]
  exact ⟨e, by unfold cgK; rw [e]; rfl⟩
theorem cgE_rng {t : Tr} {s : ByteArray} {ws : List (List Int)} (h : chkE t s = 0) (h2 : ¬ 100 < ws.length) (h3 : ws.all (rngB t) = false) : cgE t s ws = 2 ∧ cgK t s ws = 0 := by
  have e : cgE t s ws = 2 := by unfold cgE; rw [if_pos h, if_neg h2, if_neg (by rw [h3]; decide)]
  exact ⟨e, by unfold cgK; rw [e]; rfl⟩
theorem cgE_ord {t : Tr} {s : ByteArray} {ws : List (List Int)} (h : chkE t s = 0) (h2 : ¬ 100 < ws.length) (h3 : ws.all (rngB t) = true) (h4 : ordB t ws = false) : cgE t s ws = 11 ∧ cgK t s ws = 0 := by
  have e : cgE t s ws = 11 := by unfold cgE; rw [if_pos h, if_neg h2, if_pos h3, if_neg (by rw [h4]; decide)]
  exact ⟨e, by unfold cgK; rw [e]; rfl⟩
theorem cgE_none {t : Tr} {s : ByteArray} {ws : List (List Int)} (h : chkE t s = 0) (h2 : ¬ 100 < ws.length) (h3 : ws.all (rngB t) = true) (h4 : ordB t ws = true) (h5 : annI t s ws = none) : cgE t s ws = 7 ∧ cgK t s ws = 0 := by
  have e : cgE t s ws = 7 := by unfold cgE; rw [if_pos h, if_neg h2, if_pos h3, if_pos h4, h5]; rfl
  exact ⟨e, by unfold cgK; rw [e]; rfl⟩
theorem cgE_some {t : Tr} {s : ByteArray} {ws : List (List Int)} {k : Nat} (h : chkE t s = 0) (h2 : ¬ 100 < ws.length) (h3 : ws.all (rngB t) = true) (h4 : ordB t ws = true) (h5 : annI t s ws = some k) : cgE t s ws = 0 ∧ cgK t s ws = (k : Int) := by
  have e : cgE t s ws = 0 := by unfold cgE; rw [if_pos h, if_neg h2, if_pos h3, if_pos h4, h5]; rfl
  exact ⟨e, by unfold cgK; rw [e, h5]; rfl⟩
theorem cgE_zero {t : Tr} {s : ByteArray} {ws : List (List Int)} (h : cgE t s ws = 0) : chkE t s = 0 ∧ (∀ k, k < ws.length → RangeC t ws[k]!) ∧ ordB t ws = true ∧ ∃ k, annI t s ws = some k ∧ cgK t s ws = (k : Int) := by
  have hk := h
  unfold cgE at h
  split at h
  · rename_i h1
    split at h
    · cases h
    · split at h
      · rename_i h3
        split at h
        · rename_i h4
          split at h
          · rename_i h5
            obtain ⟨k, hk2⟩ := Option.isSome_iff_exists.1 h5
            exact ⟨h1, fun j hj => rngB_iff.1 (all_at h3 hj), h4, k, hk2, by unfold cgK; rw [if_pos hk, hk2]; rfl⟩
          · cases h
        · cases h
      · cases h
  · rename_i h1; exact absurd h h1

/-! ### Stable, and rightly announced -/
def drvB (t : Tr) (s : ByteArray) (p i : Nat) : Bool := !(idleB t s p i && ((!idleB t s p (i + 1) && !decide ((ev t (p, i)).kind = 3)) || decide ((ev t (p, i)).kind = 2)))
def DrvT (t : Tr) (s : ByteArray) : Prop := ∀ p, p < t.length → ∀ i, i < t[p]!.events.length → drvB t s p i = true
theorem drv_I {t : Tr} {s : ByteArray} (h : DrvT t s) : DrivenI t fun p k => idleB t s p k = true := by
  intro p i hi hidle
  have := h p hi.1 i hi.2
  unfold drvB at this
  rw [hidle] at this
  simp only [Bool.true_and, Bool.not_or, Bool.and_eq_true, Bool.not_eq_true', Bool.and_eq_false_iff, Bool.not_eq_false', decide_eq_true_eq, decide_eq_false_iff_not] at this
  exact ⟨this.2, fun h3 => this.1.resolve_right h3⟩
theorem termB_parts {t : Tr} {s : ByteArray} {c : List Int} (hl : c.length = t.length) : termB t s c = true ↔ (∀ p, p < t.length → idleB t s p c[p]!.toNat = true) ∧ (evsC t 2 c).length = (evsC t 3 c).length := by
  unfold termB
  rw [Bool.and_eq_true, passB_iff, decide_eq_true_eq, cntE_evs, cntE_evs, hl]
  constructor
  · rintro ⟨h1, h2⟩; exact ⟨h1, by omega⟩
  · rintro ⟨h1, h2⟩; exact ⟨h1, by omega⟩
theorem term_stays {t : Tr} {s : ByteArray} {c e : List Int} (hv : validT t = true) (hd : DrvT t s) (hc : ConsC t c) (he : ConsC t e) (hl : LeC c e) (ht : termB t s c = true) : termB t s e = true := by
  have hq := validT_parts.1 hv
  have h := (termB_parts hc.1.1).1 ht
  exact (termB_parts he.1.1).2 (stable (I := fun p k => idleB t s p k = true) hq.2.1 hq.2.2 (drv_I hd) hc he hl h.1 h.2)
theorem ann_term {t : Tr} {s : ByteArray} {ws : List (List Int)} {k : Nat} {x : List Int} (hv : validT t = true) (hd : DrvT t s) (h0 : RangeC t ws[k - 1]!) (h1 : RangeC t ws[k]!) (ha : annB t s ws k = true) (hx : ConsC t x) (l0 : LeC ws[k - 1]! x) (l1 : LeC x ws[k]!) : termB t s x = true := by
  have hq := validT_parts.1 hv
  unfold annB at ha
  rw [Bool.and_eq_true, Bool.and_eq_true, decide_eq_true_eq, cntE_evs, cntE_evs] at ha
  refine (termB_parts hx.1.1).2 (wave_done (I := fun p k => idleB t s p k = true) hq.2.1 (drv_I hd) h0 h1 hx l0 l1 (fun p hp => passB_iff.1 ha.1 p (by rw [h0.1]; exact hp)) (by have := ha.2.2; omega))

/-- The least consistent cut is met by rounds. -/
theorem closed_eq {t : Tr} {k c : List Int} {r : Nat} (hr : RangeC t k) (h : OInv t k c r) (hu : Up t k c) (hn : sumTo (fun p => t[p]!.events.length) t.length < r) : c = closeC t k := by
  obtain ⟨h1, h2, h3⟩ := h.done hu hn
  obtain ⟨n, hf⟩ := closeC_fix hr
  obtain ⟨g1, g2, g3⟩ := up_least hf hr
  refine list_ext (h1.1.1.trans g1.1.1.symm) fun p hp => ?_
  have a := h3 _ g1 g2 p hp
  have b := g3 _ h1 h2 p (by rw [g1.1.1, ← h1.1.1]; exact hp)
  omega

end Go.Proofs.YtfcpnggdpaeldaaGreat

/-
  A value of a variable: the program's Value.
-/
namespace Go.Proofs.YtfcpnggdpaeldaaGreat
open Go.RowKit
set_option linter.unusedVariables false

/-- The error of a trace, a process and a state; and of a name too. -/
noncomputable def placeE (t : Tr) (p k : Int) : Int := if validT t = true then (if (0 ≤ p ∧ p < (t.length : Int)) ∧ (0 ≤ k ∧ k ≤ (t[p.toNat]!.events.length : Int)) then 0 else 2) else 1
noncomputable def faultV (t : Tr) (p k : Int) (s : ByteArray) : Int := if placeE t p k = 0 ∧ idxV t[p.toNat]! s < 0 then 13 else placeE t p k
theorem placeE_ok {t : Tr} {p k : Int} (h : placeE t p k = 0) : validT t = true ∧ (0 ≤ p ∧ p < (t.length : Int)) ∧ (0 ≤ k ∧ k ≤ (t[p.toNat]!.events.length : Int)) := by
  unfold placeE at h
  split at h
  · rename_i h1
    split at h
    · rename_i h2; exact ⟨h1, h2⟩
    · cases h
  · cases h
theorem faultV_ok {t : Tr} {p k : Int} {s : ByteArray} (h : faultV t p k s = 0) : placeE t p k = 0 ∧ 0 ≤ idxV t[p.toNat]! s := by
  unfold faultV at h
  split at h
  · cases h
  · rename_i h1; exact ⟨h, by have := not_and.1 h1 h; omega⟩
theorem fault_one {t : Tr} {p k : Int} {s : ByteArray} (h : fndE t p s = 1) : faultV t p k s = 1 := by
  have hv : ¬ validT t = true := fun hv => by
    unfold fndE at h; rw [if_pos hv] at h
    split at h
    · split at h <;> cases h
    · cases h
  have hp : placeE t p k = 1 := by unfold placeE; rw [if_neg hv]
  unfold faultV; rw [hp]; rfl
theorem fault_two {t : Tr} {p k : Int} {s : ByteArray} (h : fndE t p s = 2) : faultV t p k s = 2 := by
  unfold fndE at h
  split at h
  · rename_i hv
    split at h
    · split at h <;> cases h
    · rename_i hp
      have : placeE t p k = 2 := by unfold placeE; rw [if_pos hv, if_neg (fun h => hp h.1)]
      unfold faultV; rw [this]; rfl
  · cases h
theorem fault_else {t : Tr} {p : Int} {s : ByteArray} (h1 : fndE t p s ≠ 1) (h2 : fndE t p s ≠ 2) : validT t = true ∧ (0 ≤ p ∧ p < (t.length : Int)) ∧ (∀ k, 0 ≤ k ∧ k ≤ (t[p.toNat]!.events.length : Int) → faultV t p k s = fndE t p s) ∧ (∀ k, ¬ (0 ≤ k ∧ k ≤ (t[p.toNat]!.events.length : Int)) → faultV t p k s = 2) := by
  have hv : validT t = true := by
    cases hv : validT t with
    | true => rfl
    | false => exact absurd (show fndE t p s = 1 by unfold fndE; rw [if_neg (by rw [hv]; decide)]) h1
  have hp : 0 ≤ p ∧ p < (t.length : Int) := by
    by_cases hp : 0 ≤ p ∧ p < (t.length : Int)
    · exact hp
    · exact absurd (show fndE t p s = 2 by unfold fndE; rw [if_pos hv, if_neg hp]) h2
  refine ⟨hv, hp, fun k hk => ?_, fun k hk => ?_⟩
  · have : placeE t p k = 0 := by unfold placeE; rw [if_pos hv, if_pos ⟨hp, hk⟩]
    unfold faultV fndE
    rw [this, if_pos hv, if_pos hp]
    by_cases hi : idxV t[p.toNat]! s < 0
    · rw [if_pos ⟨rfl, hi⟩, if_pos hi]
    · rw [if_neg (fun h => hi h.2), if_neg hi]
  · have : placeE t p k = 2 := by unfold placeE; rw [if_pos hv, if_neg (fun h => hk h.2)]
    unfold faultV; rw [this]; rfl

set_option maxHeartbeats 4000000 in
set_option maxRecDepth 100000 in
theorem valueV_calls (v : Value) (t : Tr) (p : Int) (s : ByteArray) (k : Int) (w : World) (h : TrAt w v t) (hs : LooseTr t) :
    Calls Tryz.prog 67 #[.agg #[v], .int .i64 p, .string s, .int .i64 k] w fun e w' =>
      e = .returned (.tuple #[.int .i64 (if faultV t p k s = 0 then valF t p.toNat (idxV t[p.toNat]! s).toNat k.toNat else 0), .int .i64 (faultV t p k s)]) ∧ Ext w w' := by
  have HT := Lib.hid h
  have HFC := Lib.hid (fun W (hW : Ext w W) => findV_calls v t p s W (h.ext hW) hs)
  have HOK : Hid (fndE t p s = 0 → validT t = true ∧ (0 ≤ p ∧ p < (t.length : Int)) ∧ 0 ≤ idxV t[p.toNat]! s ∧ fndI t p s = idxV t[p.toNat]! s) := Lib.hid (fun he => by
    have hi : fndI t p s = idxV t[p.toNat]! s := by unfold fndI; rw [if_pos he]
    unfold fndE at he
    split at he
    · rename_i h1
      split at he
      · rename_i h2
        split at he
        · cases he
        · exact ⟨h1, h2, by omega, hi⟩
      · cases he
    · cases he)
  obtain ⟨ta, tc, rfl, htc⟩ := h.sh
  have hn1 := hs.1
  have HX0 := Lib.hid (heap_alloc_new w (.cells #[.slice ta t.length tc] 24))
  have HE1 := Lib.hid ((Ext.rf w).al (.cells #[.slice ta t.length tc] 24))
  obtain ⟨E, hE⟩ : ∃ E, fndE t p s = E := ⟨_, rfl⟩
  obtain ⟨I, hI⟩ : ∃ I, fndI t p s = I := ⟨_, rfl⟩
  rw [hE, hI] at HFC HOK
  have HFE := Lib.hid hE
  have HFI := Lib.hid hI
  obtain ⟨F, hF⟩ : ∃ F, faultV t p k s = F := ⟨_, rfl⟩
  obtain ⟨R, hR⟩ : ∃ R, (if F = 0 then valF t p.toNat (idxV t[p.toNat]! s).toNat k.toNat else 0) = R := ⟨_, rfl⟩
  rw [hF, hR]
  have HR := Lib.hid hR
  have HF1 : Hid (E = 1 → F = 1) := Lib.hid (fun e => by rw [← hF]; exact fault_one (hE.trans e))
  have HF2 : Hid (E = 2 → F = 2) := Lib.hid (fun e => by rw [← hF]; exact fault_two (hE.trans e))
  have HFX := Lib.hid (fun h1 h2 => fault_else (t := t) (p := p) (s := s) h1 h2)
  rw [hE] at HFX
  have HFF := Lib.hid hF
  clear hR hF
  generalize hln : t.length = n at *
  have HL := Lib.hid hln
  clear h hs hE hI hln
  go_enter Tryz.func67, Tryz.ntmps67
  go_wp2_with fail
  refine (HFC.out _ HE1.out).mono ?_
  rintro e w2 ⟨rfl, hX⟩
  have HE2 := Lib.hid (HE1.out.trans' hX)
  have HY0 := Lib.hid (hX.hp HX0.out)
  clear hX
  have t0 := cellOf HY0.out 0
  simp only [List.getElem?_toArray, List.getElem?_cons_zero] at t0
  by_cases he1 : E = 1
  case pos =>
    obtain rfl := he1
    obtain rfl : F = 1 := HF1.out rfl
    obtain rfl : R = 0 := HR.out.symm.trans (if_neg (by decide))
    go_wp2
    go_ret2
    exact ⟨rfl, HE2.out⟩
  case neg =>
  by_cases he2 : E = 2
  case pos =>
    obtain rfl := he2
    obtain rfl : F = 2 := HF2.out rfl
    obtain rfl : R = 0 := HR.out.symm.trans (if_neg (by decide))
    go_wp2
    go_ret2
    exact ⟨rfl, HE2.out⟩
  case neg =>
  have hq := HFX.out he1 he2
  obtain ⟨hv, ⟨hp0, hpn⟩, hk1, hk2⟩ := hq
  have d1 : (E == 1) = false := by simp [he1]
  have d2 : (E == 2) = false := by simp [he2]
  obtain ⟨q, rfl⟩ : ∃ q : Nat, p = (q : Int) := ⟨p.toNat, by omega⟩
  simp only [Int.toNat_natCast] at hk1 hk2 HR HOK
  have hqn : q < n := by omega
  have HV := Lib.hid hv
  have HQ := Lib.hid (show q < t.length from by rw [HL.out]; exact hqn)
  obtain ⟨B, O, C, vv, ve, hve, hlC, hB, hn0, hv0, he0, hRp, ⟨a1, c1, rfl⟩, a2, c2, rfl⟩ := proc_rpr HT.out q HQ.out
  simp only [Value.slice.injEq] at hve
  obtain ⟨rfl, hzz, rfl⟩ := hve
  have n1 := HE2.out.cl hn0
  have v1 := HE2.out.cl hv0
  have e1 := HE2.out.cl he0
  have HSV := Lib.hid (fun k' (hk : k' ≤ t[q]!.events.length) W (hW : Ext w W) => stateP_calls _ t q k' W (rpr_lasts _ _ _ _ hRp hW) (stOk_valid hv HQ.out) hk)
  have HSL := Lib.hid (fun k' (hk : k' ≤ t[q]!.events.length) => stV_len t q k' hk)
  have hel := ((valid_small hv).2 q HQ.out).2.1
  have HK1 := Lib.hid hk1
  have HK2 := Lib.hid hk2
  have HIR := Lib.hid (idxV_range t[q]! s)
  generalize t[q]!.name = nm at *
  generalize t[q]!.vars.length = nv at *
  generalize t[q]!.events.length = ne at *
  generalize idxV t[q]! s = ix at *
  clear hk1 hk2 hv hn0 hv0 he0 hzz hRp he1 he2
  by_cases hk : 0 ≤ k ∧ k ≤ (ne : Int)
  case neg =>
    obtain rfl : F = 2 := HFF.out.symm.trans (HK2.out k hk)
    obtain rfl : R = 0 := HR.out.symm.trans (if_neg (by decide))
    by_cases hk0 : k < 0
    · have d3 : decide (k < 0) = true := decide_eq_true hk0
      clear hk0 hk
      go_wp2
      go_ret2
      exact ⟨rfl, HE2.out⟩
    · have d3 : decide (k < 0) = false := decide_eq_false hk0
      have d4 : decide ((ne : Int) < k) = true := decide_eq_true (by omega)
      clear hk0 hk
      go_wp2
      go_ret2
      exact ⟨rfl, HE2.out⟩
  case pos =>
    have hFE := HFF.out.symm.trans (HK1.out k hk)
    obtain ⟨k', rfl⟩ : ∃ k' : Nat, k = (k' : Int) := ⟨k.toNat, by omega⟩
    have d3 : decide ((k' : Int) < 0) = false := decide_eq_false (by omega)
    have d4 : decide ((ne : Int) < (k' : Int)) = false := decide_eq_false (by omega)
    have d4n : decide (ne < k') = false := decide_eq_false (by omega)
    have hkk : k' ≤ ne := by omega
    obtain rfl := hFE
    by_cases h0 : F = 0
    case neg =>
      have d5 : (F != 0) = true := by simp [h0]
      obtain rfl : R = 0 := HR.out.symm.trans (if_neg h0)
      clear h0 hk
      go_wp2
      go_ret2
      exact ⟨rfl, HE2.out⟩
    case pos =>
      subst h0
      obtain ⟨_, _, hi0, hI0⟩ := HOK.out rfl
      have HR2 : Hid (R = valF t q ix.toNat k') := Lib.hid (HR.out.symm.trans (if_pos rfl))
      subst hI0
      obtain ⟨i, rfl⟩ : ∃ i : Nat, I = (i : Int) := ⟨I.toNat, by omega⟩
      have hin : i < nv := by have := HIR.out.2; omega
      have HSC := Lib.hid (HSV.out k' hkk)
      have HS2 := Lib.hid (HSL.out k' hkk)
      have HIN := Lib.hid hin
      have hiz : (0 : Int) ≤ (i : Int) := by omega
      have hinz : (i : Int) < (nv : Int) := by omega
      clear hi0 hk hkk
      go_wp2_with fail
      refine (HSC.out _ HE2.out).mono ?_
      rintro e w3 ⟨u, rfl, hR3, hX3⟩
      obtain ⟨G, Go, Gc, rfl, hG, hG2, _⟩ := hR3.shape (by omega)
      have hck := hR3.cell i (by omega)
      rw [List.getElem?_map, List.getElem?_eq_getElem (by rw [HS2.out]; exact hin), Option.map_some, ← getElem!_pos (stV t q k') i (by rw [HS2.out]; exact hin)] at hck
      have HR3 : Hid ((stV t q k')[i]! = R) := Lib.hid (by rw [HR2.out]; rfl)
      rw [HR3.out] at hck
      have HE3 := Lib.hid (HE2.out.trans' hX3)
      clear hR3 hX3 hG hG2 n1 v1 e1 t0
      go_wp2
      go_ret2
      exact ⟨rfl, HE3.out⟩

end Go.Proofs.YtfcpnggdpaeldaaGreat
