/-
  Termination is stable, in the words of the program's answers. No function is named here.
-/
import Derived.Test.YtfcpnggdpaeldaaGreatGz
import Derived.Test.YtfcpnggdpaeldaaGreatHg
import Derived.Test.YtfcpnggdpaeldaaGreatLatL
namespace Go.Proofs.YtfcpnggdpaeldaaGreat
open Go.RowKit
set_option linter.unusedVariables false

variable {t : Tr} {s : ByteArray} {c d : List Int}
/-- What the program says of a cut that has terminated. -/
def Done (t : Tr) (s : ByteArray) (x : List Int) : Prop := pasE t s x = 0 ∧ trmB t s x = true
theorem done_iff (hv : validT t = true) (hh : hasT t s = true) {x : List Int} : Done t s x ↔ ConsC t x ∧ termB t s x = true := by
  unfold Done
  constructor
  · rintro ⟨h1, h2⟩
    exact ⟨(pasE_ok.1 h1).2, by unfold trmB at h2; rw [if_pos h1] at h2; exact h2⟩
  · rintro ⟨h1, h2⟩
    have h0 : pasE t s x = 0 := pasE_ok.2 ⟨⟨hv, hh⟩, h1⟩
    exact ⟨h0, by unfold trmB; rw [if_pos h0]; exact h2⟩
theorem done_stays (hv : validT t = true) (hh : hasT t s = true) (hd : DrvT t s) (h : Done t s c) {x : List Int} (hx : ConsC t x) (hl : LeC c x) : Done t s x := by
  obtain ⟨h1, h2⟩ := (done_iff hv hh).1 h
  exact (done_iff hv hh).2 ⟨hx, term_stays hv hd h1 hx hl h2⟩
theorem given_both (h : givenE t [c, d] [] = 0) : ConsC t c ∧ ConsC t d := by
  unfold givenE at h
  simp only [List.all_cons, List.all_nil, Bool.and_true, if_true] at h
  split at h
  · rename_i h1
    split at h
    · rename_i h2
      split at h
      · rename_i h3
        rw [Bool.and_eq_true, Bool.and_eq_true] at h1
        rw [Bool.and_eq_true] at h2 h3
        exact ⟨⟨⟨of_decide_eq_true h1.2.1, h2.1⟩, Option.isNone_iff_eq_none.1 h3.1⟩, ⟨⟨of_decide_eq_true h1.2.2, h2.2⟩, Option.isNone_iff_eq_none.1 h3.2⟩⟩
      · cases h
    · cases h
  · cases h
theorem join_done (hv : validT t = true) (hh : hasT t s = true) (hd : DrvT t s) (h : Done t s c) (hj : givenE t [c, d] [] = 0) : Done t s (joinC c d) := by
  obtain ⟨h1, h2⟩ := given_both hj
  refine done_stays hv hh hd h (join_cons h1 h2) ?_
  have := (le_join (b := c) (c := d) (n := t.length) h1.1.1 h2.1.1).1
  exact (leCB_iff.1 this).2
theorem adv_done (hv : validT t = true) (hh : hasT t s = true) (hd : DrvT t s) (h : Done t s c) {q : Int} (hq : q ∈ enabledC t c) : advE t c q = 0 ∧ Done t s (withC c q.toNat) := by
  have hc := ((done_iff hv hh).1 h).1
  have h0 : givenE t [c] [] = 0 := (givenE_one t c).2 (consB_iff.2 ⟨hv, hc⟩)
  unfold enabledC enTo at hq
  obtain ⟨p, hp, rfl⟩ := List.mem_map.1 hq
  rw [List.mem_filter, List.mem_range] at hp
  have hpl : p < t.length := by have := hc.1.1; omega
  have he := hp.2
  unfold enC at he
  rw [Bool.and_eq_true, decide_eq_true_eq] at he
  rw [Int.toNat_natCast]
  refine ⟨by rw [advE_ok h0 hpl, if_pos he.1, if_pos he.2], done_stays hv hh hd h ?_ (withC_le hc.1 hpl)⟩
  have := with_cons hv hc hpl he.1
  rw [he.2] at this
  exact (consB_iff.1 this).2
/-- What an announced wave says. -/
structure Wave (t : Tr) (s : ByteArray) (ws : List (List Int)) (k : Nat) : Prop where
  one : 1 ≤ k
  lt : k < ws.length
  r0 : RangeC t ws[k - 1]!
  r1 : RangeC t ws[k]!
  lo : Done t s (closeC t ws[k - 1]!)
  hi : Done t s (openC t ws[k]!)
  mid : ∀ x, ConsC t x → LeC ws[k - 1]! x → LeC x ws[k]! → Done t s x
theorem wave_of (hh : hasT t s = true) (hd : DrvT t s) {ws : List (List Int)} (h : cgE t s ws = 0) : ∃ k : Nat, cgK t s ws = (k : Int) ∧ Wave t s ws k := by
  obtain ⟨h1, h2, h3, k, h4, h5⟩ := cgE_zero h
  have hv := (chkE_ok.1 h1).1
  obtain ⟨k1, k2, k3⟩ := annI_some h4
  have r0 := h2 (k - 1) (by omega)
  have r1 := h2 k k2
  have hle := ordB_iff.1 h3 k k1 k2
  unfold leqW at hle
  obtain ⟨hl1, hl2⟩ := leCB_iff.1 hle
  have hmid : ∀ x, ConsC t x → LeC ws[k - 1]! x → LeC x ws[k]! → Done t s x := fun x hx l0 l1 => (done_iff hv hh).2 ⟨hx, ann_term hv hd r0 r1 k3 hx l0 l1⟩
  obtain ⟨n1, f1⟩ := closeC_fix r0
  obtain ⟨c1, c2, c3⟩ := up_least f1 r0
  obtain ⟨n2, f2⟩ := openC_fix r1
  obtain ⟨o1, o2, o3⟩ := dn_greatest f2 r1
  refine ⟨k, h5, k1, k2, r0, r1, hmid _ c1 c2 hl2, hmid _ o1 ?_ o2, hmid⟩
  have := o3 _ c1 hl2
  intro p hp
  have a := c2 p hp
  have b := this p (by rw [c1.1.1, ← r0.1]; exact hp)
  omega
theorem cgK_zero {ws : List (List Int)} (h : cgE t s ws ≠ 0) : cgK t s ws = 0 := by unfold cgK; rw [if_neg h]

end Go.Proofs.YtfcpnggdpaeldaaGreat
