import Derived.Test.YtfcpnggdpaeldaaGa
import Derived.Test.YtfcpnggdpaeldaaProg
import Derived.Test.YtfcpnggdpaeldaaGk
import Derived.Test.YtfcpnggdpaeldaaGj
import Derived.Test.YtfcpnggdpaeldaaGi
import Derived.BigQuiet
import Derived.Deep.QuietTactic
import Derived.Deep.LoopGhost
import Derived.Shelf.Abstract
/-
  A value of a variable: the program's Value.
-/
namespace Go.Proofs.Ytfcpnggdpaeldaa
open Go.RowKit
set_option linter.unusedVariables false

/-- The error of a trace, a process and a state; and of a name too. -/
noncomputable def placeE (t : Tr) (p k : Int) : Int := if validT t = true then (if (0 ≤ p ∧ p < (t.length : Int)) ∧ (0 ≤ k ∧ k ≤ (t[p.toNat]!.events.length : Int)) then 0 else 2) else 1
noncomputable def faultV (t : Tr) (p k : Int) (s : ByteArray) : Int := if placeE t p k = 0 ∧ idxV t[p.toNat]! s < 0 then 13 else placeE t p k
theorem placeE_ok {t : Tr} {p k : Int} (h : placeE t p k = 0) : validT t = true ∧ (0 ≤ p ∧ p < (t.length : Int)) ∧ (0 ≤ k ∧ k ≤ (t[p.toNat]!.events.length : Int)) := by
  unfold placeE at h
  split at h
  · rename_i h1
    split at h
    · rename_i h2; exact ⟨h1, h2⟩
    · cases h
  · cases h
theorem faultV_ok {t : Tr} {p k : Int} {s : ByteArray} (h : faultV t p k s = 0) : placeE t p k = 0 ∧ 0 ≤ idxV t[p.toNat]! s := by
  unfold faultV at h
  split at h
  · cases h
  · rename_i h1; exact ⟨h, by have := not_and.1 h1 h; omega⟩
theorem fault_one {t : Tr} {p k : Int} {s : ByteArray} (h : fndE t p s = 1) : faultV t p k s = 1 := by
  have hv : ¬ validT t = true := fun hv => by
    unfold fndE at h; rw [if_pos hv] at h
    split at h
    · split at h <;> cases h
    · cases h
  have hp : placeE t p k = 1 := by unfold placeE; rw [if_neg hv]
  unfold faultV; rw [hp]; rfl
theorem fault_two {t : Tr} {p k : Int} {s : ByteArray} (h : fndE t p s = 2) : faultV t p k s = 2 := by
  unfold fndE at h
  split at h
  · rename_i hv
    split at h
    · split at h <;> cases h
    · rename_i hp
      have : placeE t p k = 2 := by unfold placeE; rw [if_pos hv, if_neg (fun h => hp h.1)]
      unfold faultV; rw [this]; rfl
  · cases h
theorem fault_else {t : Tr} {p : Int} {s : ByteArray} (h1 : fndE t p s ≠ 1) (h2 : fndE t p s ≠ 2) : validT t = true ∧ (0 ≤ p ∧ p < (t.length : Int)) ∧ (∀ k, 0 ≤ k ∧ k ≤ (t[p.toNat]!.events.length : Int) → faultV t p k s = fndE t p s) ∧ (∀ k, ¬ (0 ≤ k ∧ k ≤ (t[p.toNat]!.events.length : Int)) → faultV t p k s = 2) := by
  have hv : validT t = true := by
    cases hv : validT t with
    | true => rfl
    | false => exact absurd (show fndE t p s = 1 by unfold fndE; rw [if_neg (by rw [hv]; decide)]) h1
  have hp : 0 ≤ p ∧ p < (t.length : Int) := by
    by_cases hp : 0 ≤ p ∧ p < (t.length : Int)
    · exact hp
    · exact absurd (show fndE t p s = 2 by unfold fndE; rw [if_pos hv, if_neg hp]) h2
  refine ⟨hv, hp, fun k hk => ?_, fun k hk => ?_⟩
  · have : placeE t p k = 0 := by unfold placeE; rw [if_pos hv, if_pos ⟨hp, hk⟩]
    unfold faultV fndE
    rw [this, if_pos hv, if_pos hp]
    by_cases hi : idxV t[p.toNat]! s < 0
    · rw [if_pos ⟨rfl, hi⟩, if_pos hi]
    · rw [if_neg (fun h => hi h.2), if_neg hi]
  · have : placeE t p k = 2 := by unfold placeE; rw [if_pos hv, if_neg (fun h => hk h.2)]
    unfold faultV; rw [this]; rfl

set_option maxHeartbeats 4000000 in
set_option maxRecDepth 100000 in
theorem valueV_calls (v : Value) (t : Tr) (p : Int) (s : ByteArray) (k : Int) (w : World) (h : TrAt w v t) (hs : LooseTr t) :
    Calls Try.prog 29 #[.agg #[v], .int .i64 p, .string s, .int .i64 k] w fun e w' =>
      e = .returned (.tuple #[.int .i64 (if faultV t p k s = 0 then valF t p.toNat (idxV t[p.toNat]! s).toNat k.toNat else 0), .int .i64 (faultV t p k s)]) ∧ Ext w w' := by
  have HT := Lib.hid h
  have HFC := Lib.hid (fun W (hW : Ext w W) => findV_calls v t p s W (h.ext hW) hs)
  have HOK : Hid (fndE t p s = 0 → validT t = true ∧ (0 ≤ p ∧ p < (t.length : Int)) ∧ 0 ≤ idxV t[p.toNat]! s ∧ fndI t p s = idxV t[p.toNat]! s) := Lib.hid (fun he => by
    have hi : fndI t p s = idxV t[p.toNat]! s := by unfold fndI; rw [if_pos he]
    unfold fndE at he
    split at he
    · rename_i h1
      split at he
      · rename_i h2
        split at he
        · cases he
        · exact ⟨h1, h2, by omega, hi⟩
      · cases he
    · cases he)
  obtain ⟨ta, tc, rfl, htc⟩ := h.sh
  have hn1 := hs.1
  have HX0 := Lib.hid (heap_alloc_new w (.cells #[.slice ta t.length tc] 24))
  have HE1 := Lib.hid ((Ext.rf w).al (.cells #[.slice ta t.length tc] 24))
  obtain ⟨E, hE⟩ : ∃ E, fndE t p s = E := ⟨_, rfl⟩
  obtain ⟨I, hI⟩ : ∃ I, fndI t p s = I := ⟨_, rfl⟩
  rw [hE, hI] at HFC HOK
  have HFE := Lib.hid hE
  have HFI := Lib.hid hI
  obtain ⟨F, hF⟩ : ∃ F, faultV t p k s = F := ⟨_, rfl⟩
  obtain ⟨R, hR⟩ : ∃ R, (if F = 0 then valF t p.toNat (idxV t[p.toNat]! s).toNat k.toNat else 0) = R := ⟨_, rfl⟩
  rw [hF, hR]
  have HR := Lib.hid hR
  have HF1 : Hid (E = 1 → F = 1) := Lib.hid (fun e => by rw [← hF]; exact fault_one (hE.trans e))
  have HF2 : Hid (E = 2 → F = 2) := Lib.hid (fun e => by rw [← hF]; exact fault_two (hE.trans e))
  have HFX := Lib.hid (fun h1 h2 => fault_else (t := t) (p := p) (s := s) h1 h2)
  rw [hE] at HFX
  have HFF := Lib.hid hF
  clear hR hF
  generalize hln : t.length = n at *
  have HL := Lib.hid hln
  clear h hs hE hI hln
  go_enter Try.func29, Try.ntmps29
  go_wp2_with fail
  refine (HFC.out _ HE1.out).mono ?_
  rintro e w2 ⟨rfl, hX⟩
  have HE2 := Lib.hid (HE1.out.trans' hX)
  have HY0 := Lib.hid (hX.hp HX0.out)
  clear hX
  have t0 := cellOf HY0.out 0
  simp only [List.getElem?_toArray, List.getElem?_cons_zero] at t0
  by_cases he1 : E = 1
  case pos =>
    obtain rfl := he1
    obtain rfl : F = 1 := HF1.out rfl
    obtain rfl : R = 0 := HR.out.symm.trans (if_neg (by decide))
    go_wp2
    go_ret2
    exact ⟨rfl, HE2.out⟩
  case neg =>
  by_cases he2 : E = 2
  case pos =>
    obtain rfl := he2
    obtain rfl : F = 2 := HF2.out rfl
    obtain rfl : R = 0 := HR.out.symm.trans (if_neg (by decide))
    go_wp2
    go_ret2
    exact ⟨rfl, HE2.out⟩
  case neg =>
  have hq := HFX.out he1 he2
  obtain ⟨hv, ⟨hp0, hpn⟩, hk1, hk2⟩ := hq
  have d1 : (E == 1) = false := by simp [he1]
  have d2 : (E == 2) = false := by simp [he2]
  obtain ⟨q, rfl⟩ : ∃ q : Nat, p = (q : Int) := ⟨p.toNat, by omega⟩
  simp only [Int.toNat_natCast] at hk1 hk2 HR HOK
  have hqn : q < n := by omega
  have HV := Lib.hid hv
  have HQ := Lib.hid (show q < t.length from by rw [HL.out]; exact hqn)
  obtain ⟨B, O, C, vv, ve, hve, hlC, hB, hn0, hv0, he0, hRp, ⟨a1, c1, rfl⟩, a2, c2, rfl⟩ := proc_rpr HT.out q HQ.out
  simp only [Value.slice.injEq] at hve
  obtain ⟨rfl, hzz, rfl⟩ := hve
  have n1 := HE2.out.cl hn0
  have v1 := HE2.out.cl hv0
  have e1 := HE2.out.cl he0
  have HSV := Lib.hid (fun k' (hk : k' ≤ t[q]!.events.length) W (hW : Ext w W) => stateP_calls _ t q k' W (rpr_lasts _ _ _ _ hRp hW) (stOk_valid hv HQ.out) hk)
  have HSL := Lib.hid (fun k' (hk : k' ≤ t[q]!.events.length) => stV_len t q k' hk)
  have hel := ((valid_small hv).2 q HQ.out).2.1
  have HK1 := Lib.hid hk1
  have HK2 := Lib.hid hk2
  have HIR := Lib.hid (idxV_range t[q]! s)
  generalize t[q]!.name = nm at *
  generalize t[q]!.vars.length = nv at *
  generalize t[q]!.events.length = ne at *
  generalize idxV t[q]! s = ix at *
  clear hk1 hk2 hv hn0 hv0 he0 hzz hRp he1 he2
  by_cases hk : 0 ≤ k ∧ k ≤ (ne : Int)
  case neg =>
    obtain rfl : F = 2 := HFF.out.symm.trans (HK2.out k hk)
    obtain rfl : R = 0 := HR.out.symm.trans (if_neg (by decide))
    by_cases hk0 : k < 0
    · have d3 : decide (k < 0) = true := decide_eq_true hk0
      clear hk0 hk
      go_wp2
      go_ret2
      exact ⟨rfl, HE2.out⟩
    · have d3 : decide (k < 0) = false := decide_eq_false hk0
      have d4 : decide ((ne : Int) < k) = true := decide_eq_true (by omega)
      clear hk0 hk
      go_wp2
      go_ret2
      exact ⟨rfl, HE2.out⟩
  case pos =>
    have hFE := HFF.out.symm.trans (HK1.out k hk)
    obtain ⟨k', rfl⟩ : ∃ k' : Nat, k = (k' : Int) := ⟨k.toNat, by omega⟩
    have d3 : decide ((k' : Int) < 0) = false := decide_eq_false (by omega)
    have d4 : decide ((ne : Int) < (k' : Int)) = false := decide_eq_false (by omega)
    have d4n : decide (ne < k') = false := decide_eq_false (by omega)
    have hkk : k' ≤ ne := by omega
    obtain rfl := hFE
    by_cases h0 : F = 0
    case neg =>
      have d5 : (F != 0) = true := by simp [h0]
      obtain rfl : R = 0 := HR.out.symm.trans (if_neg h0)
      clear h0 hk
      go_wp2
      go_ret2
      exact ⟨rfl, HE2.out⟩
    case pos =>
      subst h0
      obtain ⟨_, _, hi0, hI0⟩ := HOK.out rfl
      have HR2 : Hid (R = valF t q ix.toNat k') := Lib.hid (HR.out.symm.trans (if_pos rfl))
      subst hI0
      obtain ⟨i, rfl⟩ : ∃ i : Nat, I = (i : Int) := ⟨I.toNat, by omega⟩
      have hin : i < nv := by have := HIR.out.2; omega
      have HSC := Lib.hid (HSV.out k' hkk)
      have HS2 := Lib.hid (HSL.out k' hkk)
      have HIN := Lib.hid hin
      have hiz : (0 : Int) ≤ (i : Int) := by omega
      have hinz : (i : Int) < (nv : Int) := by omega
      clear hi0 hk hkk
      go_wp2_with fail
      refine (HSC.out _ HE2.out).mono ?_
      rintro e w3 ⟨u, rfl, hR3, hX3⟩
      obtain ⟨G, Go, Gc, rfl, hG, hG2, _⟩ := hR3.shape (by omega)
      have hck := hR3.cell i (by omega)
      rw [List.getElem?_map, List.getElem?_eq_getElem (by rw [HS2.out]; exact hin), Option.map_some, ← getElem!_pos (stV t q k') i (by rw [HS2.out]; exact hin)] at hck
      have HR3 : Hid ((stV t q k')[i]! = R) := Lib.hid (by rw [HR2.out]; rfl)
      rw [HR3.out] at hck
      have HE3 := Lib.hid (HE2.out.trans' hX3)
      clear hR3 hX3 hG hG2 n1 v1 e1 t0
      go_wp2
      go_ret2
      exact ⟨rfl, HE3.out⟩

end Go.Proofs.Ytfcpnggdpaeldaa

/-
  The values of a state: the program's State.
-/
namespace Go.Proofs.Ytfcpnggdpaeldaa
open Go.RowKit
set_option linter.unusedVariables false

set_option maxHeartbeats 4000000 in
set_option maxRecDepth 100000 in
theorem stateV_calls (v : Value) (t : Tr) (p k : Int) (w : World) (h : TrAt w v t) (hs : LooseTr t) :
    Calls Try.prog 21 #[.agg #[v], .int .i64 p, .int .i64 k] w fun e w' => IntsRes w w' e (placeE t p k) (if placeE t p k = 0 then stV t p.toNat k.toNat else []) := by
  have HT := Lib.hid h
  have HVC := Lib.hid (fun W (hW : Ext w W) => validP_calls v t W (h.ext hW) hs)
  obtain ⟨ta, tc, rfl, htc⟩ := h.sh
  have hn1 := hs.1
  obtain ⟨vt, hvt⟩ : ∃ b, validT t = b := ⟨_, rfl⟩
  rw [hvt] at HVC
  have HVT := Lib.hid hvt
  obtain ⟨F, hF⟩ : ∃ F, placeE t p k = F := ⟨_, rfl⟩
  obtain ⟨R, hR⟩ : ∃ R, (if F = 0 then stV t p.toNat k.toNat else []) = R := ⟨_, rfl⟩
  rw [hF, hR]
  have HR := Lib.hid hR
  have HFF := Lib.hid (hF.symm.trans (show placeE t p k = if validT t = true then (if (0 ≤ p ∧ p < (t.length : Int)) ∧ (0 ≤ k ∧ k ≤ (t[p.toNat]!.events.length : Int)) then 0 else 2) else 1 from rfl))
  rw [hvt] at HFF
  generalize hln : t.length = n at *
  have HL := Lib.hid hln
  have HX0 := Lib.hid (heap_alloc_new w (.cells #[.slice ta n tc] 24))
  have HE1 := Lib.hid ((Ext.rf w).al (.cells #[.slice ta n tc] 24))
  clear h hs hln hvt hF hR
  go_enter Try.func21, Try.ntmps21
  go_wp2_with fail
  refine (HVC.out _ HE1.out).mono ?_
  rintro e w2 ⟨rfl, hX⟩
  have HE2 := Lib.hid (HE1.out.trans' hX)
  have HY0 := Lib.hid (hX.hp HX0.out)
  clear hX
  have t0 := cellOf HY0.out 0
  simp only [List.getElem?_toArray, List.getElem?_cons_zero] at t0
  cases vt with
  | false =>
    obtain rfl : F = 1 := by rw [HFF.out]; exact if_neg (by decide)
    obtain rfl : R = [] := by rw [← HR.out]; exact if_neg (by decide)
    go_wp2
    go_ret2
    exact IntsRes.none HE2.out
  | true =>
  have HFb := Lib.hid (HFF.out.trans (if_pos rfl))
  by_cases hp : 0 ≤ p ∧ p < (n : Int)
  case neg =>
    obtain rfl : F = 2 := HFb.out.trans (if_neg (fun h => hp h.1))
    obtain rfl : R = [] := by rw [← HR.out]; exact if_neg (by decide)
    by_cases hp0 : p < 0
    · have d1 : decide (p < 0) = true := decide_eq_true hp0
      clear hp hp0
      go_wp2
      go_ret2
      exact IntsRes.none HE2.out
    · have d1 : decide (p < 0) = false := decide_eq_false hp0
      have d2 : decide ((n : Int) ≤ p) = true := decide_eq_true (by omega)
      clear hp hp0
      go_wp2
      go_ret2
      exact IntsRes.none HE2.out
  case pos =>
  obtain ⟨hp0, hpn⟩ := hp
  have d1 : decide (p < 0) = false := decide_eq_false (by omega)
  have d2 : decide ((n : Int) ≤ p) = false := decide_eq_false (by omega)
  by_cases hk0 : k < 0
  case pos =>
    obtain rfl : F = 2 := HFb.out.trans (if_neg (fun h => by omega))
    obtain rfl : R = [] := by rw [← HR.out]; exact if_neg (by decide)
    have d3 : decide (k < 0) = true := decide_eq_true hk0
    clear hk0 hp0 hpn
    go_wp2
    go_ret2
    exact IntsRes.none HE2.out
  case neg =>
  have d3 : decide (k < 0) = false := decide_eq_false hk0
  obtain ⟨q, rfl⟩ : ∃ q : Nat, p = (q : Int) := ⟨p.toNat, by omega⟩
  obtain ⟨k', rfl⟩ : ∃ k' : Nat, k = (k' : Int) := ⟨k.toNat, by omega⟩
  simp only [Int.toNat_natCast] at HFb HR
  have hqn : q < n := by omega
  have HQ := Lib.hid (show q < t.length from by rw [HL.out]; exact hqn)
  obtain ⟨B, O, C, vv, ve, hve, hlC, hB, hn0, hv0, he0, hRp, ⟨a1, c1, rfl⟩, a2, c2, rfl⟩ := proc_rpr HT.out q HQ.out
  simp only [Value.slice.injEq] at hve
  obtain ⟨rfl, hzz, rfl⟩ := hve
  have n1 := HE2.out.cl hn0
  have v1 := HE2.out.cl hv0
  have e1 := HE2.out.cl he0
  have hel := ((valid_small HVT.out).2 q HQ.out).2.1
  have d2n : decide (n ≤ q) = false := decide_eq_false (by omega)
  have HSV := Lib.hid (fun k' (hk : k' ≤ t[q]!.events.length) W (hW : Ext w W) => stateP_calls _ t q k' W (rpr_lasts _ _ _ _ hRp hW) (stOk_valid HVT.out HQ.out) hk)
  have HSL := Lib.hid (fun k' (hk : k' ≤ t[q]!.events.length) => stV_len t q k' hk)
  have HFy := Lib.hid (fun (h : (k' : Int) ≤ (t[q]!.events.length : Int)) => HFb.out.trans (if_pos ⟨⟨hp0, hpn⟩, by omega, h⟩))
  have HFn := Lib.hid (fun (h : ¬ (k' : Int) ≤ (t[q]!.events.length : Int)) => HFb.out.trans (if_neg (fun g => h g.2.2)))
  clear HFb
  generalize t[q]!.name = nm at *
  generalize t[q]!.vars.length = nv at *
  generalize t[q]!.events.length = ne at *
  clear hn0 hv0 he0 hzz hRp
  by_cases hk : (k' : Int) ≤ (ne : Int)
  case neg =>
    obtain rfl : F = 2 := HFn.out hk
    obtain rfl : R = [] := by rw [← HR.out]; exact if_neg (by decide)
    have d4 : decide ((ne : Int) < (k' : Int)) = true := decide_eq_true (by omega)
    have d4n : decide (ne < k') = true := decide_eq_true (by omega)
    clear hk hk0
    go_wp2
    go_ret2
    exact IntsRes.none HE2.out
  case pos =>
    obtain rfl : F = 0 := HFy.out hk
    obtain rfl : stV t q k' = R := (if_pos rfl).symm.trans HR.out
    have d4 : decide ((ne : Int) < (k' : Int)) = false := decide_eq_false (by omega)
    have d4n : decide (ne < k') = false := decide_eq_false (by omega)
    have HSC := Lib.hid (HSV.out k' (by omega))
    have HS2 := Lib.hid (HSL.out k' (by omega))
    clear hk hk0
    go_wp2_with fail
    refine (HSC.out _ HE2.out).mono ?_
    rintro e w3 ⟨u, rfl, hR3, hX3⟩
    have HE3 := Lib.hid (HE2.out.trans' hX3)
    have HR3 := Lib.hid hR3
    clear hR3 hX3
    go_wp2
    go_ret2
    exact ⟨u, rfl, by rw [HS2.out]; exact HR3.out.mono HE2.out.sz, HE3.out⟩

end Go.Proofs.Ytfcpnggdpaeldaa

/-
  The values at a cut: the program's At.
-/
namespace Go.Proofs.Ytfcpnggdpaeldaa
open Go.RowKit
set_option linter.unusedVariables false

/-- The values at a cut. -/
def atTo (t : Tr) (c : List Int) (p : Nat) : List (List Int) := (List.range p).map fun q => stV t q c[q]!.toNat
def atL (t : Tr) (c : List Int) : List (List Int) := atTo t c c.length
theorem atTo_succ (t : Tr) (c : List Int) (p : Nat) : atTo t c (p + 1) = atTo t c p ++ [stV t p c[p]!.toNat] := by unfold atTo; rw [List.range_succ, List.map_append]; rfl
theorem atTo_len (t : Tr) (c : List Int) (p : Nat) : (atTo t c p).length = p := by simp [atTo]
def RowsRes (w w' : World) (e : Ending) (E : Int) (l : List (List Int)) : Prop := ∃ v, e = .returned (.tuple #[v, .int .i64 E]) ∧ Sl RInts 1 w' v l ∧ Ext w w'
def RowsOut (w w' : World) (e : Ending) (l : List (List Int)) : Prop := ∃ v, e = .returned v ∧ Sl RInts 1 w' v l ∧ Ext w w'
theorem RowsRes.none {w w' : World} {E : Int} (h : Ext w w') : RowsRes w w' (.returned (.tuple #[.slice none 0 0, .int .i64 E])) E [] := ⟨_, rfl, sl_nilR _, h⟩
theorem info_slI : (Try.prog.info? 30).map (fun i => (i.zero, i.size, i.bytes)) = some (some (.slice none 0 0), 1, 24) := by kernel_rfl

set_option maxHeartbeats 8000000 in
set_option maxRecDepth 100000 in
theorem atP_calls (v vc : Value) (t : Tr) (c : List Int) (w : World) (h : TrAt w v t) (hs : LooseTr t) (hc : Ints w vc c) :
    Calls Try.prog 30 #[.agg #[v], vc] w fun e w' => RowsRes w w' e (givenE t [c] []) (if givenE t [c] [] = 0 then atL t c else []) := by
  have HT := Lib.hid h
  have HCC := Lib.hid hc
  obtain ⟨i2, hi2, iz0, iz1, iz2⟩ := info_parts info_slI
  have HFR := Lib.hid (fun W (hW : Ext w W) => frontierP_calls v vc t c W (h.ext hW) hs (hc.ext hW))
  obtain ⟨ta, tc, rfl, htc⟩ := h.sh
  obtain ⟨ca, cc, rfl, hlc, _⟩ := hc
  have hn1 := hs.1
  obtain ⟨ge, hge⟩ : ∃ E, givenE t [c] [] = E := ⟨_, rfl⟩
  rw [hge] at HFR ⊢
  have HOK : Hid (ge = 0 → validT t = true ∧ ConsC t c) := Lib.hid (fun h0 => by obtain ⟨h1, h2, _⟩ := givenE_ps (hge.trans h0); exact ⟨h1, h2⟩)
  obtain ⟨R, hR⟩ : ∃ R, (if ge = 0 then atL t c else []) = R := ⟨_, rfl⟩
  rw [hR]
  have HR0 := Lib.hid hR
  have HX0 := Lib.hid (heap_alloc_new w (.cells #[.slice ta t.length tc] 24))
  have HE1 := Lib.hid ((Ext.rf w).al (.cells #[.slice ta t.length tc] 24))
  generalize hN : t.length = N at *
  generalize hM : c.length = M at *
  have HN := Lib.hid hN
  have HM := Lib.hid hM
  clear h hs hge hR hN hM
  go_enter Try.func30, Try.ntmps30
  go_wp2_with fail
  refine (HFR.out _ HE1.out).mono ?_
  rintro e w2 ⟨fv, rfl, _, hX⟩
  have HE2 := Lib.hid (HE1.out.trans' hX)
  have HY0 := Lib.hid (hX.hp HX0.out)
  clear hX
  by_cases h0 : ge = 0
  case neg =>
    have c9 : (ge != 0) = true := by simp [h0]
    obtain rfl := HR0.out.symm.trans (if_neg h0)
    clear h0
    go_wp2
    go_ret2
    exact RowsRes.none HE2.out
  subst h0
  have HRZ := Lib.hid (HR0.out.symm.trans (if_pos rfl))
  have HVC := Lib.hid (HOK.out rfl)
  have HSM := Lib.hid (valid_small HVC.out.1)
  obtain rfl : M = N := by have := HVC.out.2.1.1; rw [HN.out, HM.out] at this; exact this
  go_wp2
  have hn8 : M ≤ 1000000 := hn1
  go_loopg [8, 22] M (fun g s8 s22 wr => ∃ p : Nat, p ≤ M ∧ M - p ≤ g ∧ s22 = .int .i64 p ∧ Aside (RowsOf wr w2.heap.size s8 (atTo t c p)) ∧ Aside (Ext w2 wr))
  case atStart => exact ⟨0, Nat.zero_le _, by omega, rfl, (show RowsOf _ _ _ _ from RowsOf.nil _ _), Ext.rf _⟩
  case round =>
    obtain ⟨p, hp, hg, rfl, HRO, HEK⟩ := hrel
    have HEW := Lib.hid (HE2.out.trans' HEK.out)
    have HY1 := Lib.hid (HEK.out.hp HY0.out)
    by_cases hlt : p < M
    · have hltz : (p : Int) < (M : Int) := by omega
      have hpz : (0 : Int) ≤ (p : Int) := by omega
      have HQ := Lib.hid (show p < t.length from by rw [HN.out]; exact hlt)
      obtain ⟨cb, co, rfl, hcb, hcp⟩ := ints_at HCC.out p (by rw [HM.out]; exact hlt)
      obtain ⟨B, O, C, vv, ve, hve, hlC, hB, hn0, hv0, he0, hRp, ⟨a1, c1, rfl⟩, a2, c2, rfl⟩ := proc_rpr HT.out p HQ.out
      simp only [Value.slice.injEq] at hve
      obtain ⟨rfl, hzz, rfl⟩ := hve
      have n1 := HEW.out.cl hn0
      have v1 := HEW.out.cl hv0
      have e1 := HEW.out.cl he0
      have cp1 := HEW.out.cl hcp
      have t0 := cellOf HY1.out 0
      simp only [List.getElem?_toArray, List.getElem?_cons_zero] at t0
      have hkr := HVC.out.2.1.at HQ.out
      obtain ⟨k, hk⟩ : ∃ k : Nat, c[p]! = (k : Int) := ⟨c[p]!.toNat, by omega⟩
      rw [hk] at cp1 hkr
      have hkn : k ≤ t[p]!.events.length := by omega
      have HST := Lib.hid (fun W (hW : Ext w W) => stateP_calls _ t p k W (rpr_lasts _ _ _ _ hRp hW) (stOk_valid HVC.out.1 HQ.out) hkn)
      have HSL := Lib.hid (stV_len t p k hkn)
      have HAS : Hid (atTo t c (p + 1) = atTo t c p ++ [stV t p k]) := Lib.hid (by rw [atTo_succ, hk, Int.toNat_natCast])
      have HAL := Lib.hid (atTo_len t c p)
      generalize t[p]!.name = nm at *
      generalize t[p]!.vars.length = nv at *
      generalize t[p]!.events.length = ne at *
      clear hn0 hv0 he0 hzz hRp hcp hkr hkn hk
      go_wp2_with fail
      refine (HST.out _ HEW.out).mono ?_
      rintro e w3 ⟨u, rfl, hR3, hX3⟩
      have HE3 := Lib.hid (HEK.out.trans' hX3)
      have HRO3 := Lib.hid (HRO.out.ext hX3)
      have HR3 := Lib.hid (hR3.mono (show w2.heap.size ≤ wr.heap.size from HEK.out.sz))
      obtain ⟨au, cu, rfl, _⟩ := hR3.any
      obtain ⟨xs, hxr, hxe⟩ := HRO3.out
      rw [HAL.out] at hxr hxe
      have HXR := Lib.hid hxr
      have HXE := Lib.hid hxe
      have hsz := HE3.out.sz
      clear hR3 hX3 hxr hxe n1 v1 e1 cp1 t0
      go_wp2_with ((at_builtin; go_loud (refine wpList_append_one rfl _ _ 49 rfl w2.heap.size 30 i2 (.slice none 0 0) 1 24 Try.underlying49 hi2 iz0 iz1 iz2 rfl (by decide) _ p xs rfl (HXR.out.al _) w3.heap.size 1 [.slice au nv cu] rfl rfl ⟨_, heap_alloc_new _ _⟩ (by simp [Value.oneCell']) (by unfold maxLen; omega) (by omega) (by simp; omega) ?_; intro v8 w8 hown8 hgrow8 hblk8; have HOWN := Lib.hid hown8; have HG8 := Lib.hid hgrow8; have HX8 := Lib.hid ((HE3.out.al _).gr hgrow8 (fun q hq => (HXR.out.lt q hq).1)); clear hown8 hgrow8 hblk8)))
      go_roundg (M - (p + 1))
      case measure => omega
      case rel =>
        refine ⟨p + 1, by omega, by omega, by go_num, (show RowsOf _ _ _ _ from ?_), (show Ext _ _ from HX8.out)⟩
        rw [HAS.out]
        exact RowsOf.snoc (by rw [HAL.out]; exact HXR.out.al _) (by rw [HAL.out]; exact fun i hi => by obtain ⟨z, g1, g2⟩ := HXE.out i hi; exact ⟨z, g1, g2.al _⟩) (by rw [HSL.out]; exact HR3.out.al _) HG8.out (by rw [HAL.out]; exact HOWN.out)
    · have hltz : ¬ (p : Int) < (M : Int) := by omega
      obtain rfl : M = p := by omega
      go_wp2
      go_ret2
      refine ⟨_, rfl, ?_, HEW.out⟩
      rw [HRZ.out]
      unfold atL
      rw [HM.out]
      exact HRO.out.sl

end Go.Proofs.Ytfcpnggdpaeldaa

/-
  Which variable has a name: the reference's Index.
-/
namespace Go.Proofs.Ytfcpnggdpaeldaa
open Go.RowKit
set_option linter.unusedVariables false

set_option maxHeartbeats 4000000 in
set_option maxRecDepth 100000 in
theorem indexR_calls (v : Value) (t : Tr) (p : Nat) (s : ByteArray) (w : World) (h : TrAt w v t) (hs : LooseTr t) (hp : p < t.length) (hnv : t[p]!.vars.length ≤ 1000000) :
    Calls Try.prog 15 #[.agg #[v], .int .i64 p, .string s] w fun e w' => e = .returned (.int .i64 (idxV t[p]! s)) ∧ Ext w w' := by
  obtain ⟨B, O, C, vv, ve, rfl, hlC, hB, hn0, hv0, he0, hV, hE0⟩ := proc_at h p hp
  have HVV := Lib.hid hV
  have HIX : Hid (idxV t[p]! s = firstAt (isV s) t[p]!.vars) := Lib.hid rfl
  obtain ⟨va, vc, rfl, hvc⟩ := hV.sh
  have hn1 := hs.1
  generalize idxV t[p]! s = ix at *
  generalize t[p]!.vars = l at *
  generalize hln : t.length = n at *
  have HX0 := Lib.hid (heap_alloc_new w (.cells #[.slice (some ⟨B, O, none⟩) n C] 24))
  have HE1 := Lib.hid ((Ext.rf w).al (.cells #[.slice (some ⟨B, O, none⟩) n C] 24))
  have v1 := HE1.out.cl hv0
  have hpz : (0 : Int) ≤ (p : Int) := by omega
  have hpn : (p : Int) < (n : Int) := by omega
  generalize hnl : l.length = nv at *
  have HNL := Lib.hid hnl
  have t0 := cellOf HX0.out 0
  simp only [List.getElem?_toArray, List.getElem?_cons_zero] at t0
  clear h hs hn0 hv0 he0 hV hE0 hln hnl
  go_enter Try.func15, Try.ntmps15
  go_wp2
  generalize hw2 : w.alloc (.cells #[.slice (some ⟨B, O, none⟩) n C] 24) = w2 at *
  clear hw2 v1 t0
  go_loopg [8] nv (fun g s8 wr => ∃ k : Nat, k ≤ nv ∧ nv - k ≤ g ∧ s8 = .int .i64 k ∧ Aside (∀ j, j < k → isV s l[j]! = false) ∧ wr = w2)
  case atStart => exact ⟨0, Nat.zero_le _, by omega, rfl, (fun j hj => absurd hj (Nat.not_lt_zero _)), rfl⟩
  case round =>
    obtain ⟨k, hk, hg, rfl, A, rfl⟩ := hrel
    by_cases hlt : k < nv
    · have hltz : (k : Int) < (nv : Int) := by omega
      have hkz : (0 : Int) ≤ (k : Int) := by omega
      obtain ⟨VB, VO, VC, hve, hlV, hVB, k0, k1⟩ := var_at HVV.out k (by rw [HNL.out]; exact hlt)
      simp only [Value.slice.injEq] at hve
      obtain ⟨rfl, hzz, rfl⟩ := hve
      have m0 := HE1.out.cl k0
      have HIS : Hid (isV s l[k]! = (l[k]!.name.toList == s.toList)) := Lib.hid rfl
      generalize l[k]!.name = nm at *
      obtain ⟨b, hb⟩ : ∃ b, (nm.toList == s.toList) = b := ⟨_, rfl⟩
      rw [hb] at HIS
      clear k0 k1 hzz
      cases b with
      | true =>
        have HF := Lib.hid (HIX.out.trans (firstAt_hit (isV s) l k (by rw [HNL.out]; exact hlt) HIS.out A.out))
        obtain rfl : ix = (k : Int) := HF.out
        go_wp2
        go_ret
        exact ⟨rfl, HE1.out⟩
      | false =>
        go_wp2
        go_roundg (nv - (k + 1))
        case measure => omega
        case rel =>
          refine ⟨k + 1, by omega, by omega, by go_num, (show Aside _ from fun j hj => ?_), rfl⟩
          by_cases e : j = k
          · subst e; exact HIS.out
          · exact A.out j (by omega)
    · have hltz : ¬ (k : Int) < (nv : Int) := by omega
      obtain rfl : k = nv := by omega
      have HF := Lib.hid (HIX.out.trans (firstAt_miss (isV s) l (fun j hj => A.out j (by rw [HNL.out] at hj; exact hj))))
      obtain rfl : ix = -1 := HF.out
      go_wp2
      go_ret
      exact ⟨rfl, HE1.out⟩

end Go.Proofs.Ytfcpnggdpaeldaa

/-
  Places, names and values in the reference: Index, Place, Fault and Value.
-/
namespace Go.Proofs.Ytfcpnggdpaeldaa
open Go.RowKit
set_option linter.unusedVariables false

set_option maxHeartbeats 4000000 in
set_option maxRecDepth 100000 in
theorem placeR_calls (v : Value) (t : Tr) (p k : Int) (w : World) (h : TrAt w v t) (hs : LooseTr t) :
    Calls Try.prog 32 #[.agg #[v], .int .i64 p, .int .i64 k] w fun e w' => e = .returned (.int .i64 (placeE t p k)) ∧ Ext w w' := by
  have HT := Lib.hid h
  have HVC := Lib.hid (fun W (hW : Ext w W) => validR_calls v t W (h.ext hW) hs)
  obtain ⟨ta, tc, rfl, htc⟩ := h.sh
  have hn1 := hs.1
  obtain ⟨vt, hvt⟩ : ∃ b, validT t = b := ⟨_, rfl⟩
  rw [hvt] at HVC
  have HVT := Lib.hid hvt
  obtain ⟨F, hF⟩ : ∃ F, placeE t p k = F := ⟨_, rfl⟩
  rw [hF]
  have HFF := Lib.hid (hF.symm.trans (show placeE t p k = if validT t = true then (if (0 ≤ p ∧ p < (t.length : Int)) ∧ (0 ≤ k ∧ k ≤ (t[p.toNat]!.events.length : Int)) then 0 else 2) else 1 from rfl))
  rw [hvt] at HFF
  generalize hln : t.length = n at *
  have HL := Lib.hid hln
  have HX0 := Lib.hid (heap_alloc_new w (.cells #[.slice ta n tc] 24))
  have HE1 := Lib.hid ((Ext.rf w).al (.cells #[.slice ta n tc] 24))
  clear h hs hln hvt hF
  go_enter Try.func32, Try.ntmps32
  go_wp2_with fail
  refine (HVC.out _ HE1.out).mono ?_
  rintro e w2 ⟨rfl, hX⟩
  have HE2 := Lib.hid (HE1.out.trans' hX)
  have HY0 := Lib.hid (hX.hp HX0.out)
  clear hX
  have t0 := cellOf HY0.out 0
  simp only [List.getElem?_toArray, List.getElem?_cons_zero] at t0
  cases vt with
  | false =>
    obtain rfl : F = 1 := by rw [HFF.out]; exact if_neg (by decide)
    go_wp2
    go_ret
    exact ⟨rfl, HE2.out⟩
  | true =>
  have HFb := Lib.hid (HFF.out.trans (if_pos rfl))
  by_cases hp : 0 ≤ p ∧ p < (n : Int)
  case neg =>
    obtain rfl : F = 2 := HFb.out.trans (if_neg (fun h => hp h.1))
    by_cases hp0 : p < 0
    · have d1 : decide (p < 0) = true := decide_eq_true hp0
      clear hp hp0
      go_wp2
      go_ret
      exact ⟨rfl, HE2.out⟩
    · have d1 : decide (p < 0) = false := decide_eq_false hp0
      have d2 : decide ((n : Int) ≤ p) = true := decide_eq_true (by omega)
      clear hp hp0
      go_wp2
      go_ret
      exact ⟨rfl, HE2.out⟩
  case pos =>
  obtain ⟨hp0, hpn⟩ := hp
  have d1 : decide (p < 0) = false := decide_eq_false (by omega)
  have d2 : decide ((n : Int) ≤ p) = false := decide_eq_false (by omega)
  by_cases hk0 : k < 0
  case pos =>
    obtain rfl : F = 2 := HFb.out.trans (if_neg (fun h => by omega))
    have d3 : decide (k < 0) = true := decide_eq_true hk0
    clear hk0 hp0 hpn
    go_wp2
    go_ret
    exact ⟨rfl, HE2.out⟩
  case neg =>
  have d3 : decide (k < 0) = false := decide_eq_false hk0
  obtain ⟨q, rfl⟩ : ∃ q : Nat, p = (q : Int) := ⟨p.toNat, by omega⟩
  obtain ⟨k', rfl⟩ : ∃ k' : Nat, k = (k' : Int) := ⟨k.toNat, by omega⟩
  simp only [Int.toNat_natCast] at HFb
  have hqn : q < n := by omega
  have HQ := Lib.hid (show q < t.length from by rw [HL.out]; exact hqn)
  obtain ⟨B, O, C, vv, ve, hve, hlC, hB, hn0, hv0, he0, hRp, ⟨a1, c1, rfl⟩, a2, c2, rfl⟩ := proc_rpr HT.out q HQ.out
  simp only [Value.slice.injEq] at hve
  obtain ⟨rfl, hzz, rfl⟩ := hve
  have n1 := HE2.out.cl hn0
  have v1 := HE2.out.cl hv0
  have e1 := HE2.out.cl he0
  have hel := ((valid_small HVT.out).2 q HQ.out).2.1
  have d2n : decide (n ≤ q) = false := decide_eq_false (by omega)
  have HFy := Lib.hid (fun (h : (k' : Int) ≤ (t[q]!.events.length : Int)) => HFb.out.trans (if_pos ⟨⟨hp0, hpn⟩, by omega, h⟩))
  have HFn := Lib.hid (fun (h : ¬ (k' : Int) ≤ (t[q]!.events.length : Int)) => HFb.out.trans (if_neg (fun g => h g.2.2)))
  clear HFb
  generalize t[q]!.name = nm at *
  generalize t[q]!.vars.length = nv at *
  generalize t[q]!.events.length = ne at *
  clear hn0 hv0 he0 hzz hRp
  by_cases hk : (k' : Int) ≤ (ne : Int)
  case neg =>
    obtain rfl : F = 2 := HFn.out hk
    have d4 : decide ((ne : Int) < (k' : Int)) = true := decide_eq_true (by omega)
    have d4n : decide (ne < k') = true := decide_eq_true (by omega)
    clear hk hk0
    go_wp2
    go_ret
    exact ⟨rfl, HE2.out⟩
  case pos =>
    obtain rfl : F = 0 := HFy.out hk
    have d4 : decide ((ne : Int) < (k' : Int)) = false := decide_eq_false (by omega)
    have d4n : decide (ne < k') = false := decide_eq_false (by omega)
    clear hk hk0
    go_wp2
    go_ret
    exact ⟨rfl, HE2.out⟩

set_option maxHeartbeats 4000000 in
set_option maxRecDepth 100000 in
theorem faultV_calls (v : Value) (t : Tr) (p k : Int) (s : ByteArray) (w : World) (h : TrAt w v t) (hs : LooseTr t) :
    Calls Try.prog 14 #[.agg #[v], .int .i64 p, .int .i64 k, .string s] w fun e w' => e = .returned (.int .i64 (faultV t p k s)) ∧ Ext w w' := by
  have HT := Lib.hid h
  have HPC := Lib.hid (fun W (hW : Ext w W) => placeR_calls v t p k W (h.ext hW) hs)
  have HOK := Lib.hid (fun h0 => placeE_ok (t := t) (p := p) (k := k) h0)
  have HIX := Lib.hid (fun W (hW : Ext w W) (q : Nat) (hq : q < t.length) (hnv : t[q]!.vars.length ≤ 1000000) => indexR_calls v t q s W (h.ext hW) hs hq hnv)
  obtain ⟨F, hF⟩ : ∃ F, faultV t p k s = F := ⟨_, rfl⟩
  rw [hF]
  have HFF := Lib.hid (hF.symm.trans (show faultV t p k s = if placeE t p k = 0 ∧ idxV t[p.toNat]! s < 0 then 13 else placeE t p k from rfl))
  obtain ⟨P, hP⟩ : ∃ P, placeE t p k = P := ⟨_, rfl⟩
  rw [hP] at HPC HOK HFF
  obtain ⟨ta, tc, rfl, htc⟩ := h.sh
  generalize hln : t.length = n at *
  have HL := Lib.hid hln
  have HX0 := Lib.hid (heap_alloc_new w (.cells #[.slice ta n tc] 24))
  have HE1 := Lib.hid ((Ext.rf w).al (.cells #[.slice ta n tc] 24))
  clear h hs hln hF hP
  go_enter Try.func14, Try.ntmps14
  go_wp2_with fail
  refine (HPC.out _ HE1.out).mono ?_
  rintro e w2 ⟨rfl, hX⟩
  have HE2 := Lib.hid (HE1.out.trans' hX)
  have HY0 := Lib.hid (hX.hp HX0.out)
  clear hX
  have t0 := cellOf HY0.out 0
  simp only [List.getElem?_toArray, List.getElem?_cons_zero] at t0
  by_cases h0 : P = 0
  case neg =>
    obtain rfl : F = P := HFF.out.trans (if_neg (fun g => h0 g.1))
    have d1 : (F == 0) = false := by simp [h0]
    clear h0
    go_wp2
    go_ret
    exact ⟨rfl, HE2.out⟩
  case pos =>
    subst h0
    obtain ⟨hv, ⟨hp0, hpn⟩, _⟩ := HOK.out rfl
    obtain ⟨q, rfl⟩ : ∃ q : Nat, p = (q : Int) := ⟨p.toNat, by omega⟩
    simp only [Int.toNat_natCast] at HFF
    have HIC := Lib.hid (HIX.out _ HE2.out q (by omega) (valid_small hv |>.2 q (by rw [HL.out]; omega)).1)
    have HFy := Lib.hid (fun (h : idxV t[q]! s < 0) => HFF.out.trans (if_pos ⟨trivial, h⟩))
    have HFn := Lib.hid (fun (h : ¬ idxV t[q]! s < 0) => HFF.out.trans (if_neg (fun g => h g.2)))
    clear HFF hv hp0 hpn
    generalize idxV t[q]! s = ix at *
    go_wp2_with fail
    refine HIC.out.mono ?_
    rintro e w3 ⟨rfl, hX3⟩
    have HE3 := Lib.hid (HE2.out.trans' hX3)
    clear hX3 t0
    by_cases hi : ix < 0
    · obtain rfl : F = 13 := HFy.out hi
      have d1 : decide (ix < 0) = true := decide_eq_true hi
      clear hi
      go_wp2
      go_ret
      exact ⟨rfl, HE3.out⟩
    · obtain rfl : F = 0 := HFn.out (by omega)
      have d1 : decide (ix < 0) = false := decide_eq_false hi
      clear hi
      go_wp2
      go_ret
      exact ⟨rfl, HE3.out⟩

end Go.Proofs.Ytfcpnggdpaeldaa

/-
  The values of variables in the reference: Value.
-/
namespace Go.Proofs.Ytfcpnggdpaeldaa
open Go.RowKit
set_option linter.unusedVariables false

theorem findA_hit {l : List Asg} {v : Int} {k : Nat} (hk : k < l.length) (h : l[k]!.var = v) (hn : ∀ j, j < k → l[j]!.var ≠ v) : findA l v = some l[k]!.value := by
  unfold findA
  have : l.find? (fun a => decide (a.var = v)) = some l[k]! := by
    rw [List.find?_eq_some_iff_getElem]
    refine ⟨by simpa using h, k, hk, (getElem!_pos l k hk).symm, fun j hj => ?_⟩
    have := hn j hj
    rw [getElem!_pos l j (by omega)] at this
    simpa using this
  rw [this]; rfl
theorem findA_miss {l : List Asg} {v : Int} (hn : ∀ j, j < l.length → l[j]!.var ≠ v) : findA l v = none := by
  unfold findA
  have : l.find? (fun a => decide (a.var = v)) = none := by
    rw [List.find?_eq_none]
    intro a ha
    obtain ⟨j, hj, rfl⟩ := List.getElem_of_mem ha
    have := hn j hj
    rw [getElem!_pos l j hj] at this
    simpa using this
  rw [this]; rfl
theorem valR_valF {t : Tr} (h : validT t = true) {p v k : Nat} (hp : p < t.length) (hv : v < t[p]!.vars.length) (hk : k ≤ t[p]!.events.length) : valR t p v k = valF t p v k :=
  valR_stV (fun j hj => (once_valid (validT_parts.1 h).1 hp hj).1) hv k hk

set_option maxHeartbeats 4000000 in
set_option maxRecDepth 100000 in
theorem valueF_calls (v : Value) (t : Tr) (p i k : Nat) (w : World) (h : TrAt w v t) (hv : validT t = true) (hp : p < t.length) (hi : i < t[p]!.vars.length) (hk : k ≤ t[p]!.events.length) :
    Calls Try.prog 31 #[.agg #[v], .int .i64 p, .int .i64 i, .int .i64 k] w fun e w' => e = .returned (.int .i64 (valF t p i k)) ∧ Ext w w' := by
  have hok := stOk_valid hv hp
  have hvr := valR_valF hv hp hi hk
  rw [← hvr]
  obtain ⟨B, O, C, vv, ve, rfl, hlC, hB, hn0, hv0, he0, hV, hE0⟩ := proc_at h p hp
  have HVV := Lib.hid hV
  have HEE := Lib.hid hE0
  obtain ⟨va, vc, rfl, hvc⟩ := hV.sh
  obtain ⟨ea, ec, rfl, hec⟩ := hE0.sh
  have hn1 := (valid_small hv).1
  have hne := hok.ne
  have HNA := Lib.hid hok.na
  have HZ : Hid (valR t p i 0 = t[p]!.vars[i]!.init) := Lib.hid rfl
  have HS : Hid (∀ m, valR t p i (m + 1) = match findA t[p]!.events[m]!.asg (i : Int) with | some x => x | none => valR t p i m) := Lib.hid (fun m => rfl)
  obtain ⟨R, hR⟩ : ∃ R, valR t p i k = R := ⟨_, rfl⟩
  rw [hR]
  have HR := Lib.hid hR
  have HF : Hid (∃ f : Nat → Int, f = valR t p i) := Lib.hid ⟨_, rfl⟩
  generalize valR t p i = f at *
  generalize hln : t.length = n at *
  have HX0 := Lib.hid (heap_alloc_new w (.cells #[.slice (some ⟨B, O, none⟩) n C] 24))
  have HE1 := Lib.hid ((Ext.rf w).al (.cells #[.slice (some ⟨B, O, none⟩) n C] 24))
  have v1 := HE1.out.cl hv0
  have e1 := HE1.out.cl he0
  have hpz : (0 : Int) ≤ (p : Int) := by omega
  have hpn : (p : Int) < (n : Int) := by omega
  generalize hnv : t[p]!.vars.length = nv at *
  generalize hnee : t[p]!.events.length = ne at *
  have HNV := Lib.hid hnv
  have HNE := Lib.hid hnee
  have t0 := cellOf HX0.out 0
  simp only [List.getElem?_toArray, List.getElem?_cons_zero] at t0
  clear h hn0 hv0 he0 hV hE0 hln hnv hnee hok hvr hv hp hR HF
  go_enter Try.func31, Try.ntmps31
  go_wp2
  generalize hw2 : w.alloc (.cells #[.slice (some ⟨B, O, none⟩) n C] 24) = w2 at *
  clear hw2
  go_loopg [9] k (fun g s9 wr => ∃ m : Nat, m ≤ k ∧ m ≤ g ∧ s9 = .int .i64 ((m : Int) - 1) ∧ Aside (f m = R) ∧ wr = w2)
  case atStart => exact ⟨k, Nat.le_refl _, by omega, by go_num, (show Aside _ from HR.out), rfl⟩
  case round =>
    obtain ⟨m, hm, hg, rfl, HM, rfl⟩ := hrel
    cases m with
    | zero =>
      obtain ⟨VB, VO, VC, hve, hlV, hVB, k0, k1⟩ := var_at HVV.out i (by rw [HNV.out]; exact hi)
      simp only [Value.slice.injEq] at hve
      obtain ⟨rfl, hzz, rfl⟩ := hve
      have m1 := HE1.out.cl k1
      have HZ2 := Lib.hid (HZ.out.symm.trans HM.out)
      generalize t[p]!.vars[i]!.init = z at *
      obtain rfl : z = R := HZ2.out
      have hiz : (0 : Int) ≤ (i : Int) := by omega
      have hin : (i : Int) < (nv : Int) := by omega
      clear k0 k1 hzz
      go_wp2
      go_ret
      exact ⟨rfl, HE1.out⟩
    | succ m =>
      have hmz : (0 : Int) ≤ (m : Int) := by omega
      have hmn : (m : Int) < (ne : Int) := by omega
      have hcast : ((m + 1 : Nat) : Int) - 1 = (m : Int) := by omega
      rw [hcast]
      obtain ⟨EB, EO, EC, ua, hee, hlE, hEB, g0, g1, g2, g3, g4, hA⟩ := event_at HEE.out m (by rw [HNE.out]; omega)
      simp only [Value.slice.injEq] at hee
      obtain ⟨rfl, hzz, rfl⟩ := hee
      have HAA := Lib.hid hA
      obtain ⟨aa, ac, rfl, hac⟩ := hA.sh
      have m4 := HE1.out.cl g4
      have hna := HNA.out m (by omega)
      have HSM := Lib.hid (HS.out m)
      generalize t[p]!.events[m]!.asg = l at *
      generalize hnl : l.length = na at *
      have HNL := Lib.hid hnl
      clear g0 g1 g2 g3 g4 hA hzz hnl
      go_wp2
      obtain ⟨wo, rfl⟩ : ∃ x, x = wr := ⟨_, rfl⟩
      go_loopg [11] na (fun g s11 wr => ∃ j : Nat, j ≤ na ∧ na - j ≤ g ∧ s11 = .int .i64 j ∧ Aside (∀ q, q < j → l[q]!.var ≠ (i : Int)) ∧ wr = wo)
      case atStart => exact ⟨0, Nat.zero_le _, by omega, rfl, (fun q hq => absurd hq (Nat.not_lt_zero _)), rfl⟩
      case round =>
        obtain ⟨j, hj, hg2, rfl, A, rfl⟩ := hrel
        by_cases hlt : j < na
        · have hltz : (j : Int) < (na : Int) := by omega
          have hjz : (0 : Int) ≤ (j : Int) := by omega
          obtain ⟨AB, AO, AC, hae, hlA, hAB, a0, a1⟩ := asg_at HAA.out j (by rw [HNL.out]; exact hlt)
          simp only [Value.slice.injEq] at hae
          obtain ⟨rfl, hzz, rfl⟩ := hae
          have b0 := HE1.out.cl a0
          have b1 := HE1.out.cl a1
          have HHIT := Lib.hid (fun hh => findA_hit (l := l) (v := (i : Int)) (k := j) (by rw [HNL.out]; exact hlt) hh A.out)
          generalize hxv : l[j]!.var = x at *
          generalize hxy : l[j]!.value = y at *
          have HXV := Lib.hid hxv
          clear a0 a1 hzz hxv hxy
          by_cases hxi : x = (i : Int)
          · have d1 : (x == (i : Int)) = true := by simp [hxi]
            have HF2 := Lib.hid (HHIT.out hxi)
            have HMM := HM.out
            rw [HSM.out, HF2.out] at HMM
            obtain rfl : y = R := HMM
            clear hxi
            go_wp2
            go_ret
            exact ⟨rfl, HE1.out⟩
          · have d1 : (x == (i : Int)) = false := by simp [hxi]
            have HXI := Lib.hid hxi
            clear hxi
            go_wp2
            go_roundg (na - (j + 1))
            case measure => omega
            case rel =>
              refine ⟨j + 1, by omega, by omega, by go_num, (show Aside _ from fun q hq => ?_), rfl⟩
              by_cases e : q = j
              · subst e; rw [HXV.out]; exact HXI.out
              · exact A.out q (by omega)
        · have hltz : ¬ (j : Int) < (na : Int) := by omega
          obtain rfl : j = na := by omega
          have HFN := Lib.hid (findA_miss (l := l) (v := (i : Int)) (fun q hq => A.out q (by rw [HNL.out] at hq; exact hq)))
          have HMM := HM.out
          rw [HSM.out, HFN.out] at HMM
          have HM2 := Lib.hid HMM
          clear HMM
          go_wp2
          go_roundg m
          case measure => omega
          case rel => exact ⟨m, by omega, by omega, by go_num, (show Aside _ from HM2.out), rfl⟩

end Go.Proofs.Ytfcpnggdpaeldaa

/-
  The values of variables in the reference: Value, State and At.
-/
namespace Go.Proofs.Ytfcpnggdpaeldaa
open Go.RowKit
set_option linter.unusedVariables false

def stTo (t : Tr) (p k i : Nat) : List Int := (stV t p k).take i

set_option maxHeartbeats 4000000 in
set_option maxRecDepth 100000 in
theorem stateF_calls (v : Value) (t : Tr) (p k : Nat) (w : World) (h : TrAt w v t) (hv : validT t = true) (hp : p < t.length) (hk : k ≤ t[p]!.events.length) :
    Calls Try.prog 33 #[.agg #[v], .int .i64 p, .int .i64 k] w fun e w' => IntsOut w w' e (stV t p k) := by
  obtain ⟨ii, hii, iz0, iz1, iz2⟩ := info_parts info_cints
  have HVC := Lib.hid (fun W (hW : Ext w W) i (hi : i < t[p]!.vars.length) => valueF_calls v t p i k W (h.ext hW) hv hp hi hk)
  have HSL := Lib.hid (stV_len t p k hk)
  have hnv8 := (stOk_valid hv hp).nv
  obtain ⟨B, O, C, vv, ve, rfl, hlC, hB, hn0, hv0, he0, hV, hE0⟩ := proc_at h p hp
  obtain ⟨va, vc, rfl, hvc⟩ := hV.sh
  have hn1 := (valid_small hv).1
  generalize hln : t.length = n at *
  have HX0 := Lib.hid (heap_alloc_new w (.cells #[.slice (some ⟨B, O, none⟩) n C] 24))
  have HE1 := Lib.hid ((Ext.rf w).al (.cells #[.slice (some ⟨B, O, none⟩) n C] 24))
  have hpz : (0 : Int) ≤ (p : Int) := by omega
  have hpn : (p : Int) < (n : Int) := by omega
  have HV0 := Lib.hid hv0
  have HVF : Hid (∀ i, i < t[p]!.vars.length → (stV t p k).take (i + 1) = (stV t p k).take i ++ [valF t p i k]) := Lib.hid (fun i hi => take_snoc' _ _ (by rw [HSL.out]; exact hi))
  generalize t[p]!.vars.length = nv at *
  clear h hn0 hv0 he0 hV hE0 hln hv hp hk
  go_enter Try.func33, Try.ntmps33
  go_wp2
  generalize hw2 : w.alloc (.cells #[.slice (some ⟨B, O, none⟩) n C] 24) = w2 at *
  clear hw2
  go_loopg [7, 8] nv (fun g s7 s8 wr => ∃ i : Nat, i ≤ nv ∧ nv - i ≤ g ∧ s8 = .int .i64 i ∧ Aside (Row wr w2.heap.size 3 1 s7 i (((stV t p k).take i).map (Value.int .i64))) ∧ Aside (Ext w2 wr))
  case atStart => exact ⟨0, Nat.zero_le _, by omega, rfl, (show Row _ _ _ _ _ _ _ from by rw [List.take_zero]; exact Row.mkNil _ _ _ _), Ext.rf _⟩
  case round =>
    obtain ⟨i, hi, hg, rfl, HR, HEK⟩ := hrel
    have HEW := Lib.hid (HE1.out.trans' HEK.out)
    have HY1 := Lib.hid (HEK.out.hp HX0.out)
    have t0 := cellOf HY1.out 0
    simp only [List.getElem?_toArray, List.getElem?_cons_zero] at t0
    have v1 := HEW.out.cl HV0.out
    by_cases hlt : i < nv
    · have hltz : (i : Int) < (nv : Int) := by omega
      have hiz : (0 : Int) ≤ (i : Int) := by omega
      have HC1 := Lib.hid (HVC.out _ HEW.out i hlt)
      have HTK := Lib.hid (HVF.out i hlt)
      generalize valF t p i k = y at *
      go_wp2_with fail
      refine HC1.out.mono ?_
      rintro e w3 ⟨rfl, hX3⟩
      have HR3 := Lib.hid (HR.out.ext hX3)
      have HE3 := Lib.hid (HEK.out.trans' hX3)
      have hsz := HE3.out.sz
      clear hX3 t0 v1
      go_wp2_with ((at_builtin; go_loud (refine wpList_append_one rfl _ _ 30 rfl w2.heap.size 3 ii (.int .i64 0) 1 8 Try.underlying30 hii iz0 iz1 iz2 rfl (by decide) _ i _ rfl (HR3.out.al _) w3.heap.size 1 [.int .i64 y] rfl rfl ⟨_, heap_alloc_new _ _⟩ (by simp [Value.oneCell']) (by unfold maxLen; omega) (by omega) (by simp; omega) ?_; intro v8 w8 hown8 hgrow8 hblk8; have HOWN := Lib.hid hown8; have HX8 := Lib.hid ((HE3.out.al _).gr hgrow8 (fun q hq => (HR3.out.lt q hq).1)); clear hown8 hgrow8 hblk8)))
      go_roundg (nv - (i + 1))
      case measure => omega
      case rel =>
        refine ⟨i + 1, by omega, by omega, by go_num, (show Row _ _ _ _ _ _ _ from ?_), (show Ext _ _ from HX8.out)⟩
        rw [HTK.out, List.map_append]
        exact HOWN.out
    · have hltz : ¬ (i : Int) < (nv : Int) := by omega
      obtain rfl : i = nv := by omega
      have HQ := HR.out
      rw [List.take_of_length_le (by rw [HSL.out]; exact Nat.le_refl _)] at HQ
      have HQ2 := Lib.hid HQ
      clear HQ
      go_wp2
      go_ret
      exact ⟨_, rfl, by rw [HSL.out]; exact HQ2.out.mono HE1.out.sz, HEW.out⟩

end Go.Proofs.Ytfcpnggdpaeldaa
