import Derived.Test.YtggofkaakccoeaaBase
import Derived.Test.YtggofkaakccoeaaProg
import Derived.Test.YtggofkaakccoeaaJourB52
import Derived.Test.YtggofkaakccoeaaRecW52
import Derived.Test.YtggofkaakccoeaaBoxes52
import Derived.BigQuiet
import Derived.Deep.QuietTactic
import Derived.Deep.LoopGhost
import Derived.Shelf.Abstract
import Derived.Deep.RegionHeld3
import Derived.Deep.DrawnRows
import Derived.BigRegion
/-
  The rest of the writer, and trimmed.
-/
namespace Go.Proofs.Ytggofkaakccoeaa
open Go.RowKit
set_option linter.unusedVariables false

theorem writer_facts {w : World} {base g : Nat} {u : Value} {l : List Int} {d f : Int} {cr : Bool} (h : Writer w base g u l d f cr) :
    w.cell? ⟨g, 0, none⟩ = some u ∧ w.cell? ⟨g, 1, none⟩ = some (.int .i64 d) ∧ w.cell? ⟨g, 2, none⟩ = some (.int .i64 f) ∧ w.cell? ⟨g, 3, none⟩ = some (.bool cr) ∧ w.frozen? ⟨g, 1, none⟩ = false ∧ w.frozen? ⟨g, 3, none⟩ = false := by
  have h2 := h.2.1
  exact ⟨cell_of h2 0, cell_of h2 1, cell_of h2 2, cell_of h2 3, free_of h2 1, free_of h2 3⟩

set_option maxHeartbeats 2000000 in
theorem sync_calls (g base : Nat) (u : Value) (l : List Int) (d f : Int) (w : World) (hw : Writer w base g u l d f false) :
    Calls Try.prog 47 #[.pointer (some ⟨g, 0, none⟩)] w fun e w' => (∃ x, e = .returned x) ∧ Writer w' base g u l (if f = 0 then d else l.length) f (decide (f = 0)) ∧ Below base w w' := by
  obtain ⟨c0, c1, c2, c3, fr1, fr3⟩ := writer_facts hw
  obtain ⟨a, c, rfl, _, hsh⟩ := hw.2.2.1.any
  clear hsh
  have HW := Lib.hid hw; clear hw
  by_cases h0 : f = 0
  · subst h0
    go_enter Try.func47, Try.ntmps47
    go_wp2
    refine bodyPost_end (v := .tuple #[]) (by simp [results, Try.results47, go_sem]) rfl ⟨⟨_, rfl⟩, ⟨HW.out.1, ?_, HW.out.2.2.1.st HW.out.2.2.2 _, HW.out.2.2.2⟩, (Below.refl _ _).setCell HW.out.1 _⟩
    rw [heap_set3 HW.out.2.1]
  · have e0 : (f == 0) = false := by simpa using h0
    have H0 := Lib.hid h0; clear h0
    go_enter Try.func47, Try.ntmps47
    go_wp2
    refine bodyPost_end (v := .tuple #[]) (by simp [results, Try.results47, go_sem]) rfl ⟨⟨_, rfl⟩, ⟨HW.out.1, ?_, HW.out.2.2.1.st HW.out.2.2.2 _, HW.out.2.2.2⟩, (Below.refl _ _).setCell HW.out.1 _⟩
    rw [heap_set1 HW.out.2.1]

set_option maxHeartbeats 2000000 in
theorem result_calls (g base : Nat) (u : Value) (l : List Int) (d f : Int) (cr : Bool) (w : World) (hw : Writer w base g u l d f cr) :
    Calls Try.prog 43 #[.pointer (some ⟨g, 0, none⟩)] w fun e w' => e = .returned (.tuple #[.agg #[u, .int .i64 d, .int .i64 f], .int .i64 (if cr then 19 else 0)]) ∧ Ext w w' := by
  obtain ⟨c0, c1, c2, c3, fr1, fr3⟩ := writer_facts hw
  obtain ⟨a, c, rfl, _, hsh⟩ := hw.2.2.1.any
  have hg := World.block_lt_of_cell? w _ c0
  clear hsh hw
  cases cr
  · go_enter Try.func43, Try.ntmps43
    go_wp2
    exact bodyPost_ret (v := .tuple #[.agg #[.slice a l.length c, .int .i64 d, .int .i64 f], .int .i64 0]) (by simp [results, Try.results43, go_sem]) rfl ⟨rfl, (by repeat (first | refine Ext.st ?_ (by first | exact Nat.le_refl _ | exact Nat.le_succ _ | assumption | omega) _ | refine Ext.al ?_ _ | refine Ext.dr ?_ | refine Ext.drN ?_ _ | exact Ext.rf _))⟩
  · go_enter Try.func43, Try.ntmps43
    go_wp2
    exact bodyPost_ret (v := .tuple #[.agg #[.slice a l.length c, .int .i64 d, .int .i64 f], .int .i64 19]) (by simp [results, Try.results43, go_sem]) rfl ⟨rfl, (by repeat (first | refine Ext.st ?_ (by first | exact Nat.le_refl _ | exact Nat.le_succ _ | assumption | omega) _ | refine Ext.al ?_ _ | refine Ext.dr ?_ | refine Ext.drN ?_ _ | exact Ext.rf _))⟩

def newOut (f : Int) : Value := if f < -1 ∨ 1073741824 < f then .tuple #[.agg #[.slice none 0 0, .int .i64 0, .int .i64 0], .int .i64 2] else .tuple #[.agg #[.slice none 0 0, .int .i64 0, .int .i64 f], .int .i64 0]

set_option maxHeartbeats 2000000 in
theorem new_calls (f : Int) (w : World) :
    Calls Try.prog 10 #[.int .i64 f] w fun e w' => e = .returned (newOut f) ∧ Ext w w' := by
  by_cases h1 : f < -1
  · have b1 : decide (f < -1) = true := by simpa using h1
    go_enter Try.func10, Try.ntmps10
    go_wp2
    refine bodyPost_ret (v := .tuple #[.agg #[.slice none 0 0, .int .i64 0, .int .i64 0], .int .i64 2]) (by simp [results, Try.results10, go_sem]) rfl ⟨by rw [newOut, if_pos (.inl h1)], (by repeat (first | refine Ext.st ?_ (by first | exact Nat.le_refl _ | exact Nat.le_succ _ | assumption | omega) _ | refine Ext.al ?_ _ | refine Ext.dr ?_ | refine Ext.drN ?_ _ | exact Ext.rf _))⟩
  · have b1 : decide (f < -1) = false := by simpa using h1
    by_cases h2 : 1073741824 < f
    · have b2 : decide (1073741824 < f) = true := by simpa using h2
      go_enter Try.func10, Try.ntmps10
      go_wp2
      refine bodyPost_ret (v := .tuple #[.agg #[.slice none 0 0, .int .i64 0, .int .i64 0], .int .i64 2]) (by simp [results, Try.results10, go_sem]) rfl ⟨by rw [newOut, if_pos (.inr h2)], (by repeat (first | refine Ext.st ?_ (by first | exact Nat.le_refl _ | exact Nat.le_succ _ | assumption | omega) _ | refine Ext.al ?_ _ | refine Ext.dr ?_ | refine Ext.drN ?_ _ | exact Ext.rf _))⟩
    · have b2 : decide (1073741824 < f) = false := by simpa using h2
      go_enter Try.func10, Try.ntmps10
      go_wp2
      refine bodyPost_ret (v := .tuple #[.agg #[.slice none 0 0, .int .i64 0, .int .i64 f], .int .i64 0]) (by simp [results, Try.results10, go_sem]) rfl ⟨by rw [newOut, if_neg (by omega)], (by repeat (first | refine Ext.st ?_ (by first | exact Nat.le_refl _ | exact Nat.le_succ _ | assumption | omega) _ | refine Ext.al ?_ _ | refine Ext.dr ?_ | refine Ext.drN ?_ _ | exact Ext.rf _))⟩

set_option maxHeartbeats 4000000 in
theorem trimmed_calls (a : Option Addr) (c : Nat) (l : List Int) (d f : Int) (w : World) (hv : Bys w (.slice a l.length c) l) (hn : l.length ≤ 1000000) :
    Calls Try.prog 40 #[.agg #[.slice a l.length c, .int .i64 d, .int .i64 f]] w fun e w' => e = .returned (.agg #[.slice a (wholeR (recordsL l)) c, .int .i64 (min d (wholeR (recordsL l))), .int .i64 f]) ∧ Ext w w' := by
  have hW := whole_le' l hv.1
  have hRL := wholeR_len (recordsL l)
  have HV := Lib.hid hv
  have hlc : l.length ≤ c := by obtain ⟨_, a', c', h, h2, _⟩ := hv; simp only [Value.slice.injEq] at h; obtain ⟨_, _, rfl⟩ := h; exact h2
  have HN := Lib.hid hn
  have hRB := records_byte l.length l (Nat.le_refl _) hv.1
  have HRB := Lib.hid hRB
  generalize hln : l.length = n at *
  have HL := Lib.hid hln; clear hln
  generalize hR : recordsL l = R at *
  have HR := Lib.hid hR
  generalize hq : R.length = q at *
  have HQ := Lib.hid hq
  generalize hT : wholeR R = T at *
  have HT := Lib.hid hT
  clear hv hRB hR hq hT
  go_enter Try.func40, Try.ntmps40
  go_wp2_with fail
  refine (records_calls _ l _ (HV.out.ext (((Ext.rf _).al _).al _)) (by rw [HL.out]; exact HN.out)).mono ?_
  rintro e w1 ⟨v1, rfl, hRR, hE1⟩
  rw [HR.out] at hRR
  have hS := hRR.sl (fun r hr => (HRB.out r hr).1)
  have hE : Ext w w1 := (((Ext.rf _).al _).al _).trans' hE1
  have hc0 := hE1.cl (((Ext.rf (w.alloc (.cells #[.slice a n c, .int .i64 d, .int .i64 f] 24))).al (.cells #[.slice none 0 0, .int .i64 0, .int .i64 0] 24)).cl (cell_new w #[.slice a n c, .int .i64 d, .int .i64 f] 24 0 _ rfl))
  have hc1 := hE1.cl (((Ext.rf (w.alloc (.cells #[.slice a n c, .int .i64 d, .int .i64 f] 24))).al (.cells #[.slice none 0 0, .int .i64 0, .int .i64 0] 24)).cl (cell_new w #[.slice a n c, .int .i64 d, .int .i64 f] 24 1 _ rfl))
  have hc2 := hE1.cl (((Ext.rf (w.alloc (.cells #[.slice a n c, .int .i64 d, .int .i64 f] 24))).al (.cells #[.slice none 0 0, .int .i64 0, .int .i64 0] 24)).cl (cell_new w #[.slice a n c, .int .i64 d, .int .i64 f] 24 2 _ rfl))
  have hh := hE1.hp (((Ext.rf (w.alloc (.cells #[.slice a n c, .int .i64 d, .int .i64 f] 24))).al (.cells #[.slice none 0 0, .int .i64 0, .int .i64 0] 24)).hp (heap_alloc_new w (.cells #[.slice a n c, .int .i64 d, .int .i64 f] 24)))
  have hh2 := hE1.hp (heap_alloc_new (w.alloc (.cells #[.slice a n c, .int .i64 d, .int .i64 f] 24)) (.cells #[.slice none 0 0, .int .i64 0, .int .i64 0] 24))
  rw [show (w.alloc (.cells #[.slice a n c, .int .i64 d, .int .i64 f] 24)).heap.size = w.heap.size + 1 from by simp] at hh2
  have r0 := cell_of hh2 0
  have r1 := cell_of hh2 1
  have r2 := cell_of hh2 2
  simp only [List.getElem?_toArray, List.getElem?_cons_zero, List.getElem?_cons_succ] at r0 r1 r2
  have q0 := free_of hh2 0
  have q1 := free_of hh2 1
  have q2 := free_of hh2 2
  have fr0 : w1.frozen? ⟨w.heap.size, 0, none⟩ = false := by simp [World.frozen?, hh]
  have fr1 : w1.frozen? ⟨w.heap.size, 1, none⟩ = false := by simp [World.frozen?, hh]
  have hsz := hE1.sz
  simp at hsz
  obtain ⟨ra, rc, rfl, _, hsl⟩ := hS
  rw [HQ.out]
  have HS := Lib.hid hsl
  have HE := Lib.hid hE
  have HH := Lib.hid hh
  have HH2 := Lib.hid hh2
  clear hRR hE1 hE hh hh2 hsl
  go_wp2
  go_loopg [3, 10] q (fun m s3 s10 wr => ∃ k : Nat, k ≤ q ∧ q - k ≤ m ∧ s10 = .int .i64 k ∧ s3 = .int .i64 (wholeR (R.take k)) ∧ wr = w1)
  case atStart => exact ⟨0, Nat.zero_le _, by omega, rfl, by simp [wholeR], rfl⟩
  case round =>
    obtain ⟨k, hk, hm, rfl, rfl, rfl⟩ := hrel
    by_cases hlt : k < q
    · have hltz : (k : Int) < (q : Int) := by omega
      obtain ⟨b, off, rfl, hb, hc⟩ := HS.out (by intro e; have := HQ.out; simp [e] at this; omega)
      obtain ⟨vs, hvl, ⟨x, rfl, hx⟩, hcx⟩ := hc k (by rw [HQ.out]; exact hlt)
      have hcell := hcx 0 (by omega)
      obtain ⟨xa, xc, rfl⟩ : ∃ xa xc, x = .slice xa R[k]!.length xc := by obtain ⟨_, xa, xc, h, _⟩ := hx; exact ⟨xa, xc, h⟩
      rw [Nat.mul_one, Nat.add_zero] at hcell
      have hcell' : wr.cell? ⟨b, off + k, none⟩ = some (.slice xa R[k]!.length xc) := hcell
      have hsucc := wholeR_take_succ R k (by rw [HQ.out]; exact hlt)
      have hle := wholeR_take_le R (k + 1)
      rw [HT.out] at hle
      clear hcell hc hcx hx
      generalize R[k]!.length = y at *
      generalize wholeR (R.take k) = s at *
      have hz : ((wholeR (R.take (k + 1)) : Nat) : Int) = (s : Int) + ((y : Int) + 8) := by omega
      have HZ := Lib.hid hz
      have hz' : (s : Int) + ((y : Int) + 8) ≤ T := by omega
      clear hz hsucc hle
      go_wp2
      go_roundg (q - (k + 1))
      case measure => omega
      case rel => exact ⟨k + 1, by omega, by omega, by go_num, by rw [HZ.out], rfl⟩
    · have hltz : ¬ (k : Int) < (q : Int) := by omega
      obtain rfl : k = q := by omega
      have hTk : wholeR (R.take k) = T := by rw [List.take_of_length_le (by rw [HQ.out]; omega)]; exact HT.out
      rw [hTk]
      clear hTk
      go_wp2
      have hTc : (T : Int) ≤ (c : Int) := by omega
      have hT0 : (0 : Int) ≤ (T : Int) := by omega
      go_region
      all_goals go_wp2
      all_goals first
        | (have hmin : min d (T : Int) = T := by omega
           rw [hmin]
           refine bodyPost_ret (v := .agg #[.slice a T c, .int .i64 T, .int .i64 f]) (by simp [results, Try.results40, go_sem, r0, r1, r2]) rfl ⟨rfl, (by repeat (first | refine Ext.st ?_ (by first | exact Nat.le_refl _ | exact Nat.le_succ _ | assumption | omega) _ | refine Ext.al ?_ _ | refine Ext.dr ?_ | refine Ext.drN ?_ _ | exact HE.out))⟩)
        | (have hmin : min d (T : Int) = d := by omega
           rw [hmin]
           refine bodyPost_ret (v := .agg #[.slice a T c, .int .i64 d, .int .i64 f]) (by simp [results, Try.results40, go_sem, r0, r1, r2]) rfl ⟨rfl, (by repeat (first | refine Ext.st ?_ (by first | exact Nat.le_refl _ | exact Nat.le_succ _ | assumption | omega) _ | refine Ext.al ?_ _ | refine Ext.dr ?_ | refine Ext.drN ?_ _ | exact HE.out))⟩)

end Go.Proofs.Ytggofkaakccoeaa

/-
  The walk of monlog.check.
-/
namespace Go.Proofs.Ytggofkaakccoeaa
open Go.RowKit
set_option linter.unusedVariables false

/-- Room for a record of n bytes behind the records of l. -/
def fullB (l : List Int) (n : Nat) : Bool := decide (16384 < n) || decide (163840 < wholeR (recordsL l) + n + 8)
def checkN (l : List Int) (d f : Int) (n : Nat) : Int := if validJ l.length d f then (if fullB l n then 5 else 0) else 1

set_option maxHeartbeats 4000000 in
set_option maxRecDepth 100000 in
theorem check_calls (a : Option Addr) (c : Nat) (l : List Int) (d f : Int) (b : Option Addr) (n m : Nat) (w : World) (hv : Bys w (.slice a l.length c) l) (hn : l.length ≤ 1000000) (hnn : n ≤ 1000000) :
    Calls Try.prog 38 #[.agg #[.slice a l.length c, .int .i64 d, .int .i64 f], .slice b n m] w fun e w' => e = .returned (.int .i64 (checkN l d f n)) ∧ Ext w w' := by
  have hW := whole_le' l hv.1
  have HV := Lib.hid hv
  have HN := Lib.hid hn
  generalize hT : wholeR (recordsL l) = T at hW
  have HT := Lib.hid hT
  generalize hln : l.length = q at *
  have HL := Lib.hid hln
  clear hv hT hln
  cases hval : validJ q d f with
  | false =>
    have HVAL := Lib.hid hval; clear hval
    go_enter Try.func38, Try.ntmps38
    go_wp2_with fail
    refine (valid_calls _ q _ _ _ _ (by omega)).mono ?_
    rw [HVAL.out]
    rintro e w1 ⟨rfl, hE1⟩
    have HE := Lib.hid (((Ext.rf w).al _).trans' hE1); clear hE1
    go_wp2
    go_ret
    exact ⟨by simp [checkN, HL.out, HVAL.out], HE.out⟩
  | true =>
    have HVAL := Lib.hid hval; clear hval
    by_cases h1 : 16384 < n
    · have d1 : decide (16384 < (n : Int)) = true := by simp; omega
      go_enter Try.func38, Try.ntmps38
      go_wp2_with fail
      refine (valid_calls _ q _ _ _ _ (by omega)).mono ?_
      rw [HVAL.out]
      rintro e w1 ⟨rfl, hE1⟩
      have HE := Lib.hid (((Ext.rf w).al _).trans' hE1); clear hE1
      go_wp2
      go_ret
      exact ⟨by simp [checkN, HL.out, HVAL.out, fullB, h1], HE.out⟩
    · have d1 : decide (16384 < (n : Int)) = false := by simp; omega
      by_cases h2 : 163840 < T + n + 8
      · have d2 : decide (163840 < (T : Int) + n + 8) = true := by simp; omega
        go_enter Try.func38, Try.ntmps38
        go_wp2_with fail
        refine (valid_calls _ q _ _ _ _ (by omega)).mono ?_
        rw [HVAL.out]
        rintro e w1 ⟨rfl, hE1⟩
        have HE := Lib.hid (((Ext.rf w).al _).trans' hE1)
        have hc0 := hE1.cl (cell_new w #[.slice a q c, .int .i64 d, .int .i64 f] 24 0 _ rfl)
        have hc1 := hE1.cl (cell_new w #[.slice a q c, .int .i64 d, .int .i64 f] 24 1 _ rfl)
        have hc2 := hE1.cl (cell_new w #[.slice a q c, .int .i64 d, .int .i64 f] 24 2 _ rfl)
        clear hE1
        have HC := Lib.hid (trimmed_calls a c l d f w1 (by rw [HL.out]; exact HV.out.ext HE.out) (by rw [HL.out]; omega))
        rw [HT.out, HL.out] at HC
        generalize min d (T : Int) = dm at HC
        have hfd : ∀ W : World, (Instr.field 24 (.agg #[.slice a T c, .int .i64 dm, .int .i64 f]) 0).run Try.prog W = .ok (.slice a T c) W := fun _ => by kernel_rfl
        go_wp2_with fail
        refine HC.out.mono ?_
        rintro e w2 ⟨rfl, hE2⟩
        have HE2 := Lib.hid (HE.out.trans' hE2); clear hE2
        go_wp2
        go_ret
        exact ⟨by simp [checkN, HL.out, HVAL.out, fullB, HT.out]; omega, HE2.out⟩
      · have d2 : decide (163840 < (T : Int) + n + 8) = false := by simp; omega
        go_enter Try.func38, Try.ntmps38
        go_wp2_with fail
        refine (valid_calls _ q _ _ _ _ (by omega)).mono ?_
        rw [HVAL.out]
        rintro e w1 ⟨rfl, hE1⟩
        have HE := Lib.hid (((Ext.rf w).al _).trans' hE1)
        have hc0 := hE1.cl (cell_new w #[.slice a q c, .int .i64 d, .int .i64 f] 24 0 _ rfl)
        have hc1 := hE1.cl (cell_new w #[.slice a q c, .int .i64 d, .int .i64 f] 24 1 _ rfl)
        have hc2 := hE1.cl (cell_new w #[.slice a q c, .int .i64 d, .int .i64 f] 24 2 _ rfl)
        clear hE1
        have HC := Lib.hid (trimmed_calls a c l d f w1 (by rw [HL.out]; exact HV.out.ext HE.out) (by rw [HL.out]; omega))
        rw [HT.out, HL.out] at HC
        generalize min d (T : Int) = dm at HC
        have hfd : ∀ W : World, (Instr.field 24 (.agg #[.slice a T c, .int .i64 dm, .int .i64 f]) 0).run Try.prog W = .ok (.slice a T c) W := fun _ => by kernel_rfl
        go_wp2_with fail
        refine HC.out.mono ?_
        rintro e w2 ⟨rfl, hE2⟩
        have HE2 := Lib.hid (HE.out.trans' hE2); clear hE2
        go_wp2
        go_ret
        exact ⟨by simp [checkN, HL.out, HVAL.out, fullB, HT.out]; omega, HE2.out⟩

end Go.Proofs.Ytggofkaakccoeaa

/-
  Append, Sync, Crash and Read of package monlog.
-/
namespace Go.Proofs.Ytggofkaakccoeaa
open Go.RowKit
set_option linter.unusedVariables false

theorem Writer.ext {w w' : World} {base g : Nat} {u : Value} {l : List Int} {d f : Int} {cr : Bool} (h : Writer w base g u l d f cr) (x : Ext w w') : Writer w' base g u l d f cr :=
  ⟨h.1, x.hp h.2.1, h.2.2.1.ext x, h.2.2.2⟩

/-- A journal of the call's own, and an error. -/
def JOut (w w' : World) (e : Ending) (L : List Int) (D F E : Int) : Prop :=
  ∃ v, e = .returned (.tuple #[.agg #[v, .int .i64 D, .int .i64 F], .int .i64 E]) ∧ Row w' w.heap.size 5 1 v L.length (L.map (Value.int .u8)) ∧ Ext w w'

def crashE (f : Int) (b : List Int) : Int := if crashF f b then 19 else 0
def appL (l : List Int) (f : Int) (b : List Int) : List Int := l.take (wholeR (recordsL l)) ++ wrote f (recL b)

set_option maxHeartbeats 2000000 in
theorem append_bad (a : Option Addr) (c : Nat) (l : List Int) (d f : Int) (b : Option Addr) (n m : Nat) (E : Int) (w : World) (hv : Bys w (.slice a l.length c) l) (hn : l.length ≤ 1000000) (hnn : n ≤ 1000000) (hE : checkN l d f n = E) (h0 : E ≠ 0) :
    Calls Try.prog 18 #[.agg #[.slice a l.length c, .int .i64 d, .int .i64 f], .slice b n m] w fun e w' => JOut w w' e [] 0 0 E := by
  have HC := Lib.hid (check_calls a c l d f b n m ((w.alloc (.cells #[.slice a l.length c, .int .i64 d, .int .i64 f] 24)).alloc (.cells #[.slice none 0 0, .int .i64 0, .int .i64 0] 24)) (hv.ext (((Ext.rf w).al _).al _)) hn hnn)
  rw [hE] at HC
  clear hE hv
  have e0 : (E != 0) = true := by simpa using h0
  generalize l.length = q at *
  clear h0
  go_enter Try.func18, Try.ntmps18
  go_wp2_with fail
  refine HC.out.mono ?_
  rintro e w1 ⟨rfl, hE1⟩
  have hsz := hE1.sz
  simp at hsz
  have hh := hE1.hp (heap_alloc_new (w.alloc (.cells #[.slice a q c, .int .i64 d, .int .i64 f] 24)) (.cells #[.slice none 0 0, .int .i64 0, .int .i64 0] 24))
  rw [show (w.alloc (.cells #[.slice a q c, .int .i64 d, .int .i64 f] 24)).heap.size = w.heap.size + 1 from by simp] at hh
  have HH := Lib.hid hh
  have HE := Lib.hid ((((Ext.rf w).al _).al _).trans' hE1)
  clear hh hE1
  have r0 := cell_of HH.out 0
  have r1 := cell_of HH.out 1
  have r2 := cell_of HH.out 2
  simp only [List.getElem?_toArray, List.getElem?_cons_zero, List.getElem?_cons_succ] at r0 r1 r2
  have q0 := free_of HH.out 0
  have q1 := free_of HH.out 1
  have q2 := free_of HH.out 2
  go_wp2
  refine bodyPost_ret (v := .tuple #[.agg #[.slice none 0 0, .int .i64 0, .int .i64 0], .int .i64 E]) (by simp [results, Try.results18, go_sem, *]) rfl ⟨_, rfl, Row.mkNil _ _ _ _, (by repeat (first | refine Ext.st ?_ (by first | exact Nat.le_refl _ | exact Nat.le_succ _ | assumption | omega) _ | refine Ext.al ?_ _ | refine Ext.dr ?_ | refine Ext.drN ?_ _ | exact HE.out))⟩

set_option maxHeartbeats 4000000 in
theorem append_ok (a : Option Addr) (c : Nat) (l : List Int) (d f : Int) (ba : Option Addr) (m : Nat) (b : List Int) (w : World) (hv : Bys w (.slice a l.length c) l) (hn : l.length ≤ 1000000) (hb : Bys w (.slice ba b.length m) b) (hnn : b.length ≤ 100000) (hE : checkN l d f b.length = 0) (hf : -1 ≤ f) (hf2 : f ≤ 1073741824) :
    Calls Try.prog 18 #[.agg #[.slice a l.length c, .int .i64 d, .int .i64 f], .slice ba b.length m] w fun e w' => JOut w w' e (appL l f b) (min d (wholeR (recordsL l))) (leftF f (recL b)) (crashE f (recL b)) := by
  have HC := Lib.hid (check_calls a c l d f ba b.length m ((w.alloc (.cells #[.slice a l.length c, .int .i64 d, .int .i64 f] 24)).alloc (.cells #[.slice none 0 0, .int .i64 0, .int .i64 0] 24)) (hv.ext (((Ext.rf w).al _).al _)) hn (by omega))
  rw [hE] at HC
  clear hE
  have hWL := whole_le' l hv.1
  have hrl := rec_len b
  have HTR := Lib.hid (fun W => trimmed_calls a c l d f W)
  have HTK := Lib.hid (hv.take (wholeR (recordsL l)) hWL)
  have HV := Lib.hid hv
  have HB := Lib.hid hb
  have HRL := Lib.hid hrl
  generalize hT : wholeR (recordsL l) = T at *
  have HT := Lib.hid hT
  generalize hq : l.length = q at *
  have HQ := Lib.hid hq
  generalize hbl : b.length = n at *
  have HBL := Lib.hid hbl
  generalize hrc : recL b = R at *
  have HR := Lib.hid hrc
  clear hv hb hT hq hbl hrc hrl
  go_enter Try.func18, Try.ntmps18
  go_wp2_with fail
  refine HC.out.mono ?_
  rintro e w1 ⟨rfl, hE1⟩
  have hsz := hE1.sz
  simp at hsz
  have hh := hE1.hp (heap_alloc_new (w.alloc (.cells #[.slice a q c, .int .i64 d, .int .i64 f] 24)) (.cells #[.slice none 0 0, .int .i64 0, .int .i64 0] 24))
  rw [show (w.alloc (.cells #[.slice a q c, .int .i64 d, .int .i64 f] 24)).heap.size = w.heap.size + 1 from by simp] at hh
  have hh2 := hE1.hp (((Ext.rf (w.alloc (.cells #[.slice a q c, .int .i64 d, .int .i64 f] 24))).al (.cells #[.slice none 0 0, .int .i64 0, .int .i64 0] 24)).hp (heap_alloc_new w (.cells #[.slice a q c, .int .i64 d, .int .i64 f] 24)))
  have HH := Lib.hid hh
  have HH2 := Lib.hid hh2
  have HE := Lib.hid ((((Ext.rf w).al _).al _).trans' hE1)
  clear hh hE1 hh2
  have c0 := cell_of HH2.out 0
  have c1 := cell_of HH2.out 1
  have c2 := cell_of HH2.out 2
  simp only [List.getElem?_toArray, List.getElem?_cons_zero, List.getElem?_cons_succ] at c0 c1 c2
  go_wp2_with fail
  refine (HTR.out w1 (HV.out.ext HE.out) hn).mono ?_
  rintro e w2 ⟨rfl, hE2⟩
  have HE2 := Lib.hid hE2; clear hE2
  go_wp2_with fail
  refine (open_calls _ (l.take T) _ _ w2 (HTK.out.ext (HE.out.trans' HE2.out)) (by rw [List.length_take]; omega)).mono ?_
  rintro e w3 ⟨g, u, rfl, hW3, hE3⟩
  have HW3 := Lib.hid hW3
  have HE3 := Lib.hid hE3
  clear hW3 hE3
  go_wp2_with fail
  refine (record_calls _ b _ (HB.out.ext ((HE.out.trans' HE2.out).trans' HE3.out)) (by rw [HBL.out]; omega)).mono ?_
  rintro e w4 ⟨v4, rfl, hR4, hE4⟩
  have HR4 := Lib.hid hR4
  have HE4 := Lib.hid hE4
  clear hR4 hE4
  go_wp2_with fail
  have hby4 : Bys w4 v4 R := by
    have := HR4.out.bys (rec_byte HB.out.1)
    rw [HR.out] at this; exact this
  refine (write_calls g w2.heap.size u (l.take T) _ f v4 R w4 (HW3.out.ext HE4.out) (by have := HE3.out.sz; have := HE4.out.sz; omega) hby4 (by have := HRL.out; omega) (by rw [List.length_take]; omega) hf hf2 ?_).mono ?_
  · intro k hk
    have h1 := (HR4.out.lt k hk).1
    have h2 := (Array.getElem?_eq_some_iff.1 HW3.out.2.1).1
    refine ⟨by omega, fun h => ?_⟩
    have := (HW3.out.2.2.1.lt k h).2
    omega
  rintro e w5 ⟨⟨x, rfl⟩, ⟨u5, hW5⟩, hB5⟩
  have HW5 := Lib.hid hW5
  have HB5 := Lib.hid hB5
  clear hW5 hB5 hby4
  go_wp2_with fail
  refine (result_calls g _ u5 _ _ _ _ w5 HW5.out).mono ?_
  rintro e w6 ⟨rfl, hE6⟩
  have HE5 := Lib.hid ((HE.out.trans' HE2.out).trans' ((show Ext w2 w5 from Below.trans (HE3.out.trans' HE4.out) HB5.out).trans' hE6))
  have hh := hE6.hp ((show Ext w2 w5 from Below.trans (HE3.out.trans' HE4.out) HB5.out).hp (HE2.out.hp HH.out))
  have HH6 := Lib.hid hh
  have hrow := HW5.out.2.2.1.ext hE6
  obtain ⟨ua, uc, rfl, _, hsh⟩ := hrow.any
  have HROW := Lib.hid hrow
  have hs2 := HE2.out.sz
  have hs1 := HE.out.sz
  clear hrow hh hE6 hsh
  have r0 := cell_of HH6.out 0
  have r1 := cell_of HH6.out 1
  have r2 := cell_of HH6.out 2
  simp only [List.getElem?_toArray, List.getElem?_cons_zero, List.getElem?_cons_succ] at r0 r1 r2
  have q0 := free_of HH6.out 0
  have q1 := free_of HH6.out 1
  have q2 := free_of HH6.out 2
  have HLL := Lib.hid (show appL l f b = l.take T ++ wrote f R from by unfold appL; rw [HR.out, HT.out])
  generalize hdm : min d (T : Int) = dm
  generalize hlf : leftF f R = lf
  rw [show (if crashF f R = true then (19 : Int) else 0) = crashE f R from rfl]
  generalize her : crashE f R = er
  have HFIN := Lib.hid (And.intro hdm (And.intro hlf her))
  clear hdm hlf her
  generalize hLz : (l.take T ++ wrote f R).length = LL at *
  have HLZ := Lib.hid hLz
  clear hLz
  go_wp2
  refine bodyPost_ret (v := .tuple #[.agg #[.slice ua LL uc, .int .i64 dm, .int .i64 lf], .int .i64 er]) (by simp [results, Try.results18, go_sem, r0, r1, r2]) rfl ?_
  obtain ⟨h1, h2, h3⟩ := HFIN.out
  rw [HLL.out]
  refine ⟨_, by rw [h1, h2, h3], ?_, (by repeat (first | refine Ext.st ?_ (by first | exact Nat.le_refl _ | exact Nat.le_succ _ | assumption | omega) _ | refine Ext.al ?_ _ | refine Ext.dr ?_ | refine Ext.drN ?_ _ | exact HE5.out))⟩
  · rw [HLZ.out]; exact (Row.st3 (base := w2.heap.size) (g := w.heap.size + 1) HROW.out (by omega) _ _ _).mono (by omega)

end Go.Proofs.Ytggofkaakccoeaa
