/-
  The rest of the writer, and trimmed.
-/
import Derived.Test.YtggofkaakccoeaaBase
import Derived.Test.YtggofkaakccoeaaProg
import Derived.BigQuiet
import Derived.Deep.QuietTactic
import Derived.Deep.LoopGhost
import Derived.Shelf.Abstract
import Derived.Test.YtggofkaakccoeaaJourB52
import Derived.Test.YtggofkaakccoeaaRecW52
import Derived.Deep.RegionHeld3
import Derived.Deep.DrawnRows
import Derived.BigRegion
namespace Go.Proofs.Ytggofkaakccoeaa
open Go.RowKit
set_option linter.unusedVariables false

theorem writer_facts {w : World} {base g : Nat} {u : Value} {l : List Int} {d f : Int} {cr : Bool} (h : Writer w base g u l d f cr) :
    w.cell? ⟨g, 0, none⟩ = some u ∧ w.cell? ⟨g, 1, none⟩ = some (.int .i64 d) ∧ w.cell? ⟨g, 2, none⟩ = some (.int .i64 f) ∧ w.cell? ⟨g, 3, none⟩ = some (.bool cr) ∧ w.frozen? ⟨g, 1, none⟩ = false ∧ w.frozen? ⟨g, 3, none⟩ = false := by
  have h2 := h.2.1
  exact ⟨cell_of h2 0, cell_of h2 1, cell_of h2 2, cell_of h2 3, free_of h2 1, free_of h2 3⟩

set_option maxHeartbeats 2000000 in
theorem sync_calls (g base : Nat) (u : Value) (l : List Int) (d f : Int) (w : World) (hw : Writer w base g u l d f false) :
    Calls Try.prog 47 #[.pointer (some ⟨g, 0, none⟩)] w fun e w' => (∃ x, e = .returned x) ∧ Writer w' base g u l (if f = 0 then d else l.length) f (decide (f = 0)) ∧ Below base w w' := by
  obtain ⟨c0, c1, c2, c3, fr1, fr3⟩ := writer_facts hw
  obtain ⟨a, c, rfl, _, hsh⟩ := hw.2.2.1.any
  clear hsh
  have HW := Lib.hid hw; clear hw
  by_cases h0 : f = 0
  · subst h0
    go_enter Try.func47, Try.ntmps47
    go_wp2
    refine bodyPost_end (v := .tuple #[]) (by simp [results, Try.results47, go_sem]) rfl ⟨⟨_, rfl⟩, ⟨HW.out.1, ?_, HW.out.2.2.1.st HW.out.2.2.2 _, HW.out.2.2.2⟩, (Below.refl _ _).setCell HW.out.1 _⟩
    rw [heap_set3 HW.out.2.1]
  · have e0 : (f == 0) = false := by simpa using h0
    have H0 := Lib.hid h0; clear h0
    go_enter Try.func47, Try.ntmps47
    go_wp2
    refine bodyPost_end (v := .tuple #[]) (by simp [results, Try.results47, go_sem]) rfl ⟨⟨_, rfl⟩, ⟨HW.out.1, ?_, HW.out.2.2.1.st HW.out.2.2.2 _, HW.out.2.2.2⟩, (Below.refl _ _).setCell HW.out.1 _⟩
    rw [heap_set1 HW.out.2.1]

set_option maxHeartbeats 2000000 in
theorem result_calls (g base : Nat) (u : Value) (l : List Int) (d f : Int) (cr : Bool) (w : World) (hw : Writer w base g u l d f cr) :
    Calls Try.prog 43 #[.pointer (some ⟨g, 0, none⟩)] w fun e w' => e = .returned (.tuple #[.agg #[u, .int .i64 d, .int .i64 f], .int .i64 (if cr then 19 else 0)]) ∧ Ext w w' := by
  obtain ⟨c0, c1, c2, c3, fr1, fr3⟩ := writer_facts hw
  obtain ⟨a, c, rfl, _, hsh⟩ := hw.2.2.1.any
  have hg := World.block_lt_of_cell? w _ c0
  clear hsh hw
  cases cr
  · go_enter Try.func43, Try.ntmps43
    go_wp2
    exact bodyPost_ret (v := .tuple #[.agg #[.slice a l.length c, .int .i64 d, .int .i64 f], .int .i64 0]) (by simp [results, Try.results43, go_sem]) rfl ⟨rfl, (by repeat (first | refine Ext.st ?_ (by first | exact Nat.le_refl _ | exact Nat.le_succ _ | assumption | omega) _ | refine Ext.al ?_ _ | refine Ext.dr ?_ | refine Ext.drN ?_ _ | exact Ext.rf _))⟩
  · go_enter Try.func43, Try.ntmps43
    go_wp2
    exact bodyPost_ret (v := .tuple #[.agg #[.slice a l.length c, .int .i64 d, .int .i64 f], .int .i64 19]) (by simp [results, Try.results43, go_sem]) rfl ⟨rfl, (by repeat (first | refine Ext.st ?_ (by first | exact Nat.le_refl _ | exact Nat.le_succ _ | assumption | omega) _ | refine Ext.al ?_ _ | refine Ext.dr ?_ | refine Ext.drN ?_ _ | exact Ext.rf _))⟩

def newOut (f : Int) : Value := if f < -1 ∨ 1073741824 < f then .tuple #[.agg #[.slice none 0 0, .int .i64 0, .int .i64 0], .int .i64 2] else .tuple #[.agg #[.slice none 0 0, .int .i64 0, .int .i64 f], .int .i64 0]

set_option maxHeartbeats 2000000 in
theorem new_calls (f : Int) (w : World) :
    Calls Try.prog 10 #[.int .i64 f] w fun e w' => e = .returned (newOut f) ∧ Ext w w' := by
  by_cases h1 : f < -1
  · have b1 : decide (f < -1) = true := by simpa using h1
    go_enter Try.func10, Try.ntmps10
    go_wp2
    refine bodyPost_ret (v := .tuple #[.agg #[.slice none 0 0, .int .i64 0, .int .i64 0], .int .i64 2]) (by simp [results, Try.results10, go_sem]) rfl ⟨by rw [newOut, if_pos (.inl h1)], (by repeat (first | refine Ext.st ?_ (by first | exact Nat.le_refl _ | exact Nat.le_succ _ | assumption | omega) _ | refine Ext.al ?_ _ | refine Ext.dr ?_ | refine Ext.drN ?_ _ | exact Ext.rf _))⟩
  · have b1 : decide (f < -1) = false := by simpa using h1
    by_cases h2 : 1073741824 < f
    · have b2 : decide (1073741824 < f) = true := by simpa using h2
      go_enter Try.func10, Try.ntmps10
      go_wp2
      refine bodyPost_ret (v := .tuple #[.agg #[.slice none 0 0, .int .i64 0, .int .i64 0], .int .i64 2]) (by simp [results, Try.results10, go_sem]) rfl ⟨by rw [newOut, if_pos (.inr h2)], (by repeat (first | refine Ext.st ?_ (by first | exact Nat.le_refl _ | exact Nat.le_succ _ | assumption | omega) _ | refine Ext.al ?_ _ | refine Ext.dr ?_ | refine Ext.drN ?_ _ | exact Ext.rf _))⟩
    · have b2 : decide (1073741824 < f) = false := by simpa using h2
      go_enter Try.func10, Try.ntmps10
      go_wp2
      refine bodyPost_ret (v := .tuple #[.agg #[.slice none 0 0, .int .i64 0, .int .i64 f], .int .i64 0]) (by simp [results, Try.results10, go_sem]) rfl ⟨by rw [newOut, if_neg (by omega)], (by repeat (first | refine Ext.st ?_ (by first | exact Nat.le_refl _ | exact Nat.le_succ _ | assumption | omega) _ | refine Ext.al ?_ _ | refine Ext.dr ?_ | refine Ext.drN ?_ _ | exact Ext.rf _))⟩

set_option maxHeartbeats 4000000 in
theorem trimmed_calls (a : Option Addr) (c : Nat) (l : List Int) (d f : Int) (w : World) (hv : Bys w (.slice a l.length c) l) (hn : l.length ≤ 1000000) :
    Calls Try.prog 40 #[.agg #[.slice a l.length c, .int .i64 d, .int .i64 f]] w fun e w' => e = .returned (.agg #[.slice a (wholeR (recordsL l)) c, .int .i64 (min d (wholeR (recordsL l))), .int .i64 f]) ∧ Ext w w' := by
  have hW := whole_le' l hv.1
  have hRL := wholeR_len (recordsL l)
  have HV := Lib.hid hv
  have hlc : l.length ≤ c := by obtain ⟨_, a', c', h, h2, _⟩ := hv; simp only [Value.slice.injEq] at h; obtain ⟨_, _, rfl⟩ := h; exact h2
  have HN := Lib.hid hn
  have hRB := records_byte l.length l (Nat.le_refl _) hv.1
  have HRB := Lib.hid hRB
  generalize hln : l.length = n at *
  have HL := Lib.hid hln; clear hln
  generalize hR : recordsL l = R at *
  have HR := Lib.hid hR
  generalize hq : R.length = q at *
  have HQ := Lib.hid hq
  generalize hT : wholeR R = T at *
  have HT := Lib.hid hT
  clear hv hRB hR hq hT
  go_enter Try.func40, Try.ntmps40
  go_wp2_with fail
  refine (records_calls _ l _ (HV.out.ext (((Ext.rf _).al _).al _)) (by rw [HL.out]; exact HN.out)).mono ?_
  rintro e w1 ⟨v1, rfl, hRR, hE1⟩
  rw [HR.out] at hRR
  have hS := hRR.sl (fun r hr => (HRB.out r hr).1)
  have hE : Ext w w1 := (((Ext.rf _).al _).al _).trans' hE1
  have hc0 := hE1.cl (((Ext.rf (w.alloc (.cells #[.slice a n c, .int .i64 d, .int .i64 f] 24))).al (.cells #[.slice none 0 0, .int .i64 0, .int .i64 0] 24)).cl (cell_new w #[.slice a n c, .int .i64 d, .int .i64 f] 24 0 _ rfl))
  have hc1 := hE1.cl (((Ext.rf (w.alloc (.cells #[.slice a n c, .int .i64 d, .int .i64 f] 24))).al (.cells #[.slice none 0 0, .int .i64 0, .int .i64 0] 24)).cl (cell_new w #[.slice a n c, .int .i64 d, .int .i64 f] 24 1 _ rfl))
  have hc2 := hE1.cl (((Ext.rf (w.alloc (.cells #[.slice a n c, .int .i64 d, .int .i64 f] 24))).al (.cells #[.slice none 0 0, .int .i64 0, .int .i64 0] 24)).cl (cell_new w #[.slice a n c, .int .i64 d, .int .i64 f] 24 2 _ rfl))
  have hh := hE1.hp (((Ext.rf (w.alloc (.cells #[.slice a n c, .int .i64 d, .int .i64 f] 24))).al (.cells #[.slice none 0 0, .int .i64 0, .int .i64 0] 24)).hp (heap_alloc_new w (.cells #[.slice a n c, .int .i64 d, .int .i64 f] 24)))
  have hh2 := hE1.hp (heap_alloc_new (w.alloc (.cells #[.slice a n c, .int .i64 d, .int .i64 f] 24)) (.cells #[.slice none 0 0, .int .i64 0, .int .i64 0] 24))
  rw [show (w.alloc (.cells #[.slice a n c, .int .i64 d, .int .i64 f] 24)).heap.size = w.heap.size + 1 from by simp] at hh2
  have r0 := cell_of hh2 0
  have r1 := cell_of hh2 1
  have r2 := cell_of hh2 2
  simp only [List.getElem?_toArray, List.getElem?_cons_zero, List.getElem?_cons_succ] at r0 r1 r2
  have q0 := free_of hh2 0
  have q1 := free_of hh2 1
  have q2 := free_of hh2 2
  have fr0 : w1.frozen? ⟨w.heap.size, 0, none⟩ = false := by simp [World.frozen?, hh]
  have fr1 : w1.frozen? ⟨w.heap.size, 1, none⟩ = false := by simp [World.frozen?, hh]
  have hsz := hE1.sz
  simp at hsz
  obtain ⟨ra, rc, rfl, _, hsl⟩ := hS
  rw [HQ.out]
  have HS := Lib.hid hsl
  have HE := Lib.hid hE
  have HH := Lib.hid hh
  have HH2 := Lib.hid hh2
  clear hRR hE1 hE hh hh2 hsl
  go_wp2
  go_loopg [3, 10] q (fun m s3 s10 wr => ∃ k : Nat, k ≤ q ∧ q - k ≤ m ∧ s10 = .int .i64 k ∧ s3 = .int .i64 (wholeR (R.take k)) ∧ wr = w1)
  case atStart => exact ⟨0, Nat.zero_le _, by omega, rfl, by simp [wholeR], rfl⟩
  case round =>
    obtain ⟨k, hk, hm, rfl, rfl, rfl⟩ := hrel
    by_cases hlt : k < q
    · have hltz : (k : Int) < (q : Int) := by omega
      obtain ⟨b, off, rfl, hb, hc⟩ := HS.out (by intro e; have := HQ.out; simp [e] at this; omega)
      obtain ⟨vs, hvl, ⟨x, rfl, hx⟩, hcx⟩ := hc k (by rw [HQ.out]; exact hlt)
      have hcell := hcx 0 (by omega)
      obtain ⟨xa, xc, rfl⟩ : ∃ xa xc, x = .slice xa R[k]!.length xc := by obtain ⟨_, xa, xc, h, _⟩ := hx; exact ⟨xa, xc, h⟩
      rw [Nat.mul_one, Nat.add_zero] at hcell
      have hcell' : wr.cell? ⟨b, off + k, none⟩ = some (.slice xa R[k]!.length xc) := hcell
      have hsucc := wholeR_take_succ R k (by rw [HQ.out]; exact hlt)
      have hle := wholeR_take_le R (k + 1)
      rw [HT.out] at hle
      clear hcell hc hcx hx
      generalize R[k]!.length = y at *
      generalize wholeR (R.take k) = s at *
      have hz : ((wholeR (R.take (k + 1)) : Nat) : Int) = (s : Int) + ((y : Int) + 8) := by omega
      have HZ := Lib.hid hz
      have hz' : (s : Int) + ((y : Int) + 8) ≤ T := by omega
      clear hz hsucc hle
      go_wp2
      go_roundg (q - (k + 1))
      case measure => omega
      case rel => exact ⟨k + 1, by omega, by omega, by go_num, by rw [HZ.out], rfl⟩
    · have hltz : ¬ (k : Int) < (q : Int) := by omega
      obtain rfl : k = q := by omega
      have hTk : wholeR (R.take k) = T := by rw [List.take_of_length_le (by rw [HQ.out]; omega)]; exact HT.out
      rw [hTk]
      clear hTk
      go_wp2
      have hTc : (T : Int) ≤ (c : Int) := by omega
      have hT0 : (0 : Int) ≤ (T : Int) := by omega
      go_region
      all_goals go_wp2
      all_goals first
        | (have hmin : min d (T : Int) = T := by omega
           rw [hmin]
           refine bodyPost_ret (v := .agg #[.slice a T c, .int .i64 T, .int .i64 f]) (by simp [results, Try.results40, go_sem, r0, r1, r2]) rfl ⟨rfl, (by repeat (first | refine Ext.st ?_ (by first | exact Nat.le_refl _ | exact Nat.le_succ _ | assumption | omega) _ | refine Ext.al ?_ _ | refine Ext.dr ?_ | refine Ext.drN ?_ _ | exact HE.out))⟩)
        | (have hmin : min d (T : Int) = d := by omega
           rw [hmin]
           refine bodyPost_ret (v := .agg #[.slice a T c, .int .i64 d, .int .i64 f]) (by simp [results, Try.results40, go_sem, r0, r1, r2]) rfl ⟨rfl, (by repeat (first | refine Ext.st ?_ (by first | exact Nat.le_refl _ | exact Nat.le_succ _ | assumption | omega) _ | refine Ext.al ?_ _ | refine Ext.dr ?_ | refine Ext.drN ?_ _ | exact HE.out))⟩)

end Go.Proofs.Ytggofkaakccoeaa
