/-
  The example of chapter 52, and the bound on journals.
-/
import Derived.Test.YtggofkaakccoeaaBase
import Derived.Test.YtggofkaakccoeaaProg
import Derived.BigQuiet
import Derived.Deep.QuietTactic
import Derived.Deep.LoopGhost
import Derived.Shelf.Abstract
import Derived.Test.YtggofkaakccoeaaJourF52
import Derived.Test.YtggofkaakccoeaaCrash52
import Derived.Test.YtggofkaakccoeaaRefB52
import Derived.Deep.RegionHeld3
import Derived.Deep.DrawnRows
namespace Go.Proofs.Ytggofkaakccoeaa
open Go.RowKit
set_option linter.unusedVariables false
attribute [local go_sem ↓] Go.wp_at_zero Go.wp_at_succ

set_option maxHeartbeats 4000000 in
theorem equal_bytes (u v : Value) (l : List Int) (w : World) (hu : Bys w u l) (hv : Bys w v l) (hn : l.length ≤ 1000000) :
    Calls Try.prog 35 #[u, v] w fun e w' => e = .returned (.bool true) ∧ Ext w w' := by
  obtain ⟨_, a, c, rfl, _, hu⟩ := hu
  obtain ⟨_, a2, c2, rfl, _, hv⟩ := hv
  have HU := Lib.hid hu
  have HV := Lib.hid hv
  clear hu hv
  generalize hln : l.length = n at *
  have HL := Lib.hid hln; clear hln
  have b3 : ((n : Int) != (n : Int)) = false := by simp
  go_enter Try.func35, Try.ntmps35
  go_wp2
  go_loopg [5, 13] n (fun g _ s13 wr => ∃ k : Nat, k ≤ n ∧ n - k ≤ g ∧ s13 = .int .i64 k ∧ Aside (Ext w wr))
  case atStart => exact ⟨0, Nat.zero_le _, by omega, rfl, Ext.rf _⟩
  case round =>
    obtain ⟨k, hk, hg, rfl, HE⟩ := hrel
    by_cases hlt : k < n
    · obtain ⟨b, off, rfl, hb, hc⟩ := HU.out (by intro e; have := HL.out; simp [e] at this; omega)
      obtain ⟨b2, off2, rfl, hb2, hc2⟩ := HV.out (by intro e; have := HL.out; simp [e] at this; omega)
      have hcell : wr.cell? ⟨b, off + k, none⟩ = some (.int .u8 l[k]!) := HE.out.cl (hc k hlt)
      have hcell2 : wr.cell? ⟨b2, off2 + k, none⟩ = some (.int .u8 l[k]!) := HE.out.cl (hc2 k hlt)
      have hltz : (k : Int) < (n : Int) := by omega
      have hkz : (0 : Int) ≤ (k : Int) := by omega
      clear hc hc2
      generalize l[k]! = y at hcell hcell2
      have b4 : (y != y) = false := by simp
      go_wp2
      go_quiet (fail)
      go_wp2
      go_roundg (n - (k + 1))
      case measure => omega
      case rel => exact ⟨k + 1, by omega, by omega, by go_num, HE.out.drN _⟩
    · have hltz : ¬ (k : Int) < (n : Int) := by omega
      go_wp2
      go_ret
      exact ⟨rfl, HE.out⟩

def r0L : List Int := recL []
theorem r0_len : r0L.length = 8 := rec_len []
theorem r0_byte : ∀ x, x ∈ r0L → Byte x := rec_byte (by simp)
theorem r0_records : recordsL r0L = [[]] := by
  have := records_rec [] [] (by simp) (by simp)
  rw [List.append_nil] at this
  rw [show recordsL r0L = recordsL (recL []) from rfl, this, records_none (by unfold nextRec; rw [if_pos (by simp)])]
theorem r7_records : recordsL (r0L.take 7) = [] := records_none (by unfold nextRec; rw [if_pos (by rw [List.length_take, r0_len]; omega)])
theorem app0 : appL [] (-1) [] = r0L := rfl
theorem records_nil : recordsL [] = [] := rfl

theorem bys_nil (w : World) (a : Option Addr) (c : Nat) : Bys w (.slice a 0 c) [] := ⟨by simp, a, c, rfl, Nat.zero_le _, fun h => absurd rfl h⟩

set_option maxHeartbeats 8000000 in
set_option maxRecDepth 100000 in
theorem awake_calls (w : World) : Calls Try.prog 8 #[] w fun e w' => e = .returned (.bool true) ∧ Ext w w' := by
  go_enter Try.func8, Try.ntmps8
  go_wp2_with fail
  refine (new_calls (-1) _).mono ?_
  rw [show newOut (-1) = .tuple #[.agg #[.slice none 0 0, .int .i64 0, .int .i64 (-1)], .int .i64 0] from by simp [newOut]]
  rintro e w1 ⟨rfl, hE1⟩
  have HE1 := Lib.hid hE1; clear hE1
  go_wp2_with fail
  refine (append_ok none 0 [] 0 (-1) none 0 [] _ (bys_nil _ _ _) (by simp) (bys_nil _ _ _) (by simp) (by rfl) (by omega) (by omega)).mono ?_
  rw [app0, records_nil, show (min 0 (((wholeR []) : Nat) : Int)) = 0 from by rfl, show leftF (-1) (recL []) = -1 from by rfl, show crashE (-1) (recL []) = 0 from by rfl]
  rintro e w2 ⟨v2, rfl, hR2, hE2⟩
  rw [r0_len] at hR2
  have hh2 := hE2.hp (heap_alloc_new w1 (.cells #[.slice none 0 0, .int .i64 0, .int .i64 (-1)] 24))
  have hx2 : Ext w1 w2 := ((Ext.rf w1).al _).trans' hE2
  obtain ⟨a2, p2, rfl, hle2, hsh2⟩ := hR2.any
  clear hsh2
  have hz2 := hx2.sz
  have hb2 := hR2.bys r0_byte
  have hlt2 := hR2.far (g := w1.heap.size) (by simp)
  have HR2 := Lib.hid hR2
  have HH2 := Lib.hid hh2
  have HX2 := Lib.hid hx2
  have HB2 := Lib.hid hb2
  have HL2 := Lib.hid hlt2
  have hs2 := hE2.sz
  simp at hs2
  clear hR2 hE2 hh2 hx2 hb2 hlt2
  have c0 := cell_of HH2.out 0
  have c1 := cell_of HH2.out 1
  have c2 := cell_of HH2.out 2
  simp only [List.getElem?_toArray, List.getElem?_cons_zero, List.getElem?_cons_succ] at c0 c1 c2
  have q0 := free_of HH2.out 0
  have q1 := free_of HH2.out 1
  have q2 := free_of HH2.out 2
  go_wp2_with fail
  have hB3 : Bys (((w2.setCell ⟨w1.heap.size, 0, none⟩ (.slice a2 8 p2)).setCell ⟨w1.heap.size, 1, none⟩ (.int .i64 0)).setCell ⟨w1.heap.size, 2, none⟩ (.int .i64 (-1))) (.slice a2 8 p2) r0L :=
    (Row.st3 HR2.out (by simp) _ _ _).bys r0_byte
  have hH3 : (((w2.setCell ⟨w1.heap.size, 0, none⟩ (.slice a2 8 p2)).setCell ⟨w1.heap.size, 1, none⟩ (.int .i64 0)).setCell ⟨w1.heap.size, 2, none⟩ (.int .i64 (-1))).heap[w1.heap.size]? = some (.cells #[.slice a2 8 p2, .int .i64 0, .int .i64 (-1)] 24) := heap3 HH2.out
  have hX3 : Ext w1 (((w2.setCell ⟨w1.heap.size, 0, none⟩ (.slice a2 8 p2)).setCell ⟨w1.heap.size, 1, none⟩ (.int .i64 0)).setCell ⟨w1.heap.size, 2, none⟩ (.int .i64 (-1))) := (by repeat (first | refine Ext.st ?_ (by first | exact Nat.le_refl _ | exact Nat.le_succ _ | assumption | omega) _ | refine Ext.al ?_ _ | refine Ext.dr ?_ | refine Ext.drN ?_ _ | exact HX2.out))
  clear c0 c1 c2 q0 q1 q2
  generalize (((w2.setCell ⟨w1.heap.size, 0, none⟩ (.slice a2 8 p2)).setCell ⟨w1.heap.size, 1, none⟩ (.int .i64 0)).setCell ⟨w1.heap.size, 2, none⟩ (.int .i64 (-1))) = w3 at *
  have HB3 := Lib.hid hB3
  have HH3 := Lib.hid hH3
  have HX3 := Lib.hid hX3
  have hz3 : w1.heap.size < w3.heap.size := (Array.getElem?_eq_some_iff.1 hH3).1
  clear hB3 hH3 hX3 HR2 HH2 HX2 HB2 HL2 hz2 hs2
  refine (crash_ok (.slice a2 8 p2) r0L 0 7 (-1) w3 HB3.out (by rw [r0_len]; omega) (by omega) (by omega) (by rw [r0_len]; rfl)).mono ?_
  rw [r0_len, show crashN 8 0 7 = 7 from rfl]
  rintro e w4 ⟨v4, rfl, hR4, hE4⟩
  obtain ⟨a4, p4, rfl, hle4, hsh4⟩ := hR4.any
  clear hsh4
  have hb4 := hR4.bys (bytes_take r0_byte)
  have HB4 := Lib.hid hb4
  have HE4 := Lib.hid hE4
  have HH4 := Lib.hid (hE4.hp HH3.out)
  have HBJ := Lib.hid (HB3.out.ext hE4)
  have hz4 := hE4.sz
  have hz14 : w1.heap.size < w4.heap.size := by omega
  have hn14 : w1.heap.size ≠ w4.heap.size := by omega
  clear hR4 hb4 hE4
  have c0 := cell_of HH4.out 0
  have c1 := cell_of HH4.out 1
  have c2 := cell_of HH4.out 2
  simp only [List.getElem?_toArray, List.getElem?_cons_zero, List.getElem?_cons_succ] at c0 c1 c2
  go_wp2_with fail
  refine (jread_ok (.slice a2 8 p2) r0L 0 (-1) _ (HBJ.out.ext (by repeat (first | refine Ext.st ?_ (by first | exact Nat.le_refl _ | exact Nat.le_succ _ | assumption | omega) _ | refine Ext.al ?_ _ | refine Ext.dr ?_ | refine Ext.drN ?_ _ | exact Ext.rf _))) (by rw [r0_len]; omega) (by rw [r0_len]; rfl)).mono ?_
  rw [r0_records]
  rintro e w5 ⟨v5, rfl, hR5, hE5⟩
  have hx5 : Ext w4 w5 := ((Ext.rf w4).al _).trans' hE5
  have hn5 : w5.heap[w4.heap.size]? = some (.cells #[.slice a4 7 p4, .int .i64 7, .int .i64 (-1)] 24) := hE5.hp (heap_alloc_new w4 _)
  obtain ⟨vs5, hr5, _⟩ := hR5
  obtain ⟨a5, p5, rfl, hle5, hsh5⟩ := hr5.any
  have HH5 := Lib.hid (hx5.hp HH4.out)
  have HN5 := Lib.hid hn5
  have HB5 := Lib.hid (HB4.out.ext hx5)
  have HBK := Lib.hid (HBJ.out.ext hx5)
  have hz5 := hx5.sz
  have HX5 := Lib.hid hx5
  clear hsh5 hr5 hE5 hx5 hn5 c0 c1 c2
  have c0 := cell_of HN5.out 0
  have c1 := cell_of HN5.out 1
  have c2 := cell_of HN5.out 2
  simp only [List.getElem?_toArray, List.getElem?_cons_zero, List.getElem?_cons_succ] at c0 c1 c2
  go_wp2_with fail
  refine (jread_ok (.slice a4 7 p4) (r0L.take 7) 7 (-1) _ (HB5.out.ext (by repeat (first | refine Ext.st ?_ (by first | exact Nat.le_refl _ | exact Nat.le_succ _ | assumption | omega) _ | refine Ext.al ?_ _ | refine Ext.dr ?_ | refine Ext.drN ?_ _ | exact Ext.rf _))) (by rw [List.length_take, r0_len]; omega) (by rw [List.length_take, r0_len]; rfl)).mono ?_
  rw [r7_records]
  rintro e w6 ⟨v6, rfl, hR6, hE6⟩
  obtain ⟨vs6, hr6, _⟩ := hR6
  obtain ⟨a6, p6, rfl, hle6, hsh6⟩ := hr6.any
  have HH6 := Lib.hid (hE6.hp HH5.out)
  have HN6 := Lib.hid (hE6.hp HN5.out)
  have HBL := Lib.hid (HBK.out.ext hE6)
  have HX6 := Lib.hid (HX5.out.trans' hE6)
  clear hsh6 hr6 hE6 c0 c1 c2
  have c0 := cell_of HH6.out 0
  have c1 := cell_of HH6.out 1
  have c2 := cell_of HH6.out 2
  simp only [List.getElem?_toArray, List.getElem?_cons_zero, List.getElem?_cons_succ] at c0 c1 c2
  have d0 := cell_of HN6.out 0
  have d1 := cell_of HN6.out 1
  have d2 := cell_of HN6.out 2
  simp only [List.getElem?_toArray, List.getElem?_cons_zero, List.getElem?_cons_succ] at d0 d1 d2
  go_wp2_with fail
  go_region_held3 (fun w' => w'.cell? ⟨w1.heap.size, 0, none⟩ = some (.slice a2 8 p2) ∧ w'.cell? ⟨w4.heap.size, 0, none⟩ = some (.slice a4 7 p4)) (go_keep)
    (first
      | (go_at_call 36
         refine (refRecord_calls (.slice none 0 0) [] _ (bys_nil _ _ _) (by simp)).mono ?_
         rintro e wA ⟨vA, rfl, hRA, hEA⟩
         have hxA : Ext w6 wA := Ext.trans' (by repeat (first | refine Ext.st ?_ (by first | exact Nat.le_refl _ | exact Nat.le_succ _ | assumption | omega) _ | refine Ext.al ?_ _ | refine Ext.dr ?_ | refine Ext.drN ?_ _ | exact Ext.rf _)) hEA
         have HRA := Lib.hid (hRA.bys r0_byte)
         have HXA := Lib.hid hxA
         have kA0 := hxA.cl c0
         have kA1 := hxA.cl d0
         clear hRA hEA hxA)
      | (go_at_call 35
         refine (equal_bytes _ _ r0L _ (HBL.out.ext (by repeat (first | refine Ext.st ?_ (by first | exact Nat.le_refl _ | exact Nat.le_succ _ | assumption | omega) _ | refine Ext.al ?_ _ | refine Ext.dr ?_ | refine Ext.drN ?_ _ | exact HXA.out))) (HRA.out.ext (by repeat (first | refine Ext.st ?_ (by first | exact Nat.le_refl _ | exact Nat.le_succ _ | assumption | omega) _ | refine Ext.al ?_ _ | refine Ext.dr ?_ | refine Ext.drN ?_ _ | exact Ext.rf _))) (by rw [r0_len]; omega)).mono ?_
         rintro e wB ⟨rfl, hEB⟩
         have HXB := Lib.hid (show Ext w6 wB from Ext.trans' (by repeat (first | refine Ext.st ?_ (by first | exact Nat.le_refl _ | exact Nat.le_succ _ | assumption | omega) _ | refine Ext.al ?_ _ | refine Ext.dr ?_ | refine Ext.drN ?_ _ | exact HXA.out)) hEB)
         have kB0 := HXB.out.cl c0
         have kB1 := HXB.out.cl d0
         clear hEB))
  all_goals (go_wp2; go_ret)
  all_goals (have HE9 := Lib.hid (HE1.out.trans' (HX3.out.trans' (HE4.out.trans' (HX6.out.trans' HXB.out)))); exact ⟨rfl, (by repeat (first | refine Ext.st ?_ (by first | exact Nat.le_refl _ | exact Nat.le_succ _ | assumption | omega) _ | refine Ext.al ?_ _ | refine Ext.dr ?_ | refine Ext.drN ?_ _ | exact HE9.out))⟩)

theorem enters_8 : ∀ args w, (callFunc 8 args).run Try.prog w = .ok (.enter 8 args) w := enters_of Try.func8 (by kernel_rfl) rfl

def fitsB (n : Nat) : Bool := decide (n ≤ 3000 ∨ (163840 < n ∧ n < 163940))
set_option maxHeartbeats 4000000 in
theorem fits_calls (a : Option Addr) (n c : Nat) (d f : Int) (w : World) (hn : n ≤ 9223372036854775807) :
    Calls Try.prog 9 #[.agg #[.slice a n c, .int .i64 d, .int .i64 f]] w fun e w' => e = .returned (.bool (fitsB n)) ∧ Ext w w' := by
  by_cases h1 : (n : Int) ≤ 3000
  · have b1 : decide ((n : Int) ≤ 3000) = true := by simpa using h1
    have hf : fitsB n = true := by simp [fitsB]; omega
    rw [hf]
    go_enter Try.func9, Try.ntmps9
    go_wp2
    go_ret
    exact ⟨rfl, (by repeat (first | refine Ext.st ?_ (by first | exact Nat.le_refl _ | exact Nat.le_succ _ | assumption | omega) _ | refine Ext.al ?_ _ | refine Ext.dr ?_ | refine Ext.drN ?_ _ | exact Ext.rf _))⟩
  · have b1 : decide ((n : Int) ≤ 3000) = false := by simpa using h1
    by_cases h2 : 163840 < (n : Int)
    · have b2 : decide (163840 < (n : Int)) = true := by simpa using h2
      by_cases h3 : (n : Int) < 163940
      · have b3 : decide ((n : Int) < 163940) = true := by simpa using h3
        have hf : fitsB n = true := by simp [fitsB]; omega
        rw [hf]
        go_enter Try.func9, Try.ntmps9
        go_wp2
        go_ret
        exact ⟨rfl, (by repeat (first | refine Ext.st ?_ (by first | exact Nat.le_refl _ | exact Nat.le_succ _ | assumption | omega) _ | refine Ext.al ?_ _ | refine Ext.dr ?_ | refine Ext.drN ?_ _ | exact Ext.rf _))⟩
      · have b3 : decide ((n : Int) < 163940) = false := by simpa using h3
        have hf : fitsB n = false := by simp [fitsB]; omega
        rw [hf]
        go_enter Try.func9, Try.ntmps9
        go_wp2
        go_ret
        exact ⟨rfl, (by repeat (first | refine Ext.st ?_ (by first | exact Nat.le_refl _ | exact Nat.le_succ _ | assumption | omega) _ | refine Ext.al ?_ _ | refine Ext.dr ?_ | refine Ext.drN ?_ _ | exact Ext.rf _))⟩
    · have b2 : decide (163840 < (n : Int)) = false := by simpa using h2
      have hf : fitsB n = false := by simp [fitsB]; omega
      rw [hf]
      go_enter Try.func9, Try.ntmps9
      go_wp2
      go_ret
      exact ⟨rfl, (by repeat (first | refine Ext.st ?_ (by first | exact Nat.le_refl _ | exact Nat.le_succ _ | assumption | omega) _ | refine Ext.al ?_ _ | refine Ext.dr ?_ | refine Ext.drN ?_ _ | exact Ext.rf _))⟩

end Go.Proofs.Ytggofkaakccoeaa
