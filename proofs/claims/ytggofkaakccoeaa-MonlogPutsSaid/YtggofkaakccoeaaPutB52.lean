import Derived.Test.YtggofkaakccoeaaBase
import Derived.Test.YtggofkaakccoeaaProg
import Derived.Test.YtggofkaakccoeaaStamp52
import Derived.Test.YtggofkaakccoeaaAppsL52
import Derived.Test.YtggofkaakccoeaaBoxG
import Derived.Test.YtggofkaakccoeaaTail
import Derived.Test.YtggofkaakccoeaaOpensL52
import Derived.BigQuiet
import Derived.Deep.QuietTactic
import Derived.Deep.LoopGhost
import Derived.Shelf.Abstract
/-
  The reference's Put.
-/
namespace Go.Proofs.Ytggofkaakccoeaa
open Go.RowKit
set_option linter.unusedVariables false
attribute [local go_sem ↓] Go.wp_at_zero Go.wp_at_succ

theorem enters_30 : ∀ args w, (callFunc 30 args).run Try.prog w = .ok (.enter 30 args) w := enters_of Try.func30 (by kernel_rfl) rfl
theorem enters_24 : ∀ args w, (callFunc 24 args).run Try.prog w = .ok (.enter 24 args) w := enters_of Try.func24 (by kernel_rfl) rfl


set_option maxHeartbeats 4000000 in
set_option maxRecDepth 100000 in
theorem putR_invalid (a : Option Addr) (n c : Nat) (d f p : Int) (u : Value) (w : World) (hn : n ≤ 9223372036854775807) (hval : validJ n d f = false) :
    Calls Try.prog 32 #[.agg #[.slice a n c, .int .i64 d, .int .i64 f], .int .i64 p, u] w fun e w' => JOut w w' e [] 0 0 1 := by
  have HVAL := Lib.hid hval
  go_enter Try.func32, Try.ntmps32
  go_wp2_with fail
  refine (refValid_calls _ _ _ _ _ _ (by omega)).mono ?_
  rw [HVAL.out]
  rintro e w1 ⟨rfl, hE1⟩
  obtain ⟨hb1, hb2, hb3, hb4⟩ := two_boxes hE1
  have HE1 := Lib.hid hE1
  have HB1 := Lib.hid hb1
  have HB2 := Lib.hid hb2
  have HB4 := Lib.hid hb4
  have hsz1 : w.heap.size + 2 ≤ w1.heap.size := by have := hE1.sz; simp at this; omega
  clear hb1 hb2 hb4 hE1
  have r0 := cell_of HB2.out 0
  have r1 := cell_of HB2.out 1
  have r2 := cell_of HB2.out 2
  simp only [List.getElem?_toArray, List.getElem?_cons_zero, List.getElem?_cons_succ] at r0 r1 r2
  have q0 := free_of HB2.out 0
  have q1 := free_of HB2.out 1
  have q2 := free_of HB2.out 2
  go_wp2
  refine bodyPost_ret (v := .tuple #[.agg #[.slice none 0 0, .int .i64 0, .int .i64 0], .int .i64 1]) (by simp [results, Try.results32, go_sem, r0, r1, r2]) rfl ⟨_, rfl, Row.mkNil _ _ _ _, (by repeat (first | refine Ext.st ?_ (by first | exact Nat.le_refl _ | exact Nat.le_succ _ | assumption | omega) _ | refine Ext.al ?_ _ | refine Ext.dr ?_ | refine Ext.drN ?_ _ | exact HB4.out))⟩

theorem any_succ52 (vs : List Int) (k : Nat) (h : k < vs.length) : (vs.take (k + 1)).any outS = ((vs.take k).any outS || outS vs[k]!) := by
  rw [take_snoc' vs k h, List.any_append]; simp


set_option maxHeartbeats 8000000 in
set_option maxRecDepth 100000 in
theorem putR_range (a : Option Addr) (n c : Nat) (d f p : Int) (u : Value) (vs : List Int) (w : World) (hn : n ≤ 9223372036854775807) (hval : validJ n d f = true) (hvs : Ints w u vs) (hvn : vs.length ≤ 100000) (h : p < 0 ∨ 8 ≤ p ∨ 8 < vs.length ∨ vs.any outS = true) :
    Calls Try.prog 32 #[.agg #[.slice a n c, .int .i64 d, .int .i64 f], .int .i64 p, u] w fun e w' => JOut w w' e [] 0 0 2 := by
  have HVAL := Lib.hid hval
  obtain ⟨va, vc, rfl, _, hvx⟩ := hvs
  have HVX := Lib.hid hvx
  generalize hqv : vs.length = q at *
  have HQ := Lib.hid hqv
  clear hvx hval hqv
  by_cases h1 : p < 0
  · have b1 : decide (p < 0) = true := by simpa using h1
    clear h
    go_enter Try.func32, Try.ntmps32
    go_wp2_with fail
    refine (refValid_calls _ _ _ _ _ _ (by omega)).mono ?_
    rw [HVAL.out]
    rintro e w1 ⟨rfl, hE1⟩
    obtain ⟨hb1, hb2, hb3, hb4⟩ := two_boxes hE1
    have HE1 := Lib.hid hE1
    have HB1 := Lib.hid hb1
    have HB2 := Lib.hid hb2
    have HB4 := Lib.hid hb4
    have hsz1 : w.heap.size + 2 ≤ w1.heap.size := by have := hE1.sz; simp at this; omega
    clear hb1 hb2 hb4 hE1
    go_wp2
    go_loopg [8, 9] q (fun g s8 s9 wr => ∃ k : Nat, k ≤ q ∧ q - k ≤ g ∧ s9 = .int .i64 k ∧ s8 = .bool true ∧ wr = w1)
    case atStart => exact ⟨0, Nat.zero_le _, by omega, rfl, rfl, rfl⟩
    case round =>
      obtain ⟨k, hk, hg, rfl, rfl, rfl⟩ := hrel
      by_cases hlt : k < q
      · have hltz : (k : Int) < (q : Int) := by omega
        go_wp2
        go_roundg (q - (k + 1))
        case measure => omega
        case rel => exact ⟨k + 1, by omega, by omega, by go_num, rfl, rfl⟩
      · have hltz : ¬ (k : Int) < (q : Int) := by omega
        have r0 := cell_of HB2.out 0
        have r1 := cell_of HB2.out 1
        have r2 := cell_of HB2.out 2
        simp only [List.getElem?_toArray, List.getElem?_cons_zero, List.getElem?_cons_succ] at r0 r1 r2
        have q0 := free_of HB2.out 0
        have q1 := free_of HB2.out 1
        have q2 := free_of HB2.out 2
        go_wp2
        refine bodyPost_ret (v := .tuple #[.agg #[.slice none 0 0, .int .i64 0, .int .i64 0], .int .i64 2]) (by simp [results, Try.results32, go_sem, r0, r1, r2]) rfl ⟨_, rfl, Row.mkNil _ _ _ _, (by repeat (first | refine Ext.st ?_ (by first | exact Nat.le_refl _ | exact Nat.le_succ _ | assumption | omega) _ | refine Ext.al ?_ _ | refine Ext.dr ?_ | refine Ext.drN ?_ _ | exact HB4.out))⟩
  have b1 : decide (p < 0) = false := by simpa using h1
  by_cases h2 : 8 ≤ p
  · have b2 : decide (8 ≤ p) = true := by simpa using h2
    clear h
    go_enter Try.func32, Try.ntmps32
    go_wp2_with fail
    refine (refValid_calls _ _ _ _ _ _ (by omega)).mono ?_
    rw [HVAL.out]
    rintro e w1 ⟨rfl, hE1⟩
    obtain ⟨hb1, hb2, hb3, hb4⟩ := two_boxes hE1
    have HE1 := Lib.hid hE1
    have HB1 := Lib.hid hb1
    have HB2 := Lib.hid hb2
    have HB4 := Lib.hid hb4
    have hsz1 : w.heap.size + 2 ≤ w1.heap.size := by have := hE1.sz; simp at this; omega
    clear hb1 hb2 hb4 hE1
    go_wp2
    go_loopg [8, 9] q (fun g s8 s9 wr => ∃ k : Nat, k ≤ q ∧ q - k ≤ g ∧ s9 = .int .i64 k ∧ s8 = .bool true ∧ wr = w1)
    case atStart => exact ⟨0, Nat.zero_le _, by omega, rfl, rfl, rfl⟩
    case round =>
      obtain ⟨k, hk, hg, rfl, rfl, rfl⟩ := hrel
      by_cases hlt : k < q
      · have hltz : (k : Int) < (q : Int) := by omega
        go_wp2
        go_roundg (q - (k + 1))
        case measure => omega
        case rel => exact ⟨k + 1, by omega, by omega, by go_num, rfl, rfl⟩
      · have hltz : ¬ (k : Int) < (q : Int) := by omega
        have r0 := cell_of HB2.out 0
        have r1 := cell_of HB2.out 1
        have r2 := cell_of HB2.out 2
        simp only [List.getElem?_toArray, List.getElem?_cons_zero, List.getElem?_cons_succ] at r0 r1 r2
        have q0 := free_of HB2.out 0
        have q1 := free_of HB2.out 1
        have q2 := free_of HB2.out 2
        go_wp2
        refine bodyPost_ret (v := .tuple #[.agg #[.slice none 0 0, .int .i64 0, .int .i64 0], .int .i64 2]) (by simp [results, Try.results32, go_sem, r0, r1, r2]) rfl ⟨_, rfl, Row.mkNil _ _ _ _, (by repeat (first | refine Ext.st ?_ (by first | exact Nat.le_refl _ | exact Nat.le_succ _ | assumption | omega) _ | refine Ext.al ?_ _ | refine Ext.dr ?_ | refine Ext.drN ?_ _ | exact HB4.out))⟩
  have b2 : decide (8 ≤ p) = false := by simpa using h2
  by_cases h3 : 8 < q
  · have b3 : decide (8 < (q : Int)) = true := by simp; omega
    have b3n : decide (8 < q) = true := by simp; omega
    clear h
    go_enter Try.func32, Try.ntmps32
    go_wp2_with fail
    refine (refValid_calls _ _ _ _ _ _ (by omega)).mono ?_
    rw [HVAL.out]
    rintro e w1 ⟨rfl, hE1⟩
    obtain ⟨hb1, hb2, hb3, hb4⟩ := two_boxes hE1
    have HE1 := Lib.hid hE1
    have HB1 := Lib.hid hb1
    have HB2 := Lib.hid hb2
    have HB4 := Lib.hid hb4
    have hsz1 : w.heap.size + 2 ≤ w1.heap.size := by have := hE1.sz; simp at this; omega
    clear hb1 hb2 hb4 hE1
    go_wp2
    go_loopg [8, 9] q (fun g s8 s9 wr => ∃ k : Nat, k ≤ q ∧ q - k ≤ g ∧ s9 = .int .i64 k ∧ s8 = .bool true ∧ wr = w1)
    case atStart => exact ⟨0, Nat.zero_le _, by omega, rfl, rfl, rfl⟩
    case round =>
      obtain ⟨k, hk, hg, rfl, rfl, rfl⟩ := hrel
      by_cases hlt : k < q
      · have hltz : (k : Int) < (q : Int) := by omega
        go_wp2
        go_roundg (q - (k + 1))
        case measure => omega
        case rel => exact ⟨k + 1, by omega, by omega, by go_num, rfl, rfl⟩
      · have hltz : ¬ (k : Int) < (q : Int) := by omega
        have r0 := cell_of HB2.out 0
        have r1 := cell_of HB2.out 1
        have r2 := cell_of HB2.out 2
        simp only [List.getElem?_toArray, List.getElem?_cons_zero, List.getElem?_cons_succ] at r0 r1 r2
        have q0 := free_of HB2.out 0
        have q1 := free_of HB2.out 1
        have q2 := free_of HB2.out 2
        go_wp2
        refine bodyPost_ret (v := .tuple #[.agg #[.slice none 0 0, .int .i64 0, .int .i64 0], .int .i64 2]) (by simp [results, Try.results32, go_sem, r0, r1, r2]) rfl ⟨_, rfl, Row.mkNil _ _ _ _, (by repeat (first | refine Ext.st ?_ (by first | exact Nat.le_refl _ | exact Nat.le_succ _ | assumption | omega) _ | refine Ext.al ?_ _ | refine Ext.dr ?_ | refine Ext.drN ?_ _ | exact HB4.out))⟩
  have b3 : decide (8 < (q : Int)) = false := by simp; omega
  have b3n : decide (8 < q) = false := by simp; omega
  have hany : vs.any outS = true := by rcases h with h | h | h | h <;> first | omega | exact h
  have HANY := Lib.hid hany
  clear h hany
  go_enter Try.func32, Try.ntmps32
  go_wp2_with fail
  refine (refValid_calls _ _ _ _ _ _ (by omega)).mono ?_
  rw [HVAL.out]
  rintro e w1 ⟨rfl, hE1⟩
  obtain ⟨hb1, hb2, hb3, hb4⟩ := two_boxes hE1
  have HE1 := Lib.hid hE1
  have HB1 := Lib.hid hb1
  have HB2 := Lib.hid hb2
  have HB4 := Lib.hid hb4
  have hsz1 : w.heap.size + 2 ≤ w1.heap.size := by have := hE1.sz; simp at this; omega
  clear hb1 hb2 hb4 hE1
  go_wp2
  go_loopg [8, 9] q (fun g s8 s9 wr => ∃ k : Nat, k ≤ q ∧ q - k ≤ g ∧ s9 = .int .i64 k ∧ s8 = .bool ((vs.take k).any outS) ∧ wr = w1)
  case atStart => exact ⟨0, Nat.zero_le _, by omega, rfl, rfl, rfl⟩
  case round =>
    obtain ⟨k, hk, hg, rfl, rfl, rfl⟩ := hrel
    by_cases hlt : k < q
    · have hltz : (k : Int) < (q : Int) := by omega
      have hkz : (0 : Int) ≤ (k : Int) := by omega
      obtain ⟨b, off, rfl, hb, hc⟩ := HVX.out (by intro e; have := HQ.out; simp [e] at this; omega)
      have hcell : wr.cell? ⟨b, off + k, none⟩ = some (.int .i64 vs[k]!) := HB4.out.cl (hc k hlt)
      have SA := Lib.hid (any_succ52 vs k (by rw [HQ.out]; exact hlt))
      clear hc
      generalize vs[k]! = x at *
      cases hacc : (vs.take k).any outS with
      | true =>
        have HAC := Lib.hid hacc
        clear hacc
        go_wp2
        go_roundg (q - (k + 1))
        case measure => omega
        case rel => exact ⟨k + 1, by omega, by omega, by go_num, by rw [SA.out, HAC.out]; rfl, rfl⟩
      | false =>
        have HAC := Lib.hid hacc
        clear hacc
        by_cases h1 : x < 0
        · have c1 : decide (x < 0) = true := by simpa using h1
          go_wp2
          go_roundg (q - (k + 1))
          case measure => omega
          case rel => exact ⟨k + 1, by omega, by omega, by go_num, by rw [SA.out, HAC.out, outS, decide_eq_true (show x < 0 by omega)]; rfl, rfl⟩
        · have c1 : decide (x < 0) = false := by simpa using h1
          by_cases h2 : 64 < x
          · have c2 : decide (64 < x) = true := by simpa using h2
            go_wp2
            go_roundg (q - (k + 1))
            case measure => omega
            case rel => exact ⟨k + 1, by omega, by omega, by go_num, by rw [SA.out, HAC.out, outS, decide_eq_false (show ¬ x < 0 by omega), decide_eq_true (show 64 < x by omega)]; rfl, rfl⟩
          · have c2 : decide (64 < x) = false := by simpa using h2
            go_wp2
            go_roundg (q - (k + 1))
            case measure => omega
            case rel => exact ⟨k + 1, by omega, by omega, by go_num, by rw [SA.out, HAC.out, outS, decide_eq_false (show ¬ x < 0 by omega), decide_eq_false (show ¬ 64 < x by omega)]; rfl, rfl⟩
    · have hltz : ¬ (k : Int) < (q : Int) := by omega
      obtain rfl : q = k := by omega
      have hta : (vs.take q).any outS = vs.any outS := by rw [List.take_of_length_le (by rw [HQ.out]; omega)]
      rw [hta, HANY.out]
      clear hta
      have r0 := cell_of HB2.out 0
      have r1 := cell_of HB2.out 1
      have r2 := cell_of HB2.out 2
      simp only [List.getElem?_toArray, List.getElem?_cons_zero, List.getElem?_cons_succ] at r0 r1 r2
      have q0 := free_of HB2.out 0
      have q1 := free_of HB2.out 1
      have q2 := free_of HB2.out 2
      go_wp2
      refine bodyPost_ret (v := .tuple #[.agg #[.slice none 0 0, .int .i64 0, .int .i64 0], .int .i64 2]) (by simp [results, Try.results32, go_sem, r0, r1, r2]) rfl ⟨_, rfl, Row.mkNil _ _ _ _, (by repeat (first | refine Ext.st ?_ (by first | exact Nat.le_refl _ | exact Nat.le_succ _ | assumption | omega) _ | refine Ext.al ?_ _ | refine Ext.dr ?_ | refine Ext.drN ?_ _ | exact HB4.out))⟩

theorem Row.stO3 {w : World} {K base : Nat} {e : TypeId} {size : Nat} {v x y z : Value} {n : Nat} {xs : List Value} (h : Row w base e size v n xs) (hb : w.heap[K]? = some (.cells #[x, y, z] 24)) (hne : 24 ≠ e) (a b c : Value) :
    Row (((w.setCell ⟨K, 0, none⟩ a).setCell ⟨K, 1, none⟩ b).setCell ⟨K, 2, none⟩ c) base e size v n xs := by
  have hn := h.notBox hb hne
  exact ((h.st (p := ⟨K, 0, none⟩) hn a).st (p := ⟨K, 1, none⟩) hn b).st (p := ⟨K, 2, none⟩) hn c
theorem ext3 {w W : World} {K : Nat} (h : Ext w W) (hK : w.heap.size ≤ K) (a b c : Value) : Ext w (((W.setCell ⟨K, 0, none⟩ a).setCell ⟨K, 1, none⟩ b).setCell ⟨K, 2, none⟩ c) :=
  ((h.st (p := ⟨K, 0, none⟩) hK a).st (p := ⟨K, 1, none⟩) hK b).st (p := ⟨K, 2, none⟩) hK c




set_option maxHeartbeats 16000000 in
set_option maxRecDepth 100000 in
theorem putR_stop (a : Option Addr) (c : Nat) (l : List Int) (d f p : Int) (u : Value) (vs : List Int) (w : World) (JL : List Int) (JD JA JE : Int) (hv : Bys w (.slice a l.length c) l) (hn : l.length ≤ 1000000) (hval : validJ l.length d f = true) (hvs : Ints w u vs) (hp0 : 0 ≤ p) (hp1 : p < 8) (hvn : vs.length ≤ 8) (hany : vs.any outS = false)
    (happ : ∀ W, Ext w W → ∀ u, Bys W u (stampL p vs) → Calls Try.prog 24 #[.agg #[.slice a l.length c, .int .i64 d, .int .i64 f], u] W fun e w' => JOut W w' e JL JD JA JE) (hJE : JE ≠ 0) :
    Calls Try.prog 32 #[.agg #[.slice a l.length c, .int .i64 d, .int .i64 f], .int .i64 p, u] w fun e w' => JOut w w' e JL JD JA JE := by
  have bE : (JE != 0) = true := by simpa using hJE
  have HVAL := Lib.hid hval
  have HV := Lib.hid hv
  have HVS := Lib.hid hvs
  have HANY := Lib.hid hany
  have HSTB := Lib.hid (stampL_byte (p := p) (v := vs) ⟨hp0, by omega⟩ (by omega))
  have hst := fun W (hW : Ext w W) => stamp_calls p u vs W (hvs.ext hW) hp0 hp1 hvn hany
  obtain ⟨va, vc, rfl, _, hvx⟩ := hvs
  have HVX := Lib.hid hvx
  generalize hqv : vs.length = q at *
  have HQ := Lib.hid hqv
  generalize hlm : l.length = m at *
  have HM := Lib.hid hlm
  have HST := Lib.hid hst
  have HAPP0 := Lib.hid happ
  clear hvx hval hqv hany hv hlm hst happ
  have b1 : decide (p < 0) = false := by simpa using hp0
  have b2 : decide (8 ≤ p) = false := by simp; omega
  have b3 : decide (8 < (q : Int)) = false := by simp; omega
  have b3n : decide (8 < q) = false := by simp; omega
  go_enter Try.func32, Try.ntmps32
  go_wp2_with fail
  refine (refValid_calls _ _ _ _ _ _ (by omega)).mono ?_
  rw [HVAL.out]
  rintro e w1 ⟨rfl, hE1⟩
  obtain ⟨hb1, hb2, hb3, hb4⟩ := two_boxes hE1
  have HE1 := Lib.hid hE1
  have HB1 := Lib.hid hb1
  have HB2 := Lib.hid hb2
  have HB4 := Lib.hid hb4
  have hsz1 : w.heap.size + 2 ≤ w1.heap.size := by have := hE1.sz; simp at this; omega
  clear hb1 hb2 hb4 hE1
  go_wp2
  go_loopg [8, 9] q (fun g s8 s9 wr => ∃ k : Nat, k ≤ q ∧ q - k ≤ g ∧ s9 = .int .i64 k ∧ s8 = .bool ((vs.take k).any outS) ∧ wr = w1)
  case atStart => exact ⟨0, Nat.zero_le _, by omega, rfl, rfl, rfl⟩
  case round =>
    obtain ⟨k, hk, hg, rfl, rfl, rfl⟩ := hrel
    by_cases hlt : k < q
    · have hltz : (k : Int) < (q : Int) := by omega
      have hkz : (0 : Int) ≤ (k : Int) := by omega
      obtain ⟨b, off, rfl, hb, hc⟩ := HVX.out (by intro e; have := HQ.out; simp [e] at this; omega)
      have hcell : wr.cell? ⟨b, off + k, none⟩ = some (.int .i64 vs[k]!) := HB4.out.cl (hc k hlt)
      have SA := Lib.hid (any_succ52 vs k (by rw [HQ.out]; exact hlt))
      clear hc
      generalize vs[k]! = x at *
      cases hacc : (vs.take k).any outS with
      | true =>
        have HAC := Lib.hid hacc
        clear hacc
        go_wp2
        go_roundg (q - (k + 1))
        case measure => omega
        case rel => exact ⟨k + 1, by omega, by omega, by go_num, by rw [SA.out, HAC.out]; rfl, rfl⟩
      | false =>
        have HAC := Lib.hid hacc
        clear hacc
        by_cases h1 : x < 0
        · have c1 : decide (x < 0) = true := by simpa using h1
          go_wp2
          go_roundg (q - (k + 1))
          case measure => omega
          case rel => exact ⟨k + 1, by omega, by omega, by go_num, by rw [SA.out, HAC.out, outS, decide_eq_true (show x < 0 by omega)]; rfl, rfl⟩
        · have c1 : decide (x < 0) = false := by simpa using h1
          by_cases h2 : 64 < x
          · have c2 : decide (64 < x) = true := by simpa using h2
            go_wp2
            go_roundg (q - (k + 1))
            case measure => omega
            case rel => exact ⟨k + 1, by omega, by omega, by go_num, by rw [SA.out, HAC.out, outS, decide_eq_false (show ¬ x < 0 by omega), decide_eq_true (show 64 < x by omega)]; rfl, rfl⟩
          · have c2 : decide (64 < x) = false := by simpa using h2
            go_wp2
            go_roundg (q - (k + 1))
            case measure => omega
            case rel => exact ⟨k + 1, by omega, by omega, by go_num, by rw [SA.out, HAC.out, outS, decide_eq_false (show ¬ x < 0 by omega), decide_eq_false (show ¬ 64 < x by omega)]; rfl, rfl⟩
    · have hltz : ¬ (k : Int) < (q : Int) := by omega
      obtain rfl : q = k := by omega
      have hta : (vs.take q).any outS = vs.any outS := by rw [List.take_of_length_le (by rw [HQ.out]; omega)]
      rw [hta, HANY.out]
      clear hta
      obtain ⟨w1, rfl⟩ : ∃ x, x = wr := ⟨_, rfl⟩
      go_upto_region 10 with (fail)
      go_cut [10, 11] (fun s10 s11 wx => ∃ (K : Nat) (vJ : Value), s10 = .pointer (some ⟨K, 0, none⟩) ∧ s11 = .int .i64 JE ∧ Aside (wx.heap[K]? = some (.cells #[vJ, .int .i64 JD, .int .i64 JA] 24)) ∧ Aside (Row wx w1.heap.size 5 1 vJ JL.length (JL.map (Value.int .u8))) ∧ Aside (Ext w1 wx) ∧ w1.heap.size ≤ K)
      case first =>
        have HSTC := Lib.hid (fun W (hW : Ext w1 W) => HST.out W (HB4.out.trans' hW))
        have HAPP := Lib.hid (fun W (hW : Ext w1 W) => HAPP0.out W (HB4.out.trans' hW))
        have j0 := cell_of HB1.out 0
        have j1 := cell_of HB1.out 1
        have j2 := cell_of HB1.out 2
        simp only [List.getElem?_toArray, List.getElem?_cons_zero, List.getElem?_cons_succ] at j0 j1 j2
        have HET := Lib.hid (show Ext w1 w1.drew from (Ext.rf w1).dr)
        refine wp_region_tail (fun w' => w'.cell? ⟨w.heap.size, 0, none⟩ = some (.slice a m c) ∧ w'.cell? ⟨w.heap.size, 1, none⟩ = some (.int .i64 d) ∧ w'.cell? ⟨w.heap.size, 2, none⟩ = some (.int .i64 f)) 10 (by kernel_rfl) ?_ (fun hHeld => ?_)
        · exact ⟨HET.out.cl j0, HET.out.cl j1, HET.out.cl j2⟩
        generalize w1.drew = wT0 at *
        refine wpAnyT_take (i := 0) (d := some 51) (v := ?_) rfl rfl (by kernel_rfl) (by kernel_rfl) (by kernel_rfl) (by kernel_rfl) (fun _ _ _ h => h) (Or.inl ⟨by rfl, ?_⟩) (by assumption) ?_
        rotate_left
        · (intro w hSw; (try dsimp only at hSw); go_simp; try (with_reducible rfl))
        try simp only [Act.put]
        try simp only [List.setIfInBounds_toArray]
        try simp only [List.set_cons_zero, List.set_cons_succ]
        refine wpAnyT_take (i := 1) (d := some 52) (v := ?_) rfl rfl (by kernel_rfl) (by kernel_rfl) (by kernel_rfl) (by kernel_rfl) (fun _ _ _ h => h) (Or.inl ⟨by rfl, ?_⟩) (by assumption) ?_
        rotate_left
        · (intro w hSw; (try dsimp only at hSw); go_simp; try (with_reducible rfl))
        try simp only [Act.put]
        try simp only [List.setIfInBounds_toArray]
        try simp only [List.set_cons_zero, List.set_cons_succ]
        refine wpAnyT_take (i := 2) (d := some 53) (v := ?_) rfl rfl (by kernel_rfl) (by kernel_rfl) (by kernel_rfl) (by kernel_rfl) (fun _ _ _ h => h) (Or.inl ⟨by rfl, ?_⟩) (by assumption) ?_
        rotate_left
        · (intro w hSw; (try dsimp only at hSw); go_simp; try (with_reducible rfl))
        try simp only [Act.put]
        try simp only [List.setIfInBounds_toArray]
        try simp only [List.set_cons_zero, List.set_cons_succ]
        refine wpAnyT_ready (rs := [3, 8]) (by kernel_rfl) (by simp) ?_
        refine AllT.cons (i := 3) rfl (fun K hK => ?_) ?_
        · refine step_call rfl 30 _ _ rfl enters_30 [.int .i64 p, .slice va q vc] (by first | rfl | kernel_rfl | go_simp) (HSTC.out wT0 HET.out) ?_
          rintro e wT1 ⟨vS, rfl, hRS, hE⟩
          obtain ⟨sa, sc, rfl, hsac, hsh⟩ := hRS.any
          clear hsh
          have HET := Lib.hid (HET.out.trans' hE)
          clear hE
          have RS := Lib.hid hRS
          clear hRS
          refine ⟨_, rfl, ?_⟩
          refine hK.out _ _ ?_ (fun hHeld => ?_)
          · exact ⟨HET.out.cl j0, HET.out.cl j1, HET.out.cl j2⟩
          clear hK K
          try simp only [Act.put]
          try simp only [List.setIfInBounds_toArray]
          try simp only [List.set_cons_zero, List.set_cons_succ]
          refine wpAnyT_ready (rs := [4, 8]) (by kernel_rfl) (by simp) ?_
          refine AllT.cons (i := 4) rfl (fun K hK => ?_) ?_
          · refine step_call rfl 24 _ _ rfl enters_24 [.agg #[.slice a m c, .int .i64 d, .int .i64 f], .slice sa (2 + 8 * q) sc] (by first | rfl | kernel_rfl | go_simp) (HAPP.out wT1 HET.out _ (by have := RS.out.bys HSTB.out; exact this)) ?_
            rintro e wT2 ⟨vJ, rfl, hRJ0, hE⟩
            obtain ⟨ja, jc, rfl, hjc, hsh⟩ := hRJ0.any
            have hRJ := hRJ0.mono HET.out.sz
            clear hsh hRJ0
            have HET := Lib.hid (HET.out.trans' hE)
            clear hE
            have RJ := Lib.hid hRJ
            clear hRJ
            refine ⟨_, rfl, ?_⟩
            refine hK.out _ _ ?_ (fun hHeld => ?_)
            · exact ⟨HET.out.cl j0, HET.out.cl j1, HET.out.cl j2⟩
            clear hK K
            try simp only [Act.put]
            try simp only [List.setIfInBounds_toArray]
            try simp only [List.set_cons_zero, List.set_cons_succ]
            refine wpAnyT_take (i := 5) (d := some 50) (v := ?_) rfl rfl (by kernel_rfl) (by kernel_rfl) (by kernel_rfl) (by kernel_rfl) (fun _ _ _ h => h) (Or.inl ⟨by rfl, ?_⟩) (by assumption) ?_
            rotate_left
            · (intro w hSw; (try dsimp only at hSw); go_simp; try (with_reducible rfl))
            try simp only [Act.put]
            try simp only [List.setIfInBounds_toArray]
            try simp only [List.set_cons_zero, List.set_cons_succ]
            refine wpAnyT_take (i := 6) (d := some 56) (v := ?_) rfl rfl (by kernel_rfl) (by kernel_rfl) (by kernel_rfl) (by kernel_rfl) (fun _ _ _ h => h) (Or.inl ⟨by rfl, ?_⟩) (by assumption) ?_
            rotate_left
            · (intro w hSw; (try dsimp only at hSw); go_simp; try (with_reducible rfl))
            try simp only [Act.put]
            try simp only [List.setIfInBounds_toArray]
            try simp only [List.set_cons_zero, List.set_cons_succ]
            refine wpAnyT_take (i := 7) (d := some 57) (v := ?_) rfl rfl (by kernel_rfl) (by kernel_rfl) (by kernel_rfl) (by kernel_rfl) (fun _ _ _ h => h) (Or.inl ⟨by rfl, ?_⟩) (by assumption) ?_
            rotate_left
            · (intro w hSw; (try dsimp only at hSw); go_simp; try (with_reducible rfl))
            try simp only [Act.put]
            try simp only [List.setIfInBounds_toArray]
            try simp only [List.set_cons_zero, List.set_cons_succ]
            refine wpAnyT_step (i := 8) (by kernel_rfl) rfl (fun K hK => ?_)
            go_simp
            have hXB := heap_alloc_new wT2 (.cells #[.slice none 0 0, .int .i64 0, .int .i64 0] 24)
            have hXb : w1.heap.size ≤ wT2.heap.size := HET.out.sz
            have hRJ := RJ.out.ext ((Ext.rf wT2).al (.cells #[.slice none 0 0, .int .i64 0, .int .i64 0] 24))
            have hE2 := HET.out.al (.cells #[.slice none 0 0, .int .i64 0, .int .i64 0] 24)
            generalize wT2.alloc (.cells #[.slice none 0 0, .int .i64 0, .int .i64 0] 24) = wT3 at *
            have HET := Lib.hid hE2
            clear hE2
            have RJ := Lib.hid hRJ
            clear hRJ
            have XB := Lib.hid hXB
            clear hXB
            refine hK.out _ _ ?_ (fun hHeld => ?_)
            · exact ⟨HET.out.cl j0, HET.out.cl j1, HET.out.cl j2⟩
            clear hK K
            try simp only [Act.put]
            try simp only [List.setIfInBounds_toArray]
            try simp only [List.set_cons_zero, List.set_cons_succ]
            have z0 := cell_of XB.out 0
            have z1 := cell_of XB.out 1
            have z2 := cell_of XB.out 2
            simp only [List.getElem?_toArray, List.getElem?_cons_zero, List.getElem?_cons_succ] at z0 z1 z2
            have y0 := free_of XB.out 0
            have y1 := free_of XB.out 1
            have y2 := free_of XB.out 2
            have hXB2 := heap3 (x' := .slice ja JL.length jc) (y' := .int .i64 JD) (z' := .int .i64 JA) XB.out
            have hRJ2 := RJ.out.stO3 XB.out (by decide) (.slice ja JL.length jc) (.int .i64 JD) (.int .i64 JA)
            have hE2 := ext3 HET.out hXb (.slice ja JL.length jc) (.int .i64 JD) (.int .i64 JA)
            refine wpAnyT_step (i := 9) (by kernel_rfl) rfl (fun K hK => ?_)
            go_simp
            refine hK.out _ _ ?_ (fun hHeld => ?_)
            · exact ⟨hE2.cl j0, hE2.cl j1, hE2.cl j2⟩
            clear hK K
            try simp only [Act.put]
            try simp only [List.setIfInBounds_toArray]
            try simp only [List.set_cons_zero, List.set_cons_succ]
            refine wpAnyT_last (by kernel_rfl) rfl (by kernel_rfl) (fun K hK => ?_)
            go_simp
            refine hK.out _ _ ?_
            go_wp2_with fail
            go_meet
            exact ⟨_, _, rfl, rfl, hXB2, hRJ2, hE2, hXb⟩
          refine AllT.cons (i := 8) rfl (fun K hK => ?_) ?_
          · go_simp
            have hXB := heap_alloc_new wT1 (.cells #[.slice none 0 0, .int .i64 0, .int .i64 0] 24)
            have hXb : w1.heap.size ≤ wT1.heap.size := HET.out.sz
            have hRS := RS.out.ext ((Ext.rf wT1).al (.cells #[.slice none 0 0, .int .i64 0, .int .i64 0] 24))
            have hE2 := HET.out.al (.cells #[.slice none 0 0, .int .i64 0, .int .i64 0] 24)
            generalize wT1.alloc (.cells #[.slice none 0 0, .int .i64 0, .int .i64 0] 24) = wT4 at *
            have HET := Lib.hid hE2
            clear hE2
            have RS := Lib.hid hRS
            clear hRS
            have XB := Lib.hid hXB
            clear hXB
            refine hK.out _ _ ?_ (fun hHeld => ?_)
            · exact ⟨HET.out.cl j0, HET.out.cl j1, HET.out.cl j2⟩
            clear hK K
            try simp only [Act.put]
            try simp only [List.setIfInBounds_toArray]
            try simp only [List.set_cons_zero, List.set_cons_succ]
            refine wpAnyT_step (i := 4) (by kernel_rfl) rfl (fun K hK => ?_)
            refine step_call rfl 24 _ _ rfl enters_24 [.agg #[.slice a m c, .int .i64 d, .int .i64 f], .slice sa (2 + 8 * q) sc] (by first | rfl | kernel_rfl | go_simp) (HAPP.out wT4 HET.out _ (by have := RS.out.bys HSTB.out; exact this)) ?_
            rintro e wT5 ⟨vJ, rfl, hRJ0, hE⟩
            obtain ⟨ja, jc, rfl, hjc, hsh⟩ := hRJ0.any
            have hRJ := hRJ0.mono HET.out.sz
            clear hsh hRJ0
            have hXB := (hE).hp XB.out
            have HET := Lib.hid (HET.out.trans' hE)
            clear hE
            have XB := Lib.hid hXB
            clear hXB
            have RJ := Lib.hid hRJ
            clear hRJ
            refine ⟨_, rfl, ?_⟩
            refine hK.out _ _ ?_ (fun hHeld => ?_)
            · exact ⟨HET.out.cl j0, HET.out.cl j1, HET.out.cl j2⟩
            clear hK K
            try simp only [Act.put]
            try simp only [List.setIfInBounds_toArray]
            try simp only [List.set_cons_zero, List.set_cons_succ]
            refine wpAnyT_take (i := 5) (d := some 50) (v := ?_) rfl rfl (by kernel_rfl) (by kernel_rfl) (by kernel_rfl) (by kernel_rfl) (fun _ _ _ h => h) (Or.inl ⟨by rfl, ?_⟩) (by assumption) ?_
            rotate_left
            · (intro w hSw; (try dsimp only at hSw); go_simp; try (with_reducible rfl))
            try simp only [Act.put]
            try simp only [List.setIfInBounds_toArray]
            try simp only [List.set_cons_zero, List.set_cons_succ]
            refine wpAnyT_take (i := 6) (d := some 56) (v := ?_) rfl rfl (by kernel_rfl) (by kernel_rfl) (by kernel_rfl) (by kernel_rfl) (fun _ _ _ h => h) (Or.inl ⟨by rfl, ?_⟩) (by assumption) ?_
            rotate_left
            · (intro w hSw; (try dsimp only at hSw); go_simp; try (with_reducible rfl))
            try simp only [Act.put]
            try simp only [List.setIfInBounds_toArray]
            try simp only [List.set_cons_zero, List.set_cons_succ]
            refine wpAnyT_take (i := 7) (d := some 57) (v := ?_) rfl rfl (by kernel_rfl) (by kernel_rfl) (by kernel_rfl) (by kernel_rfl) (fun _ _ _ h => h) (Or.inl ⟨by rfl, ?_⟩) (by assumption) ?_
            rotate_left
            · (intro w hSw; (try dsimp only at hSw); go_simp; try (with_reducible rfl))
            try simp only [Act.put]
            try simp only [List.setIfInBounds_toArray]
            try simp only [List.set_cons_zero, List.set_cons_succ]
            have z0 := cell_of XB.out 0
            have z1 := cell_of XB.out 1
            have z2 := cell_of XB.out 2
            simp only [List.getElem?_toArray, List.getElem?_cons_zero, List.getElem?_cons_succ] at z0 z1 z2
            have y0 := free_of XB.out 0
            have y1 := free_of XB.out 1
            have y2 := free_of XB.out 2
            have hXB2 := heap3 (x' := .slice ja JL.length jc) (y' := .int .i64 JD) (z' := .int .i64 JA) XB.out
            have hRJ2 := RJ.out.stO3 XB.out (by decide) (.slice ja JL.length jc) (.int .i64 JD) (.int .i64 JA)
            have hE2 := ext3 HET.out hXb (.slice ja JL.length jc) (.int .i64 JD) (.int .i64 JA)
            refine wpAnyT_step (i := 9) (by kernel_rfl) rfl (fun K hK => ?_)
            go_simp
            refine hK.out _ _ ?_ (fun hHeld => ?_)
            · exact ⟨hE2.cl j0, hE2.cl j1, hE2.cl j2⟩
            clear hK K
            try simp only [Act.put]
            try simp only [List.setIfInBounds_toArray]
            try simp only [List.set_cons_zero, List.set_cons_succ]
            refine wpAnyT_last (by kernel_rfl) rfl (by kernel_rfl) (fun K hK => ?_)
            go_simp
            refine hK.out _ _ ?_
            go_wp2_with fail
            go_meet
            exact ⟨_, _, rfl, rfl, hXB2, hRJ2, hE2, hXb⟩
          exact AllT.nil
        refine AllT.cons (i := 8) rfl (fun K hK => ?_) ?_
        · go_simp
          have hXB := heap_alloc_new wT0 (.cells #[.slice none 0 0, .int .i64 0, .int .i64 0] 24)
          have hXb : w1.heap.size ≤ wT0.heap.size := HET.out.sz
          have hE2 := HET.out.al (.cells #[.slice none 0 0, .int .i64 0, .int .i64 0] 24)
          generalize wT0.alloc (.cells #[.slice none 0 0, .int .i64 0, .int .i64 0] 24) = wT6 at *
          have HET := Lib.hid hE2
          clear hE2
          have XB := Lib.hid hXB
          clear hXB
          refine hK.out _ _ ?_ (fun hHeld => ?_)
          · exact ⟨HET.out.cl j0, HET.out.cl j1, HET.out.cl j2⟩
          clear hK K
          try simp only [Act.put]
          try simp only [List.setIfInBounds_toArray]
          try simp only [List.set_cons_zero, List.set_cons_succ]
          refine wpAnyT_step (i := 3) (by kernel_rfl) rfl (fun K hK => ?_)
          refine step_call rfl 30 _ _ rfl enters_30 [.int .i64 p, .slice va q vc] (by first | rfl | kernel_rfl | go_simp) (HSTC.out wT6 HET.out) ?_
          rintro e wT7 ⟨vS, rfl, hRS, hE⟩
          obtain ⟨sa, sc, rfl, hsac, hsh⟩ := hRS.any
          clear hsh
          have hXB := (hE).hp XB.out
          have HET := Lib.hid (HET.out.trans' hE)
          clear hE
          have XB := Lib.hid hXB
          clear hXB
          have RS := Lib.hid hRS
          clear hRS
          refine ⟨_, rfl, ?_⟩
          refine hK.out _ _ ?_ (fun hHeld => ?_)
          · exact ⟨HET.out.cl j0, HET.out.cl j1, HET.out.cl j2⟩
          clear hK K
          try simp only [Act.put]
          try simp only [List.setIfInBounds_toArray]
          try simp only [List.set_cons_zero, List.set_cons_succ]
          refine wpAnyT_step (i := 4) (by kernel_rfl) rfl (fun K hK => ?_)
          refine step_call rfl 24 _ _ rfl enters_24 [.agg #[.slice a m c, .int .i64 d, .int .i64 f], .slice sa (2 + 8 * q) sc] (by first | rfl | kernel_rfl | go_simp) (HAPP.out wT7 HET.out _ (by have := RS.out.bys HSTB.out; exact this)) ?_
          rintro e wT8 ⟨vJ, rfl, hRJ0, hE⟩
          obtain ⟨ja, jc, rfl, hjc, hsh⟩ := hRJ0.any
          have hRJ := hRJ0.mono HET.out.sz
          clear hsh hRJ0
          have hXB := (hE).hp XB.out
          have HET := Lib.hid (HET.out.trans' hE)
          clear hE
          have XB := Lib.hid hXB
          clear hXB
          have RJ := Lib.hid hRJ
          clear hRJ
          refine ⟨_, rfl, ?_⟩
          refine hK.out _ _ ?_ (fun hHeld => ?_)
          · exact ⟨HET.out.cl j0, HET.out.cl j1, HET.out.cl j2⟩
          clear hK K
          try simp only [Act.put]
          try simp only [List.setIfInBounds_toArray]
          try simp only [List.set_cons_zero, List.set_cons_succ]
          refine wpAnyT_take (i := 5) (d := some 50) (v := ?_) rfl rfl (by kernel_rfl) (by kernel_rfl) (by kernel_rfl) (by kernel_rfl) (fun _ _ _ h => h) (Or.inl ⟨by rfl, ?_⟩) (by assumption) ?_
          rotate_left
          · (intro w hSw; (try dsimp only at hSw); go_simp; try (with_reducible rfl))
          try simp only [Act.put]
          try simp only [List.setIfInBounds_toArray]
          try simp only [List.set_cons_zero, List.set_cons_succ]
          refine wpAnyT_take (i := 6) (d := some 56) (v := ?_) rfl rfl (by kernel_rfl) (by kernel_rfl) (by kernel_rfl) (by kernel_rfl) (fun _ _ _ h => h) (Or.inl ⟨by rfl, ?_⟩) (by assumption) ?_
          rotate_left
          · (intro w hSw; (try dsimp only at hSw); go_simp; try (with_reducible rfl))
          try simp only [Act.put]
          try simp only [List.setIfInBounds_toArray]
          try simp only [List.set_cons_zero, List.set_cons_succ]
          refine wpAnyT_take (i := 7) (d := some 57) (v := ?_) rfl rfl (by kernel_rfl) (by kernel_rfl) (by kernel_rfl) (by kernel_rfl) (fun _ _ _ h => h) (Or.inl ⟨by rfl, ?_⟩) (by assumption) ?_
          rotate_left
          · (intro w hSw; (try dsimp only at hSw); go_simp; try (with_reducible rfl))
          try simp only [Act.put]
          try simp only [List.setIfInBounds_toArray]
          try simp only [List.set_cons_zero, List.set_cons_succ]
          have z0 := cell_of XB.out 0
          have z1 := cell_of XB.out 1
          have z2 := cell_of XB.out 2
          simp only [List.getElem?_toArray, List.getElem?_cons_zero, List.getElem?_cons_succ] at z0 z1 z2
          have y0 := free_of XB.out 0
          have y1 := free_of XB.out 1
          have y2 := free_of XB.out 2
          have hXB2 := heap3 (x' := .slice ja JL.length jc) (y' := .int .i64 JD) (z' := .int .i64 JA) XB.out
          have hRJ2 := RJ.out.stO3 XB.out (by decide) (.slice ja JL.length jc) (.int .i64 JD) (.int .i64 JA)
          have hE2 := ext3 HET.out hXb (.slice ja JL.length jc) (.int .i64 JD) (.int .i64 JA)
          refine wpAnyT_step (i := 9) (by kernel_rfl) rfl (fun K hK => ?_)
          go_simp
          refine hK.out _ _ ?_ (fun hHeld => ?_)
          · exact ⟨hE2.cl j0, hE2.cl j1, hE2.cl j2⟩
          clear hK K
          try simp only [Act.put]
          try simp only [List.setIfInBounds_toArray]
          try simp only [List.set_cons_zero, List.set_cons_succ]
          refine wpAnyT_last (by kernel_rfl) rfl (by kernel_rfl) (fun K hK => ?_)
          go_simp
          refine hK.out _ _ ?_
          go_wp2_with fail
          go_meet
          exact ⟨_, _, rfl, rfl, hXB2, hRJ2, hE2, hXb⟩
        exact AllT.nil
      case rest =>
        obtain ⟨K, vJ, rfl, rfl, HXJ, HRJ, HEX, hKb⟩ := hcut
        obtain ⟨ja, jc, rfl, hjc, hsh⟩ := HRJ.out.any
        clear hsh
        have HBR := Lib.hid (HEX.out.hp HB2.out)
        have HEF := Lib.hid (HB4.out.trans' HEX.out)
        have hszx := HEX.out.sz
        have hKs := (Array.getElem?_eq_some_iff.1 HXJ.out).1
        have z0 := cell_of HXJ.out 0
        have z1 := cell_of HXJ.out 1
        have z2 := cell_of HXJ.out 2
        simp only [List.getElem?_toArray, List.getElem?_cons_zero, List.getElem?_cons_succ] at z0 z1 z2
        have r0 := cell_of HBR.out 0
        have r1 := cell_of HBR.out 1
        have r2 := cell_of HBR.out 2
        simp only [List.getElem?_toArray, List.getElem?_cons_zero, List.getElem?_cons_succ] at r0 r1 r2
        have y0 := free_of HBR.out 0
        have y1 := free_of HBR.out 1
        have y2 := free_of HBR.out 2
        go_wp2
        refine bodyPost_ret (v := .tuple #[.agg #[.slice ja JL.length jc, .int .i64 JD, .int .i64 JA], .int .i64 JE]) (by simp [results, Try.results32, go_sem, r0, r1, r2]) rfl ⟨_, rfl, (HRJ.out.stO3 HBR.out (by decide) _ _ _).mono (by omega), ext3 HEF.out (by omega) _ _ _⟩


set_option maxHeartbeats 16000000 in
set_option maxRecDepth 100000 in
theorem putR_sync (a : Option Addr) (c : Nat) (l : List Int) (d f p : Int) (u : Value) (vs : List Int) (w : World) (JL : List Int) (JD JA JE : Int) (hv : Bys w (.slice a l.length c) l) (hn : l.length ≤ 1000000) (hval : validJ l.length d f = true) (hvs : Ints w u vs) (hp0 : 0 ≤ p) (hp1 : p < 8) (hvn : vs.length ≤ 8) (hany : vs.any outS = false)
    (happ : ∀ W, Ext w W → ∀ u, Bys W u (stampL p vs) → Calls Try.prog 24 #[.agg #[.slice a l.length c, .int .i64 d, .int .i64 f], u] W fun e w' => JOut W w' e JL JD JA JE) (hJE : JE = 0) (hjb : ∀ x, x ∈ JL → Byte x) (hJn : JL.length ≤ 1000000) (hjv : validJ JL.length JD JA = true) :
    Calls Try.prog 32 #[.agg #[.slice a l.length c, .int .i64 d, .int .i64 f], .int .i64 p, u] w fun e w' => JOut w w' e JL (if JA = 0 then JD else (JL.length : Int)) JA (if JA = 0 then 19 else 0) := by
  have bE : (JE != 0) = false := by simpa using hJE
  have HJB := Lib.hid hjb
  have HJV := Lib.hid hjv
  generalize hjd : (if JA = 0 then JD else (JL.length : Int)) = jd
  generalize hje : (if JA = 0 then (19 : Int) else 0) = je
  have HJD := Lib.hid hjd
  have HJE := Lib.hid hje
  clear hjb hjv hJE hjd hje
  have HVAL := Lib.hid hval
  have HV := Lib.hid hv
  have HVS := Lib.hid hvs
  have HANY := Lib.hid hany
  have HSTB := Lib.hid (stampL_byte (p := p) (v := vs) ⟨hp0, by omega⟩ (by omega))
  have hst := fun W (hW : Ext w W) => stamp_calls p u vs W (hvs.ext hW) hp0 hp1 hvn hany
  obtain ⟨va, vc, rfl, _, hvx⟩ := hvs
  have HVX := Lib.hid hvx
  generalize hqv : vs.length = q at *
  have HQ := Lib.hid hqv
  generalize hlm : l.length = m at *
  have HM := Lib.hid hlm
  have HST := Lib.hid hst
  have HAPP0 := Lib.hid happ
  clear hvx hval hqv hany hv hlm hst happ
  have b1 : decide (p < 0) = false := by simpa using hp0
  have b2 : decide (8 ≤ p) = false := by simp; omega
  have b3 : decide (8 < (q : Int)) = false := by simp; omega
  have b3n : decide (8 < q) = false := by simp; omega
  go_enter Try.func32, Try.ntmps32
  go_wp2_with fail
  refine (refValid_calls _ _ _ _ _ _ (by omega)).mono ?_
  rw [HVAL.out]
  rintro e w1 ⟨rfl, hE1⟩
  obtain ⟨hb1, hb2, hb3, hb4⟩ := two_boxes hE1
  have HE1 := Lib.hid hE1
  have HB1 := Lib.hid hb1
  have HB2 := Lib.hid hb2
  have HB4 := Lib.hid hb4
  have hsz1 : w.heap.size + 2 ≤ w1.heap.size := by have := hE1.sz; simp at this; omega
  clear hb1 hb2 hb4 hE1
  go_wp2
  go_loopg [8, 9] q (fun g s8 s9 wr => ∃ k : Nat, k ≤ q ∧ q - k ≤ g ∧ s9 = .int .i64 k ∧ s8 = .bool ((vs.take k).any outS) ∧ wr = w1)
  case atStart => exact ⟨0, Nat.zero_le _, by omega, rfl, rfl, rfl⟩
  case round =>
    obtain ⟨k, hk, hg, rfl, rfl, rfl⟩ := hrel
    by_cases hlt : k < q
    · have hltz : (k : Int) < (q : Int) := by omega
      have hkz : (0 : Int) ≤ (k : Int) := by omega
      obtain ⟨b, off, rfl, hb, hc⟩ := HVX.out (by intro e; have := HQ.out; simp [e] at this; omega)
      have hcell : wr.cell? ⟨b, off + k, none⟩ = some (.int .i64 vs[k]!) := HB4.out.cl (hc k hlt)
      have SA := Lib.hid (any_succ52 vs k (by rw [HQ.out]; exact hlt))
      clear hc
      generalize vs[k]! = x at *
      cases hacc : (vs.take k).any outS with
      | true =>
        have HAC := Lib.hid hacc
        clear hacc
        go_wp2
        go_roundg (q - (k + 1))
        case measure => omega
        case rel => exact ⟨k + 1, by omega, by omega, by go_num, by rw [SA.out, HAC.out]; rfl, rfl⟩
      | false =>
        have HAC := Lib.hid hacc
        clear hacc
        by_cases h1 : x < 0
        · have c1 : decide (x < 0) = true := by simpa using h1
          go_wp2
          go_roundg (q - (k + 1))
          case measure => omega
          case rel => exact ⟨k + 1, by omega, by omega, by go_num, by rw [SA.out, HAC.out, outS, decide_eq_true (show x < 0 by omega)]; rfl, rfl⟩
        · have c1 : decide (x < 0) = false := by simpa using h1
          by_cases h2 : 64 < x
          · have c2 : decide (64 < x) = true := by simpa using h2
            go_wp2
            go_roundg (q - (k + 1))
            case measure => omega
            case rel => exact ⟨k + 1, by omega, by omega, by go_num, by rw [SA.out, HAC.out, outS, decide_eq_false (show ¬ x < 0 by omega), decide_eq_true (show 64 < x by omega)]; rfl, rfl⟩
          · have c2 : decide (64 < x) = false := by simpa using h2
            go_wp2
            go_roundg (q - (k + 1))
            case measure => omega
            case rel => exact ⟨k + 1, by omega, by omega, by go_num, by rw [SA.out, HAC.out, outS, decide_eq_false (show ¬ x < 0 by omega), decide_eq_false (show ¬ 64 < x by omega)]; rfl, rfl⟩
    · have hltz : ¬ (k : Int) < (q : Int) := by omega
      obtain rfl : q = k := by omega
      have hta : (vs.take q).any outS = vs.any outS := by rw [List.take_of_length_le (by rw [HQ.out]; omega)]
      rw [hta, HANY.out]
      clear hta
      obtain ⟨w1, rfl⟩ : ∃ x, x = wr := ⟨_, rfl⟩
      go_upto_region 10 with (fail)
      go_cut [10, 11] (fun s10 s11 wx => ∃ (K : Nat) (vJ : Value), s10 = .pointer (some ⟨K, 0, none⟩) ∧ s11 = .int .i64 JE ∧ Aside (wx.heap[K]? = some (.cells #[vJ, .int .i64 JD, .int .i64 JA] 24)) ∧ Aside (Row wx w1.heap.size 5 1 vJ JL.length (JL.map (Value.int .u8))) ∧ Aside (Ext w1 wx) ∧ w1.heap.size ≤ K)
      case first =>
        have HSTC := Lib.hid (fun W (hW : Ext w1 W) => HST.out W (HB4.out.trans' hW))
        have HAPP := Lib.hid (fun W (hW : Ext w1 W) => HAPP0.out W (HB4.out.trans' hW))
        have j0 := cell_of HB1.out 0
        have j1 := cell_of HB1.out 1
        have j2 := cell_of HB1.out 2
        simp only [List.getElem?_toArray, List.getElem?_cons_zero, List.getElem?_cons_succ] at j0 j1 j2
        have HET := Lib.hid (show Ext w1 w1.drew from (Ext.rf w1).dr)
        refine wp_region_tail (fun w' => w'.cell? ⟨w.heap.size, 0, none⟩ = some (.slice a m c) ∧ w'.cell? ⟨w.heap.size, 1, none⟩ = some (.int .i64 d) ∧ w'.cell? ⟨w.heap.size, 2, none⟩ = some (.int .i64 f)) 10 (by kernel_rfl) ?_ (fun hHeld => ?_)
        · exact ⟨HET.out.cl j0, HET.out.cl j1, HET.out.cl j2⟩
        generalize w1.drew = wT0 at *
        refine wpAnyT_take (i := 0) (d := some 51) (v := ?_) rfl rfl (by kernel_rfl) (by kernel_rfl) (by kernel_rfl) (by kernel_rfl) (fun _ _ _ h => h) (Or.inl ⟨by rfl, ?_⟩) (by assumption) ?_
        rotate_left
        · (intro w hSw; (try dsimp only at hSw); go_simp; try (with_reducible rfl))
        try simp only [Act.put]
        try simp only [List.setIfInBounds_toArray]
        try simp only [List.set_cons_zero, List.set_cons_succ]
        refine wpAnyT_take (i := 1) (d := some 52) (v := ?_) rfl rfl (by kernel_rfl) (by kernel_rfl) (by kernel_rfl) (by kernel_rfl) (fun _ _ _ h => h) (Or.inl ⟨by rfl, ?_⟩) (by assumption) ?_
        rotate_left
        · (intro w hSw; (try dsimp only at hSw); go_simp; try (with_reducible rfl))
        try simp only [Act.put]
        try simp only [List.setIfInBounds_toArray]
        try simp only [List.set_cons_zero, List.set_cons_succ]
        refine wpAnyT_take (i := 2) (d := some 53) (v := ?_) rfl rfl (by kernel_rfl) (by kernel_rfl) (by kernel_rfl) (by kernel_rfl) (fun _ _ _ h => h) (Or.inl ⟨by rfl, ?_⟩) (by assumption) ?_
        rotate_left
        · (intro w hSw; (try dsimp only at hSw); go_simp; try (with_reducible rfl))
        try simp only [Act.put]
        try simp only [List.setIfInBounds_toArray]
        try simp only [List.set_cons_zero, List.set_cons_succ]
        refine wpAnyT_ready (rs := [3, 8]) (by kernel_rfl) (by simp) ?_
        refine AllT.cons (i := 3) rfl (fun K hK => ?_) ?_
        · refine step_call rfl 30 _ _ rfl enters_30 [.int .i64 p, .slice va q vc] (by first | rfl | kernel_rfl | go_simp) (HSTC.out wT0 HET.out) ?_
          rintro e wT1 ⟨vS, rfl, hRS, hE⟩
          obtain ⟨sa, sc, rfl, hsac, hsh⟩ := hRS.any
          clear hsh
          have HET := Lib.hid (HET.out.trans' hE)
          clear hE
          have RS := Lib.hid hRS
          clear hRS
          refine ⟨_, rfl, ?_⟩
          refine hK.out _ _ ?_ (fun hHeld => ?_)
          · exact ⟨HET.out.cl j0, HET.out.cl j1, HET.out.cl j2⟩
          clear hK K
          try simp only [Act.put]
          try simp only [List.setIfInBounds_toArray]
          try simp only [List.set_cons_zero, List.set_cons_succ]
          refine wpAnyT_ready (rs := [4, 8]) (by kernel_rfl) (by simp) ?_
          refine AllT.cons (i := 4) rfl (fun K hK => ?_) ?_
          · refine step_call rfl 24 _ _ rfl enters_24 [.agg #[.slice a m c, .int .i64 d, .int .i64 f], .slice sa (2 + 8 * q) sc] (by first | rfl | kernel_rfl | go_simp) (HAPP.out wT1 HET.out _ (by have := RS.out.bys HSTB.out; exact this)) ?_
            rintro e wT2 ⟨vJ, rfl, hRJ0, hE⟩
            obtain ⟨ja, jc, rfl, hjc, hsh⟩ := hRJ0.any
            have hRJ := hRJ0.mono HET.out.sz
            clear hsh hRJ0
            have HET := Lib.hid (HET.out.trans' hE)
            clear hE
            have RJ := Lib.hid hRJ
            clear hRJ
            refine ⟨_, rfl, ?_⟩
            refine hK.out _ _ ?_ (fun hHeld => ?_)
            · exact ⟨HET.out.cl j0, HET.out.cl j1, HET.out.cl j2⟩
            clear hK K
            try simp only [Act.put]
            try simp only [List.setIfInBounds_toArray]
            try simp only [List.set_cons_zero, List.set_cons_succ]
            refine wpAnyT_take (i := 5) (d := some 50) (v := ?_) rfl rfl (by kernel_rfl) (by kernel_rfl) (by kernel_rfl) (by kernel_rfl) (fun _ _ _ h => h) (Or.inl ⟨by rfl, ?_⟩) (by assumption) ?_
            rotate_left
            · (intro w hSw; (try dsimp only at hSw); go_simp; try (with_reducible rfl))
            try simp only [Act.put]
            try simp only [List.setIfInBounds_toArray]
            try simp only [List.set_cons_zero, List.set_cons_succ]
            refine wpAnyT_take (i := 6) (d := some 56) (v := ?_) rfl rfl (by kernel_rfl) (by kernel_rfl) (by kernel_rfl) (by kernel_rfl) (fun _ _ _ h => h) (Or.inl ⟨by rfl, ?_⟩) (by assumption) ?_
            rotate_left
            · (intro w hSw; (try dsimp only at hSw); go_simp; try (with_reducible rfl))
            try simp only [Act.put]
            try simp only [List.setIfInBounds_toArray]
            try simp only [List.set_cons_zero, List.set_cons_succ]
            refine wpAnyT_take (i := 7) (d := some 57) (v := ?_) rfl rfl (by kernel_rfl) (by kernel_rfl) (by kernel_rfl) (by kernel_rfl) (fun _ _ _ h => h) (Or.inl ⟨by rfl, ?_⟩) (by assumption) ?_
            rotate_left
            · (intro w hSw; (try dsimp only at hSw); go_simp; try (with_reducible rfl))
            try simp only [Act.put]
            try simp only [List.setIfInBounds_toArray]
            try simp only [List.set_cons_zero, List.set_cons_succ]
            refine wpAnyT_step (i := 8) (by kernel_rfl) rfl (fun K hK => ?_)
            go_simp
            have hXB := heap_alloc_new wT2 (.cells #[.slice none 0 0, .int .i64 0, .int .i64 0] 24)
            have hXb : w1.heap.size ≤ wT2.heap.size := HET.out.sz
            have hRJ := RJ.out.ext ((Ext.rf wT2).al (.cells #[.slice none 0 0, .int .i64 0, .int .i64 0] 24))
            have hE2 := HET.out.al (.cells #[.slice none 0 0, .int .i64 0, .int .i64 0] 24)
            generalize wT2.alloc (.cells #[.slice none 0 0, .int .i64 0, .int .i64 0] 24) = wT3 at *
            have HET := Lib.hid hE2
            clear hE2
            have RJ := Lib.hid hRJ
            clear hRJ
            have XB := Lib.hid hXB
            clear hXB
            refine hK.out _ _ ?_ (fun hHeld => ?_)
            · exact ⟨HET.out.cl j0, HET.out.cl j1, HET.out.cl j2⟩
            clear hK K
            try simp only [Act.put]
            try simp only [List.setIfInBounds_toArray]
            try simp only [List.set_cons_zero, List.set_cons_succ]
            have z0 := cell_of XB.out 0
            have z1 := cell_of XB.out 1
            have z2 := cell_of XB.out 2
            simp only [List.getElem?_toArray, List.getElem?_cons_zero, List.getElem?_cons_succ] at z0 z1 z2
            have y0 := free_of XB.out 0
            have y1 := free_of XB.out 1
            have y2 := free_of XB.out 2
            have hXB2 := heap3 (x' := .slice ja JL.length jc) (y' := .int .i64 JD) (z' := .int .i64 JA) XB.out
            have hRJ2 := RJ.out.stO3 XB.out (by decide) (.slice ja JL.length jc) (.int .i64 JD) (.int .i64 JA)
            have hE2 := ext3 HET.out hXb (.slice ja JL.length jc) (.int .i64 JD) (.int .i64 JA)
            refine wpAnyT_step (i := 9) (by kernel_rfl) rfl (fun K hK => ?_)
            go_simp
            refine hK.out _ _ ?_ (fun hHeld => ?_)
            · exact ⟨hE2.cl j0, hE2.cl j1, hE2.cl j2⟩
            clear hK K
            try simp only [Act.put]
            try simp only [List.setIfInBounds_toArray]
            try simp only [List.set_cons_zero, List.set_cons_succ]
            refine wpAnyT_last (by kernel_rfl) rfl (by kernel_rfl) (fun K hK => ?_)
            go_simp
            refine hK.out _ _ ?_
            go_wp2_with fail
            go_meet
            exact ⟨_, _, rfl, rfl, hXB2, hRJ2, hE2, hXb⟩
          refine AllT.cons (i := 8) rfl (fun K hK => ?_) ?_
          · go_simp
            have hXB := heap_alloc_new wT1 (.cells #[.slice none 0 0, .int .i64 0, .int .i64 0] 24)
            have hXb : w1.heap.size ≤ wT1.heap.size := HET.out.sz
            have hRS := RS.out.ext ((Ext.rf wT1).al (.cells #[.slice none 0 0, .int .i64 0, .int .i64 0] 24))
            have hE2 := HET.out.al (.cells #[.slice none 0 0, .int .i64 0, .int .i64 0] 24)
            generalize wT1.alloc (.cells #[.slice none 0 0, .int .i64 0, .int .i64 0] 24) = wT4 at *
            have HET := Lib.hid hE2
            clear hE2
            have RS := Lib.hid hRS
            clear hRS
            have XB := Lib.hid hXB
            clear hXB
            refine hK.out _ _ ?_ (fun hHeld => ?_)
            · exact ⟨HET.out.cl j0, HET.out.cl j1, HET.out.cl j2⟩
            clear hK K
            try simp only [Act.put]
            try simp only [List.setIfInBounds_toArray]
            try simp only [List.set_cons_zero, List.set_cons_succ]
            refine wpAnyT_step (i := 4) (by kernel_rfl) rfl (fun K hK => ?_)
            refine step_call rfl 24 _ _ rfl enters_24 [.agg #[.slice a m c, .int .i64 d, .int .i64 f], .slice sa (2 + 8 * q) sc] (by first | rfl | kernel_rfl | go_simp) (HAPP.out wT4 HET.out _ (by have := RS.out.bys HSTB.out; exact this)) ?_
            rintro e wT5 ⟨vJ, rfl, hRJ0, hE⟩
            obtain ⟨ja, jc, rfl, hjc, hsh⟩ := hRJ0.any
            have hRJ := hRJ0.mono HET.out.sz
            clear hsh hRJ0
            have hXB := (hE).hp XB.out
            have HET := Lib.hid (HET.out.trans' hE)
            clear hE
            have XB := Lib.hid hXB
            clear hXB
            have RJ := Lib.hid hRJ
            clear hRJ
            refine ⟨_, rfl, ?_⟩
            refine hK.out _ _ ?_ (fun hHeld => ?_)
            · exact ⟨HET.out.cl j0, HET.out.cl j1, HET.out.cl j2⟩
            clear hK K
            try simp only [Act.put]
            try simp only [List.setIfInBounds_toArray]
            try simp only [List.set_cons_zero, List.set_cons_succ]
            refine wpAnyT_take (i := 5) (d := some 50) (v := ?_) rfl rfl (by kernel_rfl) (by kernel_rfl) (by kernel_rfl) (by kernel_rfl) (fun _ _ _ h => h) (Or.inl ⟨by rfl, ?_⟩) (by assumption) ?_
            rotate_left
            · (intro w hSw; (try dsimp only at hSw); go_simp; try (with_reducible rfl))
            try simp only [Act.put]
            try simp only [List.setIfInBounds_toArray]
            try simp only [List.set_cons_zero, List.set_cons_succ]
            refine wpAnyT_take (i := 6) (d := some 56) (v := ?_) rfl rfl (by kernel_rfl) (by kernel_rfl) (by kernel_rfl) (by kernel_rfl) (fun _ _ _ h => h) (Or.inl ⟨by rfl, ?_⟩) (by assumption) ?_
            rotate_left
            · (intro w hSw; (try dsimp only at hSw); go_simp; try (with_reducible rfl))
            try simp only [Act.put]
            try simp only [List.setIfInBounds_toArray]
            try simp only [List.set_cons_zero, List.set_cons_succ]
            refine wpAnyT_take (i := 7) (d := some 57) (v := ?_) rfl rfl (by kernel_rfl) (by kernel_rfl) (by kernel_rfl) (by kernel_rfl) (fun _ _ _ h => h) (Or.inl ⟨by rfl, ?_⟩) (by assumption) ?_
            rotate_left
            · (intro w hSw; (try dsimp only at hSw); go_simp; try (with_reducible rfl))
            try simp only [Act.put]
            try simp only [List.setIfInBounds_toArray]
            try simp only [List.set_cons_zero, List.set_cons_succ]
            have z0 := cell_of XB.out 0
            have z1 := cell_of XB.out 1
            have z2 := cell_of XB.out 2
            simp only [List.getElem?_toArray, List.getElem?_cons_zero, List.getElem?_cons_succ] at z0 z1 z2
            have y0 := free_of XB.out 0
            have y1 := free_of XB.out 1
            have y2 := free_of XB.out 2
            have hXB2 := heap3 (x' := .slice ja JL.length jc) (y' := .int .i64 JD) (z' := .int .i64 JA) XB.out
            have hRJ2 := RJ.out.stO3 XB.out (by decide) (.slice ja JL.length jc) (.int .i64 JD) (.int .i64 JA)
            have hE2 := ext3 HET.out hXb (.slice ja JL.length jc) (.int .i64 JD) (.int .i64 JA)
            refine wpAnyT_step (i := 9) (by kernel_rfl) rfl (fun K hK => ?_)
            go_simp
            refine hK.out _ _ ?_ (fun hHeld => ?_)
            · exact ⟨hE2.cl j0, hE2.cl j1, hE2.cl j2⟩
            clear hK K
            try simp only [Act.put]
            try simp only [List.setIfInBounds_toArray]
            try simp only [List.set_cons_zero, List.set_cons_succ]
            refine wpAnyT_last (by kernel_rfl) rfl (by kernel_rfl) (fun K hK => ?_)
            go_simp
            refine hK.out _ _ ?_
            go_wp2_with fail
            go_meet
            exact ⟨_, _, rfl, rfl, hXB2, hRJ2, hE2, hXb⟩
          exact AllT.nil
        refine AllT.cons (i := 8) rfl (fun K hK => ?_) ?_
        · go_simp
          have hXB := heap_alloc_new wT0 (.cells #[.slice none 0 0, .int .i64 0, .int .i64 0] 24)
          have hXb : w1.heap.size ≤ wT0.heap.size := HET.out.sz
          have hE2 := HET.out.al (.cells #[.slice none 0 0, .int .i64 0, .int .i64 0] 24)
          generalize wT0.alloc (.cells #[.slice none 0 0, .int .i64 0, .int .i64 0] 24) = wT6 at *
          have HET := Lib.hid hE2
          clear hE2
          have XB := Lib.hid hXB
          clear hXB
          refine hK.out _ _ ?_ (fun hHeld => ?_)
          · exact ⟨HET.out.cl j0, HET.out.cl j1, HET.out.cl j2⟩
          clear hK K
          try simp only [Act.put]
          try simp only [List.setIfInBounds_toArray]
          try simp only [List.set_cons_zero, List.set_cons_succ]
          refine wpAnyT_step (i := 3) (by kernel_rfl) rfl (fun K hK => ?_)
          refine step_call rfl 30 _ _ rfl enters_30 [.int .i64 p, .slice va q vc] (by first | rfl | kernel_rfl | go_simp) (HSTC.out wT6 HET.out) ?_
          rintro e wT7 ⟨vS, rfl, hRS, hE⟩
          obtain ⟨sa, sc, rfl, hsac, hsh⟩ := hRS.any
          clear hsh
          have hXB := (hE).hp XB.out
          have HET := Lib.hid (HET.out.trans' hE)
          clear hE
          have XB := Lib.hid hXB
          clear hXB
          have RS := Lib.hid hRS
          clear hRS
          refine ⟨_, rfl, ?_⟩
          refine hK.out _ _ ?_ (fun hHeld => ?_)
          · exact ⟨HET.out.cl j0, HET.out.cl j1, HET.out.cl j2⟩
          clear hK K
          try simp only [Act.put]
          try simp only [List.setIfInBounds_toArray]
          try simp only [List.set_cons_zero, List.set_cons_succ]
          refine wpAnyT_step (i := 4) (by kernel_rfl) rfl (fun K hK => ?_)
          refine step_call rfl 24 _ _ rfl enters_24 [.agg #[.slice a m c, .int .i64 d, .int .i64 f], .slice sa (2 + 8 * q) sc] (by first | rfl | kernel_rfl | go_simp) (HAPP.out wT7 HET.out _ (by have := RS.out.bys HSTB.out; exact this)) ?_
          rintro e wT8 ⟨vJ, rfl, hRJ0, hE⟩
          obtain ⟨ja, jc, rfl, hjc, hsh⟩ := hRJ0.any
          have hRJ := hRJ0.mono HET.out.sz
          clear hsh hRJ0
          have hXB := (hE).hp XB.out
          have HET := Lib.hid (HET.out.trans' hE)
          clear hE
          have XB := Lib.hid hXB
          clear hXB
          have RJ := Lib.hid hRJ
          clear hRJ
          refine ⟨_, rfl, ?_⟩
          refine hK.out _ _ ?_ (fun hHeld => ?_)
          · exact ⟨HET.out.cl j0, HET.out.cl j1, HET.out.cl j2⟩
          clear hK K
          try simp only [Act.put]
          try simp only [List.setIfInBounds_toArray]
          try simp only [List.set_cons_zero, List.set_cons_succ]
          refine wpAnyT_take (i := 5) (d := some 50) (v := ?_) rfl rfl (by kernel_rfl) (by kernel_rfl) (by kernel_rfl) (by kernel_rfl) (fun _ _ _ h => h) (Or.inl ⟨by rfl, ?_⟩) (by assumption) ?_
          rotate_left
          · (intro w hSw; (try dsimp only at hSw); go_simp; try (with_reducible rfl))
          try simp only [Act.put]
          try simp only [List.setIfInBounds_toArray]
          try simp only [List.set_cons_zero, List.set_cons_succ]
          refine wpAnyT_take (i := 6) (d := some 56) (v := ?_) rfl rfl (by kernel_rfl) (by kernel_rfl) (by kernel_rfl) (by kernel_rfl) (fun _ _ _ h => h) (Or.inl ⟨by rfl, ?_⟩) (by assumption) ?_
          rotate_left
          · (intro w hSw; (try dsimp only at hSw); go_simp; try (with_reducible rfl))
          try simp only [Act.put]
          try simp only [List.setIfInBounds_toArray]
          try simp only [List.set_cons_zero, List.set_cons_succ]
          refine wpAnyT_take (i := 7) (d := some 57) (v := ?_) rfl rfl (by kernel_rfl) (by kernel_rfl) (by kernel_rfl) (by kernel_rfl) (fun _ _ _ h => h) (Or.inl ⟨by rfl, ?_⟩) (by assumption) ?_
          rotate_left
          · (intro w hSw; (try dsimp only at hSw); go_simp; try (with_reducible rfl))
          try simp only [Act.put]
          try simp only [List.setIfInBounds_toArray]
          try simp only [List.set_cons_zero, List.set_cons_succ]
          have z0 := cell_of XB.out 0
          have z1 := cell_of XB.out 1
          have z2 := cell_of XB.out 2
          simp only [List.getElem?_toArray, List.getElem?_cons_zero, List.getElem?_cons_succ] at z0 z1 z2
          have y0 := free_of XB.out 0
          have y1 := free_of XB.out 1
          have y2 := free_of XB.out 2
          have hXB2 := heap3 (x' := .slice ja JL.length jc) (y' := .int .i64 JD) (z' := .int .i64 JA) XB.out
          have hRJ2 := RJ.out.stO3 XB.out (by decide) (.slice ja JL.length jc) (.int .i64 JD) (.int .i64 JA)
          have hE2 := ext3 HET.out hXb (.slice ja JL.length jc) (.int .i64 JD) (.int .i64 JA)
          refine wpAnyT_step (i := 9) (by kernel_rfl) rfl (fun K hK => ?_)
          go_simp
          refine hK.out _ _ ?_ (fun hHeld => ?_)
          · exact ⟨hE2.cl j0, hE2.cl j1, hE2.cl j2⟩
          clear hK K
          try simp only [Act.put]
          try simp only [List.setIfInBounds_toArray]
          try simp only [List.set_cons_zero, List.set_cons_succ]
          refine wpAnyT_last (by kernel_rfl) rfl (by kernel_rfl) (fun K hK => ?_)
          go_simp
          refine hK.out _ _ ?_
          go_wp2_with fail
          go_meet
          exact ⟨_, _, rfl, rfl, hXB2, hRJ2, hE2, hXb⟩
        exact AllT.nil
      case rest =>
        obtain ⟨K, vJ, rfl, rfl, HXJ, HRJ, HEX, hKb⟩ := hcut
        obtain ⟨ja, jc, rfl, hjc, hsh⟩ := HRJ.out.any
        clear hsh
        have HBR := Lib.hid (HEX.out.hp HB2.out)
        have HEF := Lib.hid (HB4.out.trans' HEX.out)
        have hszx := HEX.out.sz
        have hKs := (Array.getElem?_eq_some_iff.1 HXJ.out).1
        have z0 := cell_of HXJ.out 0
        have z1 := cell_of HXJ.out 1
        have z2 := cell_of HXJ.out 2
        simp only [List.getElem?_toArray, List.getElem?_cons_zero, List.getElem?_cons_succ] at z0 z1 z2
        have hsy := refSync_ok (.slice ja JL.length jc) JL JD JA wc (HRJ.out.bys HJB.out) hJn HJV.out
        rw [HJD.out, HJE.out] at hsy
        have HSY := Lib.hid hsy
        clear hsy
        go_wp2_with fail
        refine HSY.out.mono ?_
        rintro e w9 ⟨v9, rfl, hR9, hE9⟩
        obtain ⟨ka, kc, rfl, hkc, hsh⟩ := hR9.any
        have HR9 := Lib.hid hR9
        have HE9 := Lib.hid (HEF.out.trans' hE9)
        have HBR9 := Lib.hid (hE9.hp HBR.out)
        clear hsh hR9 hE9 z0 z1 z2
        have r0 := cell_of HBR9.out 0
        have r1 := cell_of HBR9.out 1
        have r2 := cell_of HBR9.out 2
        simp only [List.getElem?_toArray, List.getElem?_cons_zero, List.getElem?_cons_succ] at r0 r1 r2
        have y0 := free_of HBR9.out 0
        have y1 := free_of HBR9.out 1
        have y2 := free_of HBR9.out 2
        go_wp2
        refine bodyPost_ret (v := .tuple #[.agg #[.slice ka JL.length kc, .int .i64 jd, .int .i64 JA], .int .i64 je]) (by simp [results, Try.results32, go_sem, r0, r1, r2]) rfl ⟨_, rfl, (HR9.out.stO3 HBR9.out (by decide) _ _ _).mono (by omega), ext3 HE9.out (by omega) _ _ _⟩

end Go.Proofs.Ytggofkaakccoeaa

/-
  Put of both texts: the same journal, the same error.
-/
namespace Go.Proofs.Ytggofkaakccoeaa
open Go.RowKit
set_option linter.unusedVariables false

theorem wrote_all {f : Int} {b : List Int} (h : crashF f b = false) : wrote f b = b := by
  simp only [crashF, Bool.and_eq_false_iff, decide_eq_false_iff_not] at h
  unfold wrote
  split
  · rfl
  · rcases h with h | h
    · omega
    · exact List.take_of_length_le (by omega)
theorem app_valid {l : List Int} {d f : Int} {b : List Int} (hl : ∀ x, x ∈ l → Byte x) (hE : checkN l d f b.length = 0) (hc : crashF f (recL b) = false) : validJ (appL l f b).length (min d (wholeR (recordsL l))) (leftF f (recL b)) = true := by
  have hval : validJ l.length d f = true := by
    unfold checkN at hE
    cases h1 : validJ l.length d f <;> simp [h1] at hE ⊢
  have hfull : fullB l b.length = false := by
    unfold checkN at hE
    rw [hval] at hE
    cases h1 : fullB l b.length <;> simp [h1] at hE ⊢
  obtain ⟨h1, h2, h3, h4, h5⟩ := validJ_parts hval
  simp only [fullB, Bool.or_eq_false_iff, decide_eq_false_iff_not] at hfull
  have hw := whole_le' l hl
  have hr := rec_len b
  have hlen : (appL l f b).length = wholeR (recordsL l) + (b.length + 8) := by
    unfold appL
    rw [wrote_all hc, List.length_append, List.length_take, hr, Nat.min_eq_left hw]
  simp only [crashF, Bool.and_eq_false_iff, decide_eq_false_iff_not] at hc
  unfold validJ
  rw [hlen]
  simp only [Bool.and_eq_true, decide_eq_true_eq]
  refine ⟨by omega, by omega, by omega, ?_, ?_⟩
  · unfold leftF
    split
    · omega
    · split <;> omega
  · unfold leftF
    split
    · omega
    · split <;> omega

theorem put_both (v : Value) (l : List Int) (d f p : Int) (u : Value) (vs : List Int) (w : World) (hv : Bys w v l) (hn : l.length ≤ 200000) (hu : Ints w u vs) (hvn : vs.length ≤ 100000) :
    ∃ L D A E, Both w 29 32 #[.agg #[v, .int .i64 d, .int .i64 f], .int .i64 p, u] L D A E := by
  have hv' := hv
  obtain ⟨hlb, a, c, rfl, _, _⟩ := hv
  cases hval : validJ l.length d f with
  | false =>
    exact ⟨[], 0, 0, 1, by simp, by simp, fun W hW => put_invalid a l.length c d f p u W (by omega) hval, fun W hW => putR_invalid a l.length c d f p u W (by omega) hval⟩
  | true =>
    by_cases hr : p < 0 ∨ 8 ≤ p ∨ 8 < vs.length ∨ vs.any outS = true
    · exact ⟨[], 0, 0, 2, by simp, by simp, fun W hW => put_range a l.length c d f p u vs W (by omega) hval (hu.ext hW) hvn hr, fun W hW => putR_range a l.length c d f p u vs W (by omega) hval (hu.ext hW) hvn hr⟩
    · simp only [not_or, Bool.not_eq_true] at hr
      obtain ⟨hp0, hp1, hv8, hany⟩ := hr
      have hsl := stampL_len p vs
      by_cases h0 : checkN l d f (2 + 8 * vs.length) = 0
      · have hp := validJ_parts hval
        have hsb := stampL_byte (p := p) (v := vs) ⟨by omega, by omega⟩ (by omega)
        have hE : checkN l d f (stampL p vs).length = 0 := by rw [hsl]; exact h0
        have happ : ∀ W, Ext w W → ∀ W', Ext W W' → ∀ u, Bys W' u (stampL p vs) → Calls Try.prog 24 #[.agg #[.slice a l.length c, .int .i64 d, .int .i64 f], u] W' fun e w' => JOut W' w' e (appL l f (stampL p vs)) (min d (wholeR (recordsL l))) (leftF f (recL (stampL p vs))) (crashE f (recL (stampL p vs))) := by
          intro W hW W' hW' u hu
          have hu' := hu
          obtain ⟨_, a2, c2, rfl, _, _⟩ := hu
          exact refAppend_ok a c l d f a2 c2 (stampL p vs) W' ((hv'.ext hW).ext hW') (by omega) hu' (by omega) hE hp.2.2.2.1 hp.2.2.2.2
        refine ⟨appL l f (stampL p vs), putD l d f (stampL p vs), leftF f (recL (stampL p vs)), putE f (stampL p vs), appL_byte hlb hsb, by have := appL_len l f (stampL p vs); omega, fun W hW => put_ok a c l d f p u vs W _ (hv'.ext hW) (by omega) hval (hu.ext hW) (by omega) (by omega) (by omega) hany rfl h0, fun W hW => ?_⟩
        cases hc : crashF f (recL (stampL p vs)) with
        | true =>
          have hlf := crash_left hc
          have e1 : putD l d f (stampL p vs) = min d (wholeR (recordsL l)) := by unfold putD; rw [if_pos hlf]
          have e2 : putE f (stampL p vs) = crashE f (recL (stampL p vs)) := by unfold putE crashE; rw [if_pos hlf, hc]; rfl
          rw [e1, e2]
          exact putR_stop a c l d f p u vs W _ _ _ _ (hv'.ext hW) (by omega) hval (hu.ext hW) (by omega) (by omega) (by omega) hany (happ W hW) (by unfold crashE; rw [hc]; decide)
        | false =>
          have hs := putR_sync a c l d f p u vs W _ _ _ _ (hv'.ext hW) (by omega) hval (hu.ext hW) (by omega) (by omega) (by omega) hany (happ W hW) (by unfold crashE; rw [hc]; rfl) (appL_byte hlb hsb) (by have := appL_len l f (stampL p vs); omega) (app_valid hlb hE hc)
          exact hs
      · refine ⟨[], 0, 0, checkN l d f (2 + 8 * vs.length), by simp, by simp, fun W hW => put_full a c l d f p u vs W _ (hv'.ext hW) (by omega) hval (hu.ext hW) (by omega) (by omega) (by omega) hany rfl h0, fun W hW => ?_⟩
        refine putR_stop a c l d f p u vs W [] 0 0 _ (hv'.ext hW) (by omega) hval (hu.ext hW) (by omega) (by omega) (by omega) hany (fun W' hW' u' hu' => ?_) h0
        obtain ⟨_, a2, c2, rfl, _, _⟩ := hu'
        rw [hsl]
        exact (refAppend_bad a c l d f a2 c2 (2 + 8 * vs.length) W' _ ((hv'.ext hW).ext hW') (by omega) (by omega) rfl h0).mono fun e w' ⟨he, hx⟩ => ⟨_, he, Row.mkNil _ _ _ _, hx⟩

end Go.Proofs.Ytggofkaakccoeaa
