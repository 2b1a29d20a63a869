/-
  Journals: New, Valid, Clone, record, and the writer of chapter 52.
-/
import Derived.Test.YtggofkaakccoeaaBase
import Derived.Test.YtggofkaakccoeaaProg
import Derived.BigQuiet
import Derived.Deep.QuietTactic
import Derived.Deep.LoopGhost
import Derived.Shelf.Abstract
import Derived.Test.YtggofkaakccoeaaBytes
import Derived.Test.YtggofkaakccoeaaNum52
import Derived.Test.YtggofkaakccoeaaSum52
import Derived.Test.YtggofkaakccoeaaVal52
namespace Go.Proofs.Ytggofkaakccoeaa
open Go.RowKit
set_option linter.unusedVariables false

theorem info_bytes : (Try.prog.info? 5).map (fun i => (i.zero, i.size, i.bytes)) = some (some (.int .u8 0), 1, 1) := by kernel_rfl

set_option maxHeartbeats 400000 in
theorem clone_bytes (v : Value) (n : Nat) (xs : List Value) (w : World) (hv : CellsAt w v 1 n xs) (h1 : ∀ u ∈ xs, u.oneCell' = true) (hn : n ≤ 1000000) :
    Calls Try.prog 19 #[v] w fun e w' => ∃ v', e = .returned v' ∧ Row w' w.heap.size 5 1 v' n xs ∧ Ext w w' := by
  obtain ⟨i0, hi, hz0, hz1, hz2⟩ := info_parts info_bytes
  obtain ⟨hl, a, c, rfl, hlc, hv⟩ := hv
  have HLC := Lib.hid hlc; clear hlc
  cases a with
  | none =>
    have hn0 : n = 0 := by
      rcases Nat.eq_zero_or_pos n with h | h
      · exact h
      · obtain ⟨_, _, h, _⟩ := hv h; simp at h
    subst hn0
    obtain rfl : xs = [] := List.eq_nil_of_length_eq_zero (by omega)
    clear hv h1 hn hl
    have heq := fun wx => Lib.run_eql_slice_nil (P := Try.prog) wx 22 5 none 0 c 0 0 Try.underlying22
    go_enter Try.func19, Try.ntmps19
    go_wp2
    go_ret
    exact ⟨_, rfl, Row.mkNil _ _ _ _, Ext.rf _⟩
  | some ad =>
    have heq := fun wx => Lib.run_eql_slice_nil (P := Try.prog) wx 22 5 (some ad) n c 0 0 Try.underlying22
    have HV := Lib.hid hv; clear hv
    have H1 := Lib.hid h1; clear h1
    have HL := Lib.hid hl; clear hl
    have hrow : Row (w.alloc (.cells #[] 5)) w.heap.size 5 1 (.slice (some ⟨w.heap.size, 0, none⟩) 0 0) 0 [] :=
      ⟨by simp, .inr ⟨w.heap.size, 0, 0, #[], rfl, Nat.le_refl _, heap_alloc_new w _, Nat.le_refl _, Nat.zero_le _, by simp, by simp⟩⟩
    have HR := Lib.hid hrow; clear hrow
    have hcs : 0 < n → ∃ ad', some ad = some ad' ∧ ∀ j u, xs[j]? = some u → (w.alloc (.cells #[] 5)).cell? (ad'.add j) = some u := by
      intro hp
      obtain ⟨b, off, hab, hb, hc⟩ := HV.out hp
      refine ⟨ad, rfl, fun j u hj => ?_⟩
      simp only [Option.some.injEq] at hab
      subst hab
      have hjl : j < n * 1 := by have := (List.getElem?_eq_some_iff.1 hj).1; rw [HL.out] at this; exact this
      rw [Addr.add_lit]
      exact ((Ext.rf w).al _).cl ((hc j hjl).trans hj)
    have HC := Lib.hid hcs; clear hcs
    go_enter Try.func19, Try.ntmps19
    go_wp2_with ((at_builtin; refine wpList_append_row rfl _ _ 22 rfl w.heap.size 5 i0 (.int .u8 0) 1 1 Try.underlying22 hi hz0 hz1 hz2 rfl (by decide) _ 0 [] rfl HR.out _ n c xs rfl HL.out HC.out H1.out (by unfold maxLen; omega) (by omega) (by simp) ?_; intro v' w1 hown1 hgrow1 hblk))
    go_ret
    exact ⟨_, rfl, by simpa using hown1, ((Ext.rf w).al _).gr hgrow1 (fun k hk => by have e : some w.heap.size = some k := hk; simp at e; omega)⟩

def validJ (n : Nat) (d a : Int) : Bool := decide (n ≤ 163840) && (decide (0 ≤ d) && (decide (d ≤ n) && (decide (-1 ≤ a) && decide (a ≤ 1073741824))))


set_option maxHeartbeats 400000 in
theorem valid_calls (a : Option Addr) (n c : Nat) (d f : Int) (w : World) (hn : n ≤ 9223372036854775807) :
    Calls Try.prog 14 #[.agg #[.slice a n c, .int .i64 d, .int .i64 f]] w fun e w' => e = .returned (.bool (validJ n d f)) ∧ Ext w w' := by
  by_cases h1 : (n : Int) ≤ 163840
  · have b1 : decide ((n : Int) ≤ 163840) = true := by simpa using h1
    by_cases h2 : 0 ≤ d
    · have b2 : decide (0 ≤ d) = true := by simpa using h2
      by_cases h3 : d ≤ n
      · have b3 : decide (d ≤ (n : Int)) = true := by simpa using h3
        by_cases h4 : -1 ≤ f
        · have b4 : decide (-1 ≤ f) = true := by simpa using h4
          by_cases h5 : f ≤ 1073741824
          · have b5 : decide (f ≤ 1073741824) = true := by simpa using h5
            go_enter Try.func14, Try.ntmps14
            go_wp2
            go_ret
            exact ⟨by unfold validJ; simp only [*] <;> simp <;> omega, (Ext.rf w).al _⟩
          · have b5 : decide (f ≤ 1073741824) = false := by simpa using h5
            go_enter Try.func14, Try.ntmps14
            go_wp2
            go_ret
            exact ⟨by unfold validJ; simp only [*] <;> simp <;> omega, (Ext.rf w).al _⟩
        · have b4 : decide (-1 ≤ f) = false := by simpa using h4
          go_enter Try.func14, Try.ntmps14
          go_wp2
          go_ret
          exact ⟨by unfold validJ; simp only [*] <;> simp <;> omega, (Ext.rf w).al _⟩
      · have b3 : decide (d ≤ (n : Int)) = false := by simpa using h3
        go_enter Try.func14, Try.ntmps14
        go_wp2
        go_ret
        exact ⟨by unfold validJ; simp only [*] <;> simp <;> omega, (Ext.rf w).al _⟩
    · have b2 : decide (0 ≤ d) = false := by simpa using h2
      go_enter Try.func14, Try.ntmps14
      go_wp2
      go_ret
      exact ⟨by unfold validJ; simp only [*] <;> simp <;> omega, (Ext.rf w).al _⟩
  · have b1 : decide ((n : Int) ≤ 163840) = false := by simpa using h1
    go_enter Try.func14, Try.ntmps14
    go_wp2
    go_ret
    exact ⟨by unfold validJ; simp only [*] <;> simp <;> omega, (Ext.rf w).al _⟩
set_option maxHeartbeats 400000 in
theorem refValid_calls (a : Option Addr) (n c : Nat) (d f : Int) (w : World) (hn : n ≤ 9223372036854775807) :
    Calls Try.prog 13 #[.agg #[.slice a n c, .int .i64 d, .int .i64 f]] w fun e w' => e = .returned (.bool (validJ n d f)) ∧ Ext w w' := by
  by_cases h1 : (n : Int) ≤ 163840
  · have b1 : decide ((n : Int) ≤ 163840) = true := by simpa using h1
    by_cases h2 : 0 ≤ d
    · have b2 : decide (0 ≤ d) = true := by simpa using h2
      by_cases h3 : d ≤ n
      · have b3 : decide (d ≤ (n : Int)) = true := by simpa using h3
        by_cases h4 : -1 ≤ f
        · have b4 : decide (-1 ≤ f) = true := by simpa using h4
          by_cases h5 : f ≤ 1073741824
          · have b5 : decide (f ≤ 1073741824) = true := by simpa using h5
            go_enter Try.func13, Try.ntmps13
            go_wp2
            go_ret
            exact ⟨by unfold validJ; simp only [*] <;> simp <;> omega, (Ext.rf w).al _⟩
          · have b5 : decide (f ≤ 1073741824) = false := by simpa using h5
            go_enter Try.func13, Try.ntmps13
            go_wp2
            go_ret
            exact ⟨by unfold validJ; simp only [*] <;> simp <;> omega, (Ext.rf w).al _⟩
        · have b4 : decide (-1 ≤ f) = false := by simpa using h4
          go_enter Try.func13, Try.ntmps13
          go_wp2
          go_ret
          exact ⟨by unfold validJ; simp only [*] <;> simp <;> omega, (Ext.rf w).al _⟩
      · have b3 : decide (d ≤ (n : Int)) = false := by simpa using h3
        go_enter Try.func13, Try.ntmps13
        go_wp2
        go_ret
        exact ⟨by unfold validJ; simp only [*] <;> simp <;> omega, (Ext.rf w).al _⟩
    · have b2 : decide (0 ≤ d) = false := by simpa using h2
      go_enter Try.func13, Try.ntmps13
      go_wp2
      go_ret
      exact ⟨by unfold validJ; simp only [*] <;> simp <;> omega, (Ext.rf w).al _⟩
  · have b1 : decide ((n : Int) ≤ 163840) = false := by simpa using h1
    go_enter Try.func13, Try.ntmps13
    go_wp2
    go_ret
    exact ⟨by unfold validJ; simp only [*] <;> simp <;> omega, (Ext.rf w).al _⟩

end Go.Proofs.Ytggofkaakccoeaa
