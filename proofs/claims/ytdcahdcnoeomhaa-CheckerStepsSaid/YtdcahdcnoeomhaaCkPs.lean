/-
  Leq of the reference; the library's Clone and EqualFunc on queues.
-/
import Derived.Test.YtdcahdcnoeomhaaBase
import Derived.Test.YtdcahdcnoeomhaaProg
import Derived.BigQuiet
import Derived.Deep.QuietTactic
import Derived.Deep.LoopGhost
import Derived.Shelf.Abstract
import Derived.Test.YtdcahdcnoeomhaaCkP
namespace Go.Proofs.Ytdcahdcnoeomhaa
open Go.RowKit
set_option linter.unusedVariables false

set_option maxHeartbeats 1000000 in
theorem leq_true (u v : Value) (l m : List Int) (w : World) (hu : Ints w u l) (hv : Ints w v m) (hn : l.length ≤ 1000000) (hm : l.length ≤ m.length) (hle : leqB l m = true) :
    Calls Try.prog 14 #[u, v] w fun e w' => e = .returned (.bool true) ∧ Drawn w w' := by
  obtain ⟨a, c, rfl, _, hu⟩ := hu
  obtain ⟨a2, c2, rfl, _, hv⟩ := hv
  have HU := Lib.hid hu; clear hu
  have HV := Lib.hid hv; clear hv
  have HLE := Lib.hid ((range_all _ _).1 hle); clear hle
  generalize hln : l.length = n at *
  generalize hlm : m.length = n2 at *
  have HL := Lib.hid hln; clear hln
  have HM := Lib.hid hlm; clear hlm
  go_enter Try.func14, Try.ntmps14
  go_wp2
  go_loopg [5] n (fun g s5 wr => ∃ k : Nat, k ≤ n ∧ n - k ≤ g ∧ s5 = .int .i64 k ∧ Aside (Drawn w wr))
  case atStart => exact ⟨0, Nat.zero_le _, by omega, rfl, Drawn.rf _⟩
  case round =>
    obtain ⟨k, hk, hg, rfl, HD⟩ := hrel
    by_cases hlt : k < n
    · obtain ⟨b, off, rfl, hb, hc⟩ := HU.out (by intro e; have := HL.out; simp [e] at this; omega)
      obtain ⟨b2, off2, rfl, hb2, hc2⟩ := HV.out (by intro e; have := HM.out; simp [e] at this; omega)
      have hcell : wr.cell? ⟨b, off + k, none⟩ = some (.int .i64 l[k]!) := HD.out.ext.cl (hc k hlt)
      have hcell2 : wr.cell? ⟨b2, off2 + k, none⟩ = some (.int .i64 m[k]!) := HD.out.ext.cl (hc2 k (by omega))
      have hltz : (k : Int) < (n : Int) := by omega
      have hltz2 : (k : Int) < (n2 : Int) := by omega
      have hkz : (0 : Int) ≤ (k : Int) := by omega
      have hy := HLE.out k hlt
      rw [decide_eq_true_eq] at hy
      clear hc hc2
      generalize l[k]! = y at *
      generalize m[k]! = z at *
      have b4 : decide (z < y) = false := by simp; omega
      go_wp2
      go_quiet (fail)
      go_wp2
      go_roundg (n - (k + 1))
      case measure => omega
      case rel => exact ⟨k + 1, by omega, by omega, by go_num, (show Drawn _ _ from HD.out.drN _)⟩
    · have hltz : ¬ (k : Int) < (n : Int) := by omega
      go_wp2
      go_ret
      exact ⟨rfl, HD.out⟩

theorem info_rows : (Try.prog.info? 24).map (fun i => (i.zero, i.size, i.bytes)) = some (some (.slice none 0 0), 1, 24) := by kernel_rfl

set_option maxHeartbeats 400000 in
theorem clone_rows (v : Value) (n : Nat) (xs : List Value) (w : World) (hv : CellsAt w v 1 n xs) (h1 : ∀ u ∈ xs, u.oneCell' = true) (hn : n ≤ 1000000) :
    Calls Try.prog 11 #[v] w fun e w' => ∃ v', e = .returned v' ∧ Row w' w.heap.size 24 1 v' n xs ∧ Ext w w' := by
  obtain ⟨i0, hi, hz0, hz1, hz2⟩ := info_parts info_rows
  obtain ⟨hl, a, c, rfl, hlc, hv⟩ := hv
  have HLC := Lib.hid hlc; clear hlc
  cases a with
  | none =>
    have hn0 : n = 0 := by
      rcases Nat.eq_zero_or_pos n with h | h
      · exact h
      · obtain ⟨_, _, h, _⟩ := hv h; simp at h
    subst hn0
    obtain rfl : xs = [] := List.eq_nil_of_length_eq_zero (by omega)
    clear hv h1 hn hl
    have heq := fun wx => Lib.run_eql_slice_nil (P := Try.prog) wx 34 24 none 0 c 0 0 Try.underlying34
    go_enter Try.func11, Try.ntmps11
    go_wp2
    go_ret
    exact ⟨_, rfl, Row.mkNil _ _ _ _, Ext.rf _⟩
  | some ad =>
    have heq := fun wx => Lib.run_eql_slice_nil (P := Try.prog) wx 34 24 (some ad) n c 0 0 Try.underlying34
    have HV := Lib.hid hv; clear hv
    have H1 := Lib.hid h1; clear h1
    have HL := Lib.hid hl; clear hl
    have hrow : Row (w.alloc (.cells #[] 24)) w.heap.size 24 1 (.slice (some ⟨w.heap.size, 0, none⟩) 0 0) 0 [] :=
      ⟨by simp, .inr ⟨w.heap.size, 0, 0, #[], rfl, Nat.le_refl _, heap_alloc_new w _, Nat.le_refl _, Nat.zero_le _, by simp, by simp⟩⟩
    have HR := Lib.hid hrow; clear hrow
    have hcs : 0 < n → ∃ ad', some ad = some ad' ∧ ∀ j u, xs[j]? = some u → (w.alloc (.cells #[] 24)).cell? (ad'.add j) = some u := by
      intro hp
      obtain ⟨b, off, hab, hb, hc⟩ := HV.out hp
      refine ⟨ad, rfl, fun j u hj => ?_⟩
      simp only [Option.some.injEq] at hab
      subst hab
      have hjl : j < n * 1 := by have := (List.getElem?_eq_some_iff.1 hj).1; rw [HL.out] at this; exact this
      rw [Addr.add_lit]
      exact ((Ext.rf w).al _).cl ((hc j hjl).trans hj)
    have HC := Lib.hid hcs; clear hcs
    go_enter Try.func11, Try.ntmps11
    go_wp2_with ((at_builtin; refine wpList_append_row rfl _ _ 34 rfl w.heap.size 24 i0 (.slice none 0 0) 1 24 Try.underlying34 hi hz0 hz1 hz2 rfl (by decide) _ 0 [] rfl HR.out _ n c xs rfl HL.out HC.out H1.out (by unfold maxLen; omega) (by omega) (by simp) ?_; intro v' w1 hown1 hgrow1 hblk))
    go_ret
    exact ⟨_, rfl, by simpa using hown1, ((Ext.rf w).al _).gr hgrow1 (fun k hk => by have e : some w.heap.size = some k := hk; simp at e; omega)⟩

theorem enters_13 : ∀ args w, (callFunc 13 args).run Try.prog w = .ok (.enter 13 args) w := enters_of Try.func13 (by kernel_rfl) rfl

set_option maxHeartbeats 2000000 in
theorem equalFunc_eq (u v : Value) (q : List (List Int)) (w : World) (hu : Sl RInts 1 w u q) (hv : Sl RInts 1 w v q) (hn : q.length ≤ 1000000) (hl : ∀ i, i < q.length → q[i]!.length ≤ 1000000) :
    Calls Try.prog 12 #[u, v, .func (.func 13) #[] #[]] w fun e w' => e = .returned (.bool true) ∧ Ext w w' := by
  have HU := Lib.hid hu
  have HV := Lib.hid hv
  have HLL := Lib.hid hl
  obtain ⟨a, c, rfl, _⟩ := hu.shape
  obtain ⟨a2, c2, rfl, _⟩ := hv.shape
  clear hu hv hl
  generalize hln : q.length = n at *
  have HL := Lib.hid hln; clear hln
  have b1 : ((n : Int) != (n : Int)) = false := by simp
  have eg := enters_13
  go_enter Try.func12, Try.ntmps12
  go_wp2
  go_loopg [7, 8, 9, 17] n (fun g _ _ _ s17 wr => ∃ k : Nat, k ≤ n ∧ n - k ≤ g ∧ s17 = .int .i64 k ∧ Aside (Ext w wr))
  case atStart => exact ⟨0, Nat.zero_le _, by omega, rfl, Ext.rf _⟩
  case round =>
    obtain ⟨k, hk, hg, rfl, HE⟩ := hrel
    by_cases hlt : k < n
    · have hkq : k < q.length := by rw [HL.out]; exact hlt
      obtain ⟨b, o, sv, rfl, hc0, hi⟩ := stamp_at HU.out k hkq
      obtain ⟨b2, o2, sv2, rfl, hc2, hi2⟩ := stamp_at HV.out k hkq
      have hcell := HE.out.cl hc0
      have hcell2 := HE.out.cl hc2
      have hltz : (k : Int) < (n : Int) := by omega
      have hkz : (0 : Int) ≤ (k : Int) := by omega
      have HS := Lib.hid (equal_int sv sv2 q[k]! q[k]! wr (hi.ext HE.out) (hi2.ext HE.out) (HLL.out k hlt) (HLL.out k hlt))
      rw [beq_self_eq_true] at HS
      clear hc0 hc2 hi hi2
      go_wp2_with fail
      refine HS.out.mono ?_
      rintro e w2 ⟨rfl, hE2⟩
      have HE2 := Lib.hid (HE.out.trans' hE2)
      clear hE2
      go_wp2
      go_roundg (n - (k + 1))
      case measure => omega
      case rel => exact ⟨k + 1, by omega, by omega, by go_num, (show Ext _ _ from HE2.out)⟩
    · have hltz : ¬ (k : Int) < (n : Int) := by omega
      go_wp2
      go_ret
      exact ⟨rfl, HE.out⟩

end Go.Proofs.Ytdcahdcnoeomhaa
