import Derived.Test.YtggofkaakccoeaaBase
import Derived.Test.YtggofkaakccoeaaProg
import Derived.Test.YtggofkaakccoeaaCkF
import Derived.Deep.QuietTactic
import Derived.BigQuiet
import Derived.Deep.LoopGhost
import Derived.Shelf.Abstract
/-
  Calls that only read: the world has drawn, nothing else. No program is named here.
-/
namespace Go.Proofs.Ytggofkaakccoeaa
open Go.RowKit
set_option linter.unusedVariables false

/-- w' is w, but for draws. -/
def Drawn (w w' : World) : Prop := ∃ n, w' = w.drewN n
theorem Drawn.rf (w : World) : Drawn w w := ⟨0, (World.drewN_zero w).symm⟩
theorem Drawn.drN {w w' : World} (h : Drawn w w') (n : Nat) : Drawn w (w'.drewN n) := by
  obtain ⟨m, rfl⟩ := h
  exact ⟨m + n, by rw [World.drewN_drewN]⟩
theorem Drawn.trans {a b c : World} (h : Drawn a b) (k : Drawn b c) : Drawn a c := by
  obtain ⟨m, rfl⟩ := k
  exact h.drN m
theorem Drawn.ext {w w' : World} (h : Drawn w w') : Ext w w' := by
  obtain ⟨n, rfl⟩ := h
  exact (Ext.rf w).drN n
theorem Drawn.cell {w w' : World} (h : Drawn w w') (a : Addr) : w'.cell? a = w.cell? a := by
  obtain ⟨n, rfl⟩ := h
  rfl
theorem Drawn.heap {w w' : World} (h : Drawn w w') : w'.heap = w.heap := by
  obtain ⟨n, rfl⟩ := h
  rfl
theorem drawn_quiet {P : Program} {f : FuncId} {args : Array Value} {w : World} {n : Nat} {v : Value} (h : Calls P f args (w.drewN n) fun e w' => e = .returned v ∧ Drawn (w.drewN n) w') :
    Calls P f args (w.drewN n) fun e w'' => e = .returned v ∧ ∃ m, w'' = w.drewN m :=
  h.mono fun _ _ ⟨he, m, hm⟩ => ⟨he, n + m, by rw [hm, World.drewN_drewN]⟩
theorem drawn_quiet_add {P : Program} {f : FuncId} {args : Array Value} {w : World} {a n : Nat} {v : Value} (h : Calls P f args (w.drewN (a + n)) fun e w' => e = .returned v ∧ Drawn (w.drewN (a + n)) w') :
    Calls P f args (w.drewN (a + n)) fun e w'' => e = .returned v ∧ ∃ m, w'' = w.drewN (a + m) :=
  h.mono fun _ _ ⟨he, m, hm⟩ => ⟨he, n + m, by rw [hm, World.drewN_drewN, Nat.add_assoc]⟩

end Go.Proofs.Ytggofkaakccoeaa

/-
  The library's IndexFunc and ContainsFunc on slices of numbers, at a function value that only reckons.
-/
namespace Go.Proofs.Ytggofkaakccoeaa
open Go.RowKit
set_option linter.unusedVariables false

/-- What is asked of a function value that only reckons: it says p. -/
def SaysQ_int (P : Program) (g : Nat) (cb : Array Value) (p : Int → Bool) : Prop :=
  ∀ x W, Calls P g (#[.int .i64 x] ++ cb) W fun e w' => e = .returned (.bool (p x)) ∧ w' = W

set_option maxHeartbeats 400000 in
theorem indexFuncQ_int (g : Nat) (cb : Array Value) (eg : ∀ args w, (callFunc g args).run Try.prog w = .ok (.enter g args) w) (p : Int → Bool) (v : Value) (l : List Int) (w : World)
    (hv : Ints w v l) (hn : l.length ≤ 1000000) (hp : SaysQ_int Try.prog g cb p) :
    Calls Try.prog 68 #[v, .func (.func g) #[] cb] w fun e w' => e = .returned (.int .i64 (firstAt p l)) ∧ w' = w := by
  obtain ⟨a, c, rfl, hlc, hv⟩ := hv
  have HLC := Lib.hid hlc; clear hlc
  have HV := Lib.hid hv; clear hv
  have HP := Lib.hid hp; clear hp
  generalize hln : l.length = n at hn
  have HL := Lib.hid hln; clear hln
  go_enter Try.func68, Try.ntmps68
  go_wp2
  go_loopg [5, 8] n (fun m _ s8 wr => ∃ k : Nat, k ≤ n ∧ n - k ≤ m ∧ s8 = .int .i64 k ∧ wr = w ∧ Aside (∀ j, j < k → p l[j]! = false))
  case atStart => exact ⟨0, Nat.zero_le _, by omega, rfl, rfl, (fun j hj => absurd hj (Nat.not_lt_zero _))⟩
  case round =>
    obtain ⟨k, hk, hm, rfl, rfl, A⟩ := hrel
    by_cases hlt : k < n
    · obtain ⟨b, off, rfl, hb, hc⟩ := HV.out (by intro e; have := HL.out; simp [e] at this; omega)
      have hcell : wr.cell? ⟨b, off + k, none⟩ = some (.int .i64 l[k]!) := hc k (by rw [HL.out]; exact hlt)
      have hltz : (k : Int) < (n : Int) := by omega
      clear hc
      generalize hy : l[k]! = y at hcell
      have B := Lib.hid hy
      clear hy
      have hcall := HP.out y wr
      cases hq : p y with
      | true =>
        rw [hq] at hcall
        have HQ := Lib.hid hq; clear hq
        go_wp2_with (go_at_fn g; refine hcall.mono ?_; rintro e w' ⟨rfl, rfl⟩)
        go_ret
        exact ⟨by rw [firstAt_hit p l k (by rw [HL.out]; omega) (by rw [B.out]; exact HQ.out) A.out]; rfl, rfl⟩
      | false =>
        rw [hq] at hcall
        have HQ := Lib.hid hq; clear hq
        go_wp2_with (go_at_fn g; refine hcall.mono ?_; rintro e w' ⟨rfl, rfl⟩)
        go_roundg (n - (k + 1))
        case measure => omega
        case rel =>
          refine ⟨k + 1, by omega, by omega, by go_num, rfl, (show Aside _ from fun j hj => ?_)⟩
          by_cases e : j = k
          · subst e
            rw [B.out]; exact HQ.out
          · exact A.out j (by omega)
    · have hltz : ¬ (k : Int) < (n : Int) := by omega
      go_wp2
      go_ret
      exact ⟨by rw [firstAt_miss p l (fun j hj => A.out j (by rw [HL.out] at hj; omega))]; rfl, rfl⟩

theorem entersQ_68 : ∀ args w, (callFunc 68 args).run Try.prog w = .ok (.enter 68 args) w := enters_of Try.func68 (by kernel_rfl) rfl

set_option maxHeartbeats 400000 in
theorem containsFuncQ_int (g : Nat) (cb : Array Value) (eg : ∀ args w, (callFunc g args).run Try.prog w = .ok (.enter g args) w) (p : Int → Bool) (v : Value) (l : List Int) (w : World)
    (hv : Ints w v l) (hn : l.length ≤ 1000000) (hp : SaysQ_int Try.prog g cb p) :
    Calls Try.prog 51 #[v, .func (.func g) #[] cb] w fun e w' => e = .returned (.bool (l.any p)) ∧ w' = w := by
  have HI := Lib.hid (indexFuncQ_int g cb eg p v l w hv hn hp)
  clear hv hp eg
  rw [← firstAt_any]
  go_enter Try.func51, Try.ntmps51
  go_wp2_with (go_at_call 68; refine HI.out.mono ?_; rintro e w' ⟨rfl, rfl⟩)
  go_ret
  exact ⟨rfl, rfl⟩

end Go.Proofs.Ytggofkaakccoeaa

/-
  The small functions of the central checker, of both texts: stamps, and what comes after what.
-/
namespace Go.Proofs.Ytggofkaakccoeaa
open Go.RowKit
set_option linter.unusedVariables false

theorem any_out (l : List Int) : l.any outC = (List.range l.length).any fun i => outC l[i]! := by
  rw [Bool.eq_iff_iff, range_any, List.any_eq_true]
  constructor
  · rintro ⟨x, hx, h⟩
    obtain ⟨i, hi, rfl⟩ := List.getElem_of_mem hx
    exact ⟨i, hi, by rwa [getElem!_pos l i hi]⟩
  · rintro ⟨i, hi, h⟩
    exact ⟨_, mem_at l i hi, h⟩

theorem enters_87 : ∀ args w, (callFunc 87 args).run Try.prog w = .ok (.enter 87 args) w := enters_of Try.func87 (by kernel_rfl) rfl

set_option maxHeartbeats 400000 in
theorem stamp1_calls (x : Int) (w : World) : Calls Try.prog 87 #[.int .i64 x] w fun e w' => e = .returned (.bool (outC x)) ∧ w' = w := by
  by_cases h1 : x < 0
  · have b1 : decide (x < 0) = true := by simpa using h1
    go_enter Try.func87, Try.ntmps87
    go_wp2
    go_ret
    exact ⟨by simp [outC, h1], rfl⟩
  · have b1 : decide (x < 0) = false := by simpa using h1
    go_enter Try.func87, Try.ntmps87
    go_wp2
    go_ret
    exact ⟨by simp [outC, b1], rfl⟩

set_option maxHeartbeats 400000 in
theorem stampP_calls (v : Value) (l : List Int) (n : Nat) (w : World) (hv : Ints w v l) (hn : l.length ≤ 1000000) :
    Calls Try.prog 73 #[v, .int .i64 n] w fun e w' => e = .returned (.bool (stampB l n)) ∧ Drawn w w' := by
  have HC := Lib.hid (containsFuncQ_int 87 #[] enters_87 outC v l w hv hn (fun x W => by simpa using stamp1_calls x W))
  obtain ⟨a, c, rfl, hlc, hv⟩ := hv
  have HB := Lib.hid (show stampB l n = (decide (l.length = n) && !l.any outC) from rfl)
  generalize stampB l n = r at *
  generalize l.any outC = q at *
  generalize l.length = m at *
  clear hv
  by_cases h : m = n
  · have b1 : ((m : Int) == (n : Int)) = true := by simp; omega
    have HH := Lib.hid h; clear h
    go_enter Try.func73, Try.ntmps73
    go_wp2_with fail
    refine HC.out.mono ?_
    rintro e w1 ⟨rfl, rfl⟩
    go_wp2
    go_ret
    exact ⟨by rw [HB.out, decide_eq_true HH.out]; simp, Drawn.rf _⟩
  · have b1 : ((m : Int) == (n : Int)) = false := by simp; omega
    have HH := Lib.hid h; clear h
    go_enter Try.func73, Try.ntmps73
    go_wp2
    go_ret
    exact ⟨by rw [HB.out, decide_eq_false HH.out]; simp, Drawn.rf _⟩

set_option maxHeartbeats 1000000 in
theorem stampR_calls (v : Value) (l : List Int) (n : Nat) (w : World) (hv : Ints w v l) (hn : l.length ≤ 1000000) :
    Calls Try.prog 79 #[v, .int .i64 n] w fun e w' => e = .returned (.bool (stampB l n)) ∧ Drawn w w' := by
  obtain ⟨a, c, rfl, hlc, hv⟩ := hv
  have HB := Lib.hid (show stampB l n = (decide (l.length = n) && !l.any outC) from rfl)
  generalize stampB l n = r at *
  have HANY := Lib.hid (any_out l)
  have HV := Lib.hid hv
  clear hv
  generalize hm : l.length = m at *
  by_cases h : m = n
  · subst h
    have HM := Lib.hid hm
    clear hm
    have b1 : ((m : Int) != (m : Int)) = false := by simp
    go_enter Try.func79, Try.ntmps79
    go_wp2
    go_loopg [5] m (fun g s5 wr => ∃ k : Nat, k ≤ m ∧ m - k ≤ g ∧ s5 = .int .i64 k ∧ wr = w ∧ Aside (∀ j, j < k → outC l[j]! = false))
    case atStart => exact ⟨0, Nat.zero_le _, by omega, rfl, rfl, fun j hj => absurd hj (Nat.not_lt_zero _)⟩
    case round =>
      obtain ⟨k, hk, hg, rfl, rfl, A⟩ := hrel
      by_cases hlt : k < m
      · obtain ⟨b, off, rfl, hb, hc⟩ := HV.out (by intro e; have := HM.out; simp [e] at this; omega)
        have hcell := hc k hlt
        have hltz : (k : Int) < (m : Int) := by omega
        have hkz : (0 : Int) ≤ (k : Int) := by omega
        clear hc
        generalize hy : l[k]! = y at hcell
        have B := Lib.hid hy
        clear hy
        by_cases h1 : y < 0
        · have c1 : decide (y < 0) = true := by simpa using h1
          have HX := Lib.hid (show outC y = true from by simp [outC, h1])
          go_wp2
          go_ret
          exact ⟨by rw [HB.out, HANY.out, (range_any _ _).2 ⟨k, hlt, by rw [B.out]; exact HX.out⟩]; simp, Drawn.rf _⟩
        · have c1 : decide (y < 0) = false := by simpa using h1
          by_cases h2 : 64 < y
          · have c2 : decide (64 < y) = true := by simpa using h2
            have HX := Lib.hid (show outC y = true from by simp [outC, h2])
            go_wp2
            go_ret
            exact ⟨by rw [HB.out, HANY.out, (range_any _ _).2 ⟨k, hlt, by rw [B.out]; exact HX.out⟩]; simp, Drawn.rf _⟩
          · have c2 : decide (64 < y) = false := by simpa using h2
            have HX := Lib.hid (show outC y = false from by unfold outC; rw [c1, c2]; rfl)
            go_wp2
            go_roundg (m - (k + 1))
            case measure => omega
            case rel =>
              refine ⟨k + 1, by omega, by omega, by go_num, rfl, (show Aside _ from fun j hj => ?_)⟩
              by_cases e : j = k
              · subst e; rw [B.out]; exact HX.out
              · exact A.out j (by omega)
      · have hltz : ¬ (k : Int) < (m : Int) := by omega
        go_wp2
        go_ret
        exact ⟨by rw [HB.out, HANY.out, (range_any_false _ _).2 (fun i hi => A.out i (by omega))]; simp, Drawn.rf _⟩
  · have b1 : ((m : Int) != (n : Int)) = true := by simp; omega
    have HH := Lib.hid h; clear h
    go_enter Try.func79, Try.ntmps79
    go_wp2
    go_ret
    exact ⟨by rw [HB.out, decide_eq_false HH.out]; simp, Drawn.rf _⟩


set_option maxHeartbeats 2000000 in
theorem afterR_calls (v1 v2 : Value) (l1 l2 : List Int) (n p : Nat) (w : World) (hv1 : Ints w v1 l1) (hv2 : Ints w v2 l2) (h1 : l1.length = n) (h2 : l2.length = n) (hp : p < n) (hn : n ≤ 1000000) :
    Calls Try.prog 80 #[v1, v2, .int .i64 p] w fun e w' => e = .returned (.bool (afterB l1 l2 p)) ∧ Drawn w w' := by
  have HB := Lib.hid (show afterB l1 l2 p = ((List.range l1.length).all (fun i => decide (l1[i]! ≤ l2[i]!)) && decide (l1[p]! < l2[p]!)) from rfl)
  generalize afterB l1 l2 p = r at *
  obtain ⟨a1, c1, rfl, hlc1, hv1⟩ := hv1
  obtain ⟨a2, c2, rfl, hlc2, hv2⟩ := hv2
  have H1 := Lib.hid h1
  have H2 := Lib.hid h2
  rw [h1] at hlc1 hv1 ⊢
  rw [h2] at hlc2 hv2 ⊢
  have HV1 := Lib.hid hv1
  have HV2 := Lib.hid hv2
  clear hv1 hv2 h1 h2
  go_enter Try.func80, Try.ntmps80
  go_wp2
  go_loopg [7] n (fun g s7 wr => ∃ k : Nat, k ≤ n ∧ n - k ≤ g ∧ s7 = .int .i64 k ∧ Aside (Drawn w wr) ∧ Aside (∀ j, j < k → l1[j]! ≤ l2[j]!))
  case atStart => exact ⟨0, Nat.zero_le _, by omega, rfl, Drawn.rf _, fun j hj => absurd hj (Nat.not_lt_zero _)⟩
  case round =>
    obtain ⟨k, hk, hg, rfl, HD, A⟩ := hrel
    obtain ⟨b1, o1, rfl, hb1, hc1⟩ := HV1.out (by intro e; have := H1.out; simp [e] at this; omega)
    obtain ⟨b2, o2, rfl, hb2, hc2⟩ := HV2.out (by intro e; have := H2.out; simp [e] at this; omega)
    by_cases hlt : k < n
    · have hcell1 : wr.cell? ⟨b1, o1 + k, none⟩ = some (.int .i64 l1[k]!) := (HD.out.cell _).trans (hc1 k hlt)
      have hcell2 : wr.cell? ⟨b2, o2 + k, none⟩ = some (.int .i64 l2[k]!) := (HD.out.cell _).trans (hc2 k hlt)
      have hltz : (k : Int) < (n : Int) := by omega
      have hkz : (0 : Int) ≤ (k : Int) := by omega
      clear hc1 hc2
      generalize hx : l1[k]! = x at hcell1
      generalize hy : l2[k]! = y at hcell2
      have X := Lib.hid hx
      have Y := Lib.hid hy
      clear hx hy
      by_cases h : y < x
      · have c1 : decide (y < x) = true := by simpa using h
        have HX := Lib.hid h
        clear h
        go_wp2
        go_quiet (fail)
        go_wp2
        go_ret
        refine ⟨?_, HD.out.drN _⟩
        have hf : (List.range l1.length).all (fun i => decide (l1[i]! ≤ l2[i]!)) = false := by
          rw [List.all_eq_false]
          exact ⟨k, List.mem_range.2 (by rw [H1.out]; exact hlt), by rw [X.out, Y.out]; simp only [decide_eq_true_eq]; have := HX.out; omega⟩
        rw [HB.out, hf]; simp
      · have c1 : decide (y < x) = false := by simpa using h
        have HX := Lib.hid h
        clear h
        go_wp2
        go_quiet (fail)
        go_wp2
        go_roundg (n - (k + 1))
        case measure => omega
        case rel =>
          refine ⟨k + 1, by omega, by omega, by go_num, HD.out.drN _, (show Aside _ from fun j hj => ?_)⟩
          by_cases e : j = k
          · subst e; rw [X.out, Y.out]; have := HX.out; omega
          · exact A.out j (by omega)
    · have hltz : ¬ (k : Int) < (n : Int) := by omega
      have hcell1 : wr.cell? ⟨b1, o1 + p, none⟩ = some (.int .i64 l1[p]!) := (HD.out.cell _).trans (hc1 p hp)
      have hcell2 : wr.cell? ⟨b2, o2 + p, none⟩ = some (.int .i64 l2[p]!) := (HD.out.cell _).trans (hc2 p hp)
      have hpz : (p : Int) < (n : Int) := by omega
      have hpz0 : (0 : Int) ≤ (p : Int) := by omega
      clear hc1 hc2
      generalize hx : l1[p]! = x at hcell1
      generalize hy : l2[p]! = y at hcell2
      have X := Lib.hid hx
      have Y := Lib.hid hy
      clear hx hy
      go_wp2
      go_quiet (fail)
      go_wp2
      go_ret
      refine ⟨?_, HD.out.drN _⟩
      rw [HB.out, (range_all _ _).2 (fun i hi => decide_eq_true (A.out i (by rw [H1.out] at hi; omega))), X.out, Y.out]
      simp

theorem afterP_eq (l1 l2 : List Int) (p : Nat) (hp : p < l1.length) : afterB l1 l2 p = (List.range l1.length).all fun i => decide (l1[i]! ≤ l2[i]!) && !(decide (i = p) && decide (l2[i]! = l1[i]!)) := by
  rw [Bool.eq_iff_iff, range_all]
  simp only [afterB, leqB, Bool.and_eq_true, range_all, decide_eq_true_eq, Bool.not_eq_true', Bool.and_eq_false_iff, decide_eq_false_iff_not]
  constructor
  · rintro ⟨h1, h2⟩ i hi
    refine ⟨h1 i hi, ?_⟩
    by_cases e : i = p
    · subst e; right; omega
    · exact .inl e
  · intro h
    refine ⟨fun i hi => (h i hi).1, ?_⟩
    have := h p hp
    rcases this.2 with h2 | h2
    · exact absurd rfl h2
    · omega

set_option maxHeartbeats 4000000 in
theorem afterP_calls (v1 v2 : Value) (l1 l2 : List Int) (n p : Nat) (w : World) (hv1 : Ints w v1 l1) (hv2 : Ints w v2 l2) (h1 : l1.length = n) (h2 : l2.length = n) (hp : p < n) (hn : n ≤ 1000000) :
    Calls Try.prog 74 #[.int .i64 p, v1, v2] w fun e w' => e = .returned (.bool (afterB l1 l2 p)) ∧ Drawn w w' := by
  have HB := Lib.hid (afterP_eq l1 l2 p (by omega))
  generalize afterB l1 l2 p = r at *
  obtain ⟨a1, c1, rfl, hlc1, hv1⟩ := hv1
  obtain ⟨a2, c2, rfl, hlc2, hv2⟩ := hv2
  have H1 := Lib.hid h1
  have H2 := Lib.hid h2
  rw [h1] at hlc1 hv1 ⊢
  rw [h2] at hlc2 hv2 ⊢
  have HV1 := Lib.hid hv1
  have HV2 := Lib.hid hv2
  clear hv1 hv2 h1 h2
  go_enter Try.func74, Try.ntmps74
  go_wp2
  go_loopg [10] n (fun g s10 wr => ∃ k : Nat, k ≤ n ∧ n - k ≤ g ∧ s10 = .int .i64 k ∧ Aside (Drawn w wr) ∧ Aside (∀ j, j < k → (decide (l1[j]! ≤ l2[j]!) && !(decide (j = p) && decide (l2[j]! = l1[j]!))) = true))
  case atStart => exact ⟨0, Nat.zero_le _, by omega, rfl, Drawn.rf _, fun j hj => absurd hj (Nat.not_lt_zero _)⟩
  case round =>
    obtain ⟨k, hk, hg, rfl, HD, A⟩ := hrel
    by_cases hlt : k < n
    · skip
      obtain ⟨b1, o1, rfl, hb1, hc1⟩ := HV1.out (by intro e; have := H1.out; simp [e] at this; omega)
      obtain ⟨b2, o2, rfl, hb2, hc2⟩ := HV2.out (by intro e; have := H2.out; simp [e] at this; omega)
      have hcell1 : wr.cell? ⟨b1, o1 + k, none⟩ = some (.int .i64 l1[k]!) := (HD.out.cell _).trans (hc1 k hlt)
      have hcell2 : wr.cell? ⟨b2, o2 + k, none⟩ = some (.int .i64 l2[k]!) := (HD.out.cell _).trans (hc2 k hlt)
      have hltz : (k : Int) < (n : Int) := by omega
      have hkz : (0 : Int) ≤ (k : Int) := by omega
      clear hc1 hc2
      generalize hx : l1[k]! = x at hcell1
      generalize hy : l2[k]! = y at hcell2
      have X := Lib.hid hx
      have Y := Lib.hid hy
      clear hx hy
      by_cases h : y < x
      · have c1 : decide (y < x) = true := by simpa using h
        have HX := Lib.hid (show (decide (x ≤ y) && !(decide (k = p) && decide (y = x))) = false from by rw [decide_eq_false (by omega)]; rfl)
        clear h
        go_wp2
        go_quiet (fail)
        go_wp2
        go_ret
        refine ⟨?_, HD.out.drN _⟩
        have hf : (List.range l1.length).all (fun i => decide (l1[i]! ≤ l2[i]!) && !(decide (i = p) && decide (l2[i]! = l1[i]!))) = false := by
          rw [List.all_eq_false]
          exact ⟨k, List.mem_range.2 (by rw [H1.out]; exact hlt), by rw [X.out, Y.out, HX.out]; simp⟩
        rw [HB.out, hf]
        rfl
      · have c1 : decide (y < x) = false := by simpa using h
        by_cases hkp : k = p
        · have c2 : ((k : Int) == (p : Int)) = true := by simp; omega
          by_cases hyx : y = x
          · have c3 : (y == x) = true := by simpa using hyx
            have HX := Lib.hid (show (decide (x ≤ y) && !(decide (k = p) && decide (y = x))) = false from by rw [decide_eq_true hkp, decide_eq_true hyx]; simp)
            clear h hkp hyx
            go_wp2
            go_quiet (fail)
            go_wp2
            go_ret
            refine ⟨?_, HD.out.drN _⟩
            have hf : (List.range l1.length).all (fun i => decide (l1[i]! ≤ l2[i]!) && !(decide (i = p) && decide (l2[i]! = l1[i]!))) = false := by
              rw [List.all_eq_false]
              exact ⟨k, List.mem_range.2 (by rw [H1.out]; exact hlt), by rw [X.out, Y.out, HX.out]; simp⟩
            rw [HB.out, hf]
            rfl
          · have c3 : (y == x) = false := by simpa using hyx
            have HX := Lib.hid (show (decide (x ≤ y) && !(decide (k = p) && decide (y = x))) = true from by rw [decide_eq_true hkp, decide_eq_false hyx, decide_eq_true (by omega)]; simp)
            clear h hkp hyx
            go_wp2
            go_quiet (fail)
            go_wp2
            go_roundg (n - (k + 1))
            case measure => omega
            case rel =>
              refine ⟨k + 1, by omega, by omega, by go_num, HD.out.drN _, (show Aside _ from fun j hj => ?_)⟩
              by_cases e : j = k
              · subst e; rw [X.out, Y.out]; exact HX.out
              · exact A.out j (by omega)
        · have c2 : ((k : Int) == (p : Int)) = false := by simp; omega
          have HX := Lib.hid (show (decide (x ≤ y) && !(decide (k = p) && decide (y = x))) = true from by rw [decide_eq_false hkp, decide_eq_true (by omega)]; simp)
          clear h hkp
          go_wp2
          go_quiet (fail)
          go_wp2
          go_roundg (n - (k + 1))
          case measure => omega
          case rel =>
            refine ⟨k + 1, by omega, by omega, by go_num, HD.out.drN _, (show Aside _ from fun j hj => ?_)⟩
            by_cases e : j = k
            · subst e; rw [X.out, Y.out]; exact HX.out
            · exact A.out j (by omega)
    · have hltz : ¬ (k : Int) < (n : Int) := by omega
      go_wp2
      go_ret
      refine ⟨?_, HD.out⟩
      rw [HB.out, (range_all _ _).2 (fun i hi => A.out i (by rw [H1.out] at hi; omega))]
      rfl

end Go.Proofs.Ytggofkaakccoeaa

/-
  Which candidate is beaten: both texts.
-/
namespace Go.Proofs.Ytggofkaakccoeaa
open Go.RowKit
set_option linter.unusedVariables false

def RInts (w : World) (cs : List Value) (x : List Int) : Prop := ∃ u, cs = [u] ∧ Ints w u x
theorem rints_lasts : Lasts RInts := fun _ _ _ _ ⟨u, h, hb⟩ e => ⟨u, h, hb.ext e⟩
def RQueue (w : World) (cs : List Value) (x : List (List Int)) : Prop := ∃ u, cs = [u] ∧ Sl RInts 1 w u x
theorem rqueue_lasts : Lasts RQueue := fun _ _ _ _ ⟨u, h, hb⟩ e => ⟨u, h, hb.ext rints_lasts e⟩
def RBool (w : World) (cs : List Value) (x : Bool) : Prop := cs = [.bool x]
theorem rbool_lasts : Lasts RBool := fun _ _ _ _ h _ => h

theorem Sl.at1 {α : Type} [Inhabited α] {R : World → List Value → α → Prop} {w : World} {v : Value} {l : List α} (h : Sl R 1 w v l) (k : Nat) (hk : k < l.length) :
    ∃ b off c cv, v = .slice (some ⟨b, off, none⟩) l.length c ∧ l.length ≤ c ∧ b < w.heap.size ∧ w.cell? ⟨b, off + k, none⟩ = some cv ∧ R w [cv] l[k]! := by
  obtain ⟨a, c, rfl, hlc, h⟩ := h
  obtain ⟨b, off, rfl, hb, hc⟩ := h (by intro e; simp [e] at hk)
  obtain ⟨vs, h1, h2, h3⟩ := hc k hk
  match vs, h1 with
  | [cv], _ => exact ⟨b, off, c, cv, rfl, hlc, hb, by have := h3 0 (by omega); simpa using this, h2⟩
theorem Ints.at1 {w : World} {v : Value} {l : List Int} (h : Ints w v l) (k : Nat) (hk : k < l.length) :
    ∃ b off c, v = .slice (some ⟨b, off, none⟩) l.length c ∧ l.length ≤ c ∧ b < w.heap.size ∧ w.cell? ⟨b, off + k, none⟩ = some (.int .i64 l[k]!) := by
  obtain ⟨a, c, rfl, hlc, h⟩ := h
  obtain ⟨b, off, rfl, hb, hc⟩ := h (by intro e; simp [e] at hk)
  exact ⟨b, off, c, rfl, hlc, hb, hc k hk⟩
theorem Sl.shape {α : Type} [Inhabited α] {R : World → List Value → α → Prop} {k : Nat} {w : World} {v : Value} {l : List α} (h : Sl R k w v l) : ∃ a c, v = .slice a l.length c ∧ l.length ≤ c := by
  obtain ⟨a, c, h1, h2, _⟩ := h; exact ⟨a, c, h1, h2⟩

/-- The stamps have a number for each queue. -/
def FitQ (qs : List (List (List Int))) : Prop := qs.length ≤ 8 ∧ ∀ p, p < qs.length → qs[p]!.length ≤ 1000 ∧ ∀ i, i < qs[p]!.length → qs[p]![i]!.length = qs.length
theorem form_fit {s : Ck} (h : formB s = true) : FitQ s.qs := by
  obtain ⟨h1, h2, h3, h4⟩ := form_parts.1 h
  refine ⟨h2, fun p hp => ?_⟩
  obtain ⟨g1, g2⟩ := queue_parts.1 (h4 p hp)
  refine ⟨by omega, fun i hi => ?_⟩
  have := (g2 i hi).1
  simp only [stampB, Bool.and_eq_true, decide_eq_true_eq] at this
  exact this.1

/-- The cells that are looked at, for two queues. -/
theorem heads_at {w : World} {uq : Value} {qs : List (List (List Int))} (h : Sl RQueue 1 w uq qs) (hf : FitQ qs) (p : Nat) (hp : p < qs.length) :
    ∃ B O C a m c, uq = .slice (some ⟨B, O, none⟩) qs.length C ∧ w.cell? ⟨B, O + p, none⟩ = some (.slice a m c) ∧ m = qs[p]!.length ∧ m ≤ c ∧ Sl RInts 1 w (.slice a m c) qs[p]! ∧
      (0 < m → ∃ b o e f g, a = some ⟨b, o, none⟩ ∧ w.cell? ⟨b, o, none⟩ = some (.slice (some ⟨e, f, none⟩) qs.length g) ∧ ∀ k, k < qs.length → w.cell? ⟨e, f + k, none⟩ = some (.int .i64 qs[p]![0]![k]!)) := by
  obtain ⟨B, O, C, cv, rfl, _, hB, hc, ⟨u, hu, hs⟩⟩ := h.at1 p hp
  simp only [List.cons.injEq, and_true] at hu
  subst hu
  obtain ⟨a, c, rfl, hlc⟩ := hs.shape
  refine ⟨B, O, C, a, _, c, rfl, hc, rfl, hlc, hs, fun hm => ?_⟩
  obtain ⟨b, o, c2, cv, he, _, hb, hc2, ⟨u2, hu2, hi⟩⟩ := hs.at1 0 hm
  simp only [List.cons.injEq, and_true] at hu2
  subst hu2
  simp only [Value.slice.injEq, true_and] at he
  obtain ⟨rfl, rfl⟩ := he
  obtain ⟨e, f, g, rfl, _, he2, hc3⟩ := hi.at1 p (by rw [(hf.2 p hp).2 0 hm]; exact hp)
  rw [(hf.2 p hp).2 0 hm] at hc2
  refine ⟨b, o, e, f, g, rfl, by simpa using hc2, fun k hk => ?_⟩
  obtain ⟨e', f', g', heq, _, _, hc4⟩ := hi.at1 k (by rw [(hf.2 p hp).2 0 hm]; exact hk)
  simp only [Value.slice.injEq, Option.some.injEq, Addr.mk.injEq, and_true, true_and] at heq
  obtain ⟨⟨rfl, rfl⟩, rfl⟩ := heq
  exact hc4

theorem heads_in {w : World} {B O N C : Nat} {qs : List (List (List Int))} (h : Sl RQueue 1 w (.slice (some ⟨B, O, none⟩) N C) qs) (hf : FitQ qs) (p : Nat) (hp : p < qs.length) :
    ∃ a m c, w.cell? ⟨B, O + p, none⟩ = some (.slice a m c) ∧ m = qs[p]!.length ∧ m ≤ c ∧ Sl RInts 1 w (.slice a m c) qs[p]! ∧
      (0 < m → ∃ b o e f g, a = some ⟨b, o, none⟩ ∧ w.cell? ⟨b, o, none⟩ = some (.slice (some ⟨e, f, none⟩) qs.length g) ∧ ∀ k, k < qs.length → w.cell? ⟨e, f + k, none⟩ = some (.int .i64 qs[p]![0]![k]!)) := by
  obtain ⟨B', O', C', a, m, c, he, h1⟩ := heads_at h hf p hp
  simp only [Value.slice.injEq, Option.some.injEq, Addr.mk.injEq, and_true] at he
  obtain ⟨⟨rfl, rfl⟩, _, rfl⟩ := he
  exact ⟨a, m, c, h1⟩


/-- What a pair of queues comes to. -/
theorem beats_same (qs : List (List (List Int))) (p : Nat) : beatsB qs p p = false := by simp [beatsB]
theorem beats_p (qs : List (List (List Int))) (p o : Nat) (h : qs[p]!.length = 0) : beatsB qs p o = false := by
  unfold beatsB; rw [h]; simp
theorem beats_o (qs : List (List (List Int))) (p o : Nat) (h : qs[o]!.length = 0) : beatsB qs p o = false := by
  unfold beatsB; rw [h]; simp
theorem beats_all (qs : List (List (List Int))) (p o : Nat) (h : o ≠ p) (h1 : 0 < qs[p]!.length) (h2 : 0 < qs[o]!.length) : beatsB qs p o = decide (qs[p]![0]![p]! < qs[o]![0]![p]!) := by
  unfold beatsB
  rw [decide_eq_true h, decide_eq_true h1, decide_eq_true h2]
  simp



set_option maxHeartbeats 8000000 in
set_option maxRecDepth 100000 in
theorem beatenP_calls (uq ue uc : Value) (d : Bool) (qs : List (List (List Int))) (w : World) (hq : Sl RQueue 1 w uq qs) (hf : FitQ qs) :
    Calls Try.prog 83 #[.agg #[uq, ue, .bool d, uc]] w fun e w' => e = .returned (.int .i64 (beatenL qs)) ∧ Ext w w' := by
  have HQ := Lib.hid hq
  have HF := Lib.hid hf
  have hn8 := hf.1
  obtain ⟨a, c, rfl, hlc⟩ := hq.shape
  generalize hr : beatenL qs = r
  have HBL := Lib.hid hr.symm
  generalize hn : qs.length = n at *
  have HN := Lib.hid hn
  clear hq hf hr hn
  have HX0 := Lib.hid (cell_new w #[.slice a n c, ue, .bool d, uc] 62 0 _ rfl)
  go_enter Try.func83, Try.ntmps83
  go_wp2
  go_loopg [10] n (fun g s10 wr => ∃ p : Nat, p ≤ n ∧ n - p ≤ g ∧ s10 = .int .i64 p ∧ Aside (Drawn (w.alloc (.cells #[.slice a n c, ue, .bool d, uc] 62)) wr) ∧ Aside (∀ j, j < p → beatenAt qs j = false))
  case atStart => exact ⟨0, Nat.zero_le _, by omega, rfl, Drawn.rf _, fun j hj => absurd hj (Nat.not_lt_zero _)⟩
  case round =>
    obtain ⟨p, hp, hg, rfl, HD, A⟩ := hrel
    have cb := (HD.out.cell _).trans HX0.out
    by_cases hlt : p < n
    · have hltz : (p : Int) < (n : Int) := by omega
      have hp0 : (0 : Int) ≤ (p : Int) := by omega
      obtain ⟨B, O, C, a1, m1, c1, hue0, hcp0, M1, hmc1, HS1, HD1⟩ := heads_at HQ.out HF.out p (by rw [HN.out]; exact hlt)
      simp only [Value.slice.injEq] at hue0
      obtain ⟨rfl, hnn, rfl⟩ := hue0
      have HM1 := Lib.hid M1
      have HHD1 := Lib.hid HD1
      have HCP0 := Lib.hid hcp0
      clear M1 HD1 HS1 hnn
      have HEW0 := Lib.hid (((Ext.rf w).al _).trans' HD.out.ext)
      have hcpw := HEW0.out.cl hcp0
      clear hcp0
      go_wp2
      clear cb hcpw
      obtain ⟨wo, rfl⟩ : ∃ x, x = wr := ⟨_, rfl⟩
      go_loopg [18] n (fun g2 s18 wr => ∃ o : Nat, o ≤ n ∧ n - o ≤ g2 ∧ s18 = .int .i64 o ∧ Aside (Drawn wo wr) ∧ Aside (∀ j, j < o → beatsB qs p j = false))
      case atStart => exact ⟨0, Nat.zero_le _, by omega, rfl, Drawn.rf _, fun j hj => absurd hj (Nat.not_lt_zero _)⟩
      case round =>
        obtain ⟨o, ho, hg2, rfl, HDI, AI⟩ := hrel
        by_cases hlt2 : o < n
        · have hltz2 : (o : Int) < (n : Int) := by omega
          have HEW := Lib.hid (HEW0.out.trans' HDI.out.ext)
          obtain ⟨hpq, hoq⟩ : p < qs.length ∧ o < qs.length := by rw [HN.out]; exact ⟨hlt, hlt2⟩
          obtain ⟨a2, m2, c2, hco0, M2, hmc2, HS2, HD2⟩ := heads_in HQ.out HF.out o hoq
          have hcp := HEW.out.cl HCP0.out
          have hco := HEW.out.cl hco0
          clear hco0 HS2
          have hpz0 : (0 : Int) ≤ (p : Int) := by omega
          have hpz1 : (p : Int) < (n : Int) := by omega
          have hoz0 : (0 : Int) ≤ (o : Int) := by omega
          have hoz1 : (o : Int) < (n : Int) := by omega
          have HM2 := Lib.hid M2
          have HHD2 := Lib.hid HD2
          clear M2 HD2
          by_cases hop : o = p
          · have b1 : ((o : Int) != (p : Int)) = false := by simp; omega
            have HBE := Lib.hid (show beatsB qs p o = false from by rw [hop]; exact beats_same qs p)
            clear hop
            go_wp2
            go_quiet (fail)
            go_wp2
            go_roundg (n - (o + 1))
            case measure => omega
            case rel =>
              refine ⟨o + 1, by omega, by omega, by go_num, (show Drawn _ _ from HDI.out.drN _), (show Aside _ from fun j hj => ?_)⟩
              by_cases e : j = o
              · subst e; exact HBE.out
              · exact AI.out j (by omega)
          · have b1 : ((o : Int) != (p : Int)) = true := by simp; omega
            rcases Nat.eq_zero_or_pos m1 with h1 | h1
            · have b2 : decide (0 < (m1 : Int)) = false := by simp; omega
              have b2' : decide (0 < m1) = false := by simp; omega
              have HBE := Lib.hid (show beatsB qs p o = false from beats_p qs p o (by rw [← HM1.out]; exact h1))
              clear h1 hop
              go_wp2
              go_quiet (fail)
              go_wp2
              go_roundg (n - (o + 1))
              case measure => omega
              case rel =>
                refine ⟨o + 1, by omega, by omega, by go_num, (show Drawn _ _ from HDI.out.drN _), (show Aside _ from fun j hj => ?_)⟩
                by_cases e : j = o
                · subst e; exact HBE.out
                · exact AI.out j (by omega)
            · have b2 : decide (0 < (m1 : Int)) = true := by simp; omega
              have b2' : decide (0 < m1) = true := by simp; omega
              rcases Nat.eq_zero_or_pos m2 with h2 | h2
              · have b3 : decide (0 < (m2 : Int)) = false := by simp; omega
                have b3' : decide (0 < m2) = false := by simp; omega
                have HBE := Lib.hid (show beatsB qs p o = false from beats_o qs p o (by rw [← HM2.out]; exact h2))
                clear h2 h1 hop
                go_wp2
                go_quiet (fail)
                go_wp2
                go_roundg (n - (o + 1))
                case measure => omega
                case rel =>
                  refine ⟨o + 1, by omega, by omega, by go_num, (show Drawn _ _ from HDI.out.drN _), (show Aside _ from fun j hj => ?_)⟩
                  by_cases e : j = o
                  · subst e; exact HBE.out
                  · exact AI.out j (by omega)
              · have b3 : decide (0 < (m2 : Int)) = true := by simp; omega
                have b3' : decide (0 < m2) = true := by simp; omega
                obtain ⟨x1, y1, e1, f1, g1, rfl, hd1, hk1⟩ := HHD1.out h1
                obtain ⟨x2, y2, e2, f2, g2, rfl, hd2, hk2⟩ := HHD2.out h2
                have hz1 : (0 : Int) < (m1 : Int) := by omega
                have hz2 : (0 : Int) < (m2 : Int) := by omega
                rw [HN.out] at hd1 hd2
                have k1 := HEW.out.cl hd1
                have k2 := HEW.out.cl hd2
                have k3 := HEW.out.cl (hk1 p hpq)
                have k4 := HEW.out.cl (hk2 p hpq)
                have hbe := beats_all qs p o hop (by rw [← HM1.out]; exact h1) (by rw [← HM2.out]; exact h2)
                clear hd1 hd2 hk1 hk2
                generalize qs[p]![0]![p]! = x at *
                generalize qs[o]![0]![p]! = y at *
                by_cases hxy : x < y
                · have b4 : decide (x < y) = true := by simpa using hxy
                  have HBE := Lib.hid (show beatsB qs p o = true from by rw [hbe]; exact b4)
                  clear hbe hxy hop
                  go_wp2
                  go_quiet (fail)
                  go_wp2
                  go_ret
                  refine ⟨?_, HEW.out.drN _⟩
                  rw [HBL.out, beaten_hit qs p hpq ((range_any _ _).2 ⟨o, hoq, HBE.out⟩) A.out]
                  rfl
                · have b4 : decide (x < y) = false := by simpa using hxy
                  have HBE := Lib.hid (show beatsB qs p o = false from by rw [hbe]; exact b4)
                  clear hbe hxy hop
                  go_wp2
                  go_quiet (fail)
                  go_wp2
                  go_roundg (n - (o + 1))
                  case measure => omega
                  case rel =>
                    refine ⟨o + 1, by omega, by omega, by go_num, (show Drawn _ _ from HDI.out.drN _), (show Aside _ from fun j hj => ?_)⟩
                    by_cases e : j = o
                    · subst e; exact HBE.out
                    · exact AI.out j (by omega)
        · have hltz2 : ¬ (o : Int) < (n : Int) := by omega
          go_wp2
          go_roundg (n - (p + 1))
          case measure => omega
          case rel =>
            refine ⟨p + 1, by omega, by omega, by go_num, (show Drawn _ _ from HD.out.trans HDI.out), (show Aside _ from fun j hj => ?_)⟩
            by_cases e : j = p
            · subst e; exact (range_any_false _ _).2 (fun i hi => AI.out i (by rw [HN.out] at hi; omega))
            · exact A.out j (by omega)
    · have hltz : ¬ (p : Int) < (n : Int) := by omega
      go_wp2
      go_ret
      refine ⟨?_, ((Ext.rf w).al _).trans' HD.out.ext⟩
      rw [HBL.out, beaten_miss qs (fun j hj => A.out j (by rw [HN.out] at hj; omega))]
      rfl

set_option maxHeartbeats 8000000 in
set_option maxRecDepth 100000 in
theorem beatenR_calls (uq : Value) (qs : List (List (List Int))) (w : World) (hq : Sl RQueue 1 w uq qs) (hf : FitQ qs) :
    Calls Try.prog 81 #[uq] w fun e w' => e = .returned (.int .i64 (beatenL qs)) ∧ Drawn w w' := by
  have HQ := Lib.hid hq
  have HF := Lib.hid hf
  have hn8 := hf.1
  obtain ⟨a, c, rfl, hlc⟩ := hq.shape
  generalize hr : beatenL qs = r
  have HBL := Lib.hid hr.symm
  generalize hn : qs.length = n at *
  have HN := Lib.hid hn
  clear hq hf hr hn
  go_enter Try.func81, Try.ntmps81
  go_wp2
  go_loopg [3, 4] n (fun g s3 _ wr => ∃ p : Nat, p ≤ n ∧ n - p ≤ g ∧ s3 = .int .i64 p ∧ Aside (Drawn w wr) ∧ Aside (∀ j, j < p → beatenAt qs j = false))
  case atStart => exact ⟨0, Nat.zero_le _, by omega, rfl, Drawn.rf _, fun j hj => absurd hj (Nat.not_lt_zero _)⟩
  case round =>
    obtain ⟨p, hp, hg, rfl, HD, A⟩ := hrel
    by_cases hlt : p < n
    · have hltz : (p : Int) < (n : Int) := by omega
      have hp0 : (0 : Int) ≤ (p : Int) := by omega
      obtain ⟨B, O, C, a1, m1, c1, hue0, hcp0, M1, hmc1, HS1, HD1⟩ := heads_at HQ.out HF.out p (by rw [HN.out]; exact hlt)
      simp only [Value.slice.injEq] at hue0
      obtain ⟨rfl, hnn, rfl⟩ := hue0
      have HM1 := Lib.hid M1
      have HHD1 := Lib.hid HD1
      have HCP0 := Lib.hid hcp0
      clear M1 HD1 HS1 hnn
      have HEW0 := Lib.hid HD.out.ext
      clear hcp0
      go_wp2
      obtain ⟨wo, rfl⟩ : ∃ x, x = wr := ⟨_, rfl⟩
      go_loopg [4] n (fun g2 s4 wr => ∃ o : Nat, o ≤ n ∧ n - o ≤ g2 ∧ s4 = .int .i64 o ∧ Aside (Drawn wo wr) ∧ Aside (∀ j, j < o → beatsB qs p j = false))
      case atStart => exact ⟨0, Nat.zero_le _, by omega, rfl, Drawn.rf _, fun j hj => absurd hj (Nat.not_lt_zero _)⟩
      case round =>
        obtain ⟨o, ho, hg2, rfl, HDI, AI⟩ := hrel
        by_cases hlt2 : o < n
        · have hltz2 : (o : Int) < (n : Int) := by omega
          have HEW := Lib.hid (HEW0.out.trans' HDI.out.ext)
          obtain ⟨hpq, hoq⟩ : p < qs.length ∧ o < qs.length := by rw [HN.out]; exact ⟨hlt, hlt2⟩
          obtain ⟨a2, m2, c2, hco0, M2, hmc2, HS2, HD2⟩ := heads_in HQ.out HF.out o hoq
          have hcp := HEW.out.cl HCP0.out
          have hco := HEW.out.cl hco0
          clear hco0 HS2
          have hpz0 : (0 : Int) ≤ (p : Int) := by omega
          have hpz1 : (p : Int) < (n : Int) := by omega
          have hoz0 : (0 : Int) ≤ (o : Int) := by omega
          have hoz1 : (o : Int) < (n : Int) := by omega
          have HM2 := Lib.hid M2
          have HHD2 := Lib.hid HD2
          clear M2 HD2
          by_cases hop : o = p
          · have b1 : ((p : Int) != (o : Int)) = false := by simp; omega
            have HBE := Lib.hid (show beatsB qs p o = false from by rw [hop]; exact beats_same qs p)
            clear hop
            go_wp2
            go_quiet (fail)
            go_wp2
            go_roundg (n - (o + 1))
            case measure => omega
            case rel =>
              refine ⟨o + 1, by omega, by omega, by go_num, (show Drawn _ _ from HDI.out.drN _), (show Aside _ from fun j hj => ?_)⟩
              by_cases e : j = o
              · subst e; exact HBE.out
              · exact AI.out j (by omega)
          · have b1 : ((p : Int) != (o : Int)) = true := by simp; omega
            rcases Nat.eq_zero_or_pos m1 with h1 | h1
            · have b2 : decide (0 < (m1 : Int)) = false := by simp; omega
              have b2' : decide (0 < m1) = false := by simp; omega
              have HBE := Lib.hid (show beatsB qs p o = false from beats_p qs p o (by rw [← HM1.out]; exact h1))
              clear h1 hop
              go_wp2
              go_quiet (fail)
              go_wp2
              go_roundg (n - (o + 1))
              case measure => omega
              case rel =>
                refine ⟨o + 1, by omega, by omega, by go_num, (show Drawn _ _ from HDI.out.drN _), (show Aside _ from fun j hj => ?_)⟩
                by_cases e : j = o
                · subst e; exact HBE.out
                · exact AI.out j (by omega)
            · have b2 : decide (0 < (m1 : Int)) = true := by simp; omega
              have b2' : decide (0 < m1) = true := by simp; omega
              rcases Nat.eq_zero_or_pos m2 with h2 | h2
              · have b3 : decide (0 < (m2 : Int)) = false := by simp; omega
                have b3' : decide (0 < m2) = false := by simp; omega
                have HBE := Lib.hid (show beatsB qs p o = false from beats_o qs p o (by rw [← HM2.out]; exact h2))
                clear h2 h1 hop
                go_wp2
                go_quiet (fail)
                go_wp2
                go_roundg (n - (o + 1))
                case measure => omega
                case rel =>
                  refine ⟨o + 1, by omega, by omega, by go_num, (show Drawn _ _ from HDI.out.drN _), (show Aside _ from fun j hj => ?_)⟩
                  by_cases e : j = o
                  · subst e; exact HBE.out
                  · exact AI.out j (by omega)
              · have b3 : decide (0 < (m2 : Int)) = true := by simp; omega
                have b3' : decide (0 < m2) = true := by simp; omega
                obtain ⟨x1, y1, e1, f1, g1, rfl, hd1, hk1⟩ := HHD1.out h1
                obtain ⟨x2, y2, e2, f2, g2, rfl, hd2, hk2⟩ := HHD2.out h2
                have hz1 : (0 : Int) < (m1 : Int) := by omega
                have hz2 : (0 : Int) < (m2 : Int) := by omega
                rw [HN.out] at hd1 hd2
                have k1 := HEW.out.cl hd1
                have k2 := HEW.out.cl hd2
                have k3 := HEW.out.cl (hk1 p hpq)
                have k4 := HEW.out.cl (hk2 p hpq)
                have hbe := beats_all qs p o hop (by rw [← HM1.out]; exact h1) (by rw [← HM2.out]; exact h2)
                clear hd1 hd2 hk1 hk2
                generalize qs[p]![0]![p]! = x at *
                generalize qs[o]![0]![p]! = y at *
                by_cases hxy : x < y
                · have b4 : decide (x < y) = true := by simpa using hxy
                  have HBE := Lib.hid (show beatsB qs p o = true from by rw [hbe]; exact b4)
                  clear hbe hxy hop
                  go_wp2
                  go_quiet (fail)
                  go_wp2
                  go_ret
                  refine ⟨?_, (HD.out.trans HDI.out).drN _⟩
                  rw [HBL.out, beaten_hit qs p hpq ((range_any _ _).2 ⟨o, hoq, HBE.out⟩) A.out]
                  rfl
                · have b4 : decide (x < y) = false := by simpa using hxy
                  have HBE := Lib.hid (show beatsB qs p o = false from by rw [hbe]; exact b4)
                  clear hbe hxy hop
                  go_wp2
                  go_quiet (fail)
                  go_wp2
                  go_roundg (n - (o + 1))
                  case measure => omega
                  case rel =>
                    refine ⟨o + 1, by omega, by omega, by go_num, (show Drawn _ _ from HDI.out.drN _), (show Aside _ from fun j hj => ?_)⟩
                    by_cases e : j = o
                    · subst e; exact HBE.out
                    · exact AI.out j (by omega)
        · have hltz2 : ¬ (o : Int) < (n : Int) := by omega
          go_wp2
          go_roundg (n - (p + 1))
          case measure => omega
          case rel =>
            refine ⟨p + 1, by omega, by omega, by go_num, (show Drawn _ _ from HD.out.trans HDI.out), (show Aside _ from fun j hj => ?_)⟩
            by_cases e : j = p
            · subst e; exact (range_any_false _ _).2 (fun i hi => AI.out i (by rw [HN.out] at hi; omega))
            · exact A.out j (by omega)
    · have hltz : ¬ (p : Int) < (n : Int) := by omega
      go_wp2
      go_ret
      refine ⟨?_, HD.out⟩
      rw [HBL.out, beaten_miss qs (fun j hj => A.out j (by rw [HN.out] at hj; omega))]
      rfl

end Go.Proofs.Ytggofkaakccoeaa
