/-
  Stamps of the token's layer, of both texts: what is a stamp, and what may follow what.
-/
import Derived.Test.YtpjnppkhhbnfoaaBase
import Derived.Test.YtpjnppkhhbnfoaaProg
import Derived.BigQuiet
import Derived.Deep.QuietTactic
import Derived.Deep.LoopGhost
import Derived.Shelf.Abstract
import Derived.Test.YtpjnppkhhbnfoaaDrawn
import Derived.Test.YtpjnppkhhbnfoaaTokL
import Derived.Test.YtpjnppkhhbnfoaaFnsQ
namespace Go.Proofs.Ytpjnppkhhbnfoaa
open Go.RowKit
set_option linter.unusedVariables false

theorem enters_38 : ∀ args w, (callFunc 38 args).run Try.prog w = .ok (.enter 38 args) w := enters_of Try.func38 (by kernel_rfl) rfl

set_option maxHeartbeats 400000 in
theorem stampT1_calls (x : Int) (w : World) : Calls Try.prog 38 #[.int .i64 x] w fun e w' => e = .returned (.bool (outC x)) ∧ w' = w := by
  by_cases h1 : x < 0
  · have b1 : decide (x < 0) = true := by simpa using h1
    go_enter Try.func38, Try.ntmps38
    go_wp2
    go_ret
    exact ⟨by simp [outC, h1], rfl⟩
  · have b1 : decide (x < 0) = false := by simpa using h1
    go_enter Try.func38, Try.ntmps38
    go_wp2
    go_ret
    exact ⟨by simp [outC, b1], rfl⟩

set_option maxHeartbeats 400000 in
theorem stampT_calls (v : Value) (l : List Int) (n : Nat) (w : World) (hv : Ints w v l) (hn : l.length ≤ 1000000) :
    Calls Try.prog 24 #[v, .int .i64 n] w fun e w' => e = .returned (.bool (stampB l n)) ∧ Drawn w w' := by
  have HC := Lib.hid (containsFuncQ_int 38 #[] enters_38 outC v l w hv hn (fun x W => by simpa using stampT1_calls x W))
  obtain ⟨a, c, rfl, hlc, hv⟩ := hv
  have HB := Lib.hid (show stampB l n = (decide (l.length = n) && !l.any outC) from rfl)
  generalize stampB l n = r at *
  generalize l.any outC = q at *
  generalize l.length = m at *
  clear hv
  by_cases h : m = n
  · have b1 : ((m : Int) == (n : Int)) = true := by simp; omega
    have HH := Lib.hid h; clear h
    go_enter Try.func24, Try.ntmps24
    go_wp2_with fail
    refine HC.out.mono ?_
    rintro e w1 ⟨rfl, rfl⟩
    go_wp2
    go_ret
    exact ⟨by rw [HB.out, decide_eq_true HH.out]; simp, Drawn.rf _⟩
  · have b1 : ((m : Int) == (n : Int)) = false := by simp; omega
    have HH := Lib.hid h; clear h
    go_enter Try.func24, Try.ntmps24
    go_wp2
    go_ret
    exact ⟨by rw [HB.out, decide_eq_false HH.out]; simp, Drawn.rf _⟩

set_option maxHeartbeats 1000000 in
theorem stampTR_calls (v : Value) (l : List Int) (n : Nat) (w : World) (hv : Ints w v l) (hn : l.length ≤ 1000000) :
    Calls Try.prog 29 #[v, .int .i64 n] w fun e w' => e = .returned (.bool (stampB l n)) ∧ Drawn w w' := by
  obtain ⟨a, c, rfl, hlc, hv⟩ := hv
  have HB := Lib.hid (show stampB l n = (decide (l.length = n) && !l.any outC) from rfl)
  generalize stampB l n = r at *
  have HANY := Lib.hid (any_out l)
  have HV := Lib.hid hv
  clear hv
  generalize hm : l.length = m at *
  by_cases h : m = n
  · subst h
    have HM := Lib.hid hm
    clear hm
    have b1 : ((m : Int) != (m : Int)) = false := by simp
    go_enter Try.func29, Try.ntmps29
    go_wp2
    go_loopg [5] m (fun g s5 wr => ∃ k : Nat, k ≤ m ∧ m - k ≤ g ∧ s5 = .int .i64 k ∧ wr = w ∧ Aside (∀ j, j < k → outC l[j]! = false))
    case atStart => exact ⟨0, Nat.zero_le _, by omega, rfl, rfl, fun j hj => absurd hj (Nat.not_lt_zero _)⟩
    case round =>
      obtain ⟨k, hk, hg, rfl, rfl, A⟩ := hrel
      by_cases hlt : k < m
      · obtain ⟨b, off, rfl, hb, hc⟩ := HV.out (by intro e; have := HM.out; simp [e] at this; omega)
        have hcell := hc k hlt
        have hltz : (k : Int) < (m : Int) := by omega
        have hkz : (0 : Int) ≤ (k : Int) := by omega
        clear hc
        generalize hy : l[k]! = y at hcell
        have B := Lib.hid hy
        clear hy
        by_cases h1 : y < 0
        · have c1 : decide (y < 0) = true := by simpa using h1
          have HX := Lib.hid (show outC y = true from by simp [outC, h1])
          go_wp2
          go_ret
          exact ⟨by rw [HB.out, HANY.out, (range_any _ _).2 ⟨k, hlt, by rw [B.out]; exact HX.out⟩]; simp, Drawn.rf _⟩
        · have c1 : decide (y < 0) = false := by simpa using h1
          by_cases h2 : 64 < y
          · have c2 : decide (64 < y) = true := by simpa using h2
            have HX := Lib.hid (show outC y = true from by simp [outC, h2])
            go_wp2
            go_ret
            exact ⟨by rw [HB.out, HANY.out, (range_any _ _).2 ⟨k, hlt, by rw [B.out]; exact HX.out⟩]; simp, Drawn.rf _⟩
          · have c2 : decide (64 < y) = false := by simpa using h2
            have HX := Lib.hid (show outC y = false from by unfold outC; rw [c1, c2]; rfl)
            go_wp2
            go_roundg (m - (k + 1))
            case measure => omega
            case rel =>
              refine ⟨k + 1, by omega, by omega, by go_num, rfl, (show Aside _ from fun j hj => ?_)⟩
              by_cases e : j = k
              · subst e; rw [B.out]; exact HX.out
              · exact A.out j (by omega)
      · have hltz : ¬ (k : Int) < (m : Int) := by omega
        go_wp2
        go_ret
        exact ⟨by rw [HB.out, HANY.out, (range_any_false _ _).2 (fun i hi => A.out i (by omega))]; simp, Drawn.rf _⟩
  · have b1 : ((m : Int) != (n : Int)) = true := by simp; omega
    have HH := Lib.hid h; clear h
    go_enter Try.func29, Try.ntmps29
    go_wp2
    go_ret
    exact ⟨by rw [HB.out, decide_eq_false HH.out]; simp, Drawn.rf _⟩

set_option maxHeartbeats 4000000 in
theorem followT_calls (v1 v2 : Value) (l1 l2 : List Int) (n p : Nat) (w : World) (hv1 : Ints w v1 l1) (hv2 : Ints w v2 l2) (h1 : l1.length = n) (h2 : l2.length = n) (hp : p < n) (hn : n ≤ 1000000) :
    Calls Try.prog 25 #[v1, v2, .int .i64 p] w fun e w' => e = .returned (.bool (afterB l1 l2 p)) ∧ Drawn w w' := by
  have HB := Lib.hid (afterP_eq l1 l2 p (by omega))
  generalize afterB l1 l2 p = r at *
  obtain ⟨a1, c1, rfl, hlc1, hv1⟩ := hv1
  obtain ⟨a2, c2, rfl, hlc2, hv2⟩ := hv2
  have H1 := Lib.hid h1
  have H2 := Lib.hid h2
  rw [h1] at hlc1 hv1 ⊢
  rw [h2] at hlc2 hv2 ⊢
  have HV1 := Lib.hid hv1
  have HV2 := Lib.hid hv2
  clear hv1 hv2 h1 h2
  go_enter Try.func25, Try.ntmps25
  go_wp2
  go_loopg [10] n (fun g s10 wr => ∃ k : Nat, k ≤ n ∧ n - k ≤ g ∧ s10 = .int .i64 k ∧ Aside (Drawn w wr) ∧ Aside (∀ j, j < k → (decide (l1[j]! ≤ l2[j]!) && !(decide (j = p) && decide (l2[j]! = l1[j]!))) = true))
  case atStart => exact ⟨0, Nat.zero_le _, by omega, rfl, Drawn.rf _, fun j hj => absurd hj (Nat.not_lt_zero _)⟩
  case round =>
    obtain ⟨k, hk, hg, rfl, HD, A⟩ := hrel
    by_cases hlt : k < n
    · skip
      obtain ⟨b1, o1, rfl, hb1, hc1⟩ := HV1.out (by intro e; have := H1.out; simp [e] at this; omega)
      obtain ⟨b2, o2, rfl, hb2, hc2⟩ := HV2.out (by intro e; have := H2.out; simp [e] at this; omega)
      have hcell1 : wr.cell? ⟨b1, o1 + k, none⟩ = some (.int .i64 l1[k]!) := (HD.out.cell _).trans (hc1 k hlt)
      have hcell2 : wr.cell? ⟨b2, o2 + k, none⟩ = some (.int .i64 l2[k]!) := (HD.out.cell _).trans (hc2 k hlt)
      have hltz : (k : Int) < (n : Int) := by omega
      have hkz : (0 : Int) ≤ (k : Int) := by omega
      clear hc1 hc2
      generalize hx : l1[k]! = x at hcell1
      generalize hy : l2[k]! = y at hcell2
      have X := Lib.hid hx
      have Y := Lib.hid hy
      clear hx hy
      by_cases h : y < x
      · have c1 : decide (y < x) = true := by simpa using h
        have HX := Lib.hid (show (decide (x ≤ y) && !(decide (k = p) && decide (y = x))) = false from by rw [decide_eq_false (by omega)]; rfl)
        clear h
        go_wp2
        go_quiet (fail)
        go_wp2
        go_ret
        refine ⟨?_, HD.out.drN _⟩
        have hf : (List.range l1.length).all (fun i => decide (l1[i]! ≤ l2[i]!) && !(decide (i = p) && decide (l2[i]! = l1[i]!))) = false := by
          rw [List.all_eq_false]
          exact ⟨k, List.mem_range.2 (by rw [H1.out]; exact hlt), by rw [X.out, Y.out, HX.out]; simp⟩
        rw [HB.out, hf]
        rfl
      · have c1 : decide (y < x) = false := by simpa using h
        by_cases hkp : k = p
        · have c2 : ((k : Int) == (p : Int)) = true := by simp; omega
          by_cases hyx : y = x
          · have c3 : (y == x) = true := by simpa using hyx
            have HX := Lib.hid (show (decide (x ≤ y) && !(decide (k = p) && decide (y = x))) = false from by rw [decide_eq_true hkp, decide_eq_true hyx]; simp)
            clear h hkp hyx
            go_wp2
            go_quiet (fail)
            go_wp2
            go_ret
            refine ⟨?_, HD.out.drN _⟩
            have hf : (List.range l1.length).all (fun i => decide (l1[i]! ≤ l2[i]!) && !(decide (i = p) && decide (l2[i]! = l1[i]!))) = false := by
              rw [List.all_eq_false]
              exact ⟨k, List.mem_range.2 (by rw [H1.out]; exact hlt), by rw [X.out, Y.out, HX.out]; simp⟩
            rw [HB.out, hf]
            rfl
          · have c3 : (y == x) = false := by simpa using hyx
            have HX := Lib.hid (show (decide (x ≤ y) && !(decide (k = p) && decide (y = x))) = true from by rw [decide_eq_true hkp, decide_eq_false hyx, decide_eq_true (by omega)]; simp)
            clear h hkp hyx
            go_wp2
            go_quiet (fail)
            go_wp2
            go_roundg (n - (k + 1))
            case measure => omega
            case rel =>
              refine ⟨k + 1, by omega, by omega, by go_num, HD.out.drN _, (show Aside _ from fun j hj => ?_)⟩
              by_cases e : j = k
              · subst e; rw [X.out, Y.out]; exact HX.out
              · exact A.out j (by omega)
        · have c2 : ((k : Int) == (p : Int)) = false := by simp; omega
          have HX := Lib.hid (show (decide (x ≤ y) && !(decide (k = p) && decide (y = x))) = true from by rw [decide_eq_false hkp, decide_eq_true (by omega)]; simp)
          clear h hkp
          go_wp2
          go_quiet (fail)
          go_wp2
          go_roundg (n - (k + 1))
          case measure => omega
          case rel =>
            refine ⟨k + 1, by omega, by omega, by go_num, HD.out.drN _, (show Aside _ from fun j hj => ?_)⟩
            by_cases e : j = k
            · subst e; rw [X.out, Y.out]; exact HX.out
            · exact A.out j (by omega)
    · have hltz : ¬ (k : Int) < (n : Int) := by omega
      go_wp2
      go_ret
      refine ⟨?_, HD.out⟩
      rw [HB.out, (range_all _ _).2 (fun i hi => A.out i (by rw [H1.out] at hi; omega))]
      rfl

set_option maxHeartbeats 4000000 in
theorem followTR_calls (v1 v2 : Value) (l1 l2 : List Int) (n p : Nat) (w : World) (hv1 : Ints w v1 l1) (hv2 : Ints w v2 l2) (h1 : l1.length = n) (h2 : l2.length = n) (hp : p < n) (hn : n ≤ 1000000) :
    Calls Try.prog 30 #[.int .i64 p, v1, v2] w fun e w' => e = .returned (.bool (afterB l1 l2 p)) ∧ Drawn w w' := by
  have HB := Lib.hid (afterP_eq l1 l2 p (by omega))
  generalize afterB l1 l2 p = r at *
  obtain ⟨a1, c1, rfl, hlc1, hv1⟩ := hv1
  obtain ⟨a2, c2, rfl, hlc2, hv2⟩ := hv2
  have H1 := Lib.hid h1
  have H2 := Lib.hid h2
  rw [h1] at hlc1 hv1 ⊢
  rw [h2] at hlc2 hv2 ⊢
  have HV1 := Lib.hid hv1
  have HV2 := Lib.hid hv2
  clear hv1 hv2 h1 h2
  go_enter Try.func30, Try.ntmps30
  go_wp2
  go_loopg [7] n (fun g s10 wr => ∃ k : Nat, k ≤ n ∧ n - k ≤ g ∧ s10 = .int .i64 k ∧ Aside (Drawn w wr) ∧ Aside (∀ j, j < k → (decide (l1[j]! ≤ l2[j]!) && !(decide (j = p) && decide (l2[j]! = l1[j]!))) = true))
  case atStart => exact ⟨0, Nat.zero_le _, by omega, rfl, Drawn.rf _, fun j hj => absurd hj (Nat.not_lt_zero _)⟩
  case round =>
    obtain ⟨k, hk, hg, rfl, HD, A⟩ := hrel
    by_cases hlt : k < n
    · skip
      obtain ⟨b1, o1, rfl, hb1, hc1⟩ := HV1.out (by intro e; have := H1.out; simp [e] at this; omega)
      obtain ⟨b2, o2, rfl, hb2, hc2⟩ := HV2.out (by intro e; have := H2.out; simp [e] at this; omega)
      have hcell1 : wr.cell? ⟨b1, o1 + k, none⟩ = some (.int .i64 l1[k]!) := (HD.out.cell _).trans (hc1 k hlt)
      have hcell2 : wr.cell? ⟨b2, o2 + k, none⟩ = some (.int .i64 l2[k]!) := (HD.out.cell _).trans (hc2 k hlt)
      have hltz : (k : Int) < (n : Int) := by omega
      have hkz : (0 : Int) ≤ (k : Int) := by omega
      clear hc1 hc2
      generalize hx : l1[k]! = x at hcell1
      generalize hy : l2[k]! = y at hcell2
      have X := Lib.hid hx
      have Y := Lib.hid hy
      clear hx hy
      by_cases h : y < x
      · have c1 : decide (y < x) = true := by simpa using h
        have HX := Lib.hid (show (decide (x ≤ y) && !(decide (k = p) && decide (y = x))) = false from by rw [decide_eq_false (by omega)]; rfl)
        clear h
        go_wp2
        go_quiet (fail)
        go_wp2
        go_ret
        refine ⟨?_, HD.out.drN _⟩
        have hf : (List.range l1.length).all (fun i => decide (l1[i]! ≤ l2[i]!) && !(decide (i = p) && decide (l2[i]! = l1[i]!))) = false := by
          rw [List.all_eq_false]
          exact ⟨k, List.mem_range.2 (by rw [H1.out]; exact hlt), by rw [X.out, Y.out, HX.out]; simp⟩
        rw [HB.out, hf]
        rfl
      · have c1 : decide (y < x) = false := by simpa using h
        by_cases hkp : k = p
        · have c2 : ((k : Int) == (p : Int)) = true := by simp; omega
          by_cases hyx : y = x
          · have c3 : (y == x) = true := by simpa using hyx
            have HX := Lib.hid (show (decide (x ≤ y) && !(decide (k = p) && decide (y = x))) = false from by rw [decide_eq_true hkp, decide_eq_true hyx]; simp)
            clear h hkp hyx
            go_wp2
            go_quiet (fail)
            go_wp2
            go_ret
            refine ⟨?_, HD.out.drN _⟩
            have hf : (List.range l1.length).all (fun i => decide (l1[i]! ≤ l2[i]!) && !(decide (i = p) && decide (l2[i]! = l1[i]!))) = false := by
              rw [List.all_eq_false]
              exact ⟨k, List.mem_range.2 (by rw [H1.out]; exact hlt), by rw [X.out, Y.out, HX.out]; simp⟩
            rw [HB.out, hf]
            rfl
          · have c3 : (y == x) = false := by simpa using hyx
            have HX := Lib.hid (show (decide (x ≤ y) && !(decide (k = p) && decide (y = x))) = true from by rw [decide_eq_true hkp, decide_eq_false hyx, decide_eq_true (by omega)]; simp)
            clear h hkp hyx
            go_wp2
            go_quiet (fail)
            go_wp2
            go_roundg (n - (k + 1))
            case measure => omega
            case rel =>
              refine ⟨k + 1, by omega, by omega, by go_num, HD.out.drN _, (show Aside _ from fun j hj => ?_)⟩
              by_cases e : j = k
              · subst e; rw [X.out, Y.out]; exact HX.out
              · exact A.out j (by omega)
        · have c2 : ((k : Int) == (p : Int)) = false := by simp; omega
          have HX := Lib.hid (show (decide (x ≤ y) && !(decide (k = p) && decide (y = x))) = true from by rw [decide_eq_false hkp, decide_eq_true (by omega)]; simp)
          clear h hkp
          go_wp2
          go_quiet (fail)
          go_wp2
          go_roundg (n - (k + 1))
          case measure => omega
          case rel =>
            refine ⟨k + 1, by omega, by omega, by go_num, HD.out.drN _, (show Aside _ from fun j hj => ?_)⟩
            by_cases e : j = k
            · subst e; rw [X.out, Y.out]; exact HX.out
            · exact A.out j (by omega)
    · have hltz : ¬ (k : Int) < (n : Int) := by omega
      go_wp2
      go_ret
      refine ⟨?_, HD.out⟩
      rw [HB.out, (range_all _ _).2 (fun i hi => A.out i (by rw [H1.out] at hi; omega))]
      rfl

end Go.Proofs.Ytpjnppkhhbnfoaa
