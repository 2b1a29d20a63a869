/-
  The walks of the reference's in, Request and Fault of layer 51.
-/
import Derived.Test.YtodkcfebcjgahaaBase
import Derived.Test.YtodkcfebcjgahaaProg
import Derived.BigQuiet
import Derived.Deep.QuietTactic
import Derived.Deep.LoopGhost
import Derived.Shelf.Abstract
import Derived.Test.YtodkcfebcjgahaaValid
namespace Go.Proofs.Ytodkcfebcjgahaa
open Go.RowKit
set_option linter.unusedVariables false

set_option maxHeartbeats 400000 in
theorem in51_calls (x : Int) (v : Value) (l : List Int) (w : World) (hv : Ints w v l) (hn : l.length ≤ 1000000) :
    Calls Try.prog 23 #[v, .int .i64 x] w fun e w' => e = .returned (.bool (l.contains x)) ∧ w' = w := by
  obtain ⟨a, c, rfl, hlc, hv⟩ := hv
  have HLC := Lib.hid hlc; clear hlc
  have HV := Lib.hid hv; clear hv
  rw [show l.contains x = l.any (fun y => y == x) from by rw [List.contains_eq_any_beq]; congr 1; funext y; rw [Bool.eq_iff_iff, beq_iff_eq, beq_iff_eq]; exact ⟨Eq.symm, Eq.symm⟩]
  generalize hln : l.length = n at hn
  have HL := Lib.hid hln; clear hln
  have H1 := Lib.hid (any_hit (fun y => y == x) l)
  have H0 := Lib.hid (any_miss (fun y => y == x) l)
  generalize l.any (fun y => y == x) = ans at *
  go_enter Try.func23, Try.ntmps23
  go_wp2
  go_loopg [5] n (fun m s5 wr => ∃ k : Nat, k ≤ n ∧ n - k ≤ m ∧ s5 = .int .i64 k ∧ wr = w ∧ Aside (∀ j, j < k → (fun y => y == x) l[j]! = false))
  case atStart => exact ⟨0, Nat.zero_le _, by omega, rfl, rfl, (fun j hj => absurd hj (Nat.not_lt_zero _))⟩
  case round =>
    obtain ⟨k, hk, hm, rfl, rfl, A⟩ := hrel
    by_cases hlt : k < n
    · obtain ⟨b, off, rfl, hb, hc⟩ := HV.out (by intro e; have := HL.out; simp [e] at this; omega)
      have hcell : wr.cell? ⟨b, off + k, none⟩ = some (.int .i64 l[k]!) := hc k (by rw [HL.out]; exact hlt)
      have hltz : (k : Int) < (n : Int) := by omega
      clear hc HV
      generalize hy : l[k]! = y at hcell
      have B := Lib.hid hy
      clear hy
      cases hq : (y == x) with
      | true =>
        have HA := Lib.hid (H1.out k (by rw [HL.out]; exact hlt) (by rw [B.out]; exact hq))
        go_wp2
        go_ret
        exact ⟨by rw [HA.out]; rfl, rfl⟩
      | false =>
        have HQ := Lib.hid hq
        go_wp2
        go_roundg (n - (k + 1))
        case measure => omega
        case rel =>
          refine ⟨k + 1, by omega, by omega, by go_num, rfl, (show Aside _ from fun j hj => ?_)⟩
          by_cases e : j = k
          · subst e
            rw [B.out]; exact HQ.out
          · exact A.out j (by omega)
    · have hltz : ¬ (k : Int) < (n : Int) := by omega
      have HA := Lib.hid (H0.out (fun j hj => A.out j (by rw [HL.out] at hj; omega)))
      go_wp2
      go_ret
      exact ⟨by rw [HA.out]; rfl, rfl⟩

theorem enters_23 : ∀ args w, (callFunc 23 args).run Try.prog w = .ok (.enter 23 args) w := enters_of Try.func23 (by kernel_rfl) rfl

/-- The place of the first request of a process; -1. -/
def reqAt (l : List Wt) (p : Int) : Int := firstAt (fun x => x.proc == p) l

set_option maxHeartbeats 400000 in
theorem request_calls (p : Int) (u : Value) (l : List Wt) (w : World) (hu : Sl RWait 3 w u l) (hn : l.length ≤ 1000000) :
    Calls Try.prog 36 #[u, .int .i64 p] w fun e w' => e = .returned (.int .i64 (reqAt l p)) ∧ w' = w := by
  obtain ⟨a, c, rfl, hlc, hv⟩ := hu
  have HLC := Lib.hid hlc; clear hlc
  have HV := Lib.hid hv; clear hv
  generalize hln : l.length = n at hn
  have HL := Lib.hid hln; clear hln
  have H1 := Lib.hid (firstAt_hit (fun x : Wt => x.proc == p) l)
  have H0 := Lib.hid (firstAt_miss (fun x : Wt => x.proc == p) l)
  unfold reqAt
  generalize firstAt (fun x : Wt => x.proc == p) l = ans at *
  go_enter Try.func36, Try.ntmps36
  go_wp2
  go_loopg [5] n (fun m s5 wr => ∃ k : Nat, k ≤ n ∧ n - k ≤ m ∧ s5 = .int .i64 k ∧ wr = w ∧ Aside (∀ j, j < k → (fun x : Wt => x.proc == p) l[j]! = false))
  case atStart => exact ⟨0, Nat.zero_le _, by omega, rfl, rfl, (fun j hj => absurd hj (Nat.not_lt_zero _))⟩
  case round =>
    obtain ⟨k, hk, hm, rfl, rfl, A⟩ := hrel
    by_cases hlt : k < n
    · obtain ⟨b, off, rfl, hb, hc⟩ := HV.out (by intro e; have := HL.out; simp [e] at this; omega)
      obtain ⟨vs, hvs, ⟨fv, rfl, hfi⟩, hcell⟩ := hc k (by rw [HL.out]; exact hlt)
      have d0 : wr.cell? ⟨b, off + k * 3, none⟩ = some (.int .i64 l[k]!.proc) := hcell 0 (by omega)
      have hltz : (k : Int) < (n : Int) := by omega
      clear hc HV hcell hvs hfi
      generalize hy : l[k]! = y at d0
      have B := Lib.hid hy
      clear hy
      cases hq : (y.proc == p) with
      | true =>
        have HA := Lib.hid (H1.out k (by rw [HL.out]; exact hlt) (by rw [B.out]; exact hq) A.out)
        go_wp2
        go_ret
        exact ⟨by rw [HA.out]; rfl, rfl⟩
      | false =>
        have HQ := Lib.hid hq
        go_wp2
        go_roundg (n - (k + 1))
        case measure => omega
        case rel =>
          refine ⟨k + 1, by omega, by omega, by go_num, rfl, (show Aside _ from fun j hj => ?_)⟩
          by_cases e : j = k
          · subst e
            rw [B.out]; exact HQ.out
          · exact A.out j (by omega)
    · have hltz : ¬ (k : Int) < (n : Int) := by omega
      have HA := Lib.hid (H0.out (fun j hj => A.out j (by rw [HL.out] at hj; omega)))
      go_wp2
      go_ret
      exact ⟨by rw [HA.out]; rfl, rfl⟩

theorem enters_36 : ∀ args w, (callFunc 36 args).run Try.prog w = .ok (.enter 36 args) w := enters_of Try.func36 (by kernel_rfl) rfl

set_option maxHeartbeats 4000000 in
set_option maxRecDepth 100000 in
theorem fault_calls (u : Value) (l : List Wt) (n : Int) (w : World) (hu : Sl RWait 3 w u l) (hn : l.length ≤ 1000000) (hfl : ∀ x, x ∈ l → x.fors.length ≤ 1000000) :
    Calls Try.prog 7 #[u, .int .i64 n] w fun e w' => e = .returned (.int .i64 (validL l n)) ∧ Ext w w' := by
  by_cases h1 : n < 0
  · have HV := Lib.hid (show validL l n = 2 from by unfold validL; rw [if_pos (.inl h1)])
    go_enter Try.func7, Try.ntmps7
    go_wp2
    go_ret
    exact ⟨by rw [HV.out]; rfl, Ext.rf _⟩
  by_cases h2 : 512 < n
  · have HV := Lib.hid (show validL l n = 2 from by unfold validL; rw [if_pos (.inr h2)])
    go_enter Try.func7, Try.ntmps7
    go_wp2
    go_ret
    exact ⟨by rw [HV.out]; rfl, Ext.rf _⟩
  obtain ⟨a, c, rfl, hlc, hu⟩ := hu
  have HU := Lib.hid hu; clear hu hlc
  have HF := Lib.hid hfl; clear hfl
  generalize hln : l.length = L at hn
  have HL := Lib.hid hln
  clear hln
  have HV1 := Lib.hid (fun k (hk : k < L) => validL_arg (l := l) (n := n) k (by rw [HL.out]; exact hk) (by omega) (by omega))
  have HV0 := Lib.hid (fun (h : ∀ k, k < L → badAt l n k = false) => validL_ok (l := l) (n := n) (by omega) (by omega) (by rw [HL.out]; exact h))
  generalize validL l n = ans at *
  go_enter Try.func7, Try.ntmps7
  go_wp2
  go_loopg [5] L (fun g s5 wr => ∃ k : Nat, k ≤ L ∧ L - k ≤ g ∧ s5 = .int .i64 k ∧ Ext w wr ∧ Aside (∀ j, j < k → badAt l n j = false))
  case atStart => exact ⟨0, Nat.zero_le _, by omega, rfl, Ext.rf _, fun j hj => absurd hj (Nat.not_lt_zero _)⟩
  case round =>
    obtain ⟨k, hk, hg, rfl, he, A⟩ := hrel
    obtain ⟨wo, rfl⟩ : ∃ wo : World, wo = wr := ⟨_, rfl⟩
    have HE := Lib.hid he; clear he
    by_cases hlt : k < L
    · obtain ⟨b, off, rfl, hb, hc⟩ := HU.out (by intro e; have := HL.out; simp [e] at this; omega)
      obtain ⟨vs, hvs, ⟨fv, rfl, hfi⟩, hcell⟩ := hc k (by rw [HL.out]; exact hlt)
      have d0 : wo.cell? ⟨b, off + k * 3, none⟩ = some (.int .i64 l[k]!.proc) := HE.out.cl (hcell 0 (by omega))
      have d1 : wo.cell? ⟨b, off + k * 3 + 1, none⟩ = some (.int .i64 l[k]!.need) := HE.out.cl (hcell 1 (by omega))
      have d2 : wo.cell? ⟨b, off + k * 3 + 2, none⟩ = some fv := HE.out.cl (hcell 2 (by omega))
      have hltz : (k : Int) < (L : Int) := by omega
      have hfb := HF.out _ (mem_at l k (by rw [HL.out]; exact hlt))
      have HBA := Lib.hid (show badAt l n k = (decide (l[k]!.proc < 0) || decide (n ≤ l[k]!.proc) || decide (l[k]!.need < 1) || decide ((l[k]!.fors.length : Int) < l[k]!.need) || (l.take k).any (fun y => y.proc == l[k]!.proc) || (List.range l[k]!.fors.length).any (badFor l[k]! n)) from rfl)
      have HC := Lib.hid hc
      clear hc hcell hvs HU
      have hfi2 := hfi
      obtain ⟨fa, fc, rfl, hfc, hfd⟩ := hfi
      have FI := Lib.hid hfi2
      have FD := Lib.hid hfd
      clear hfi2 hfd
      generalize hx : l[k]! = x at *
      obtain ⟨p, q, fl⟩ := x
      simp only at *
      generalize hfn : fl.length = F at *
      have HFN := Lib.hid hfn
      have HX := Lib.hid hx
      clear hfn hx
      by_cases t1 : p < 0
      · have HA := Lib.hid (HV1.out k hlt (by rw [HBA.out]; simp [t1]))
        go_wp2
        go_ret
        exact ⟨by rw [HA.out]; rfl, HE.out.al _⟩
      by_cases t2 : n ≤ p
      · have HA := Lib.hid (HV1.out k hlt (by rw [HBA.out]; simp [t2]))
        go_wp2
        go_ret
        exact ⟨by rw [HA.out]; rfl, HE.out.al _⟩
      by_cases t3 : q < 1
      · have HA := Lib.hid (HV1.out k hlt (by rw [HBA.out]; simp [t3]))
        go_wp2
        go_ret
        exact ⟨by rw [HA.out]; rfl, HE.out.al _⟩
      by_cases t4 : (F : Int) < q
      · have HA := Lib.hid (HV1.out k hlt (by rw [HBA.out]; simp [t4]))
        go_wp2
        go_ret
        exact ⟨by rw [HA.out]; rfl, HE.out.al _⟩
      have f0 := Lib.hid (cell_new wo #[.int .i64 p, .int .i64 q, .slice fa F fc] 31 0 _ rfl)
      have f2 := Lib.hid (cell_new wo #[.int .i64 p, .int .i64 q, .slice fa F fc] 31 2 _ rfl)
      have HEa := Lib.hid (HE.out.al (.cells #[.int .i64 p, .int .i64 q, .slice fa F fc] 31))
      have HAk := Lib.hid (fun (h : ∀ i, i < k → (l[i]!.proc == p) = false) => (show (l.take k).any (fun y => y.proc == p) = false from any_miss _ _ (fun i hi => by
        rw [List.length_take] at hi
        have e : (l.take k)[i]! = l[i]! := by rw [getElem!_pos l i (by omega), getElem!_pos _ i (by rw [List.length_take]; omega), List.getElem_take]
        rw [e]; exact h i (by omega))))
      have HAy := Lib.hid (fun i (hi : i < k) (h : (l[i]!.proc == p) = true) => HV1.out k hlt (by
        rw [HBA.out, any_hit (fun y => y.proc == p) (l.take k) i (by rw [List.length_take, HL.out]; omega) (by
          have e : (l.take k)[i]! = l[i]! := by rw [getElem!_pos l i (by rw [HL.out]; omega), getElem!_pos _ i (by rw [List.length_take, HL.out]; omega), List.getElem_take]
          rw [e]; exact h)]
        simp))
      go_wp2
      generalize hW0 : wo.alloc (.cells #[.int .i64 p, .int .i64 q, .slice fa F fc] 31) = w0 at *
      clear hW0 d0 d1 d2
      generalize wo.heap.size = bw at *
      go_loopg [7] k (fun g s7 wr => ∃ j : Nat, j ≤ k ∧ k - j ≤ g ∧ s7 = .int .i64 j ∧ Ext w0 wr ∧ Aside (∀ i, i < j → (l[i]!.proc == p) = false))
      case atStart => exact ⟨0, Nat.zero_le _, by omega, rfl, Ext.rf _, fun j hj => absurd hj (Nat.not_lt_zero _)⟩
      case round =>
        obtain ⟨j, hj, hjg, rfl, he2, A2⟩ := hrel
        have HE2 := Lib.hid (HEa.out.trans' he2)
        have HX2 := Lib.hid he2
        clear he2
        by_cases hjt : j < k
        · have hjtz : (j : Int) < (k : Int) := by omega
          have hjl : (j : Int) < (L : Int) := by omega
          have hj0 : (0 : Int) ≤ (j : Int) := by omega
          obtain ⟨vs, hvs, ⟨fv, rfl, _⟩, hcell⟩ := HC.out j (by rw [HL.out]; omega)
          have e0 : wr.cell? ⟨b, off + j * 3, none⟩ = some (.int .i64 l[j]!.proc) := HE2.out.cl (hcell 0 (by omega))
          have e1 : wr.cell? ⟨bw, 0, none⟩ = some (.int .i64 p) := HX2.out.cl f0.out
          clear hcell hvs
          generalize hy : l[j]! = y at e0
          have HY := Lib.hid hy
          clear hy
          cases hq : (y.proc == p) with
          | true =>
            have HA := Lib.hid (HAy.out j hjt (by rw [HY.out]; exact hq))
            go_wp2
            go_quiet (fail)
            go_wp2
            go_ret
            exact ⟨by rw [HA.out]; rfl, HE2.out.drN _⟩
          | false =>
            have HQ := Lib.hid hq
            go_wp2
            go_quiet (fail)
            go_wp2
            go_roundg (k - (j + 1))
            case measure => omega
            case rel =>
              refine ⟨j + 1, by omega, by omega, by go_num, HX2.out.drN _, (show Aside _ from fun i hi => ?_)⟩
              by_cases e : i = j
              · subst e; rw [HY.out]; exact HQ.out
              · exact A2.out i (by omega)
        · have hjtz : ¬ (j : Int) < (k : Int) := by omega
          obtain rfl : j = k := by omega
          obtain ⟨w2, rfl⟩ : ∃ w2 : World, w2 = wr := ⟨_, rfl⟩
          have T5 := Lib.hid (HAk.out A2.out)
          have HA1 := Lib.hid (fun i (hi : i < F) (hb : badFor ⟨p, q, fl⟩ n i = true) => HV1.out j hlt (by rw [HBA.out, range_any_hit F _ i hi hb]; simp))
          have HA0 := Lib.hid (fun (h : ∀ i, i < F → badFor ⟨p, q, fl⟩ n i = false) => (show badAt l n j = false from by rw [HBA.out, T5.out, range_any_miss F _ h]; simp; omega))
          clear HBA HV1 HV0 T5 HAk HAy A2
          go_wp2
          go_loopg [8] F (fun g s8 wr' => ∃ i : Nat, i ≤ F ∧ F - i ≤ g ∧ s8 = .int .i64 i ∧ Ext w2 wr' ∧ Aside (∀ m, m < i → badFor ⟨p, q, fl⟩ n m = false))
          case atStart => exact ⟨0, Nat.zero_le _, by omega, rfl, Ext.rf _, fun j hj => absurd hj (Nat.not_lt_zero _)⟩
          case round =>
            obtain ⟨i, hi, hig, rfl, he3, A3⟩ := hrel
            have HE3 := Lib.hid (HE2.out.trans' he3)
            have HX3 := Lib.hid he3
            clear he3
            have e0 : wr.cell? ⟨bw, 0, none⟩ = some (.int .i64 p) := (HX2.out.trans' HX3.out).cl f0.out
            have e2 : wr.cell? ⟨bw, 2, none⟩ = some (.slice fa F fc) := (HX2.out.trans' HX3.out).cl f2.out
            by_cases hjt : i < F
            · have hjtz : (i : Int) < (F : Int) := by omega
              have hi0 : (0 : Int) ≤ (i : Int) := by omega
              obtain ⟨b2, o2, rfl, hb2, hc2⟩ := FD.out (by intro e; have := HFN.out; simp [e] at this; omega)
              have hy : wr.cell? ⟨b2, o2 + i, none⟩ = some (.int .i64 fl[i]!) := HE3.out.cl (hc2 i hjt)
              have HC2 := Lib.hid (fun (y : Int) (W : World) (hW : Ext w W) => in51_calls y (.slice (some ⟨b2, o2, none⟩) i fc) (fl.take i) W (((FI.out.ext hW).take i (by rw [HFN.out]; exact hi))) (by rw [List.length_take]; omega))
              have HB2 := Lib.hid (show badFor ⟨p, q, fl⟩ n i = (decide (fl[i]! < 0) || decide (n ≤ fl[i]!) || (fl[i]! == p) || (fl.take i).contains fl[i]!) from rfl)
              clear hc2 FD
              generalize hyy : fl[i]! = y at *
              have HY := Lib.hid hyy; clear hyy
              by_cases s1 : y < 0
              · have HA := Lib.hid (HA1.out i hjt (by rw [HB2.out]; simp [s1]))
                clear HA1 HA0 HB2 HC2
                go_wp2
                have s1d : decide (y < 0) = true := decide_eq_true s1
                clear s1
                go_quiet (fail)
                go_wp2
                go_ret
                exact ⟨by rw [HA.out]; rfl, HE3.out.drN _⟩
              by_cases s2 : n ≤ y
              · have HA := Lib.hid (HA1.out i hjt (by rw [HB2.out]; simp [s2]))
                clear HA1 HA0 HB2 HC2
                go_wp2
                have s1d : decide (y < 0) = false := decide_eq_false (by omega)
                have s2d : decide (n ≤ y) = true := decide_eq_true s2
                clear s1 s2
                go_quiet (fail)
                go_wp2
                go_ret
                exact ⟨by rw [HA.out]; rfl, HE3.out.drN _⟩
              cases s3 : (y == p) with
              | true =>
                have HA := Lib.hid (HA1.out i hjt (by rw [HB2.out, s3]; simp))
                clear HA1 HA0 HB2 HC2
                go_wp2
                have s1d : decide (y < 0) = false := decide_eq_false (by omega)
                have s2d : decide (n ≤ y) = false := decide_eq_false (by omega)
                clear s1 s2
                go_quiet (fail)
                go_wp2
                go_ret
                exact ⟨by rw [HA.out]; rfl, HE3.out.drN _⟩
              | false =>
                have HC3 := Lib.hid (fun (W : World) (hW : Ext w W) => HC2.out y W hW)
                clear HC2
                generalize hr : (fl.take i).contains y = r at *
                have HR := Lib.hid hr; clear hr
                cases r with
                | true =>
                  have HA := Lib.hid (HA1.out i hjt (by rw [HB2.out]; simp))
                  clear HA1 HA0 HB2
                  go_wp2
                  have s1d : decide (y < 0) = false := decide_eq_false (by omega)
                  have s2d : decide (n ≤ y) = false := decide_eq_false (by omega)
                  clear s1 s2
                  go_quiet ((go_at_call 23; exact Calls.quiet_of_same (HC3.out _ (HE3.out.drN _))))
                  go_wp2
                  go_ret
                  exact ⟨by rw [HA.out]; rfl, HE3.out.drN _⟩
                | false =>
                  have HA := Lib.hid (show badFor ⟨p, q, fl⟩ n i = false from by rw [HB2.out, s3]; simp; omega)
                  clear HA1 HB2
                  go_wp2
                  have s1d : decide (y < 0) = false := decide_eq_false (by omega)
                  have s2d : decide (n ≤ y) = false := decide_eq_false (by omega)
                  clear s1 s2
                  go_quiet ((go_at_call 23; exact Calls.quiet_of_same (HC3.out _ (HE3.out.drN _))))
                  go_wp2
                  go_roundg (F - (i + 1))
                  case measure => omega
                  case rel =>
                    refine ⟨i + 1, by omega, by omega, by go_num, HX3.out.drN _, (show Aside _ from fun m hm => ?_)⟩
                    by_cases e : m = i
                    · subst e; exact HA.out
                    · exact A3.out m (by omega)
            · have hjtz : ¬ (i : Int) < (F : Int) := by omega
              obtain rfl : i = F := by omega
              go_wp2
              go_roundg (L - (j + 1))
              case measure => omega
              case rel =>
                refine ⟨j + 1, by omega, by omega, by go_num, HE3.out, (show Aside _ from fun m hm => ?_)⟩
                by_cases e : m = j
                · subst e; exact HA0.out A3.out
                · exact A.out m (by omega)
    · have hltz : ¬ (k : Int) < (L : Int) := by omega
      go_wp2
      go_ret
      obtain rfl : k = L := by omega
      exact ⟨by rw [HV0.out A.out]; rfl, HE.out⟩

end Go.Proofs.Ytodkcfebcjgahaa
