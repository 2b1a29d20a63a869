/-
  The walks of terminate.valid and terminate.blocked.
-/
import Derived.Test.YtodkcfebcjgahaaBase
import Derived.Test.YtodkcfebcjgahaaProg
import Derived.BigQuiet
import Derived.Deep.QuietTactic
import Derived.Deep.LoopGhost
import Derived.Shelf.Abstract
import Derived.Test.YtodkcfebcjgahaaDeadL
import Derived.Test.YtodkcfebcjgahaaFnsW
import Derived.Test.YtodkcfebcjgahaaEq
import Derived.Test.YtodkcfebcjgahaaRow
namespace Go.Proofs.Ytodkcfebcjgahaa
open Go.RowKit
set_option linter.unusedVariables false

theorem enters_41 : ∀ args w, (callFunc 41 args).run Try.prog w = .ok (.enter 41 args) w := enters_of Try.func41 (by kernel_rfl) rfl

def RWait (w : World) (vs : List Value) (x : Wt) : Prop := ∃ v, vs = [.int .i64 x.proc, .int .i64 x.need, v] ∧ Ints w v x.fors
theorem rwait_lasts : Lasts RWait := fun _ _ _ _ ⟨v, h, hi⟩ e => ⟨v, h, hi.ext e⟩

set_option maxHeartbeats 400000 in
theorem valid1_calls (p q P : Int) (v : Value) (bw : Nat) (w : World) (hc : w.cell? ⟨bw, 0, none⟩ = some (.int .i64 P)) :
    Calls Try.prog 41 #[.agg #[.int .i64 p, .int .i64 q, v], .pointer (some ⟨bw, 0, none⟩)] w fun e w' => e = .returned (.bool (p == P)) ∧ Ext w w' := by
  have hb := World.block_lt_of_cell? w _ hc
  simp only at hb
  go_enter Try.func41, Try.ntmps41
  go_wp2
  go_ret
  exact ⟨rfl, (Ext.rf _).al _⟩

theorem valid_says {P : Int} {bw : Nat} {w : World} (hc : w.cell? ⟨bw, 0, none⟩ = some (.int .i64 P)) (l : List Wt) :
    SaysOf Try.prog RWait encAgg 41 #[.pointer (some ⟨bw, 0, none⟩)] (fun y => y.proc == P) l w := by
  rintro x _ W vs hW ⟨v, rfl, _⟩
  exact valid1_calls x.proc x.need P v bw W (hW.cl hc)

set_option maxHeartbeats 1000000 in
theorem blocked_calls (x : Wt) (N : Nat) (M : List Bool) (fv mv : Value) (w : World) (hf : Ints w fv x.fors) (hm : CellsAt w mv 1 N (M.map Value.bool)) (hr : ∀ y, y ∈ x.fors → 0 ≤ y ∧ y < (N : Int)) (hn : x.fors.length ≤ 1000000) :
    Calls Try.prog 25 #[.agg #[.int .i64 x.proc, .int .i64 x.need, fv], mv] w fun e w' => e = .returned (.bool (blockedB x M)) ∧ Ext w w' := by
  obtain ⟨p, q, l⟩ := x
  simp only at *
  have HB := Lib.hid (blockedB_free ⟨p, q, l⟩ M)
  generalize blockedB ⟨p, q, l⟩ M = ans at *
  obtain ⟨a, c, rfl, _, hf⟩ := hf
  have HF := Lib.hid hf; clear hf
  obtain ⟨hml, a2, c2, rfl, _, hm⟩ := hm
  have HM := Lib.hid hm; clear hm
  have HR := Lib.hid hr; clear hr
  rw [List.length_map, Nat.mul_one] at hml
  have HML := Lib.hid hml; clear hml
  generalize hln : l.length = n at hn
  have HL := Lib.hid hln; clear hln
  go_enter Try.func25, Try.ntmps25
  go_wp2
  go_loopg [5, 11] n (fun g s5 s11 wr => ∃ k m : Nat, k ≤ n ∧ m ≤ k ∧ n - k ≤ g ∧ s5 = .int .i64 m ∧ s11 = .int .i64 k ∧ wr = w.alloc (.cells #[.int .i64 p, .int .i64 q, .slice a n c] 31) ∧ Aside (freeN l M k = m))
  case atStart => exact ⟨0, 0, Nat.zero_le _, Nat.zero_le _, by omega, rfl, rfl, rfl, (by show freeN l M 0 = 0; simp [freeN])⟩
  case round =>
    obtain ⟨k, m, hk, hmk, hg, rfl, rfl, rfl, A⟩ := hrel
    by_cases hlt : k < n
    · obtain ⟨b, off, rfl, hb, hc⟩ := HF.out (by intro e; have := HL.out; simp [e] at this; omega)
      have hcell : w.cell? ⟨b, off + k, none⟩ = some (.int .i64 l[k]!) := hc k (by rw [HL.out]; exact hlt)
      have hltz : (k : Int) < (n : Int) := by omega
      obtain ⟨y0, yN⟩ := HR.out _ (mem_at l k (by rw [HL.out]; exact hlt))
      clear hc HF
      generalize hy : l[k]! = y at hcell y0 yN
      obtain ⟨Y, rfl⟩ : ∃ Y : Nat, y = (Y : Int) := ⟨y.toNat, by omega⟩
      obtain ⟨b2, off2, rfl, hb2, hc2⟩ := HM.out (by omega)
      have hcell2 : w.cell? ⟨b2, off2 + Y, none⟩ = some (.bool M[Y]!) := by
        rw [hc2 Y (by omega), List.getElem?_map, List.getElem?_eq_getElem (by rw [HML.out]; omega), getElem!_pos M Y (by rw [HML.out]; omega)]
        rfl
      have HY := Lib.hid hy
      clear hc2 HM hy
      cases hq : M[Y]! with
      | true =>
        rw [hq] at hcell2
        have HQ := Lib.hid hq; clear hq
        go_wp2
        go_roundg (n - (k + 1))
        case measure => omega
        case rel => exact ⟨k + 1, m, by omega, by omega, by omega, rfl, by go_num, rfl, (show freeN l M (k + 1) = m from (freeN_no (by rw [HL.out]; exact hlt) HY.out HQ.out).trans A.out)⟩
      | false =>
        rw [hq] at hcell2
        have HQ := Lib.hid hq; clear hq
        go_wp2
        go_roundg (n - (k + 1))
        case measure => omega
        case rel => exact ⟨k + 1, m + 1, by omega, by omega, by omega, by go_num, by go_num, rfl, (show freeN l M (k + 1) = m + 1 from (freeN_yes (by rw [HL.out]; exact hlt) HY.out HQ.out).trans (by rw [A.out]))⟩
    · have hltz : ¬ (k : Int) < (n : Int) := by omega
      go_wp2
      go_ret
      refine ⟨?_, (Ext.rf _).al _⟩
      obtain rfl : k = n := by omega
      rw [HB.out, HL.out, A.out]; rfl


set_option maxHeartbeats 4000000 in
set_option maxRecDepth 100000 in
theorem valid_calls (u : Value) (l : List Wt) (n : Int) (w : World) (hu : Sl RWait 3 w u l) (hn : l.length ≤ 1000000) (hfl : ∀ x, x ∈ l → x.fors.length ≤ 1000000) :
    Calls Try.prog 24 #[u, .int .i64 n] w fun e w' => e = .returned (.int .i64 (validL l n)) ∧ Ext w w' := by
  by_cases h1 : n < 0
  · have HV := Lib.hid (show validL l n = 2 from by unfold validL; rw [if_pos (.inl h1)])
    go_enter Try.func24, Try.ntmps24
    go_wp2
    go_ret
    exact ⟨by rw [HV.out]; rfl, Ext.rf _⟩
  by_cases h2 : 512 < n
  · have HV := Lib.hid (show validL l n = 2 from by unfold validL; rw [if_pos (.inr h2)])
    go_enter Try.func24, Try.ntmps24
    go_wp2
    go_ret
    exact ⟨by rw [HV.out]; rfl, Ext.rf _⟩
  have SL := Lib.hid hu
  obtain ⟨a, c, rfl, hlc, hu⟩ := hu
  have HU := Lib.hid hu; clear hu
  have HF := Lib.hid hfl; clear hfl
  generalize hln : l.length = L at hn hlc
  have HL := Lib.hid hln
  have CW := Lib.hid (fun (W : World) (k : Nat) (P : Int) (bw : Nat) (hW : Ext w W) (hk : k ≤ l.length) (hc : W.cell? ⟨bw, 0, none⟩ = some (.int .i64 P)) =>
    containsFunc_wait RWait rwait_lasts _ _ enters_41 (fun y => y.proc == P) (.slice a k c) (l.take k) W ((SL.out.ext rwait_lasts hW).take k hk) (by rw [List.length_take]; omega) (valid_says hc _))
  rw [hln] at CW
  clear hln SL
  have HV1 := Lib.hid (fun k (hk : k < L) => validL_arg (l := l) (n := n) k (by rw [HL.out]; exact hk) (by omega) (by omega))
  have HV0 := Lib.hid (fun (h : ∀ k, k < L → badAt l n k = false) => validL_ok (l := l) (n := n) (by omega) (by omega) (by rw [HL.out]; exact h))
  generalize validL l n = ans at *
  go_enter Try.func24, Try.ntmps24
  go_wp2
  go_loopg [17] L (fun g s17 wr => ∃ k : Nat, k ≤ L ∧ L - k ≤ g ∧ s17 = .int .i64 k ∧ Ext w wr ∧ Aside (∀ j, j < k → badAt l n j = false))
  case atStart => exact ⟨0, Nat.zero_le _, by omega, rfl, Ext.rf _, fun j hj => absurd hj (Nat.not_lt_zero _)⟩
  case round =>
    obtain ⟨k, hk, hg, rfl, he, A⟩ := hrel
    obtain ⟨wo, rfl⟩ : ∃ wo : World, wo = wr := ⟨_, rfl⟩
    have HE := Lib.hid he; clear he
    by_cases hlt : k < L
    · obtain ⟨b, off, rfl, hb, hc⟩ := HU.out (by intro e; have := HL.out; simp [e] at this; omega)
      obtain ⟨vs, hvs, ⟨fv, rfl, hfi⟩, hcell⟩ := hc k (by rw [HL.out]; exact hlt)
      have d0 : wo.cell? ⟨b, off + k * 3, none⟩ = some (.int .i64 l[k]!.proc) := HE.out.cl (hcell 0 (by omega))
      have d1 : wo.cell? ⟨b, off + k * 3 + 1, none⟩ = some (.int .i64 l[k]!.need) := HE.out.cl (hcell 1 (by omega))
      have d2 : wo.cell? ⟨b, off + k * 3 + 2, none⟩ = some fv := HE.out.cl (hcell 2 (by omega))
      have hltz : (k : Int) < (L : Int) := by omega
      have hfb := HF.out _ (mem_at l k (by rw [HL.out]; exact hlt))
      have HBA := Lib.hid (show badAt l n k = (decide (l[k]!.proc < 0) || decide (n ≤ l[k]!.proc) || decide (l[k]!.need < 1) || decide ((l[k]!.fors.length : Int) < l[k]!.need) || (l.take k).any (fun y => y.proc == l[k]!.proc) || (List.range l[k]!.fors.length).any (badFor l[k]! n)) from rfl)
      clear hc hcell hvs HU
      have hfi2 := hfi
      obtain ⟨fa, fc, rfl, hfc, hfd⟩ := hfi
      have FI := Lib.hid hfi2
      have FD := Lib.hid hfd
      clear hfi2 hfd
      generalize hx : l[k]! = x at *
      obtain ⟨p, q, fl⟩ := x
      simp only at *
      generalize hfn : fl.length = F at *
      have HFN := Lib.hid hfn
      have HX := Lib.hid hx
      clear hfn hx
      by_cases t1 : p < 0
      · have HA := Lib.hid (HV1.out k hlt (by rw [HBA.out]; simp [t1]))
        go_wp2
        go_ret
        exact ⟨by rw [HA.out]; rfl, HE.out.al _⟩
      by_cases t2 : n ≤ p
      · have HA := Lib.hid (HV1.out k hlt (by rw [HBA.out]; simp [t2]))
        go_wp2
        go_ret
        exact ⟨by rw [HA.out]; rfl, HE.out.al _⟩
      by_cases t3 : q < 1
      · have HA := Lib.hid (HV1.out k hlt (by rw [HBA.out]; simp [t3]))
        go_wp2
        go_ret
        exact ⟨by rw [HA.out]; rfl, HE.out.al _⟩
      by_cases t4 : (F : Int) < q
      · have HA := Lib.hid (HV1.out k hlt (by rw [HBA.out]; simp [t4]))
        go_wp2
        go_ret
        exact ⟨by rw [HA.out]; rfl, HE.out.al _⟩
      cases t5 : (l.take k).any (fun y => y.proc == p) with
      | true =>
        have HA := Lib.hid (HV1.out k hlt (by rw [HBA.out, t5]; simp))
        have T5 := Lib.hid t5; clear t5
        go_wp2_with fail
        refine (CW.out _ k p wo.heap.size (HE.out.al _) hk (cell_new _ _ _ _ _ rfl)).mono ?_
        rw [T5.out]
        rintro e w1 ⟨rfl, he1⟩
        have HE1 := Lib.hid ((HE.out.al _).trans' he1); clear he1
        go_wp2
        go_ret
        exact ⟨by rw [HA.out]; rfl, HE1.out⟩
      | false =>
        have T5 := Lib.hid t5; clear t5
        go_wp2_with fail
        refine (CW.out _ k p wo.heap.size (HE.out.al _) hk (cell_new _ _ _ _ _ rfl)).mono ?_
        rw [T5.out]
        rintro e w1 ⟨rfl, he1⟩
        have HE1 := Lib.hid ((HE.out.al _).trans' he1)
        have f0 := Lib.hid (he1.cl (cell_new _ _ _ 0 _ rfl))
        have f2 := Lib.hid (he1.cl (cell_new _ _ _ 2 _ rfl))
        clear he1 d0 d1 d2 CW
        generalize wo.heap.size = bw at *
        replace f0 := f0.out
        replace f2 := f2.out
        have HA1 := Lib.hid (fun j (hj : j < F) (hb : badFor ⟨p, q, fl⟩ n j = true) => HV1.out k hlt (by rw [HBA.out, range_any_hit F _ j hj hb]; simp))
        have HA0 := Lib.hid (fun (h : ∀ j, j < F → badFor ⟨p, q, fl⟩ n j = false) => (show badAt l n k = false from by rw [HBA.out, T5.out, range_any_miss F _ h]; simp [t1, t2, t3, t4]))
        clear HBA HV1 HV0 T5
        go_wp2
        go_loopg [54] F (fun g s54 wr => ∃ j : Nat, j ≤ F ∧ F - j ≤ g ∧ s54 = .int .i64 j ∧ Ext w1 wr ∧ Aside (∀ i, i < j → badFor ⟨p, q, fl⟩ n i = false))
        case atStart => exact ⟨0, Nat.zero_le _, by omega, rfl, Ext.rf _, fun j hj => absurd hj (Nat.not_lt_zero _)⟩
        case round =>
          obtain ⟨j, hj, hjg, rfl, he2, A2⟩ := hrel
          have HE2 := Lib.hid he2
          replace f0 := he2.cl f0
          replace f2 := he2.cl f2
          clear he2
          by_cases hjt : j < F
          · have hjtz : (j : Int) < (F : Int) := by omega
            obtain ⟨b2, o2, rfl, hb2, hc2⟩ := FD.out (by intro e; have := HFN.out; simp [e] at this; omega)
            have hy : wr.cell? ⟨b2, o2 + j, none⟩ = some (.int .i64 fl[j]!) := (HE1.out.trans' HE2.out).cl (hc2 j hjt)
            have HC := Lib.hid (fun (y : Int) => contains_int y (.slice (some ⟨b2, o2, none⟩) j fc) (fl.take j) wr (((FI.out.ext (HE1.out.trans' HE2.out)).take j (by rw [HFN.out]; exact hj))) (by rw [List.length_take]; omega))
            have HB2 := Lib.hid (show badFor ⟨p, q, fl⟩ n j = (decide (fl[j]! < 0) || decide (n ≤ fl[j]!) || (fl[j]! == p) || (fl.take j).contains fl[j]!) from rfl)
            clear hc2 FD
            generalize hyy : fl[j]! = y at *
            have HY := Lib.hid hyy; clear hyy
            by_cases s1 : y < 0
            · have HA := Lib.hid (HA1.out j hjt (by rw [HB2.out]; simp [s1]))
              go_wp2
              go_ret
              exact ⟨by rw [HA.out]; rfl, HE1.out.trans' HE2.out⟩
            by_cases s2 : n ≤ y
            · have HA := Lib.hid (HA1.out j hjt (by rw [HB2.out]; simp [s2]))
              go_wp2
              go_ret
              exact ⟨by rw [HA.out]; rfl, HE1.out.trans' HE2.out⟩
            cases s3 : (y == p) with
            | true =>
              have HA := Lib.hid (HA1.out j hjt (by rw [HB2.out, s3]; simp))
              go_wp2
              go_ret
              exact ⟨by rw [HA.out]; rfl, HE1.out.trans' HE2.out⟩
            | false =>
              cases s4 : (fl.take j).contains y with
              | true =>
                have HA := Lib.hid (HA1.out j hjt (by rw [HB2.out, s4]; simp))
                have S4 := Lib.hid s4; clear s4
                go_wp2_with fail
                refine (HC.out y).mono ?_
                rw [S4.out]
                rintro e w3 ⟨rfl, rfl⟩
                go_wp2
                go_ret
                exact ⟨by rw [HA.out]; rfl, HE1.out.trans' HE2.out⟩
              | false =>
                have HA := Lib.hid (show badFor ⟨p, q, fl⟩ n j = false from by rw [HB2.out, s3, s4]; simp; omega)
                have S4 := Lib.hid s4; clear s4
                go_wp2_with fail
                refine (HC.out y).mono ?_
                rw [S4.out]
                rintro e w3 ⟨rfl, rfl⟩
                go_wp2
                go_roundg (F - (j + 1))
                case measure => omega
                case rel =>
                  refine ⟨j + 1, by omega, by omega, by go_num, HE2.out, (show Aside _ from fun i hi => ?_)⟩
                  by_cases e : i = j
                  · subst e; exact HA.out
                  · exact A2.out i (by omega)
          · have hjtz : ¬ (j : Int) < (F : Int) := by omega
            obtain rfl : j = F := by omega
            go_wp2
            go_roundg (L - (k + 1))
            case measure => omega
            case rel =>
              refine ⟨k + 1, by omega, by omega, by go_num, HE1.out.trans' HE2.out, (show Aside _ from fun i hi => ?_)⟩
              by_cases e : i = k
              · subst e; exact HA0.out A2.out
              · exact A.out i (by omega)
    · have hltz : ¬ (k : Int) < (L : Int) := by omega
      go_wp2
      go_ret
      obtain rfl : k = L := by omega
      exact ⟨by rw [HV0.out A.out]; rfl, HE.out⟩

end Go.Proofs.Ytodkcfebcjgahaa
