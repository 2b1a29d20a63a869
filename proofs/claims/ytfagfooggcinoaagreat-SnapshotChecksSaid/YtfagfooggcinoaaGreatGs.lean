import Derived.Test.YtfagfooggcinoaaGreatJa
import Derived.Test.YtfagfooggcinoaaGreatProg
import Derived.Test.YtfagfooggcinoaaGreatGl
import Derived.Test.YtfagfooggcinoaaGreatGc
import Derived.Test.YtfagfooggcinoaaGreatGa
import Derived.Test.YtfagfooggcinoaaGreatGp
import Derived.Test.YtfagfooggcinoaaGreatGn
import Derived.Test.YtfagfooggcinoaaGreatGr
import Derived.Test.YtfagfooggcinoaaGreatGk
import Derived.Test.YtfagfooggcinoaaGreatRows
import Derived.Test.YtfagfooggcinoaaGreatGb
import Derived.Test.YtfagfooggcinoaaGreatGm
import Derived.BigQuiet
import Derived.Deep.QuietTactic
import Derived.Deep.LoopGhost
import Derived.Shelf.Abstract
namespace Go.Proofs.YtfagfooggcinoaaGreat
open Go.RowKit
set_option linter.unusedVariables false
def VkJ (w wr : World) (sb : Nat) (ms : List Int) : Prop := Ext w wr ∧ Row wr w.heap.size 4 1 (.slice (some ⟨sb, 0, none⟩) 200 200) 200 ((seenF ms).map Value.bool) ∧ OkMs ms
theorem VkJ.al {w wr : World} {sb : Nat} {ms : List Int} (h : VkJ w wr sb ms) (o : Obj) : VkJ w (wr.alloc o) sb ms := ⟨h.1.al o, h.2.1.al o, h.2.2⟩
theorem closed_any {m : Mk} {j : Nat} (hj : j < m.closed.length) (h : m.closed[j]! = true) : (m.closed.any fun y => y) = true := by
 rw [List.any_eq_true]
 exact ⟨m.closed[j]!, by rw [getElem!_pos _ j hj]; exact List.getElem_mem hj, h⟩
theorem closed_none {m : Mk} (h : ∀ j, j < m.closed.length → m.closed[j]! = false) : (m.closed.any fun y => y) = false := by
 rw [List.any_eq_false]
 intro c hc
 obtain ⟨j, hj, rfl⟩ := List.getElem_of_mem hc
 have := h j hj
 rw [getElem!_pos _ j hj] at this
 rw [this]; simp
set_option maxHeartbeats 8000000 in
set_option maxRecDepth 100000 in
theorem validMR_calls (v : Value) (l : List Mk) (w : World) (h : Sl RMk 3 w v l) (hl : LightM l) :
  Calls Tryz.prog 74 #[v] w fun e w' => e = .returned (.bool (validK l)) ∧ Ext w w' := by
 obtain ⟨ib, hib, bz0, bz1, bz2⟩ := info_partsM info_boolM
 have HS := Lib.hid h
 have HLI := Lib.hid hl
 have hl1 := hl.1
 obtain ⟨va, vcap, rfl, hvc⟩ := h.sh
 clear h hl
 by_cases hn8 : 1 ≤ l.length ∧ l.length ≤ 8
 case neg =>
  have HA := Lib.hid (validK_len hn8)
  by_cases hn1 : 1 ≤ l.length
  ·have d1 : decide ((l.length : Int) < 1) = false := decide_eq_false (by omega)
   have d2 : decide (8 < (l.length : Int)) = true := decide_eq_true (by omega)
   have d3 : decide (8 < l.length) = true := decide_eq_true (by omega)
   generalize l.length = n at *
   clear hn8 hn1
   go_enter Tryz.func74, Tryz.ntmps74
   go_wp2
   go_ret
   exact ⟨by rw [HA.out]; rfl, Ext.rf _⟩
  ·have hz : l.length = 0 := by omega
   rw [hz]
   clear hn8 hn1 hz hvc hl1
   go_enter Tryz.func74, Tryz.ntmps74
   go_wp2
   go_ret
   exact ⟨by rw [HA.out]; rfl, Ext.rf _⟩
 case pos =>
  have HMB := Lib.hid (fun i hi => validK_mark (l := l) (i := i) hi)
  obtain ⟨n, hn⟩ : ∃ n, l.length = n := ⟨_, rfl⟩
  have HN := Lib.hid hn
  have h1 : 1 ≤ n := by omega
  have h8 : n ≤ 8 := by omega
  have d1 : decide ((n : Int) < 1) = false := decide_eq_false (by omega)
  have d2 : decide (8 < (n : Int)) = false := decide_eq_false (by omega)
  have d3 : decide (8 < n) = false := decide_eq_false (by omega)
  have d4 : decide (n = 0) = false := decide_eq_false (by omega)
  rw [hn] at hl1 hvc ⊢
  clear hn8 hn
  go_enter Tryz.func74, Tryz.ntmps74
  go_wp2_with ((at_make; refine wpList_make_full _ rfl _ _ 51 rfl w.heap.size 4 ib (.bool false) 1 Tryz.underlying51 hib bz0 bz1 .i64 .i64 _ _ 200 rfl rfl rfl rfl (by rw [bz2]; omega) (by unfold maxLen; omega) (Nat.le_refl _) ?_; intro w3 hown3 hgrow3))
  have HI0 : Hid (VkJ w w3 w.heap.size (msX l 0 0 0)) := Lib.hid ⟨(Ext.rf w).gr hgrow3 (by simp), by
   have h := Row.ofOwns hown3
   rw [msX_zero, show seenF [] = List.replicate 200 false from by decide +kernel, List.map_replicate]
   have e : (madeCells (Value.bool false).cells (200 * 1)).toList = List.replicate 200 (.bool false) := made_one _ _
   rw [e] at h
   exact h, by rw [msX_zero]; exact OkMs.nil⟩
  generalize hmb : w.heap.size = mb at *
  have HMBE := Lib.hid hmb
  clear hmb hown3 hgrow3
  go_wp2
  go_loopg [5, 6, 7, 8, 9] n (fun g s5 s6 s7 s8 s9 wr => ∃ i : Nat, i ≤ n ∧ n - i ≤ g ∧ s5 = .int .i64 i ∧ Aside (VkJ w wr mb (msX l i 0 0)) ∧ Aside (∀ a, a < i → markB n a l[a]! = true))
  case atStart => exact ⟨0, Nat.zero_le _, by omega, rfl, (show VkJ _ _ _ _ from HI0.out), (fun a ha => absurd ha (Nat.not_lt_zero _))⟩
  case round =>
   obtain ⟨i, hi, hgi, rfl, HI, HM⟩ := hrel
   clear HI0
   by_cases hlt : i < n
   case neg =>
    have hiz : ¬ (i : Int) < (n : Int) := by omega
    have HA : Hid (validK l = true) := Lib.hid (validK_yes (by rw [HN.out]; exact h1) (by rw [HN.out]; exact h8) (fun a ha => by rw [HN.out] at ha ⊢; exact HM.out a (by omega)) (by
     have h := HI.out.2.2
     rwa [show i = l.length by rw [HN.out]; omega, msX_all] at h))
    go_wp2
    go_ret
    exact ⟨by rw [HA.out]; rfl, HI.out.1⟩
   case pos =>
    have hiz : (i : Int) < (n : Int) := by omega
    have hiz0 : (0 : Int) ≤ (i : Int) := by omega
    have HIL := Lib.hid (show i < l.length by rw [HN.out]; exact hlt)
    have HB := Lib.hid (fun h => HMB.out i HIL.out (by rw [HN.out]; exact h))
    obtain ⟨B, O, C, ua, uc, y, hve, hlC, hBw, p0, p1, p2, hb, hs⟩ := mark_at HS.out i HIL.out
    simp only [Value.slice.injEq] at hve
    obtain ⟨rfl, hz1, rfl⟩ := hve
    obtain ⟨ya, yc, rfl, _⟩ := hs.sh
    have P0 := HI.out.1.cl p0
    have P1 := HI.out.1.cl p1
    have P2 := HI.out.1.cl p2
    have HBL := Lib.hid hb
    have HCH := Lib.hid hs
    obtain ⟨hli1, hli2, hli3⟩ := HLI.out.2 i HIL.out
    have HLI3 := Lib.hid hli3
    have HMC := Lib.hid (markB_cnt (n := n) (i := i) (m := l[i]!))
    have HME := Lib.hid (markB_eq (n := n) (i := i) (m := l[i]!))
    have HB6 := Lib.hid (heap_alloc_new wr (.cells #[.int .i64 l[i]!.cnt, .slice ua l[i]!.closed.length uc, .slice ya l[i]!.chan.length yc] 53))
    have HIB := Lib.hid (HI.out.al (.cells #[.int .i64 l[i]!.cnt, .slice ua l[i]!.closed.length uc, .slice ya l[i]!.chan.length yc] 53))
    have x0 := cellOf HB6.out 0
    have x1 := cellOf HB6.out 1
    have x2 := cellOf HB6.out 2
    simp only [List.getElem?_toArray, List.getElem?_cons_zero, List.getElem?_cons_succ] at x0 x1 x2
    obtain ⟨cn, hcn⟩ : ∃ x, l[i]!.cnt = x := ⟨_, rfl⟩
    obtain ⟨cl, hcl⟩ : ∃ x, l[i]!.closed.length = x := ⟨_, rfl⟩
    obtain ⟨ch, hch⟩ : ∃ x, l[i]!.chan.length = x := ⟨_, rfl⟩
    have HCN := Lib.hid hcn
    have HCL := Lib.hid hcl
    have HCHL := Lib.hid hch
    rw [hcn] at P0 HMC HME HB6 HIB x0 x1 x2
    rw [hcl] at P1 HMC HME HB6 HIB x0 x1 x2 HBL hli1
    rw [hch] at P2 HMC HME HB6 HIB x0 x1 x2 HCH hli2
    have HLT : Hid (mb < wr.heap.size) := Lib.hid (HI.out.2.1.lt mb rfl).2
    clear p0 p1 p2 hb hs hli3 hcn hcl hch hz1 HI
    by_cases e1 : -1 ≤ cn
    case neg =>
     have g1 : decide (cn < -1) = true := decide_eq_true (by omega)
     have HF := Lib.hid (HB.out (HMC.out (fun h => e1 h.1)))
     clear e1
     go_wp2
     go_ret
     exact ⟨by rw [HF.out]; rfl, HIB.out.1⟩
    case pos =>
    have g1 : decide (cn < -1) = false := decide_eq_false (by omega)
    by_cases e2 : cn ≤ 64
    case neg =>
     have g2 : decide (64 < cn) = true := decide_eq_true (by omega)
     have HF := Lib.hid (HB.out (HMC.out (fun h => e2 h.2.1)))
     clear e1 e2
     go_wp2
     go_ret
     exact ⟨by rw [HF.out]; rfl, HIB.out.1⟩
    case pos =>
    have g2 : decide (64 < cn) = false := decide_eq_false (by omega)
    by_cases e3 : cl = n
    case neg =>
     have g3 : ((cl : Int) != (n : Int)) = true := by rw [bne_iff_ne]; omega
     have HF := Lib.hid (HB.out (HMC.out (fun h => e3 h.2.2.1)))
     clear e1 e2 e3
     go_wp2
     go_ret
     exact ⟨by rw [HF.out]; rfl, HIB.out.1⟩
    case pos =>
    have g3 : ((cl : Int) != (n : Int)) = false := by rw [bne_eq_false_iff_eq]; omega
    by_cases e4 : ch = n
    case neg =>
     have g4 : ((ch : Int) != (n : Int)) = true := by rw [bne_iff_ne]; omega
     have HF := Lib.hid (HB.out (HMC.out (fun h => e4 h.2.2.2)))
     clear e1 e2 e3 e4
     go_wp2
     go_ret
     exact ⟨by rw [HF.out]; rfl, HIB.out.1⟩
    case pos =>
    have g4 : ((ch : Int) != (n : Int)) = false := by rw [bne_eq_false_iff_eq]; omega
    have HME2 := Lib.hid (HME.out e1 e2 e3 e4)
    have HNEG : Hid (cn = -1 ↔ cn < 0) := Lib.hid (by omega)
    clear e1 e2
    obtain rfl : n = cl := e3.symm
    obtain rfl : n = ch := e4.symm
    go_upto_region 11 with (fail)
    generalize hb6 : wr.heap.size = b6 at *
    generalize wr.alloc (.cells #[.int .i64 cn, .slice ua n uc, .slice ya n yc] 53) = w6 at *
    clear hb6 P0 P1 P2 g1 g2 g3 g4
    have HNB : Hid (b6 ≠ mb) := Lib.hid (by have := HLT.out; omega)
    have HFA : Hid (∀ j, j < n → cn = -1 → (l[i]!.closed[j]! = true ∨ (l[i]!.chan[j]!).length ≠ 0) → validK l = false) := Lib.hid (fun j hj hc h => HB.out (by
     rw [HME2.out, if_pos hc]
     rcases h with h | h
     ·rw [closed_any (by rw [HCL.out]; exact hj) h]; rfl
     ·rw [chan_full (x := 0) (by rw [HCHL.out]; exact hj) (by omega)]; simp))
    have HBX0 := HB6
    have HI0 : Hid (VkJ w w6 mb (msX l i 0 0)) := HIB
    clear x0 x1 x2 HME HMC
    go_wp2
    go_loopg [7, 8, 9] n (fun g s7 s8 s9 wr => ∃ j : Nat, j ≤ n ∧ n - j ≤ g ∧ s7 = .int .i64 j ∧ Aside (VkJ w wr mb (msX l i j 0)) ∧ Aside (wr.heap[b6]? = some (.cells #[.int .i64 cn, .slice ua n uc, .slice ya n yc] 53)) ∧ Aside (cn = -1 → ∀ a, a < j → l[i]!.closed[a]! = false ∧ (l[i]!.chan[a]!).length = 0))
    case atStart => exact ⟨0, Nat.zero_le _, by omega, rfl, (show VkJ _ _ _ _ from HI0.out), (show _ = _ from HBX0.out), (fun _ a ha => absurd ha (Nat.not_lt_zero _))⟩
    case round =>
     obtain ⟨j, hj, hgj, rfl, HJ, HBJ, HZJ⟩ := hrel
     clear HI0 HIB HB6 HBX0
     have x0 := cellOf HBJ.out 0
     have x1 := cellOf HBJ.out 1
     have x2 := cellOf HBJ.out 2
     simp only [List.getElem?_toArray, List.getElem?_cons_zero, List.getElem?_cons_succ] at x0 x1 x2
     by_cases hjn : j < n
     case neg =>
      have hjz : ¬ (j : Int) < (n : Int) := by omega
      have HN2 : Hid (VkJ w wr mb (msX l (i + 1) 0 0)) := Lib.hid (by
       have h := HJ.out
       rwa [show j = l[i]!.chan.length by rw [HCHL.out]; omega, msX_nextI HIL.out] at h)
      by_cases hc : cn < 0
      case pos =>
       have g5 : decide (0 ≤ cn) = false := decide_eq_false (by omega)
       have HMK : Hid (markB n i l[i]! = true) := Lib.hid (by
        have hc1 := HNEG.out.2 hc
        have h := HZJ.out hc1
        rw [HME2.out, if_pos hc1, closed_none (fun a ha => (h a (by rw [HCL.out] at ha; omega)).1), chan_none (fun a ha => (h a (by rw [HCHL.out] at ha; omega)).2)]; rfl)
       clear hc
       go_wp2
       go_roundg (n - (i + 1))
       case measure => omega
       case rel => exact ⟨i + 1, by omega, by omega, by go_num, (show VkJ _ _ _ _ from HN2.out), (show Aside _ from fun a ha => by
        by_cases e : a = i
        ·subst e; exact HMK.out
        ·exact HM.out a (by omega))⟩
      case neg =>
       have g5 : decide (0 ≤ cn) = true := decide_eq_true (by omega)
       have hc1 : cn ≠ -1 := by omega
       have HME3 := Lib.hid (HME2.out.trans (if_neg hc1))
       obtain ⟨b1, o1, rfl, _, _, hbc⟩ := bool_at HBL.out i (by rw [HCL.out]; exact hlt)
       have q0 := HJ.out.1.cl hbc
       obtain ⟨b2, o2, c2, u2, he2, hl2, hb2, hc2, x9, hx9, hI2⟩ := HCH.out.at1 i (by rw [HCHL.out]; exact hlt)
       simp only [Value.slice.injEq] at he2
       obtain ⟨rfl, hy2, rfl⟩ := he2
       obtain rfl : u2 = x9 := by simpa using hx9
       obtain ⟨z1, z2, rfl, hz9⟩ := hI2
       have q1 := HJ.out.1.cl hc2
       have HEM : Hid (l[i]!.chan[i]!.isEmpty = decide ((l[i]!.chan[i]!).length = 0)) := Lib.hid (by
        rw [Bool.eq_iff_iff, List.isEmpty_iff, decide_eq_true_iff, List.length_eq_zero_iff])
       rw [HEM.out] at HME3
       obtain ⟨k9, hk9⟩ : ∃ x, (l[i]!.chan[i]!).length = x := ⟨_, rfl⟩
       rw [hk9] at HME3 q1
       generalize l[i]!.closed[i]! = bb at *
       clear hc hc1 hbc hc2 hx9 hk9 hy2 hl2 hb2 hz9
       cases bb with
       | false =>
         have HF := Lib.hid (HB.out (by rw [HME3.out]; rfl))
         go_wp2
         go_ret
         exact ⟨by rw [HF.out]; rfl, HJ.out.1⟩
       | true =>
         by_cases hk0 : k9 = 0
         ·subst hk0
          have HMK : Hid (markB n i l[i]! = true) := Lib.hid (by rw [HME3.out]; rfl)
          go_wp2
          go_roundg (n - (i + 1))
          case measure => omega
          case rel => exact ⟨i + 1, by omega, by omega, by go_num, (show VkJ _ _ _ _ from HN2.out), (show Aside _ from fun a ha => by
           by_cases e : a = i
           ·subst e; exact HMK.out
           ·exact HM.out a (by omega))⟩
         ·have HF := Lib.hid (HB.out (by rw [HME3.out, decide_eq_false hk0]; rfl))
          have g7 : decide ((0 : Int) < (k9 : Int)) = true := decide_eq_true (by omega)
          have g8 : decide (0 < k9) = true := decide_eq_true (by omega)
          clear hk0
          go_wp2
          go_ret
          exact ⟨by rw [HF.out]; rfl, HJ.out.1⟩
     case pos =>
      have hjz : (j : Int) < (n : Int) := by omega
      have hjz0 : (0 : Int) ≤ (j : Int) := by omega
      have HJL := Lib.hid (show j < l[i]!.chan.length by rw [HCHL.out]; exact hjn)
      obtain ⟨b2, o2, c2, u2, he2, hl2, hb2, hc2, x9, hx9, hI2⟩ := HCH.out.at1 j HJL.out
      simp only [Value.slice.injEq] at he2
      obtain ⟨rfl, hy2, rfl⟩ := he2
      obtain rfl : u2 = x9 := by simpa using hx9
      have HI2 := Lib.hid hI2
      obtain ⟨z1, z2, rfl, hz3⟩ := hI2
      have HC2 := Lib.hid hc2
      have q1 := HJ.out.1.cl hc2
      obtain ⟨b1, o1, rfl, _, _, hbc⟩ := bool_at HBL.out j (by rw [HCL.out]; exact hjn)
      have q0 := HJ.out.1.cl hbc
      obtain ⟨L, hL⟩ : ∃ x, (l[i]!.chan[j]!).length = x := ⟨_, rfl⟩
      have HLL := Lib.hid hL
      have hL2 := HLI3.out j HJL.out
      have HFJ := Lib.hid (HFA.out j hjn)
      rw [hL] at q1 HI2 hL2 HFJ HC2
      have HCJ : Hid (l[i]!.closed[j]! = l[i]!.closed[j]!) := Lib.hid rfl
      obtain ⟨bb, hbb⟩ : ∃ x, l[i]!.closed[j]! = x := ⟨_, rfl⟩
      have HBB := Lib.hid hbb
      rw [hbb] at q0 HFJ
      clear hc2 hbc hx9 hy2 hl2 hb2 hz3 hL hbb HCJ
      obtain ⟨bd, hbd⟩ : ∃ b, (decide (cn < 0) && (bb || decide (0 < L))) = b := ⟨_, rfl⟩
      have HBD := Lib.hid hbd
      clear hbd
      go_upto_region 14 with (fail)
      go_cut [73] (fun s73 wx => s73 = .bool bd ∧ wx = wr)
      case first =>
       by_cases hc : cn < 0
       case neg =>
        have g5 : decide (cn < 0) = false := decide_eq_false hc
        have HE : Hid (bd = false) := Lib.hid (by rw [← HBD.out, g5]; rfl)
        clear hc
        go_wp2
        go_meet
        exact ⟨by rw [HE.out], rfl⟩
       case pos =>
        have g5 : decide (cn < 0) = true := decide_eq_true hc
        cases bb with
        | true =>
          have HE : Hid (bd = true) := Lib.hid (by rw [← HBD.out, g5]; rfl)
          clear hc
          go_wp2
          go_meet
          exact ⟨by rw [HE.out], rfl⟩
        | false =>
          by_cases hL0 : L = 0
          ·subst hL0
           have HE : Hid (bd = false) := Lib.hid (by rw [← HBD.out, g5]; rfl)
           clear hc
           go_wp2
           go_meet
           exact ⟨by rw [HE.out], rfl⟩
          ·have g7 : decide ((0 : Int) < (L : Int)) = true := decide_eq_true (by omega)
           have g8 : decide (0 < L) = true := decide_eq_true (by omega)
           have HE : Hid (bd = true) := Lib.hid (by rw [← HBD.out, g5, g8]; rfl)
           clear hc hL0
           go_wp2
           go_meet
           exact ⟨by rw [HE.out], rfl⟩
      case rest =>
       obtain ⟨rfl, rfl⟩ := hcut
       obtain ⟨wo, rfl⟩ : ∃ z, z = wc := ⟨_, rfl⟩
       cases bd with
       | true =>
         have HF : Hid (validK l = false) := Lib.hid (by
          have h := HBD.out
          simp only [Bool.and_eq_true, Bool.or_eq_true, decide_eq_true_eq] at h
          refine HFJ.out (HNEG.out.2 h.1) ?_
          rcases h.2 with h2 | h2
          ·exact .inl h2
          ·exact .inr (by omega))
         go_wp2
         go_ret
         exact ⟨by rw [HF.out]; rfl, HJ.out.1⟩
       | false =>
         have HZ0 : Hid (cn = -1 → l[i]!.closed[j]! = false ∧ L = 0) := Lib.hid (fun hc => by
          have h := HBD.out
          have hc2 := HNEG.out.1 hc
          rw [decide_eq_true hc2, Bool.true_and, Bool.or_eq_false_iff, decide_eq_false_iff_not] at h
          exact ⟨by rw [HBB.out]; exact h.1, by omega⟩)
         have HJ0 : Hid (VkJ w wo mb (msX l i j 0)) := HJ
         have HBJ0 := HBJ
         clear x0 x1 x2 q0 q1
         go_wp2
         go_loopg [8, 9] L (fun g s8 s9 wr => ∃ x : Nat, x ≤ L ∧ L - x ≤ g ∧ s8 = .int .i64 x ∧ Aside (VkJ w wr mb (msX l i j x)) ∧ Aside (wr.heap[b6]? = some (.cells #[.int .i64 cn, .slice (some ⟨b1, o1, none⟩) n uc, .slice (some ⟨b2, o2, none⟩) n yc] 53)))
         case atStart => exact ⟨0, Nat.zero_le _, by omega, rfl, (show VkJ _ _ _ _ from HJ0.out), (show _ = _ from HBJ0.out)⟩
         case round =>
          obtain ⟨x, hx, hgx, rfl, HX, HBX⟩ := hrel
          clear HJ0 HJ HBJ0 HBJ
          have c2 := cellOf HBX.out 2
          simp only [List.getElem?_toArray, List.getElem?_cons_zero, List.getElem?_cons_succ] at c2
          have q1 := HX.out.1.cl HC2.out
          by_cases hxL : x < L
          case neg =>
           have hxz : ¬ (x : Int) < (L : Int) := by omega
           have HN2 : Hid (VkJ w wr mb (msX l i (j + 1) 0)) := Lib.hid (by
            have h := HX.out
            rwa [show x = (l[i]!.chan[j]!).length by rw [HLL.out]; omega, msX_nextJ HJL.out] at h)
           have HZ2 : Hid (cn = -1 → ∀ a, a < j + 1 → l[i]!.closed[a]! = false ∧ (l[i]!.chan[a]!).length = 0) := Lib.hid (fun hc a ha => by
            by_cases e : a = j
            ·subst e; have := HZ0.out hc; exact ⟨this.1, by rw [HLL.out]; exact this.2⟩
            ·exact HZJ.out hc a (by omega))
           go_wp2
           go_roundg (n - (j + 1))
           case measure => omega
           case rel => exact ⟨j + 1, by omega, by omega, by go_num, (show VkJ _ _ _ _ from HN2.out), (show _ = _ from HBX.out), (show Aside _ from HZ2.out)⟩
          case pos =>
           have hxz : (x : Int) < (L : Int) := by omega
           have hxz0 : (0 : Int) ≤ (x : Int) := by omega
           obtain ⟨yb, yo, rfl, _, hyc⟩ := ints_at HI2.out x (by rw [HLL.out]; exact hxL)
           have y0 := HX.out.1.cl hyc
           obtain ⟨y, hy⟩ : ∃ y, (l[i]!.chan[j]!)[x]! = y := ⟨_, rfl⟩
           have HST : Hid (msX l i j (x + 1) = msX l i j x ++ [y]) := Lib.hid (by rw [msX_step (by rw [HLL.out]; exact hxL), hy])
           obtain ⟨r, hr⟩ := msX_pre (l := l) (i := i) (j := j) (x := x + 1) HIL.out HJL.out
           rw [HST.out] at hr
           have HPR := Lib.hid hr
           rw [hy] at y0
           clear hyc hr hy
           by_cases hy0 : 0 ≤ y
           case neg =>
            have g6 : decide (y < 0) = true := decide_eq_true (by omega)
            have HF := Lib.hid (validK_out HPR.out (fun h => hy0 h.1))
            clear hy0
            go_wp2
            go_ret
            exact ⟨by rw [HF.out]; rfl, HX.out.1⟩
           case pos =>
           by_cases hy9 : y ≤ 199
           case neg =>
            have g6 : decide (y < 0) = false := decide_eq_false (by omega)
            have g7 : decide (199 < y) = true := decide_eq_true (by omega)
            have HF := Lib.hid (validK_out HPR.out (fun h => hy9 h.2))
            clear hy9 hy0
            go_wp2
            go_ret
            exact ⟨by rw [HF.out]; rfl, HX.out.1⟩
           case pos =>
           obtain ⟨Y, rfl⟩ : ∃ Y : Nat, y = (Y : Int) := ⟨y.toNat, by omega⟩
           have hYz : (Y : Int) < (200 : Int) := by omega
           have hYn : Y < 200 := by omega
           have hYz0 : (0 : Int) ≤ (Y : Int) := by omega
           have g7 : decide ((199 : Int) < (Y : Int)) = false := decide_eq_false (by omega)
           have g8 : decide (199 < Y) = false := decide_eq_false (by omega)
           have HSN : Hid (((seenF (msX l i j x)).map Value.bool)[Y]? = some (.bool (decide ((Y : Int) ∈ msX l i j x)))) := Lib.hid (by
            rw [List.getElem?_map, List.getElem?_eq_getElem (by rw [seenF_len]; exact hYn), ← getElem!_pos (seenF (msX l i j x)) Y (by rw [seenF_len]; exact hYn), seenF_at hYn]; rfl)
           have s0 := HX.out.2.1.cell Y (by omega)
           rw [HSN.out, Nat.zero_add] at s0
           have hfz := HX.out.2.1.free (0 + Y)
           rw [Nat.zero_add] at hfz
           by_cases hin : (Y : Int) ∈ msX l i j x
           case pos =>
            have HF := Lib.hid (validK_twice HPR.out hin)
            rw [decide_eq_true hin] at s0
            clear hin
            go_wp2
            go_ret
            exact ⟨by rw [HF.out]; rfl, HX.out.1⟩
           case neg =>
            have HMS := Lib.hid (HX.out.2.2.snoc hy0 hy9 hin)
            have HSS := Lib.hid (seenF_snoc (ms := msX l i j x) hy0 hy9)
            rw [decide_eq_false hin] at s0
            clear hin
            have HRS := Lib.hid (HX.out.2.1.set Y (.bool true) (by omega))
            rw [← List.map_set, Nat.zero_add] at HRS
            have HEX := Lib.hid (HX.out.1.st (p := ⟨mb, Y, none⟩) (by rw [HMBE.out]; exact Nat.le_refl _) (.bool true))
            have HBX8 : Hid ((wr.setCell ⟨mb, Y, none⟩ (.bool true)).heap[b6]? = some (.cells #[.int .i64 cn, .slice (some ⟨b1, o1, none⟩) n uc, .slice (some ⟨b2, o2, none⟩) n yc] 53)) := Lib.hid ((Below.heap_setCell wr ⟨mb, Y, none⟩ (.bool true) b6 HNB.out).trans HBX.out)
            have HN2 : Hid (VkJ w (wr.setCell ⟨mb, Y, none⟩ (.bool true)) mb (msX l i j (x + 1))) := Lib.hid ⟨HEX.out, by
             rw [HST.out, ← HSS.out, Int.toNat_natCast]; exact HRS.out, by rw [HST.out]; exact HMS.out⟩
            go_wp2
            go_roundg (L - (x + 1))
            case measure => omega
            case rel => exact ⟨x + 1, by omega, by omega, by go_num, (show VkJ _ _ _ _ from HN2.out), (show _ = _ from HBX8.out)⟩
end Go.Proofs.YtfagfooggcinoaaGreat
namespace Go.Proofs.YtfagfooggcinoaaGreat
open Go.RowKit
set_option linter.unusedVariables false
theorem reco_no {l : List Mk} {k : Nat} (hk : k < l.length) (h : ¬ 0 ≤ l[k]!.cnt) : recordedB l = false := by
 unfold recordedB
 rw [List.all_eq_false]
 refine ⟨l[k]!, by rw [getElem!_pos l k hk]; exact List.getElem_mem hk, ?_⟩
 simp only [decide_eq_true_eq]; exact h
theorem reco_yes {l : List Mk} (h : ∀ k, k < l.length → 0 ≤ l[k]!.cnt) : recordedB l = true := by
 unfold recordedB
 rw [List.all_eq_true]
 intro m hm
 obtain ⟨k, hk, rfl⟩ := List.getElem_of_mem hm
 have := h k hk
 rw [getElem!_pos l k hk] at this
 exact decide_eq_true this
set_option maxHeartbeats 2000000 in
theorem recordedR_calls (v : Value) (l : List Mk) (w : World) (h : Sl RMk 3 w v l) (hl : LightM l) :
  Calls Tryz.prog 75 #[v] w fun e w' => e = .returned (.bool (recordedB l)) ∧ Drawn w w' := by
 have HS := Lib.hid h
 have hl1 := hl.1
 obtain ⟨va, vcap, rfl, hvc⟩ := h.sh
 have HNO := Lib.hid (fun k => reco_no (l := l) (k := k))
 have HYE := Lib.hid (reco_yes (l := l))
 generalize recordedB l = ans at *
 obtain ⟨n, hn⟩ : ∃ n, l.length = n := ⟨_, rfl⟩
 have HN := Lib.hid hn
 rw [hn] at hl1 hvc HNO HYE ⊢
 clear h hl hn
 go_enter Tryz.func75, Tryz.ntmps75
 go_wp2
 go_loopg [3] n (fun g s3 wr => ∃ k : Nat, k ≤ n ∧ n - k ≤ g ∧ s3 = .int .i64 k ∧ Aside (Drawn w wr) ∧ Aside (∀ j, j < k → 0 ≤ l[j]!.cnt))
 case atStart => exact ⟨0, Nat.zero_le _, by omega, rfl, (show Drawn _ _ from Drawn.rf _), (fun j hj => absurd hj (Nat.not_lt_zero _))⟩
 case round =>
  obtain ⟨k, hk, hgk, rfl, HE, A⟩ := hrel
  by_cases hlt : k < n
  case neg =>
   have hkz : ¬ (k : Int) < (n : Int) := by omega
   have HA := Lib.hid (HYE.out (fun j hj => A.out j (by omega)))
   go_wp2
   go_ret
   exact ⟨by rw [HA.out]; rfl, HE.out⟩
  case pos =>
   have hkz : (k : Int) < (n : Int) := by omega
   have hkz0 : (0 : Int) ≤ (k : Int) := by omega
   obtain ⟨B, O, C, ua, uc, y, hve, hlC, hBw, p0, p1, p2, hb, hs⟩ := mark_at HS.out k (by rw [HN.out]; exact hlt)
   simp only [Value.slice.injEq] at hve
   obtain ⟨rfl, hz1, rfl⟩ := hve
   have P0 := HE.out.ext.cl p0
   have HNK := Lib.hid (HNO.out k hlt)
   have HST : Hid (0 ≤ l[k]!.cnt → ∀ j, j < k + 1 → 0 ≤ l[j]!.cnt) := Lib.hid (fun h j hj => by
    by_cases e : j = k
    ·subst e; exact h
    ·exact A.out j (by omega))
   generalize l[k]!.cnt = cn at *
   clear p0 p1 p2 hz1 hb hs
   by_cases hc : 0 ≤ cn
   case neg =>
    have g1 : decide (cn < 0) = true := decide_eq_true (by omega)
    have HA := Lib.hid (HNK.out (by omega))
    clear hc
    go_wp2
    go_ret
    exact ⟨by rw [HA.out]; rfl, HE.out⟩
   case pos =>
    have g1 : decide (cn < 0) = false := decide_eq_false (by omega)
    have HS2 := Lib.hid (HST.out hc)
    clear hc
    go_wp2
    go_roundg (n - (k + 1))
    case measure => omega
    case rel => exact ⟨k + 1, by omega, by omega, by go_num, (show Drawn _ _ from HE.out), (show Aside _ from HS2.out)⟩
theorem enters_77 : ∀ args w, (callFunc 77 args).run Tryz.prog w = .ok (.enter 77 args) w := enters_of Tryz.func77 (by kernel_rfl) rfl
set_option maxHeartbeats 4000000 in
set_option maxRecDepth 100000 in
theorem cutR50_calls (v : Value) (l : List Mk) (w : World) (h : Sl RMk 3 w v l) (hl : LightM l) :
  Calls Tryz.prog 77 #[v] w fun e w' => IntsOut w w' e (cntsL l) := by
 obtain ⟨ii, hii, iz0, iz1, iz2⟩ := info_partsM info_intG
 have HS := Lib.hid h
 have hl1 := hl.1
 obtain ⟨va, vcap, rfl, hvc⟩ := h.sh
 obtain ⟨n, hn⟩ : ∃ n, l.length = n := ⟨_, rfl⟩
 have HN := Lib.hid hn
 rw [hn] at hl1 hvc ⊢
 clear h hl hn
 go_enter Tryz.func77, Tryz.ntmps77
 go_wp2
 go_loopg [3, 4] n (fun g s3 s4 wr => ∃ k : Nat, k ≤ n ∧ n - k ≤ g ∧ s4 = .int .i64 k ∧ Aside (Row wr w.heap.size 3 1 s3 k (((cntsL l).take k).map (Value.int .i64))) ∧ Aside (Ext w wr))
 case atStart => exact ⟨0, Nat.zero_le _, by omega, rfl, (show Row _ _ _ _ _ _ _ from Row.mkNil _ _ _ _), (show Ext _ _ from Ext.rf _)⟩
 case round =>
  obtain ⟨k, hk, hgk, rfl, HR, HE⟩ := hrel
  obtain ⟨xa, xc, hxe, hxz⟩ := HR.out.any
  subst hxe
  clear hxz
  by_cases hlt : k < n
  case neg =>
   have hkz : ¬ (k : Int) < (n : Int) := by omega
   obtain rfl : n = k := by omega
   have HT : Hid ((cntsL l).take n = cntsL l) := Lib.hid (List.take_of_length_le (by rw [cnts_len, HN.out]; omega))
   go_wp2
   go_ret
   refine ⟨_, rfl, ?_, HE.out⟩
   rw [cnts_len, HN.out]
   have h := HR.out
   rwa [HT.out] at h
  case pos =>
   have hkz : (k : Int) < (n : Int) := by omega
   have hkz0 : (0 : Int) ≤ (k : Int) := by omega
   obtain ⟨B, O, C, ua, uc, y, hve, hlC, hBw, p0, p1, p2, hb, hs⟩ := mark_at HS.out k (by rw [HN.out]; exact hlt)
   simp only [Value.slice.injEq] at hve
   obtain ⟨rfl, hz1, rfl⟩ := hve
   have P0 := HE.out.cl p0
   have HTK : Hid ((cntsL l).take (k + 1) = (cntsL l).take k ++ [l[k]!.cnt]) := Lib.hid (by rw [take_succ_get (by rw [cnts_len, HN.out]; exact hlt), cnts_at (by rw [HN.out]; exact hlt)])
   generalize l[k]!.cnt = cn at *
   have hszA := HE.out.sz
   clear p0 p1 p2 hz1 hb hs
   go_wp2_with ((at_builtin; go_loud (refine wpList_append_one rfl _ _ 39 rfl w.heap.size 3 ii (.int .i64 0) 1 8 Tryz.underlying39 hii iz0 iz1 iz2 rfl (by decide) _ k _ rfl (HR.out.al _) wr.heap.size 1 [.int .i64 cn] rfl rfl ⟨_, heap_alloc_new _ _⟩ (by simp [Value.oneCell']) (by unfold maxLen; omega) (by omega) (by simp; omega) ?_; intro v8 w8 hown8 hgrow8 hblk8; have HOWN := Lib.hid hown8; have HX9 := Lib.hid ((HE.out.al _).gr hgrow8 (fun z hz => (HR.out.lt z hz).1)); clear hown8 hgrow8 hblk8)))
   go_roundg (n - (k + 1))
   case measure => omega
   case rel => exact ⟨k + 1, by omega, by omega, by go_num, (show Row _ _ _ _ _ _ _ from by rw [HTK.out, List.map_append]; exact HOWN.out), (show Ext _ _ from HX9.out)⟩
end Go.Proofs.YtfagfooggcinoaaGreat
namespace Go.Proofs.YtfagfooggcinoaaGreat
open Go.RowKit
set_option linter.unusedVariables false
theorem ways_eq {t : Tr} {l : List Mk} (hk : validK l = true) (hl : l.length = t.length) : waysB t l = decide (l = cutM t (cntsL l)) := by
 have hvc := valid_cnt hk
 by_cases h : l = cutM t (cntsL l)
 ·rw [decide_eq_true h]
  refine waysB_yes fun q hq f hf => ?_
  unfold wayB
  have hq2 : q < t.length := by omega
  have hf2 : f < t.length := by omega
  have e : l[q]! = (cutM t (cntsL l))[q]! := congrArg (fun x : List Mk => x[q]!) h
  rw [e, cutM_at hq2]
  simp only
  rw [rep_get hf2, mapR_at _ hf2]
  simp
 ·rw [decide_eq_false h, Bool.eq_false_iff]
  intro hw
  refine h (listG_ext (by rw [cutM_len]; exact hl) fun q hq => ?_)
  have hq2 : q < t.length := by omega
  have hwq : ∀ f, f < l.length → l[q]!.closed[f]! = true ∧ underC t (cntsL l) f (q : Int) = l[q]!.chan[f]! := fun f hf => by
   unfold waysB at hw
   rw [List.all_eq_true] at hw
   have h1 := hw q (List.mem_range.2 hq)
   rw [List.all_eq_true] at h1
   have h2 := h1 f (List.mem_range.2 hf)
   unfold wayB at h2
   rw [Bool.and_eq_true, beq_iff_eq] at h2
   exact h2
  have hs := (hvc q hq).2.2
  rw [cutM_at hq2]
  refine mk_ext ?_ ?_ ?_
  ·simp only; rw [cnts_at hq]
  ·simp only
   exact listG_ext (by rw [List.length_replicate, hs.1, hl]) fun f hf => by
    rw [hs.1] at hf
    rw [rep_get (by omega), (hwq f hf).1]
  ·simp only
   exact listG_ext (by rw [List.length_map, List.length_range, hs.2, hl]) fun f hf => by
    rw [hs.2] at hf
    rw [mapR_at _ (by omega), (hwq f hf).2]
theorem enters_76 : ∀ args w, (callFunc 76 args).run Tryz.prog w = .ok (.enter 76 args) w := enters_of Tryz.func76 (by kernel_rfl) rfl
theorem enters_78 : ∀ args w, (callFunc 78 args).run Tryz.prog w = .ok (.enter 78 args) w := enters_of Tryz.func78 (by kernel_rfl) rfl
set_option maxHeartbeats 8000000 in
set_option maxRecDepth 100000 in
theorem lineR_calls (v rv lv : Value) (t : Tr) (r : List (List Int)) (a : Int) (l : List Mk) (w : World) (h : TrAt w v t) (hs : LooseTr t) (hrv : Sl RInts 1 w rv r) (hn2 : t.length ≤ 1000) (hrl : r.length ≤ 1000000) (hil : ∀ i, i < r.length → r[i]!.length ≤ 1000000) (hlv : Sl RMk 3 w lv l) (hl : LightM l) :
  Calls Tryz.prog 33 #[.agg #[v], rv, .int .i64 a, lv] w fun e w' => e = .returned (.tuple #[.bool (lineB t r a l), .int .i64 (lineE t r a l)]) ∧ Ext w w' := by
 have HV := Lib.hid (fun W (hW : Ext w W) => validR_calls v t W (h.ext hW) hs)
 have HSV := Lib.hid (fun W (hW : Ext w W) => validMR_calls lv l W (Sl.ext rmk_lasts hlv hW) hl)
 have HR := Lib.hid (fun W (hW : Ext w W) => isR_calls v rv t r W (h.ext hW) hs (Sl.ext rints_lasts hrv hW) hrl hil)
 have HSC := Lib.hid (fun W (hW : Ext w W) => recordedR_calls lv l W (Sl.ext rmk_lasts hlv hW) hl)
 have HCC := Lib.hid (fun W (hW : Ext w W) => cutR50_calls lv l W (Sl.ext rmk_lasts hlv hW) hl)
 have HCO := Lib.hid (fun W (hW : Ext w W) u (hu : Ints W u (cntsL l)) => consistentR_calls v u t (cntsL l) W (h.ext hW) hs hu)
 have HRV := Lib.hid hrv
 have HIL := Lib.hid hil
 have HLI := Lib.hid hl
 obtain ⟨ta, tc, rfl, htc⟩ := h.sh
 obtain ⟨ra, rc, rfl, hrc⟩ := hrv.sh
 obtain ⟨la, lc, rfl, hlc⟩ := hlv.sh
 have HX1 := Lib.hid ((Ext.rf w).al (.cells #[.slice ta t.length tc] 24))
 have HB1 := Lib.hid (heap_alloc_new w (.cells #[.slice ta t.length tc] 24))
 have t0 := cellOf HB1.out 0
 simp only [List.getElem?_toArray, List.getElem?_cons_zero] at t0
 have HED : Hid (lineE t r a l = if (validT t && (validK l && decide (l.length = t.length))) = false then 1 else if runB t r = false then 3 else if (decide (0 ≤ a) && decide (a < (r.length : Int))) = false then 2 else if recordedB l = false then 6 else 0) := Lib.hid rfl
 have HBD : Hid (lineB t r a l = if lineE t r a l = 0 then consB t (cntsL l) && leCB r[a.toNat]! (cntsL l) else false) := Lib.hid rfl
 generalize lineB t r a l = ans at *
 generalize lineE t r a l = er at *
 have hl1 := hl.1
 cases hv : validT t with
 | false =>
   rw [hv] at HV HED
   have HA : Hid (er = 1) := Lib.hid (by rw [HED.out]; rfl)
   have HB : Hid (ans = false) := Lib.hid (by rw [HBD.out, HA.out]; rfl)
   clear h hs hv htc hlv hl hrv hil hrc
   generalize t.length = N at *
   generalize l.length = n at *
   generalize r.length = rn at *
   go_enter Tryz.func33, Tryz.ntmps33
   go_wp2_with fail
   refine (HV.out _ HX1.out).mono ?_
   rintro e w2 ⟨rfl, hX2⟩
   have HX2 := Lib.hid (HX1.out.trans' hX2)
   go_wp2
   go_ret2
   exact ⟨by rw [HB.out, HA.out]; rfl, HX2.out⟩
 | true =>
   rw [hv] at HV HED HR
   cases hk : validK l with
   | false =>
     rw [hk] at HSV HED
     have HA : Hid (er = 1) := Lib.hid (by rw [HED.out]; rfl)
     have HB : Hid (ans = false) := Lib.hid (by rw [HBD.out, HA.out]; rfl)
     clear h hs hv htc hlv hl hk hrv hil hrc
     generalize t.length = N at *
     generalize l.length = n at *
     generalize r.length = rn at *
     go_enter Tryz.func33, Tryz.ntmps33
     go_wp2_with fail
     refine (HV.out _ HX1.out).mono ?_
     rintro e w2 ⟨rfl, hX2⟩
     have HX2 := Lib.hid (HX1.out.trans' hX2)
     have t2 := hX2.cl t0
     clear t0 hX2
     go_wp2_with fail
     refine (HSV.out _ HX2.out).mono ?_
     rintro e w3 ⟨rfl, hX3⟩
     have HX3 := Lib.hid (HX2.out.trans' hX3)
     go_wp2
     go_ret2
     exact ⟨by rw [HB.out, HA.out]; rfl, HX3.out⟩
   | true =>
     have hN8 := valid_8 hv
     rw [hk] at HSV HED
     by_cases hne : l.length = t.length
     case neg =>
      have HA : Hid (er = 1) := Lib.hid (by rw [HED.out, decide_eq_false hne]; rfl)
      have HB : Hid (ans = false) := Lib.hid (by rw [HBD.out, HA.out]; rfl)
      clear h hs hv htc hlv hl hk hrv hil hrc
      generalize t.length = N at *
      generalize l.length = n at *
      generalize r.length = rn at *
      have hq : ((n : Int) != (N : Int)) = true := by rw [bne_iff_ne]; omega
      clear hne
      go_enter Tryz.func33, Tryz.ntmps33
      go_wp2_with fail
      refine (HV.out _ HX1.out).mono ?_
      rintro e w2 ⟨rfl, hX2⟩
      have HX2 := Lib.hid (HX1.out.trans' hX2)
      have t2 := hX2.cl t0
      clear t0 hX2
      go_wp2_with fail
      refine (HSV.out _ HX2.out).mono ?_
      rintro e w3 ⟨rfl, hX3⟩
      have HX3 := Lib.hid (HX2.out.trans' hX3)
      have t3 := hX3.cl t2
      clear t2 hX3
      go_wp2
      go_ret2
      exact ⟨by rw [HB.out, HA.out]; rfl, HX3.out⟩
     case pos =>
      rw [decide_eq_true hne] at HED
      have hq : ((l.length : Int) != (t.length : Int)) = false := by rw [bne_eq_false_iff_eq]; omega
      cases hrun : runB t r with
      | false =>
        rw [hrun] at HR HED
        have HA : Hid (er = 3) := Lib.hid (by rw [HED.out, if_neg (by simp), if_pos rfl])
        have HB : Hid (ans = false) := Lib.hid (by rw [HBD.out, HA.out]; rfl)
        clear h hs hv htc hlv hl hk hrv hil hrc hne hrun
        generalize t.length = N at *
        generalize l.length = n at *
        generalize r.length = rn at *
        go_enter Tryz.func33, Tryz.ntmps33
        go_wp2_with fail
        refine (HV.out _ HX1.out).mono ?_
        rintro e w2 ⟨rfl, hX2⟩
        have HX2 := Lib.hid (HX1.out.trans' hX2)
        have t2 := hX2.cl t0
        clear t0 hX2
        go_wp2_with fail
        refine (HSV.out _ HX2.out).mono ?_
        rintro e w3 ⟨rfl, hX3⟩
        have HX3 := Lib.hid (HX2.out.trans' hX3)
        have t3 := hX3.cl t2
        clear t2 hX3
        go_wp2_with fail
        refine (HR.out _ HX3.out).mono ?_
        rintro e w4 ⟨rfl, hX4⟩
        have HX4 := Lib.hid (HX3.out.trans' hX4)
        go_wp2
        go_ret2
        exact ⟨by rw [HB.out, HA.out]; rfl, HX4.out⟩
      | true =>
        rw [hrun] at HR HED
        have HRR := Lib.hid (fun i (hi : i < r.length) => (run_rangeC hrun hi).1)
        by_cases ha0 : 0 ≤ a
        case neg =>
         have HA : Hid (er = 2) := Lib.hid (by rw [HED.out, if_neg (by simp), if_neg (by simp), decide_eq_false ha0]; rfl)
         have HB : Hid (ans = false) := Lib.hid (by rw [HBD.out, HA.out]; rfl)
         have d0 : decide (a < 0) = true := decide_eq_true (by omega)
         clear h hs hv htc hlv hl hk hrv hil hrc hne hrun ha0
         generalize t.length = N at *
         generalize l.length = n at *
         generalize r.length = rn at *
         go_enter Tryz.func33, Tryz.ntmps33
         go_wp2_with fail
         refine (HV.out _ HX1.out).mono ?_
         rintro e w2 ⟨rfl, hX2⟩
         have HX2 := Lib.hid (HX1.out.trans' hX2)
         have t2 := hX2.cl t0
         clear t0 hX2
         go_wp2_with fail
         refine (HSV.out _ HX2.out).mono ?_
         rintro e w3 ⟨rfl, hX3⟩
         have HX3 := Lib.hid (HX2.out.trans' hX3)
         have t3 := hX3.cl t2
         clear t2 hX3
         go_wp2_with fail
         refine (HR.out _ HX3.out).mono ?_
         rintro e w4 ⟨rfl, hX4⟩
         have HX4 := Lib.hid (HX3.out.trans' hX4)
         have t4 := hX4.cl t3
         clear t3 hX4
         go_wp2
         go_ret2
         exact ⟨by rw [HB.out, HA.out]; rfl, HX4.out⟩
        case pos =>
         rw [decide_eq_true ha0] at HED
         have d0 : decide (a < 0) = false := decide_eq_false (by omega)
         by_cases har : a < (r.length : Int)
         case neg =>
          have HA : Hid (er = 2) := Lib.hid (by rw [HED.out, if_neg (by simp), if_neg (by simp), decide_eq_false har]; rfl)
          have HB : Hid (ans = false) := Lib.hid (by rw [HBD.out, HA.out]; rfl)
          have d1 : decide ((r.length : Int) ≤ a) = true := decide_eq_true (by omega)
          clear h hs hv htc hlv hl hk hrv hil hrc hne hrun ha0 har
          generalize t.length = N at *
          generalize l.length = n at *
          generalize r.length = rn at *
          go_enter Tryz.func33, Tryz.ntmps33
          go_wp2_with fail
          refine (HV.out _ HX1.out).mono ?_
          rintro e w2 ⟨rfl, hX2⟩
          have HX2 := Lib.hid (HX1.out.trans' hX2)
          have t2 := hX2.cl t0
          clear t0 hX2
          go_wp2_with fail
          refine (HSV.out _ HX2.out).mono ?_
          rintro e w3 ⟨rfl, hX3⟩
          have HX3 := Lib.hid (HX2.out.trans' hX3)
          have t3 := hX3.cl t2
          clear t2 hX3
          go_wp2_with fail
          refine (HR.out _ HX3.out).mono ?_
          rintro e w4 ⟨rfl, hX4⟩
          have HX4 := Lib.hid (HX3.out.trans' hX4)
          have t4 := hX4.cl t3
          clear t3 hX4
          go_wp2
          go_ret2
          exact ⟨by rw [HB.out, HA.out]; rfl, HX4.out⟩
         case pos =>
          have d1 : decide ((r.length : Int) ≤ a) = false := decide_eq_false (by omega)
          obtain ⟨A, rfl⟩ : ∃ A : Nat, a = (A : Int) := ⟨a.toNat, by omega⟩
          have hAr : A < r.length := by omega
          have d1n : decide (r.length ≤ A) = false := decide_eq_false (by omega)
          rw [decide_eq_true har, Bool.and_self, if_neg (by decide), if_neg (by decide), if_neg (by decide)] at HED
          rw [Int.toNat_natCast] at HBD
          have HRA := Lib.hid (HRR.out A hAr)
          cases hr : recordedB l with
          | false =>
            rw [hr] at HSC HED
            have HA : Hid (er = 6) := Lib.hid (by rw [HED.out, if_pos rfl])
            have HB : Hid (ans = false) := Lib.hid (by rw [HBD.out, HA.out]; rfl)
            clear h hs hv htc hlv hl hk hrv hil hrc hne hrun ha0 har hr hAr
            generalize t.length = N at *
            generalize l.length = n at *
            generalize r.length = rn at *
            go_enter Tryz.func33, Tryz.ntmps33
            go_wp2_with fail
            refine (HV.out _ HX1.out).mono ?_
            rintro e w2 ⟨rfl, hX2⟩
            have HX2 := Lib.hid (HX1.out.trans' hX2)
            have t2 := hX2.cl t0
            clear t0 hX2
            go_wp2_with fail
            refine (HSV.out _ HX2.out).mono ?_
            rintro e w3 ⟨rfl, hX3⟩
            have HX3 := Lib.hid (HX2.out.trans' hX3)
            have t3 := hX3.cl t2
            clear t2 hX3
            go_wp2_with fail
            refine (HR.out _ HX3.out).mono ?_
            rintro e w4 ⟨rfl, hX4⟩
            have HX4 := Lib.hid (HX3.out.trans' hX4)
            have t4 := hX4.cl t3
            clear t3 hX4
            go_wp2_with fail
            refine (HSC.out _ HX4.out).mono ?_
            rintro e w5 ⟨rfl, hX5⟩
            have HX5 := Lib.hid (HX4.out.trans' hX5.ext)
            have t5 := hX5.ext.cl t4
            clear t4 hX5
            go_wp2
            go_ret2
            exact ⟨by rw [HB.out, HA.out]; rfl, HX5.out⟩
          | true =>
            rw [hr] at HSC HED
            have HA : Hid (er = 0) := Lib.hid (by rw [HED.out, if_neg (by simp)])
            rw [HA.out, if_pos rfl] at HBD
            have HCL := Lib.hid (cnts_len l)
            have HRL : Hid (r[A]!.length = l.length) := Lib.hid (HRA.out.trans hne.symm)
            obtain ⟨rB, rO, rcap, xa, xc, hve, _, _, hcell, hIu⟩ := rowAt HRV.out A hAr
            simp only [Value.slice.injEq] at hve
            obtain ⟨rfl, hz, rfl⟩ := hve
            have HCELL := Lib.hid hcell
            have HIU := Lib.hid hIu
            have HLE := Lib.hid (fun W (hW : Ext w W) u (hu : Ints W u (cntsL l)) => leqR_calls _ u r[A]! (cntsL l) W (HIU.out.ext hW) hu (HIL.out A hAr) (by rw [HCL.out]; omega))
            have hAz : (0 : Int) ≤ (A : Int) := by omega
            rw [HRL.out] at HCELL HIU HLE
            obtain ⟨cb, hcb⟩ : ∃ b, consB t (cntsL l) = b := ⟨_, rfl⟩
            obtain ⟨lb, hlb⟩ : ∃ b, leCB r[A]! (cntsL l) = b := ⟨_, rfl⟩
            rw [hcb] at HCO HBD
            rw [hlb] at HLE HBD
            clear h hs hv htc hlv hl hk hrv hil hrc hne hrun ha0 hr hz hcell hIu hcb hlb HRA HRL
            generalize t.length = N at *
            generalize l.length = n at *
            generalize r.length = rn at *
            go_enter Tryz.func33, Tryz.ntmps33
            go_wp2_with fail
            refine (HV.out _ HX1.out).mono ?_
            rintro e w2 ⟨rfl, hX2⟩
            have HX2 := Lib.hid (HX1.out.trans' hX2)
            have t2 := hX2.cl t0
            clear t0 hX2
            go_wp2_with fail
            refine (HSV.out _ HX2.out).mono ?_
            rintro e w3 ⟨rfl, hX3⟩
            have HX3 := Lib.hid (HX2.out.trans' hX3)
            have t3 := hX3.cl t2
            clear t2 hX3
            go_wp2_with fail
            refine (HR.out _ HX3.out).mono ?_
            rintro e w4 ⟨rfl, hX4⟩
            have HX4 := Lib.hid (HX3.out.trans' hX4)
            have t4 := hX4.cl t3
            clear t3 hX4
            go_wp2_with fail
            refine (HSC.out _ HX4.out).mono ?_
            rintro e w5 ⟨rfl, hX5⟩
            have HX5 := Lib.hid (HX4.out.trans' hX5.ext)
            have t5 := hX5.ext.cl t4
            clear t4 hX5
            have q0 := HX5.out.cl HCELL.out
            have HT5 := Lib.hid t5
            have HQ5 := Lib.hid q0
            have hAz2 : (A : Int) < (rn : Int) := by omega
            go_upto_region 9 with (fail)
            refine wp_region_tail (fun W => W.cell? ⟨w.heap.size, 0, none⟩ = some (.slice ta N tc) ∧ W.cell? ⟨rB, rO + A, none⟩ = some (.slice xa n xc)) 14 (by kernel_rfl) ⟨t5, q0⟩ (fun hHeld => ?_)
            refine wpAnyT_take (i := 0) (d := some 41) (v := ?_) rfl rfl (by kernel_rfl) (by kernel_rfl) (by kernel_rfl) (by kernel_rfl) (fun _ _ _ h => h) (Or.inl ⟨by kernel_rfl, ?_⟩) (by assumption) ?_
            rotate_left
            ·(intro w hSw; (try dsimp only at hSw); go_simp; try (with_reducible rfl))
            try simp only [Act.put]
            try simp only [List.setIfInBounds_toArray]
            try simp only [List.set_cons_zero, List.set_cons_succ]
            refine wpAnyT_take (i := 1) (d := some 42) (v := ?_) rfl rfl (by kernel_rfl) (by kernel_rfl) (by kernel_rfl) (by kernel_rfl) (fun _ _ _ h => h) (Or.inl ⟨by kernel_rfl, ?_⟩) (by assumption) ?_
            rotate_left
            ·(intro w hSw; (try dsimp only at hSw); go_simp; try (with_reducible rfl))
            try simp only [Act.put]
            try simp only [List.setIfInBounds_toArray]
            try simp only [List.set_cons_zero, List.set_cons_succ]
            refine wpAnyT_step (i := 2) (o := ⟨some 43, _, _, _, _, _⟩) (by kernel_rfl) rfl (fun K hK => ?_)
            refine step_callW (by kernel_rfl) 77 _ _ rfl enters_77 [.slice la n lc] (by first | rfl | kernel_rfl | go_simp) (HCC.out _ (HX5.out.trans' (Ext.rf w5).dr)) ?_
            rintro e y1 ⟨v1, rfl, hR1, hX1⟩
            rw [HCL.out] at hR1
            obtain ⟨ca, cc, rfl, hzc⟩ := hR1.any
            refine ⟨_, rfl, ?_⟩
            have HY1 := Lib.hid ((Ext.rf w5).dr.trans' hX1)
            have HI1 : Hid (Ints y1 (.slice ca n cc) (cntsL l)) := Lib.hid (by
             have h := hR1
             rw [← HCL.out] at h ⊢
             exact h.ints)
            clear hR1 hX1 hzc
            refine hK.out _ _ ?_ (fun hHeld => ?_)
            ·(try dsimp only)
             exact ⟨HY1.out.cl HT5.out, HY1.out.cl HQ5.out⟩
            clear hK K
            try simp only [Act.put]
            try simp only [List.setIfInBounds_toArray]
            try simp only [List.set_cons_zero, List.set_cons_succ]
            refine wpAnyT_step (i := 3) (o := ⟨some 44, _, _, _, _, _⟩) (by kernel_rfl) rfl (fun K hK => ?_)
            refine step_callW (by kernel_rfl) 76 _ _ rfl enters_76 [.agg #[.slice ta N tc], .slice ca n cc] (by first | rfl | kernel_rfl | go_simp) (HCO.out _ (HX5.out.trans' HY1.out) _ HI1.out) ?_
            rintro e y2 ⟨rfl, hX2⟩
            refine ⟨_, rfl, ?_⟩
            have HY2 := Lib.hid (HY1.out.trans' hX2)
            clear hX2
            refine hK.out _ _ ?_ (fun hHeld => ?_)
            ·(try dsimp only)
             exact ⟨HY2.out.cl HT5.out, HY2.out.cl HQ5.out⟩
            clear hK K
            try simp only [Act.put]
            try simp only [List.setIfInBounds_toArray]
            try simp only [List.set_cons_zero, List.set_cons_succ]
            cases cb with
            | false =>
              have HB : Hid (ans = false) := Lib.hid (by rw [HBD.out]; rfl)
              refine wpAnyT_take (i := 4) (d := some 45) (v := ?_) rfl rfl (by kernel_rfl) (by kernel_rfl) (by kernel_rfl) (by kernel_rfl) (fun _ _ _ h => h) (Or.inl ⟨by kernel_rfl, ?_⟩) (by assumption) ?_
              rotate_left
              ·(intro w hSw; (try dsimp only at hSw); go_simp; try (with_reducible rfl))
              try simp only [Act.put]
              try simp only [List.setIfInBounds_toArray]
              try simp only [List.set_cons_zero, List.set_cons_succ]
              refine wpAnyT_take (i := 5) (d := some 46) (v := undef) rfl rfl (by kernel_rfl) (by kernel_rfl) (by kernel_rfl) (by kernel_rfl) (fun _ _ _ h => h) (Or.inr ⟨by kernel_rfl, rfl⟩) (by assumption) ?_
              try simp only [Act.put]
              try simp only [List.setIfInBounds_toArray]
              try simp only [List.set_cons_zero, List.set_cons_succ]
              refine wpAnyT_take (i := 6) (d := some 47) (v := undef) rfl rfl (by kernel_rfl) (by kernel_rfl) (by kernel_rfl) (by kernel_rfl) (fun _ _ _ h => h) (Or.inr ⟨by kernel_rfl, rfl⟩) (by assumption) ?_
              try simp only [Act.put]
              try simp only [List.setIfInBounds_toArray]
              try simp only [List.set_cons_zero, List.set_cons_succ]
              refine wpAnyT_take (i := 7) (d := some 48) (v := undef) rfl rfl (by kernel_rfl) (by kernel_rfl) (by kernel_rfl) (by kernel_rfl) (fun _ _ _ h => h) (Or.inr ⟨by kernel_rfl, rfl⟩) (by assumption) ?_
              try simp only [Act.put]
              try simp only [List.setIfInBounds_toArray]
              try simp only [List.set_cons_zero, List.set_cons_succ]
              refine wpAnyT_take (i := 8) (d := some 49) (v := undef) rfl rfl (by kernel_rfl) (by kernel_rfl) (by kernel_rfl) (by kernel_rfl) (fun _ _ _ h => h) (Or.inr ⟨by kernel_rfl, rfl⟩) (by assumption) ?_
              try simp only [Act.put]
              try simp only [List.setIfInBounds_toArray]
              try simp only [List.set_cons_zero, List.set_cons_succ]
              refine wpAnyT_take (i := 9) (d := some 50) (v := undef) rfl rfl (by kernel_rfl) (by kernel_rfl) (by kernel_rfl) (by kernel_rfl) (fun _ _ _ h => h) (Or.inr ⟨by kernel_rfl, rfl⟩) (by assumption) ?_
              try simp only [Act.put]
              try simp only [List.setIfInBounds_toArray]
              try simp only [List.set_cons_zero, List.set_cons_succ]
              refine wpAnyT_take (i := 10) (d := some 51) (v := undef) rfl rfl (by kernel_rfl) (by kernel_rfl) (by kernel_rfl) (by kernel_rfl) (fun _ _ _ h => h) (Or.inr ⟨by kernel_rfl, rfl⟩) (by assumption) ?_
              try simp only [Act.put]
              try simp only [List.setIfInBounds_toArray]
              try simp only [List.set_cons_zero, List.set_cons_succ]
              refine wpAnyT_take (i := 11) (d := some 52) (v := undef) rfl rfl (by kernel_rfl) (by kernel_rfl) (by kernel_rfl) (by kernel_rfl) (fun _ _ _ h => h) (Or.inr ⟨by kernel_rfl, rfl⟩) (by assumption) ?_
              try simp only [Act.put]
              try simp only [List.setIfInBounds_toArray]
              try simp only [List.set_cons_zero, List.set_cons_succ]
              refine wpAnyT_take (i := 12) (d := some 53) (v := ?_) rfl rfl (by kernel_rfl) (by kernel_rfl) (by kernel_rfl) (by kernel_rfl) (fun _ _ _ h => h) (Or.inl ⟨by kernel_rfl, ?_⟩) (by assumption) ?_
              rotate_left
              ·(intro w hSw; (try dsimp only at hSw); go_simp; try (with_reducible rfl))
              try simp only [Act.put]
              try simp only [List.setIfInBounds_toArray]
              try simp only [List.set_cons_zero, List.set_cons_succ]
              refine wpAnyT_take (i := 13) (d := some 8) (v := ?_) rfl rfl (by kernel_rfl) (by kernel_rfl) (by kernel_rfl) (by kernel_rfl) (fun _ _ _ h => h) (Or.inl ⟨by kernel_rfl, ?_⟩) (by assumption) ?_
              rotate_left
              ·(intro w hSw; (try dsimp only at hSw); go_simp; try (with_reducible rfl))
              try simp only [Act.put]
              try simp only [List.setIfInBounds_toArray]
              try simp only [List.set_cons_zero, List.set_cons_succ]
              refine wpAnyT_last (by kernel_rfl) rfl (by kernel_rfl) (fun K hK => ?_)
              go_simp
              refine hK.out _ _ ?_
              go_wp2
              go_ret2
              exact ⟨by rw [HB.out, HA.out]; rfl, HX5.out.trans' HY2.out⟩
            | true =>
              have HB : Hid (ans = lb) := Lib.hid (by rw [HBD.out]; rfl)
              refine wpAnyT_take (i := 4) (d := some 45) (v := ?_) rfl rfl (by kernel_rfl) (by kernel_rfl) (by kernel_rfl) (by kernel_rfl) (fun _ _ _ h => h) (Or.inl ⟨by kernel_rfl, ?_⟩) (by assumption) ?_
              rotate_left
              ·(intro w hSw; (try dsimp only at hSw); go_simp; try (with_reducible rfl))
              try simp only [Act.put]
              try simp only [List.setIfInBounds_toArray]
              try simp only [List.set_cons_zero, List.set_cons_succ]
              refine wpAnyT_take (i := 5) (d := some 46) (v := ?_) rfl rfl (by kernel_rfl) (by kernel_rfl) (by kernel_rfl) (by kernel_rfl) (fun _ _ _ h => h) (Or.inl ⟨by kernel_rfl, ?_⟩) (by assumption) ?_
              rotate_left
              ·(intro w hSw; (try dsimp only at hSw); go_simp; try (with_reducible rfl))
              try simp only [Act.put]
              try simp only [List.setIfInBounds_toArray]
              try simp only [List.set_cons_zero, List.set_cons_succ]
              refine wpAnyT_take (i := 6) (d := some 47) (v := ?_) rfl rfl (by kernel_rfl) (by kernel_rfl) (by kernel_rfl) (by kernel_rfl) (fun _ _ _ h => h) (Or.inl ⟨by kernel_rfl, ?_⟩) (by assumption) ?_
              rotate_left
              ·(intro w hSw; (try dsimp only at hSw); go_simp; try (with_reducible rfl))
              try simp only [Act.put]
              try simp only [List.setIfInBounds_toArray]
              try simp only [List.set_cons_zero, List.set_cons_succ]
              refine wpAnyT_take (i := 7) (d := some 48) (v := ?_) rfl rfl (by kernel_rfl) (by kernel_rfl) (by kernel_rfl) (by kernel_rfl) (fun _ _ _ h => h) (Or.inl ⟨by kernel_rfl, ?_⟩) (by assumption) ?_
              rotate_left
              ·(intro w hSw; (try dsimp only at hSw); go_simp; try (with_reducible rfl))
              try simp only [Act.put]
              try simp only [List.setIfInBounds_toArray]
              try simp only [List.set_cons_zero, List.set_cons_succ]
              refine wpAnyT_take (i := 8) (d := some 49) (v := ?_) rfl rfl (by kernel_rfl) (by kernel_rfl) (by kernel_rfl) (by kernel_rfl) (fun _ _ _ h => h) (Or.inl ⟨by kernel_rfl, ?_⟩) (by assumption) ?_
              rotate_left
              ·(intro w hSw; (try dsimp only at hSw); go_simp; try (with_reducible rfl))
              try simp only [Act.put]
              try simp only [List.setIfInBounds_toArray]
              try simp only [List.set_cons_zero, List.set_cons_succ]
              refine wpAnyT_take (i := 9) (d := some 50) (v := ?_) rfl rfl (by kernel_rfl) (by kernel_rfl) (by kernel_rfl) (by kernel_rfl) (fun _ _ _ h => h) (Or.inl ⟨by kernel_rfl, ?_⟩) (by assumption) ?_
              rotate_left
              ·(intro w hSw; (try dsimp only at hSw); go_simp; try (with_reducible rfl))
              try simp only [Act.put]
              try simp only [List.setIfInBounds_toArray]
              try simp only [List.set_cons_zero, List.set_cons_succ]
              refine wpAnyT_step (i := 10) (o := ⟨some 51, _, _, _, _, _⟩) (by kernel_rfl) rfl (fun K hK => ?_)
              refine step_callW (by kernel_rfl) 77 _ _ rfl enters_77 [.slice la n lc] (by first | rfl | kernel_rfl | go_simp) (HCC.out _ (HX5.out.trans' HY2.out)) ?_
              rintro e y3 ⟨v3, rfl, hR3, hX3⟩
              rw [HCL.out] at hR3
              obtain ⟨da, dc, rfl, hzd⟩ := hR3.any
              refine ⟨_, rfl, ?_⟩
              have HY3 := Lib.hid (HY2.out.trans' hX3)
              have HI3 : Hid (Ints y3 (.slice da n dc) (cntsL l)) := Lib.hid (by
               have h := hR3
               rw [← HCL.out] at h ⊢
               exact h.ints)
              clear hR3 hX3 hzd
              refine hK.out _ _ ?_ (fun hHeld => ?_)
              ·(try dsimp only)
               exact ⟨HY3.out.cl HT5.out, HY3.out.cl HQ5.out⟩
              clear hK K
              try simp only [Act.put]
              try simp only [List.setIfInBounds_toArray]
              try simp only [List.set_cons_zero, List.set_cons_succ]
              refine wpAnyT_step (i := 11) (o := ⟨some 52, _, _, _, _, _⟩) (by kernel_rfl) rfl (fun K hK => ?_)
              refine step_callW (by kernel_rfl) 78 _ _ rfl enters_78 [.slice xa n xc, .slice da n dc] (by first | rfl | kernel_rfl | go_simp) (HLE.out _ (HX5.out.trans' HY3.out) _ HI3.out) ?_
              rintro e y4 ⟨rfl, hX4⟩
              refine ⟨_, rfl, ?_⟩
              have HY4 := Lib.hid (HY3.out.trans' hX4)
              clear hX4
              refine hK.out _ _ ?_ (fun hHeld => ?_)
              ·(try dsimp only)
               exact ⟨HY4.out.cl HT5.out, HY4.out.cl HQ5.out⟩
              clear hK K
              try simp only [Act.put]
              try simp only [List.setIfInBounds_toArray]
              try simp only [List.set_cons_zero, List.set_cons_succ]
              refine wpAnyT_take (i := 12) (d := some 53) (v := ?_) rfl rfl (by kernel_rfl) (by kernel_rfl) (by kernel_rfl) (by kernel_rfl) (fun _ _ _ h => h) (Or.inl ⟨by kernel_rfl, ?_⟩) (by assumption) ?_
              rotate_left
              ·(intro w hSw; (try dsimp only at hSw); go_simp; try (with_reducible rfl))
              try simp only [Act.put]
              try simp only [List.setIfInBounds_toArray]
              try simp only [List.set_cons_zero, List.set_cons_succ]
              refine wpAnyT_take (i := 13) (d := some 8) (v := ?_) rfl rfl (by kernel_rfl) (by kernel_rfl) (by kernel_rfl) (by kernel_rfl) (fun _ _ _ h => h) (Or.inl ⟨by kernel_rfl, ?_⟩) (by assumption) ?_
              rotate_left
              ·(intro w hSw; (try dsimp only at hSw); go_simp; try (with_reducible rfl))
              try simp only [Act.put]
              try simp only [List.setIfInBounds_toArray]
              try simp only [List.set_cons_zero, List.set_cons_succ]
              refine wpAnyT_last (by kernel_rfl) rfl (by kernel_rfl) (fun K hK => ?_)
              go_simp
              refine hK.out _ _ ?_
              go_wp2
              go_ret2
              exact ⟨by rw [HB.out, HA.out]; rfl, HX5.out.trans' HY4.out⟩
end Go.Proofs.YtfagfooggcinoaaGreat
namespace Go.Proofs.YtfagfooggcinoaaGreat
open Go.RowKit
set_option linter.unusedVariables false
theorem enters_34 : ∀ args w, (callFunc 34 args).run Tryz.prog w = .ok (.enter 34 args) w := enters_of Tryz.func34 (by kernel_rfl) rfl
set_option maxHeartbeats 8000000 in
set_option maxRecDepth 100000 in
theorem checkR_calls (v lv : Value) (t : Tr) (l : List Mk) (w : World) (h : TrAt w v t) (hs : LooseTr t) (hlv : Sl RMk 3 w lv l) (hl : LightM l) :
  Calls Tryz.prog 34 #[.agg #[v], lv] w fun e w' => e = .returned (.bool (checkB t l)) ∧ Ext w w' := by
 have HV := Lib.hid (fun W (hW : Ext w W) => validR_calls v t W (h.ext hW) hs)
 have HSV := Lib.hid (fun W (hW : Ext w W) => validMR_calls lv l W (Sl.ext rmk_lasts hlv hW) hl)
 have HSC := Lib.hid (fun W (hW : Ext w W) => recordedR_calls lv l W (Sl.ext rmk_lasts hlv hW) hl)
 have HCC := Lib.hid (fun W (hW : Ext w W) => cutR50_calls lv l W (Sl.ext rmk_lasts hlv hW) hl)
 have HCO := Lib.hid (fun W (hW : Ext w W) u (hu : Ints W u (cntsL l)) => consistentR_calls v u t (cntsL l) W (h.ext hW) hs hu)
 have HOF := Lib.hid (fun W (hW : Ext w W) u (hu : Ints W u (cntsL l)) (hv : validT t = true) (hr : RangeC t (cntsL l)) => ofR_calls v u t (cntsL l) W (h.ext hW) hv hu hr)
 have HSM := Lib.hid (fun W (hW : Ext w W) u (hv : validT t = true) (hr : RangeC t (cntsL l)) (hu : Sl RMk 3 W u (cutM t (cntsL l))) => sameMarks_calls lv u l (cutM t (cntsL l)) W (Sl.ext rmk_lasts hlv hW) hu hl (cutM_lightE hv hr))
 have hl1 := hl.1
 obtain ⟨ta, tc, rfl, htc⟩ := h.sh
 obtain ⟨la, lc, rfl, hlc⟩ := hlv.sh
 have HX1 := Lib.hid ((Ext.rf w).al (.cells #[.slice ta t.length tc] 24))
 have HB1 := Lib.hid (heap_alloc_new w (.cells #[.slice ta t.length tc] 24))
 have t0 := cellOf HB1.out 0
 simp only [List.getElem?_toArray, List.getElem?_cons_zero] at t0
 have HAD : Hid (checkB t l = (validT t && (validK l && (decide (l.length = t.length) && (recordedB l && (consB t (cntsL l) && waysB t l)))))) := Lib.hid rfl
 generalize checkB t l = ans at *
 cases hv : validT t with
 | false =>
   rw [hv] at HV HAD
   have HA : Hid (ans = false) := Lib.hid HAD.out
   clear h hs hv htc hlv hl
   generalize t.length = N at *
   generalize l.length = n at *
   go_enter Tryz.func34, Tryz.ntmps34
   go_wp2_with fail
   refine (HV.out _ HX1.out).mono ?_
   rintro e w2 ⟨rfl, hX2⟩
   have HX2 := Lib.hid (HX1.out.trans' hX2)
   go_wp2
   go_ret
   exact ⟨by rw [HA.out]; rfl, HX2.out⟩
 | true =>
   rw [hv] at HV HAD
   cases hk : validK l with
   | false =>
     rw [hk] at HSV HAD
     have HA : Hid (ans = false) := Lib.hid HAD.out
     clear h hs hv htc hlv hl hk
     generalize t.length = N at *
     generalize l.length = n at *
     go_enter Tryz.func34, Tryz.ntmps34
     go_wp2_with fail
     refine (HV.out _ HX1.out).mono ?_
     rintro e w2 ⟨rfl, hX2⟩
     have HX2 := Lib.hid (HX1.out.trans' hX2)
     have t2 := hX2.cl t0
     clear t0 hX2
     go_wp2_with fail
     refine (HSV.out _ HX2.out).mono ?_
     rintro e w3 ⟨rfl, hX3⟩
     have HX3 := Lib.hid (HX2.out.trans' hX3)
     go_wp2
     go_ret
     exact ⟨by rw [HA.out]; rfl, HX3.out⟩
   | true =>
     have hN8 := valid_8 hv
     rw [hk] at HSV HAD
     by_cases hne : l.length = t.length
     case neg =>
      have HA : Hid (ans = false) := Lib.hid (by rw [HAD.out, decide_eq_false hne]; rfl)
      clear h hs hv htc hlv hl hk
      generalize t.length = N at *
      generalize l.length = n at *
      have hq : ((n : Int) != (N : Int)) = true := by rw [bne_iff_ne]; omega
      clear hne
      go_enter Tryz.func34, Tryz.ntmps34
      go_wp2_with fail
      refine (HV.out _ HX1.out).mono ?_
      rintro e w2 ⟨rfl, hX2⟩
      have HX2 := Lib.hid (HX1.out.trans' hX2)
      have t2 := hX2.cl t0
      clear t0 hX2
      go_wp2_with fail
      refine (HSV.out _ HX2.out).mono ?_
      rintro e w3 ⟨rfl, hX3⟩
      have HX3 := Lib.hid (HX2.out.trans' hX3)
      have t3 := hX3.cl t2
      clear t2 hX3
      go_wp2
      go_ret
      exact ⟨by rw [HA.out]; rfl, HX3.out⟩
     case pos =>
      rw [decide_eq_true hne] at HAD
      have hq : ((l.length : Int) != (t.length : Int)) = false := by rw [bne_eq_false_iff_eq]; omega
      have HWY := Lib.hid (ways_eq hk hne)
      have HCL := Lib.hid (cnts_len l)
      cases hr : recordedB l with
      | false =>
        rw [hr] at HSC HAD
        have HA : Hid (ans = false) := Lib.hid HAD.out
        clear h hs hv htc hlv hl hk hr hne
        generalize t.length = N at *
        generalize l.length = n at *
        go_enter Tryz.func34, Tryz.ntmps34
        go_wp2_with fail
        refine (HV.out _ HX1.out).mono ?_
        rintro e w2 ⟨rfl, hX2⟩
        have HX2 := Lib.hid (HX1.out.trans' hX2)
        have t2 := hX2.cl t0
        clear t0 hX2
        go_wp2_with fail
        refine (HSV.out _ HX2.out).mono ?_
        rintro e w3 ⟨rfl, hX3⟩
        have HX3 := Lib.hid (HX2.out.trans' hX3)
        have t3 := hX3.cl t2
        clear t2 hX3
        go_wp2_with fail
        refine (HSC.out _ HX3.out).mono ?_
        rintro e w4 ⟨rfl, hX4⟩
        have HX4 := Lib.hid (HX3.out.trans' hX4.ext)
        go_wp2
        go_ret
        exact ⟨by rw [HA.out]; rfl, HX4.out⟩
      | true =>
        rw [hr] at HSC HAD
        have HVT := Lib.hid hv
        cases hcb : consB t (cntsL l) with
        | false =>
          rw [hcb] at HCO HAD
          have HA : Hid (ans = false) := Lib.hid HAD.out
          clear h hs hv htc hlv hl hk hr hne hcb
          generalize t.length = N at *
          generalize l.length = n at *
          go_enter Tryz.func34, Tryz.ntmps34
          go_wp2_with fail
          refine (HV.out _ HX1.out).mono ?_
          rintro e w2 ⟨rfl, hX2⟩
          have HX2 := Lib.hid (HX1.out.trans' hX2)
          have t2 := hX2.cl t0
          clear t0 hX2
          go_wp2_with fail
          refine (HSV.out _ HX2.out).mono ?_
          rintro e w3 ⟨rfl, hX3⟩
          have HX3 := Lib.hid (HX2.out.trans' hX3)
          have t3 := hX3.cl t2
          clear t2 hX3
          go_wp2_with fail
          refine (HSC.out _ HX3.out).mono ?_
          rintro e w4 ⟨rfl, hX4⟩
          have HX4 := Lib.hid (HX3.out.trans' hX4.ext)
          have t4 := hX4.ext.cl t3
          clear t3 hX4
          go_wp2_with fail
          refine (HCC.out _ HX4.out).mono ?_
          rintro e w5 ⟨v5, rfl, hR5, hX5⟩
          rw [HCL.out] at hR5
          obtain ⟨xa, xc, rfl, hz5⟩ := hR5.any
          have HX5 := Lib.hid (HX4.out.trans' hX5)
          have HI5 : Hid (Ints w5 (.slice xa n xc) (cntsL l)) := Lib.hid (by
           have h := hR5
           rw [← HCL.out] at h ⊢
           exact h.ints)
          have t5 := hX5.cl t4
          clear t4 hX5 hR5 hz5
          go_wp2_with fail
          refine (HCO.out _ HX5.out _ HI5.out).mono ?_
          rintro e w6 ⟨rfl, hX6⟩
          have HX6 := Lib.hid (HX5.out.trans' hX6)
          clear t5
          go_wp2
          go_ret
          exact ⟨by rw [HA.out]; rfl, HX6.out⟩
        | true =>
          have HRG := Lib.hid ((consB_iff.1 hcb).2.1)
          have HML := Lib.hid (cutM_len (t := t) (c := cntsL l))
          rw [hcb] at HCO HAD
          obtain ⟨sb, hsb⟩ : ∃ b, decide (l = cutM t (cntsL l)) = b := ⟨_, rfl⟩
          have HA : Hid (ans = sb) := Lib.hid (by rw [HAD.out, HWY.out, hsb]; rfl)
          rw [hsb] at HSM
          clear h hs hv htc hlv hl hk hr hne hcb hsb
          generalize t.length = N at *
          generalize l.length = n at *
          go_enter Tryz.func34, Tryz.ntmps34
          go_wp2_with fail
          refine (HV.out _ HX1.out).mono ?_
          rintro e w2 ⟨rfl, hX2⟩
          have HX2 := Lib.hid (HX1.out.trans' hX2)
          have t2 := hX2.cl t0
          clear t0 hX2
          go_wp2_with fail
          refine (HSV.out _ HX2.out).mono ?_
          rintro e w3 ⟨rfl, hX3⟩
          have HX3 := Lib.hid (HX2.out.trans' hX3)
          have t3 := hX3.cl t2
          clear t2 hX3
          go_wp2_with fail
          refine (HSC.out _ HX3.out).mono ?_
          rintro e w4 ⟨rfl, hX4⟩
          have HX4 := Lib.hid (HX3.out.trans' hX4.ext)
          have t4 := hX4.ext.cl t3
          clear t3 hX4
          go_wp2_with fail
          refine (HCC.out _ HX4.out).mono ?_
          rintro e w5 ⟨v5, rfl, hR5, hX5⟩
          rw [HCL.out] at hR5
          obtain ⟨xa, xc, rfl, hz5⟩ := hR5.any
          have HX5 := Lib.hid (HX4.out.trans' hX5)
          have HI5 : Hid (Ints w5 (.slice xa n xc) (cntsL l)) := Lib.hid (by
           have h := hR5
           rw [← HCL.out] at h ⊢
           exact h.ints)
          have t5 := hX5.cl t4
          clear t4 hX5 hR5 hz5
          go_wp2_with fail
          refine (HCO.out _ HX5.out _ HI5.out).mono ?_
          rintro e w6 ⟨rfl, hX6⟩
          have HX6 := Lib.hid (HX5.out.trans' hX6)
          have HI6 := Lib.hid (HI5.out.ext hX6)
          have t6 := hX6.cl t5
          clear t5 hX6
          go_wp2_with fail
          refine (HOF.out _ HX6.out _ HI6.out HVT.out HRG.out).mono ?_
          rintro e w7 ⟨v7, rfl, hX7, hS7⟩
          obtain ⟨ma, mc, rfl, hz7⟩ := hS7.sh
          have HX7 := Lib.hid (HX6.out.trans' hX7)
          have HS7 := Lib.hid hS7
          rw [HML.out] at HS7 ⊢
          clear t6 hX7 hS7 hz7
          go_wp2_with fail
          refine (HSM.out _ HX7.out _ HVT.out HRG.out HS7.out).mono ?_
          rintro e w8 ⟨rfl, hX8⟩
          have HX8 := Lib.hid (HX7.out.trans' hX8.ext)
          go_wp2
          go_ret
          exact ⟨by rw [HA.out]; rfl, HX8.out⟩
end Go.Proofs.YtfagfooggcinoaaGreat
namespace Go.Proofs.YtfagfooggcinoaaGreat
open Go.RowKit
set_option linter.unusedVariables false
open Go.ChangeShapes Go.WideShapes
theorem bools_sl {w : World} {v : Value} {l : List Bool} (h : Sl RBool 1 w v l) : Bools w v l := by
 obtain ⟨a, c, rfl, hlc, h⟩ := h
 refine ⟨by simp, a, c, rfl, hlc, fun hn => ?_⟩
 obtain ⟨b, off, rfl, hb, hc⟩ := h (by intro e; rw [e] at hn; simp at hn)
 refine ⟨b, off, rfl, hb, fun j hj => ?_⟩
 have hj : j < l.length := by simpa using hj
 obtain ⟨vs, h1, h2, h3⟩ := hc j hj
 have := h3 0 (by omega)
 rw [Nat.mul_one, Nat.add_zero] at this
 obtain rfl : vs = [.bool l[j]!] := h2
 rw [this, List.getElem?_map, List.getElem?_eq_getElem hj, getElem!_pos l j hj]; rfl
section
variable {H : Type} {enc : TypeId × Value → H} {w : World} {base : Nat} {spare : Nat → Bool} {held : Bool}
theorem gives_boolM : Gives enc Tryz.prog w base spare held 4 RBool := by
 intro fuel cs x h
 obtain ⟨b, rfl, _⟩ := DataW.trod_bool Tryz.underlying4 h
 exact ⟨b, rfl⟩
theorem gives_boolsM : Gives enc Tryz.prog w base spare held 51 (fun w cs (l : List Bool) => ∃ v, cs = [v] ∧ Sl RBool 1 w v l ∧ l.length ≤ 9223372036854775807) :=
 gives_slice Tryz.underlying51 (show Tryz.prog.cellsOf 4 = 1 from by kernel_rfl) (by omega) gives_boolM
theorem gives_numM : Gives enc Tryz.prog w base spare held 3 (fun w cs (n : Int) => cs = [.int .i64 n]) := by
 intro fuel cs x h
 obtain ⟨n, rfl, _⟩ := DataW.trod_int Tryz.underlying3 h
 exact ⟨n, rfl⟩
set_option maxRecDepth 100000 in
theorem gives_mark : Gives enc Tryz.prog w base spare held 53 RMk := by
 intro fuel cs x h
 obtain ⟨xs, n, _, _, hl, hxl, hf⟩ := DataW.trod_struct Tryz.underlying53 h
 have hk1 : Tryz.prog.cellsOf 3 = 1 := by kernel_rfl
 have hk2 : Tryz.prog.cellsOf 51 = 1 := by kernel_rfl
 have hk3 : Tryz.prog.cellsOf 25 = 1 := by kernel_rfl
 rw [show Tryz.prog.cellsOf 53 = 3 from by kernel_rfl] at hl
 have hxl3 : xs.length = 3 := hxl
 match cs, hl with
 | [c0, c1, c2], _ =>
   have h0 : DataW.trod enc Tryz.prog w base spare held n 3 (([c0, c1, c2].drop 0).take (Tryz.prog.cellsOf 3)) = xs[0]? := hf 0 _ rfl
   have h1 : DataW.trod enc Tryz.prog w base spare held n 51 (([c0, c1, c2].drop 1).take (Tryz.prog.cellsOf 51)) = xs[1]? := hf 1 _ rfl
   have h2 : DataW.trod enc Tryz.prog w base spare held n 25 (([c0, c1, c2].drop 2).take (Tryz.prog.cellsOf 25)) = xs[2]? := hf 2 _ rfl
   rw [hk1] at h0
   rw [hk2] at h1
   rw [hk3] at h2
   rw [List.getElem?_eq_getElem (by omega)] at h0 h1 h2
   simp only [List.drop_zero, List.drop_succ_cons, List.take_succ_cons, List.take_zero] at h0 h1 h2
   obtain ⟨d, e0⟩ := gives_numM _ _ _ h0
   obtain ⟨q, v, e1, hq, _⟩ := gives_boolsM _ _ _ h1
   obtain ⟨r, u, e2, hr, _⟩ := gives_rowsI _ _ _ h2
   simp only [List.cons.injEq, and_true] at e0 e1 e2
   exact ⟨⟨d, q, r⟩, v, u, by rw [e0, e1, e2], bools_sl hq, hr⟩
theorem gives_marks : Gives enc Tryz.prog w base spare held 29 (fun w cs (l : List Mk) => ∃ v, cs = [v] ∧ Sl RMk 3 w v l ∧ l.length ≤ 9223372036854775807) :=
 gives_slice Tryz.underlying29 (show Tryz.prog.cellsOf 53 = 3 from by kernel_rfl) (by omega) gives_mark
end
end Go.Proofs.YtfagfooggcinoaaGreat
