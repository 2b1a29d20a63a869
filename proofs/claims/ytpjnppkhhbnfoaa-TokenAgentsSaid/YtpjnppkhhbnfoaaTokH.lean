/-
  The copy of agents, of the reference's text.
-/
import Derived.Test.YtpjnppkhhbnfoaaBase
import Derived.Test.YtpjnppkhhbnfoaaProg
import Derived.BigQuiet
import Derived.Deep.QuietTactic
import Derived.Deep.LoopGhost
import Derived.Shelf.Abstract
import Derived.Test.YtpjnppkhhbnfoaaTokG
import Derived.RegionTactic
import Derived.BigRegion
namespace Go.Proofs.Ytpjnppkhhbnfoaa
open Go.RowKit
set_option linter.unusedVariables false
attribute [local go_sem ↓] Go.wp_at_zero Go.wp_at_succ

theorem info_int1 : (Try.prog.info? 3).map (fun i => (i.zero, i.size, i.bytes)) = some (some (.int .i64 0), 1, 8) := by kernel_rfl

/-- The box of an agent. -/
def agT (a b c : Value) : Obj := .cells #[a, b, c] 49
theorem ag_set0 {w : World} {K : Nat} {a b c : Value} (h : w.heap[K]? = some (agT a b c)) (u : Value) : (w.setCell ⟨K, 0, none⟩ u).heap[K]? = some (agT u b c) := by
  rw [agT] at h; rw [heap_setCell_same h]; rfl
theorem ag_set1 {w : World} {K : Nat} {a b c : Value} (h : w.heap[K]? = some (agT a b c)) (u : Value) : (w.setCell ⟨K, 1, none⟩ u).heap[K]? = some (agT a u c) := by
  rw [agT] at h; rw [heap_setCell_same h]; rfl
theorem ag_set2 {w : World} {K : Nat} {a b c : Value} (h : w.heap[K]? = some (agT a b c)) (u : Value) : (w.setCell ⟨K, 2, none⟩ u).heap[K]? = some (agT a b u) := by
  rw [agT] at h; rw [heap_setCell_same h]; rfl

/-- One queue more: the row of agents has grown. -/
theorem QHs.pushA {w0 W w2 : World} {base size : Nat} {e1 e2 e3 : TypeId} {hs : List Value} {qs : List (List (List Int))} {v uq : Value} {n : Nat} {xs : List Value} {q : List (List Int)} (h0 : QHs w0 base e2 e3 hs qs) (hx : Ext w0 W)
    (hv : RowRows W w0.heap.size e2 e3 (Value.int .i64) v q) (hb : base ≤ w0.heap.size) (hrow : Row W base e1 size uq n xs) (hg : W.grownBy w2 uq.ownBlock) (h12 : e1 ≠ e2) (h13 : e1 ≠ e3) : QHs w2 base e2 e3 (hs ++ [v]) (qs ++ [q]) := by
  obtain ⟨h1, h2, h3⟩ := h0
  have keep : ∀ (u : Value) (l : List (List Int)), RowRows W base e2 e3 (Value.int .i64) u l → RowRows w2 base e2 e3 (Value.int .i64) u l := by
    intro u l hu
    refine hu.grown hg ?_ (hrow.block' h13)
    obtain ⟨vs, k1, _⟩ := hu
    exact k1.apart hrow (fun e => h12 e.symm)
  have hlt := hv.lt
  refine ⟨by simp [h1], fun p hp => ?_, fun p r hp hr hpr => ?_⟩
  · rw [List.length_append, List.length_singleton] at hp
    rw [snoc_at hs v p (by omega), snoc_at qs q p (by omega), h1]
    split
    · exact keep _ _ (hv.mono hb)
    · exact keep _ _ ((h2 p (by omega)).ext hx)
  · rw [List.length_append, List.length_singleton] at hp hr
    rw [snoc_at hs v p (by omega), snoc_at hs v r (by omega), h1]
    by_cases e1 : p = qs.length
    · rw [if_pos e1, if_neg (by omega)]
      cases hk : v.ownBlock with
      | none => exact .inl rfl
      | some k =>
        refine .inr fun h => ?_
        have := ((h2 r (by omega)).lt k h.symm).2
        have := (hlt k hk).1
        omega
    · rw [if_neg e1]
      by_cases e2 : r = qs.length
      · rw [if_pos e2]
        cases hk : hs[p]!.ownBlock with
        | none => exact .inl rfl
        | some k =>
          refine .inr fun h => ?_
          have := ((h2 p (by omega)).lt k hk).2
          have := (hlt k h.symm).1
          omega
      · rw [if_neg e2]
        exact h3 p r (by omega) (by omega) hpr

set_option maxHeartbeats 8000000 in
set_option maxRecDepth 100000 in
theorem copiedR_calls (v : Value) (l : List Ag) (w : World) (h : Sl RAgent 3 w v l) (hs : SmallT l) :
    Calls Try.prog 31 #[v] w fun e w' => AgOut w w' e l := by
  obtain ⟨i2, hi2, iz0, iz1, iz2⟩ := info_parts info_rows1
  obtain ⟨i3, hi3, jz0, jz1, jz2⟩ := info_parts info_ag
  obtain ⟨ii, hii, kz0, kz1, kz2⟩ := info_parts info_int1
  have HS := Lib.hid h
  have hn := hs.1
  have HSM := Lib.hid hs.2
  obtain ⟨a, c, rfl, hlc⟩ := h.shape
  generalize hln : l.length = n at *
  have HN := Lib.hid hln
  clear h hs hln
  go_enter Try.func31, Try.ntmps31
  go_wp2
  go_loopg [3, 4] n (fun g s3 s4 wr => ∃ k : Nat, k ≤ n ∧ n - k ≤ g ∧ s4 = .int .i64 k ∧ Aside (OwnA wr w.heap.size s3 (l.take k)) ∧ Aside (Ext w wr))
  case atStart => exact ⟨0, Nat.zero_le _, by omega, rfl, OwnAg.nil _ _ _ _ _, Ext.rf _⟩
  case round =>
    obtain ⟨k, hk, hg, rfl, HO, HE⟩ := hrel
    have hszr := HE.out.sz
    by_cases hlt : k < n
    · have hltz : (k : Int) < (n : Int) := by omega
      have hkz : (0 : Int) ≤ (k : Int) := by omega
      have hkq : k < l.length := by rw [HN.out]; exact hlt
      obtain ⟨B, O, C, a1, m1, c1, hue0, _, hq0, hd0, he0, M1, hmc1, HS1⟩ := agent_at HS.out k hkq
      simp only [Value.slice.injEq] at hue0
      obtain ⟨rfl, hnn, rfl⟩ := hue0
      have hq1 := HE.out.cl hq0
      have hd1 := HE.out.cl hd0
      have he1 := HE.out.cl he0
      have hBw : B < wr.heap.size := World.block_lt_of_cell? wr _ hq1
      have hBne : B ≠ wr.heap.size := by omega
      have HQ0 := Lib.hid hq0
      have HM1 := Lib.hid M1
      have hm1 := (HSM.out k hlt).1
      rw [← M1] at hm1
      have HSQ := Lib.hid HS1
      generalize hdd : l[k]!.dropped = dd at *
      generalize hee : l[k]!.ended = ee at *
      have HDD := Lib.hid hdd
      have HEE := Lib.hid hee
      clear hq0 hd0 he0 M1 HS1 hnn hdd hee
      have x0 := cell_new wr #[.slice none 0 0, .int .i64 0, .bool false] 49 0 _ rfl
      go_upto_region 5 with (fail)
      go_cut [5] (fun s5 wx => s5 = .pointer (some ⟨wr.heap.size, 0, none⟩) ∧ Aside (wx.heap[wr.heap.size]? = some (agT (.slice none 0 0) (.int .i64 dd) (.bool ee))) ∧ Aside (Ext wr wx))
      case first =>
        go_region
        all_goals go_wp2
        all_goals go_meet
        exact ⟨rfl, heap_alloc_new _ _, (show Ext _ _ from ((Ext.rf wr).al _).dr)⟩
      case rest =>
        obtain ⟨rfl, HBX, HEX⟩ := hcut
        have hszx := (Array.getElem?_eq_some_iff.1 HBX.out).1
        obtain ⟨wb, rfl⟩ : ∃ x, x = wr := ⟨_, rfl⟩
        clear hq1 hd1 he1
        go_wp2
        go_loopg [6, 7, 8] m1 (fun g s6 _ _ wr => ∃ (i : Nat) (u : Value), i ≤ m1 ∧ m1 - i ≤ g ∧ s6 = .int .i64 i ∧ Aside (wr.heap[wb.heap.size]? = some (agT u (.int .i64 dd) (.bool ee))) ∧ Aside (RowRows wr wb.heap.size 22 3 (Value.int .i64) u (l[k]!.queue.take i)) ∧ Aside (Ext wb wr))
        case atStart => exact ⟨0, _, Nat.zero_le _, by omega, rfl, HBX.out, RowRows.mkNil _ _ _ _ _, HEX.out⟩
        case round =>
          obtain ⟨i, u, hi, hg2, rfl, HBI, HRR, HEI⟩ := hrel
          have HEW := Lib.hid (HE.out.trans' HEI.out)
          have hcp := HEW.out.cl HQ0.out
          have hszi := HEI.out.sz
          have hBi : B < wr.heap.size := World.block_lt_of_cell? wr _ hcp
          by_cases hlt2 : i < m1
          · have hltz2 : (i : Int) < (m1 : Int) := by omega
            have hiz : (0 : Int) ≤ (i : Int) := by omega
            have hiq : i < l[k]!.queue.length := by rw [← HM1.out]; exact hlt2
            obtain ⟨b, o, sv, rfl, hci0, hsv⟩ := stamp_at HSQ.out i hiq
            have hsl := (HSM.out k hlt).2 i hiq
            have HCI := Lib.hid hci0
            have HCP := Lib.hid hcp
            obtain ⟨sx, sy, rfl, hslc, hscell⟩ := hsv
            have HSC := Lib.hid hscell
            generalize hSL : l[k]!.queue[i]!.length = SL at *
            have HSL := Lib.hid hSL
            clear hci0 hscell hSL
            go_wp2
            clear hcp
            obtain ⟨wi, rfl⟩ : ∃ x, x = wr := ⟨_, rfl⟩
            go_loopg [7, 8] SL (fun g s7 s8 wr => ∃ e : Nat, e ≤ SL ∧ SL - e ≤ g ∧ s8 = .int .i64 e ∧ Aside (Row wr wi.heap.size 3 1 s7 e ((l[k]!.queue[i]!.take e).map (Value.int .i64))) ∧ Aside (Ext wi wr))
            case atStart => exact ⟨0, Nat.zero_le _, by omega, rfl, Row.mkNil _ _ _ _, Ext.rf _⟩
            case round =>
              obtain ⟨e, he, hg3, rfl, HRE, HEE⟩ := hrel
              have HEWE := Lib.hid (HEW.out.trans' HEE.out)
              have hcp := HEWE.out.cl HQ0.out
              have hci := HEWE.out.cl HCI.out
              have hsze := HEE.out.sz
              have hBe : B < wr.heap.size := World.block_lt_of_cell? wr _ hcp
              by_cases hlt3 : e < SL
              · have hltz3 : (e : Int) < (SL : Int) := by omega
                have hez : (0 : Int) ≤ (e : Int) := by omega
                obtain ⟨b3, o3, rfl, hb3, hc3⟩ := HSC.out (by intro h0; have := HSL.out; rw [h0] at this; simp at this; omega)
                have hx3 := HEWE.out.cl (hc3 e hlt3)
                obtain ⟨ia, ic, rfl, hic, hsh⟩ := HRE.out.any
                have HRX := Lib.hid HRE.out
                have HTS := Lib.hid (take_snoc' l[k]!.queue[i]! e (by rw [HSL.out]; exact hlt3))
                clear hsh hc3
                generalize hxx : l[k]!.queue[i]![e]! = xx at *
                clear hxx
                go_wp2_with ((at_builtin; go_loud (refine wpList_append_one rfl _ _ 22 rfl wi.heap.size 3 ii (.int .i64 0) 1 8 Try.underlying22 hii kz0 kz1 kz2 rfl (by decide) _ e _ rfl (HRX.out.al _) wr.heap.size 1 [.int .i64 xx] rfl rfl ⟨_, heap_alloc_new _ _⟩ (by simp [Value.oneCell']) (by unfold maxLen; omega) (by omega) (by simp; omega) ?_; intro v5 w5 hown5 hgrow5 hblk5; have HR5 := Lib.hid hown5; have HE5 := Lib.hid ((HEE.out.al (.cells #[.int .i64 xx] 3)).gr (row := (Value.slice ia e ic).ownBlock) hgrow5 (fun q hq => (HRX.out.lt q hq).1)); clear hown5 hgrow5 hblk5)))
                go_roundg (SL - (e + 1))
                case measure => omega
                case rel => exact ⟨e + 1, by omega, by omega, by go_num, (show Row _ _ _ _ _ _ _ from by rw [HTS.out, List.map_append]; exact HR5.out), (show Ext _ _ from HE5.out)⟩
              · have hltz3 : ¬ (e : Int) < (SL : Int) := by omega
                obtain rfl : SL = e := by omega
                have hre := HRE.out
                rw [List.take_of_length_le (by rw [HSL.out]; omega)] at hre
                obtain ⟨sa, sc, rfl, hsc, hsh⟩ := hre.any
                have HRX := Lib.hid hre
                have hil : (l[k]!.queue.take i).length = i := by rw [List.length_take]; omega
                obtain ⟨ivs, hir, hie⟩ := HRR.out
                rw [hil] at hir
                have HIL := Lib.hid hil
                obtain ⟨ia, ic, rfl, hic, hsh2⟩ := hir.any
                have HIR := Lib.hid hir
                have HIE := Lib.hid (fun j (hj : j < (l[k]!.queue.take i).length) => hie j hj)
                have HTS := Lib.hid (take_snoc' l[k]!.queue i hiq)
                have HBE := Lib.hid (HEE.out.hp HBI.out)
                have nb1 := (Array.getElem?_eq_some_iff.1 HBE.out).1
                have nb2 : wb.heap.size ≠ wr.heap.size := Nat.ne_of_lt nb1
                have z0 := cellOf HBE.out 0
                simp only [List.getElem?_toArray, List.getElem?_cons_zero] at z0
                clear hre hsh hil hir hie hsh2
                go_wp2_with ((at_builtin; go_loud (refine wpList_append_one rfl _ _ 47 rfl wb.heap.size 22 i2 (.slice none 0 0) 1 24 Try.underlying47 hi2 iz0 iz1 iz2 rfl (by decide) _ i _ rfl ((HIR.out.ext HEE.out).al _) wr.heap.size 1 [.slice sa SL sc] rfl rfl ⟨_, heap_alloc_new _ _⟩ (by simp [Value.oneCell']) (by unfold maxLen; omega) (by omega) (by simp; omega) ?_; intro v5 w5 hown5 hgrow5 hblk5; obtain ⟨va5, vc5, rfl, hvc5, hsh5⟩ := hown5.any; have hG5 : (wr.alloc (.cells #[.slice sa SL sc] 22)).grownBy w5 (Value.slice ia i ic).ownBlock := hgrow5; have HP5 := Lib.hid (rowRows_push (l := l[k]!.queue.take i) (x := l[k]!.queue[i]!) (by rw [HIL.out]; exact (HIR.out.ext HEE.out).al _) (fun j hj => ((HIE.out j hj).ext HEE.out).al _) (by rw [HSL.out]; exact (HRX.out.mono (by first | omega | (simp; omega))).al _) (by decide) hG5 (by rw [HIL.out]; exact hown5)); have hB5 := grownKeep hG5 ((HIR.out.ext HEE.out).notBox HBE.out (by decide)) (((Ext.rf wr).al (.cells #[.slice sa SL sc] 22)).hp HBE.out); have HE5 := Lib.hid (((HEI.out.trans' HEE.out).al (.cells #[.slice sa SL sc] 22)).gr hG5 (fun q hq => (HIR.out.lt q hq).1)); have HB5 := Lib.hid hB5; clear hG5 hown5 hgrow5 hblk5 hB5 hsh5 z0; have x0 := cellOf HB5.out 0; have f0 := freeOf HB5.out 0; simp only [List.getElem?_toArray, List.getElem?_cons_zero] at x0)))
                go_roundg (m1 - (i + 1))
                case measure => omega
                case rel =>
                  exact ⟨i + 1, _, by omega, by omega, by go_num, (show _ = _ from ag_set0 HB5.out _), (show RowRows _ _ _ _ _ _ _ from by rw [HTS.out]; exact HP5.out.stO HB5.out (by decide) (by decide) _), (show Ext _ _ from HE5.out.st (p := ⟨wb.heap.size, 0, none⟩) (Nat.le_refl _) _)⟩
          · have hltz2 : ¬ (i : Int) < (m1 : Int) := by omega
            obtain rfl : m1 = i := by omega
            have hrq := HRR.out
            rw [List.take_of_length_le (show l[k]!.queue.length ≤ m1 from by rw [← HM1.out]; omega)] at hrq
            have hsh := hrq.rints.shape
            rw [← HM1.out] at hsh
            obtain ⟨ia, ic, rfl, hic⟩ := hsh
            have HRQ := Lib.hid hrq
            have hkl : (l.take k).length = k := by rw [List.length_take, HN.out]; omega
            obtain ⟨cs, hs, hrow, hac, hqh⟩ := HO.out
            rw [hkl] at hrow
            have HKL := Lib.hid hkl
            obtain ⟨qa, qc, rfl, hqc, hsh⟩ := hrow.any
            have HROW := Lib.hid hrow
            have HAC := Lib.hid hac
            have HQH := Lib.hid hqh
            have HTQ := Lib.hid (take_snoc' l k hkq)
            have hbw := HE.out.sz
            have nb1 := (Array.getElem?_eq_some_iff.1 HBI.out).1
            have nb2 : wb.heap.size ≠ wr.heap.size := Nat.ne_of_lt nb1
            clear hrq hkl hrow hac hqh hsh
            have z0 := cellOf HBI.out 0
            have z1 := cellOf HBI.out 1
            have z2 := cellOf HBI.out 2
            simp only [List.getElem?_toArray, List.getElem?_cons_zero, List.getElem?_cons_succ] at z0 z1 z2
            go_wp2_with ((at_builtin; go_loud (refine wpList_append_one rfl _ _ 26 rfl w.heap.size 49 i3 _ 3 40 Try.underlying26 hi3 jz0 jz1 jz2 rfl (by decide) _ k _ rfl ((HROW.out.ext HEI.out).al _) wr.heap.size 1 [.slice ia m1 ic, .int .i64 dd, .bool ee] rfl rfl ⟨_, heap_alloc_new _ _⟩ (by simp [Value.oneCell']) (by unfold maxLen; omega) (by omega) (by simp; omega) ?_; intro v5 w5 hown5 hgrow5 hblk5; obtain ⟨va5, vc5, rfl, hvc5, hsh5⟩ := hown5.any; have hG5 : (wr.alloc (.cells #[.slice ia m1 ic, .int .i64 dd, .bool ee] 49)).grownBy w5 (Value.slice qa k qc).ownBlock := hgrow5; have HQ5 := Lib.hid (QHs.pushA (w0 := wb) HQH.out (HEI.out.al (.cells #[.slice ia m1 ic, .int .i64 dd, .bool ee] 49)) (RowRows.ext HRQ.out ((Ext.rf wr).al (.cells #[.slice ia m1 ic, .int .i64 dd, .bool ee] 49))) hszr ((HROW.out.ext HEI.out).al (.cells #[.slice ia m1 ic, .int .i64 dd, .bool ee] 49)) hG5 (by decide) (by decide)); have HE5 := Lib.hid (((HE.out.trans' HEI.out).al (.cells #[.slice ia m1 ic, .int .i64 dd, .bool ee] 49)).gr hG5 (fun q hq => (HROW.out.lt q hq).1)); have HR5 := Lib.hid hown5; clear hG5 hown5 hgrow5 hblk5 hsh5)))
            go_roundg (n - (k + 1))
            case measure => omega
            case rel =>
              refine ⟨k + 1, by omega, by omega, by go_num, (show OwnA _ _ _ _ from ?_), (show Ext _ _ from HE5.out)⟩
              rw [HTQ.out]
              refine ⟨_, hs ++ [.slice ia m1 ic], by rw [List.length_append, HKL.out]; exact HR5.out, ?_, ?_⟩
              · have := HAC.out.push (.slice ia m1 ic) l[k]!
                rw [HDD.out, HEE.out] at this
                exact this
              · rw [show queuesOf (l.take k ++ [l[k]!]) = queuesOf (l.take k) ++ [l[k]!.queue] from by simp [queuesOf]]
                exact HQ5.out
    · have hltz : ¬ (k : Int) < (n : Int) := by omega
      obtain rfl : n = k := by omega
      have ho := HO.out
      rw [List.take_of_length_le (by rw [HN.out]; omega)] at ho
      have HO2 := Lib.hid ho
      clear ho
      go_wp2
      go_ret
      exact ⟨_, rfl, HO2.out, HE.out⟩

end Go.Proofs.Ytpjnppkhhbnfoaa
