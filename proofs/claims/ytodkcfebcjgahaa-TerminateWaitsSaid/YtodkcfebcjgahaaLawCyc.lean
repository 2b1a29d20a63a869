/-
  The statement TerminateCycles, walked.
-/
import Derived.Test.YtodkcfebcjgahaaBase
import Derived.Test.YtodkcfebcjgahaaProg
import Derived.BigQuiet
import Derived.Deep.QuietTactic
import Derived.Deep.LoopGhost
import Derived.Shelf.Abstract
import Derived.Test.YtodkcfebcjgahaaRelE
import Derived.Test.YtodkcfebcjgahaaFault
import Derived.Test.YtodkcfebcjgahaaAwake51
import Derived.Test.YtodkcfebcjgahaaLawStuckL
import Derived.Test.YtodkcfebcjgahaaCycL
import Derived.Laws.EntriesVeiled
import Derived.Deep.DeepCutAuto
namespace Go.Proofs.Ytodkcfebcjgahaa
open Go.RowKit
set_option linter.unusedVariables false

theorem enters_11 : ∀ args w, (callFunc 11 args).run Try.prog w = .ok (.enter 11 args) w := enters_of Try.func11 (by kernel_rfl) rfl
theorem enters_13 : ∀ args w, (callFunc 13 args).run Try.prog w = .ok (.enter 13 args) w := enters_of Try.func13 (by kernel_rfl) rfl

set_option maxHeartbeats 400000 in
theorem cyc1_calls (x : Int) (gv : Value) (g : List Int) (bg : Nat) (w : World) (hc : w.cell? ⟨bg, 0, none⟩ = some gv) (hg : Ints w gv g) (hn : g.length ≤ 1000000) :
    Calls Try.prog 11 #[.int .i64 x, .pointer (some ⟨bg, 0, none⟩)] w fun e w' => e = .returned (.bool (!g.contains x)) ∧ Ext w w' := by
  have HC := Lib.hid (contains_int x gv g w hg hn)
  clear hg hn
  generalize g.contains x = r at *
  go_enter Try.func11, Try.ntmps11
  go_wp2_with (go_at_call 12; refine HC.out.mono ?_; rintro e w' ⟨rfl, rfl⟩)
  go_ret
  exact ⟨rfl, Ext.rf _⟩

theorem cyc1_says {gv : Value} {g : List Int} {bg : Nat} {w : World} (hc : w.cell? ⟨bg, 0, none⟩ = some gv) (hg : Ints w gv g) (hn : g.length ≤ 1000000) (l : List Int) :
    Says Try.prog 11 #[.pointer (some ⟨bg, 0, none⟩)] (fun x => !g.contains x) l w :=
  fun x _ W hW => cyc1_calls x gv g bg W (hW.cl hc) (hg.ext hW) hn

set_option maxHeartbeats 400000 in
theorem cyc2_calls (x : Int) (gv : Value) (g : List Int) (bg : Nat) (w : World) (hc : w.cell? ⟨bg, 0, none⟩ = some gv) (hg : Ints w gv g) (hn : g.length ≤ 1000000) :
    Calls Try.prog 13 #[.int .i64 x, .pointer (some ⟨bg, 0, none⟩)] w fun e w' => e = .returned (.bool (!g.contains x)) ∧ Ext w w' := by
  have HC := Lib.hid (contains_int x gv g w hg hn)
  clear hg hn
  generalize g.contains x = r at *
  go_enter Try.func13, Try.ntmps13
  go_wp2_with (go_at_call 12; refine HC.out.mono ?_; rintro e w' ⟨rfl, rfl⟩)
  go_ret
  exact ⟨rfl, Ext.rf _⟩

theorem cyc2_says {gv : Value} {g : List Int} {bg : Nat} {w : World} (hc : w.cell? ⟨bg, 0, none⟩ = some gv) (hg : Ints w gv g) (hn : g.length ≤ 1000000) (l : List Int) :
    Says Try.prog 13 #[.pointer (some ⟨bg, 0, none⟩)] (fun x => !g.contains x) l w :=
  fun x _ W hW => cyc2_calls x gv g bg W (hW.cl hc) (hg.ext hW) hn

theorem out_length (M : List Nat) (f : Nat) (S : List Int) (l : Nat) : ∀ n, (outTo M f S l n).length ≤ n + 1 := by
  intro n
  induction n with
  | zero => simp [outTo]
  | succ n ih =>
    show (match (List.range M.length).find? (nextB M f S ((outTo M f S l n).getLastD f) (l - n)) with | some j => outTo M f S l n ++ [j] | none => outTo M f S l n).length ≤ n + 1 + 1
    split
    · rw [List.length_append, List.length_singleton]; omega
    · omega
/-- What Cycle hands back, told of requests: no cycle, or one whose members are all stuck where all is needed. -/
theorem cyc_told {l : List Wt} {n : Int} {w w' : World} {e : Ending} (hv : validL l n = 0) (h : CycOut (relW l n.toNat) w w' e) :
    ∃ v err c, e = .returned (.tuple #[v, .int .i64 err]) ∧ Ext w w' ∧ Ints w' v c ∧ c.length ≤ 1000 ∧
      ((err = 7 ∧ c = [] ∧ ∀ Mb, StuckM (l.map allW) n.toNat Mb → marks Mb n.toNat = []) ∨
       (err = 0 ∧ ∀ Mb, AllStuck (l.map allW) n.toNat Mb → marks Mb n.toNat ≠ [] ∧ ∀ x ∈ c, (marks Mb n.toNat).contains x = true)) := by
  obtain ⟨h0, h512, ok⟩ := validL_dok hv
  have hlen : (relW l n.toNat).length = n.toNat := relP_len _
  obtain ⟨v, err, rfl, hx, hd⟩ := h
  rcases hd with ⟨rfl, rfl, hno⟩ | ⟨rfl, f, S, Q, L, k, hp, hmin, hB, hle, hr⟩
  · refine ⟨_, _, [], rfl, hx, ⟨none, 0, rfl, Nat.le_refl _, fun h => absurd rfl h⟩, by simp, .inl ⟨rfl, rfl, fun Mb hs => ?_⟩⟩
    rw [hlen] at hno
    exact marks_none (none_stuck ok hs hno)
  · have hf : f < n.toNat := by have := hB.far.flt; rw [hlen] at this; exact this
    have hkl : k < n.toNat := by
      obtain ⟨d, _, h2, h3⟩ := bfs_turn hB hp
      rw [least_one hle h2, ← hlen]; exact h3
    refine ⟨v, _, (outTo (relW l n.toNat) f S k k).map (fun (x : Nat) => (x : Int)), rfl, hx, ?_, ?_, .inr ⟨rfl, fun Mb ha => ⟨fun hm => ?_, fun x hxm => ?_⟩⟩⟩
    · have h : Row w' w.heap.size 3 1 v ((outTo (relW l n.toNat) f S k k).map (fun (x : Nat) => (x : Int))).length (((outTo (relW l n.toNat) f S k k).map (fun (x : Nat) => (x : Int))).map (Value.int .i64)) := by
        rw [List.length_map, List.map_map]; exact hr
      exact h.ints
    · rw [List.length_map]
      have := out_length (relW l n.toNat) f S k k
      omega
    · have hst := cycle_stuck ok ha hf hp f hf (.inl rfl)
      have : (f : Int) ∈ marks Mb n.toNat := (mem_marks _ _ _).2 ⟨by omega, by omega, by rw [Int.toNat_natCast]; exact hst⟩
      rw [hm] at this; cases this
    · obtain ⟨y, hy, rfl⟩ := List.mem_map.1 hxm
      obtain ⟨h1, h2⟩ := out_path hB k (Nat.le_refl _) y hy
      rw [hlen] at h1
      have hst := cycle_stuck ok ha hf hp y h1 h2
      rw [marks_contains Mb n.toNat y h1]; exact hst

theorem info_waitC : (Try.prog.info? 31).map (fun i => (i.zero, i.size, i.bytes)) = some (some (.agg #[.int .i64 0, .int .i64 0, .slice none 0 0]), 3, 40) := by kernel_rfl
/-- The requests with their greater needs, in the making. -/
def AllI (w W : World) (base : Nat) (v : Value) (l : List Wt) (i : Nat) : Prop := ∃ xs, Row W base 31 3 v i xs ∧ ∀ j, j < i → RWait w ((xs.drop (j * 3)).take 3) (allW l[j]!)
theorem AllI.sl {w W : World} {base : Nat} {v : Value} {l : List Wt} (h : AllI w W base v l l.length) (hW : Ext w W) : Sl RWait 3 W v (l.map allW) := by
  obtain ⟨xs, h1, h2⟩ := h
  refine CellsAt.sl (xs := xs) (by rw [List.length_map]; exact h1.cells) fun i hi => ?_
  rw [List.length_map] at hi
  rw [map_at hi]
  exact rwait_lasts _ _ _ _ (h2 i hi) hW


set_option maxHeartbeats 16000000 in
set_option maxRecDepth 100000 in
theorem cycles_calls (u : Value) (l : List Wt) (n : Int) (w : World) (hu : Sl RWaitL 3 w u l) (hs : l.length ≤ 9223372036854775807) :
    Calls Try.prog 3 #[u, .int .i64 n] w fun e w' => e = .returned (.bool true) ∧ Ext w w' := by
  have AW := Lib.hid awake_calls
  have BG := Lib.hid (fun (W : World) (hW : Ext w W) => big_calls u l n W (hu.ext rwaitL_lasts hW) hs)
  obtain ⟨hu2, hfl⟩ := sl_waitL hu
  have SL := Lib.hid hu2
  obtain ⟨ua, uc, rfl, _⟩ := hu.sh
  cases h1 : bigB l n with
  | true =>
    rw [h1] at BG
    clear h1 hu hu2 hfl hs
    generalize l.length = L at *
    go_enter Try.func3, Try.ntmps3
    go_wp2_with fail
    refine (AW.out _).mono ?_
    rintro e w1 ⟨rfl, he1⟩
    have HE1 := Lib.hid he1
    clear he1
    go_wp2_with fail
    refine (BG.out _ HE1.out).mono ?_
    rintro e w2 ⟨rfl, he2⟩
    go_wp2
    go_ret
    exact ⟨rfl, HE1.out.trans' he2⟩
  | false =>
  rw [h1] at BG
  obtain ⟨b1, b2, b3⟩ := big_not h1
  have B3 := Lib.hid b3
  have FT := Lib.hid (fun (W : World) (hW : Ext w W) => fault_calls _ l n W (SL.out.ext rwait_lasts hW) (by omega) (fun x hx => by have := b3 x hx; omega))
  by_cases hv : validL l n = 0
  case neg =>
    generalize validL l n = r at *
    have hr : (r != 0) = true := by rw [bne_iff_ne]; exact hv
    clear h1 hu hu2 hfl hs b1 b2 b3 hv
    generalize l.length = L at *
    go_enter Try.func3, Try.ntmps3
    go_wp2_with fail
    refine (AW.out _).mono ?_
    rintro e w1 ⟨rfl, he1⟩
    have HE1 := Lib.hid he1
    clear he1
    go_wp2_with fail
    refine (BG.out _ HE1.out).mono ?_
    rintro e w2 ⟨rfl, he2⟩
    have HE2 := Lib.hid (HE1.out.trans' he2)
    clear he2
    go_wp2_with fail
    refine (FT.out _ HE2.out).mono ?_
    rintro e w3 ⟨rfl, he3⟩
    go_wp2
    go_ret
    exact ⟨rfl, HE2.out.trans' he3⟩
  case pos =>
  rw [hv] at FT
  obtain ⟨hn0, hn512, _⟩ := validL_dok hv
  have HVV := Lib.hid hv
  have HVA := Lib.hid (validL_all hv)
  have DL := Lib.hid (fun (W : World) (hW : Ext w W) => deadlock_good _ l n W (SL.out.ext rwait_lasts hW) (by omega) (fun x hx => by have := b3 x hx; omega) hv)
  have CY := Lib.hid (fun (W : World) (hW : Ext w W) => tcycle_good _ l n W (SL.out.ext rwait_lasts hW) b1 b3 hv (by omega))
  have DL2 := Lib.hid (fun (W : World) (x : Value) (hx : Sl RWait 3 W x (l.map allW)) => deadlock_good x (l.map allW) n W hx (by rw [List.length_map]; omega) (fun y hy => by
    obtain ⟨z, hz, rfl⟩ := List.mem_map.1 hy
    have := b3 z hz
    show z.fors.length ≤ 1000000; omega) HVA.out)
  obtain ⟨N, rfl⟩ : ∃ N : Nat, n = (N : Int) := ⟨n.toNat, by omega⟩
  simp only [Int.toNat_natCast] at DL DL2 CY
  have hN : N ≤ 40 := by omega
  obtain ⟨L, hL⟩ : ∃ L, l.length = L := ⟨_, rfl⟩
  have HL := Lib.hid hL
  rw [hL] at b1 BG FT DL CY SL ⊢
  obtain ⟨ii, hii, iz0, iz1, iz2⟩ := info_partsI info_waitC
  clear h1 hu hu2 hfl hs b2 b3 hv hL
  go_enter Try.func3, Try.ntmps3
  go_wp2_with fail
  refine (AW.out _).mono ?_
  rintro e w1 ⟨rfl, he1⟩
  have HE1 := Lib.hid he1
  clear he1
  go_wp2_with fail
  refine (BG.out _ HE1.out).mono ?_
  rintro e w2 ⟨rfl, he2⟩
  have HE2 := Lib.hid (HE1.out.trans' he2)
  clear he2
  go_wp2_with fail
  refine (FT.out _ HE2.out).mono ?_
  rintro e w3 ⟨rfl, he3⟩
  have HE3 := Lib.hid (HE2.out.trans' he3)
  clear he3
  go_wp2_with fail
  refine (DL.out _ HE3.out).mono ?_
  rintro e w4 ⟨av, rfl, he4, Ma, hra, hMa, hsa, haa⟩
  have HE4 := Lib.hid (HE3.out.trans' he4)
  have HA4 := Lib.hid hra.ints
  have HSA := Lib.hid (stuck_all HVV.out hsa)
  have hal : (marks Ma N).length ≤ N := marks_len Ma N
  obtain ⟨aa, ac, rfl, _⟩ := hra.any
  generalize hAl : marks Ma N = A at *
  have HAA := Lib.hid hAl
  obtain ⟨la, hla⟩ : ∃ q, A.length = q := ⟨_, rfl⟩
  have HLA := Lib.hid hla
  rw [hla] at hal ⊢
  rw [hla] at HA4
  clear he4 hra hsa haa hAl hla
  go_wp2_with fail
  refine (CY.out _ HE4.out).mono ?_
  intro e w5 hcy
  obtain ⟨cv, err, c, rfl, he5, hci, hcl, hd⟩ := cyc_told HVV.out (by rw [Int.toNat_natCast]; exact hcy)
  rw [Int.toNat_natCast] at hd
  have HE5 := Lib.hid (HE4.out.trans' he5)
  have HA5 := Lib.hid (HA4.out.ext he5)
  have HC5 := Lib.hid hci
  obtain ⟨ca, cc, rfl, _⟩ := hci
  obtain ⟨lc, hlc⟩ : ∃ q, c.length = q := ⟨_, rfl⟩
  have HLC := Lib.hid hlc
  rw [hlc] at hcl HC5 ⊢
  clear he5 hcy hlc
  have HSUB : Hid (∀ Mb, AllStuck (l.map allW) N Mb → ∀ x ∈ A, (marks Mb N).contains x = true) := Lib.hid (fun Mb hb x hx => by
    rw [← HAA.out, mem_marks] at hx
    obtain ⟨X, rfl⟩ : ∃ X : Nat, x = (X : Int) := ⟨x.toNat, by omega⟩
    rw [Int.toNat_natCast] at hx
    have := hb Ma hMa HSA.out X (by omega) hx.2.2
    rw [marks_contains Mb N X (by omega)]; exact this)
  rcases hd with ⟨rfl, hc0, hnone⟩ | ⟨rfl, hall⟩
  · have HAN : Hid (la = 0) := Lib.hid (by
      have := hnone Ma HSA.out
      rw [HAA.out] at this
      rw [← HLA.out, this]; rfl)
    have hla0 : ¬ 0 < la := by have := HAN.out; omega
    have hla1 : ¬ (0 : Int) < (la : Int) := by omega
    have HF : Hid (∀ Mb, StuckM (l.map allW) N Mb → AllStuck (l.map allW) N Mb → decide (0 < (marks Mb N).length) = false ∧ ∀ x ∈ c, (marks Mb N).contains x = true) := Lib.hid (fun Mb h1 h2 => by
      rw [hnone Mb h1, hc0]; exact ⟨by simp, fun x hx => by cases hx⟩)
    clear hc0 hnone
    go_wp2
    go_loopg [9, 58] L (fun g s9 s58 wr => ∃ i : Nat, i ≤ L ∧ L - i ≤ g ∧ s58 = .int .i64 i ∧ Aside (AllI w wr w5.heap.size s9 l i) ∧ Aside (Ext w5 wr))
    case atStart => exact ⟨0, Nat.zero_le _, by omega, rfl, (show AllI _ _ _ _ _ _ from ⟨[], Row.mkNil _ _ _ _, fun j hj => absurd hj (Nat.not_lt_zero _)⟩), Ext.rf _⟩
    case round =>
      obtain ⟨i, hi, hg, rfl, HI, HX⟩ := hrel
      have HEW := Lib.hid (HE5.out.trans' HX.out)
      by_cases hlt : i < L
      case pos =>
        have hltz : (i : Int) < (L : Int) := by omega
        have hiz : (0 : Int) ≤ (i : Int) := by omega
        obtain ⟨B, O, C, vs, hve, hlC, hB, hl3, hR, hcells⟩ := Sl.cellsOf SL.out i (by rw [HL.out]; exact hlt)
        simp only [Value.slice.injEq] at hve
        obtain ⟨rfl, hzz, rfl⟩ := hve
        obtain ⟨fv, rfl, hints⟩ := hR
        have c0 := HEW.out.cl (hcells 0 (by omega))
        have c1 := HEW.out.cl (hcells 1 (by omega))
        have c2 := HEW.out.cl (hcells 2 (by omega))
        simp only [List.getElem!_cons_zero, List.getElem!_cons_succ, Nat.add_zero] at c0 c1 c2
        have HIT := Lib.hid hints
        obtain ⟨fa, fc, rfl, hfc, hfc2⟩ := hints
        obtain ⟨xs, hxr, hxa⟩ := HI.out
        obtain ⟨sa, sc, rfl, _⟩ := hxr.any
        have HXR := Lib.hid hxr
        have HXA := Lib.hid hxa
        have HRW : Hid (RWait w [.int .i64 l[i]!.proc, .int .i64 (l[i]!.fors.length : Int), .slice fa l[i]!.fors.length fc] (allW l[i]!)) := Lib.hid ⟨_, rfl, HIT.out⟩
        generalize l[i]!.proc = pr at *
        generalize l[i]!.need = nd at *
        generalize l[i]!.fors.length = F at *
        have hsz : w5.heap.size ≤ wr.heap.size := HX.out.sz
        clear hcells hzz hfc hfc2 hxr hxa
        go_upto_region 14 with (fail)
        have HXE := Lib.hid ((Ext.rf wr).al (.cells #[.int .i64 pr, .int .i64 (F : Int), .slice fa F fc] 31))
        have HB := Lib.hid (heap_alloc_new wr (.cells #[.int .i64 pr, .int .i64 (F : Int), .slice fa F fc] 31))
        have e0 := cellOf HB.out 0
        have e1 := cellOf HB.out 1
        have e2 := cellOf HB.out 2
        simp only [List.getElem?_toArray, List.getElem?_cons_zero, List.getElem?_cons_succ] at e0 e1 e2
        have HXR2 := Lib.hid (HXR.out.ext HXE.out)
        have HXX := Lib.hid (HX.out.trans' HXE.out)
        generalize wr.alloc (.cells #[.int .i64 pr, .int .i64 (F : Int), .slice fa F fc] 31) = wA at *
        clear c0 c1 c2
        go_wp2_with ((at_builtin; go_loud (refine wpList_append_one rfl _ _ 22 rfl w5.heap.size 31 ii (.agg #[.int .i64 0, .int .i64 0, .slice none 0 0]) 3 40 Try.underlying22 hii iz0 iz1 iz2 rfl (by decide) _ i xs rfl (HXR2.out.al _) wA.heap.size 1 [.int .i64 pr, .int .i64 (F : Int), .slice fa F fc] rfl rfl ⟨_, heap_alloc_new _ _⟩ (by simp [Value.oneCell']) (by unfold maxLen; omega) (by omega) (Nat.le_trans HXX.out.sz ((Ext.rf wA).al _).sz) ?_; intro v8 w8 hown8 hgrow8 hblk8; obtain ⟨a8, c8, rfl, _⟩ := hown8.any; have HOWN := Lib.hid hown8; have HX8 := Lib.hid ((HXX.out.al (.cells #[.int .i64 pr, .int .i64 (F : Int), .slice fa F fc] 31)).gr hgrow8 (fun q hq => (HXR2.out.lt q hq).1)); clear hown8 hgrow8 hblk8)))
        go_roundg (L - (i + 1))
        case measure => omega
        case rel =>
          refine ⟨i + 1, by omega, by omega, by go_num, (show AllI _ _ _ _ _ _ from ⟨_, HOWN.out, fun j hj => ?_⟩), (show Ext _ _ from HX8.out)⟩
          have hxl : xs.length = i * 3 := HXR.out.1
          by_cases e : j = i
          · subst e
            rw [List.drop_left' hxl, List.take_of_length_le (by simp)]
            exact HRW.out
          · rw [List.drop_append_of_le_length (by omega), List.take_append_of_le_length (by rw [List.length_drop]; omega)]
            exact HXA.out j (by omega)
      case neg =>
        have hltz : ¬ (i : Int) < (L : Int) := by omega
        obtain rfl : L = i := by omega
        have HALL := Lib.hid (AllI.sl (by rw [HL.out]; exact HI.out) HEW.out)
        obtain ⟨xs, hxr, _⟩ := HI.out
        obtain ⟨sa, sc, rfl, _⟩ := hxr.any
        clear hxr
        go_wp2_with fail
        refine (DL2.out _ _ HALL.out).mono ?_
        rintro e w6 ⟨bv, rfl, he6, Mb, hrb, hMb, hsb, hab⟩
        have HX6 := Lib.hid (HEW.out.trans' he6)
        obtain ⟨hfb, hfc⟩ := HF.out Mb hsb hab
        have hsub := HSUB.out Mb hab
        have hbl : (marks Mb N).length ≤ N := marks_len Mb N
        have HBI := Lib.hid hrb.ints
        obtain ⟨ba, bc, rfl, _⟩ := hrb.any
        have HC6 := Lib.hid (HC5.out.ext (HX.out.trans' he6))
        have HA6 := Lib.hid (HA5.out.ext (HX.out.trans' he6))
        have HAC : Hid ((c.any fun x => !(marks Mb N).contains x) = false) := Lib.hid (by rw [List.any_eq_false]; intro x hx; rw [hfc x hx]; simp)
        have HAB : Hid ((A.any fun x => !(marks Mb N).contains x) = false) := Lib.hid (by rw [List.any_eq_false]; intro x hx; rw [hsub x hx]; simp)
        generalize marks Mb N = Bm at *
        obtain ⟨lb, hlb⟩ : ∃ q, Bm.length = q := ⟨_, rfl⟩
        have HLB := Lib.hid hlb
        rw [hlb] at hfb hbl HBI ⊢
        have HY := Lib.hid ((Ext.rf w6).al (.cells #[.slice ba lb bc] 26))
        have HBX := Lib.hid (heap_alloc_new w6 (.cells #[.slice ba lb bc] 26))
        have b0 := cellOf HBX.out 0
        simp only [List.getElem?_toArray, List.getElem?_cons_zero] at b0
        have HB0 := Lib.hid b0
        have S1 := Lib.hid (fun (W : World) (hW : Ext (w6.alloc (.cells #[.slice ba lb bc] 26)) W) => containsFunc_int _ #[.pointer (some ⟨w6.heap.size, 0, none⟩)] enters_11 (fun x => !Bm.contains x) _ c W (HC6.out.ext (HY.out.trans' hW)) (by rw [HLC.out]; omega) (cyc1_says (hW.cl HB0.out) (HBI.out.ext (HY.out.trans' hW)) (by rw [HLB.out]; omega) c))
        have S2 := Lib.hid (fun (W : World) (hW : Ext (w6.alloc (.cells #[.slice ba lb bc] 26)) W) => containsFunc_int _ #[.pointer (some ⟨w6.heap.size, 0, none⟩)] enters_13 (fun x => !Bm.contains x) _ A W (HA6.out.ext (HY.out.trans' hW)) (by rw [HLA.out]; omega) (cyc2_says (hW.cl HB0.out) (HBI.out.ext (HY.out.trans' hW)) (by rw [HLB.out]; omega) A))
        rw [HAC.out] at S1
        rw [HAB.out] at S2
        have hdz : decide (0 < (lb : Int)) = false := by rw [← hfb]; simp
        clear he6 hrb hMb hsb hab hfc hsub hlb
        go_wp2_with fail
        refine (S1.out _ (Ext.rf _)).mono ?_
        rintro e w7 ⟨rfl, he7⟩
        have HE7 := Lib.hid he7
        have b7 := he7.cl HB0.out
        clear he7
        go_wp2_with fail
        refine (S2.out _ HE7.out).mono ?_
        rintro e w8 ⟨rfl, he8⟩
        go_wp2
        go_ret
        exact ⟨rfl, HX6.out.trans' (HY.out.trans' (HE7.out.trans' he8))⟩
  · have HF : Hid (∀ Mb, StuckM (l.map allW) N Mb → AllStuck (l.map allW) N Mb → decide (0 < (marks Mb N).length) = true ∧ ∀ x ∈ c, (marks Mb N).contains x = true) := Lib.hid (fun Mb h1 h2 => by
      obtain ⟨h3, h4⟩ := hall Mb h2
      exact ⟨decide_eq_true (List.length_pos_iff.2 h3), h4⟩)
    clear hall
    go_wp2
    go_loopg [9, 58] L (fun g s9 s58 wr => ∃ i : Nat, i ≤ L ∧ L - i ≤ g ∧ s58 = .int .i64 i ∧ Aside (AllI w wr w5.heap.size s9 l i) ∧ Aside (Ext w5 wr))
    case atStart => exact ⟨0, Nat.zero_le _, by omega, rfl, (show AllI _ _ _ _ _ _ from ⟨[], Row.mkNil _ _ _ _, fun j hj => absurd hj (Nat.not_lt_zero _)⟩), Ext.rf _⟩
    case round =>
      obtain ⟨i, hi, hg, rfl, HI, HX⟩ := hrel
      have HEW := Lib.hid (HE5.out.trans' HX.out)
      by_cases hlt : i < L
      case pos =>
        have hltz : (i : Int) < (L : Int) := by omega
        have hiz : (0 : Int) ≤ (i : Int) := by omega
        obtain ⟨B, O, C, vs, hve, hlC, hB, hl3, hR, hcells⟩ := Sl.cellsOf SL.out i (by rw [HL.out]; exact hlt)
        simp only [Value.slice.injEq] at hve
        obtain ⟨rfl, hzz, rfl⟩ := hve
        obtain ⟨fv, rfl, hints⟩ := hR
        have c0 := HEW.out.cl (hcells 0 (by omega))
        have c1 := HEW.out.cl (hcells 1 (by omega))
        have c2 := HEW.out.cl (hcells 2 (by omega))
        simp only [List.getElem!_cons_zero, List.getElem!_cons_succ, Nat.add_zero] at c0 c1 c2
        have HIT := Lib.hid hints
        obtain ⟨fa, fc, rfl, hfc, hfc2⟩ := hints
        obtain ⟨xs, hxr, hxa⟩ := HI.out
        obtain ⟨sa, sc, rfl, _⟩ := hxr.any
        have HXR := Lib.hid hxr
        have HXA := Lib.hid hxa
        have HRW : Hid (RWait w [.int .i64 l[i]!.proc, .int .i64 (l[i]!.fors.length : Int), .slice fa l[i]!.fors.length fc] (allW l[i]!)) := Lib.hid ⟨_, rfl, HIT.out⟩
        generalize l[i]!.proc = pr at *
        generalize l[i]!.need = nd at *
        generalize l[i]!.fors.length = F at *
        have hsz : w5.heap.size ≤ wr.heap.size := HX.out.sz
        clear hcells hzz hfc hfc2 hxr hxa
        go_upto_region 14 with (fail)
        have HXE := Lib.hid ((Ext.rf wr).al (.cells #[.int .i64 pr, .int .i64 (F : Int), .slice fa F fc] 31))
        have HB := Lib.hid (heap_alloc_new wr (.cells #[.int .i64 pr, .int .i64 (F : Int), .slice fa F fc] 31))
        have e0 := cellOf HB.out 0
        have e1 := cellOf HB.out 1
        have e2 := cellOf HB.out 2
        simp only [List.getElem?_toArray, List.getElem?_cons_zero, List.getElem?_cons_succ] at e0 e1 e2
        have HXR2 := Lib.hid (HXR.out.ext HXE.out)
        have HXX := Lib.hid (HX.out.trans' HXE.out)
        generalize wr.alloc (.cells #[.int .i64 pr, .int .i64 (F : Int), .slice fa F fc] 31) = wA at *
        clear c0 c1 c2
        go_wp2_with ((at_builtin; go_loud (refine wpList_append_one rfl _ _ 22 rfl w5.heap.size 31 ii (.agg #[.int .i64 0, .int .i64 0, .slice none 0 0]) 3 40 Try.underlying22 hii iz0 iz1 iz2 rfl (by decide) _ i xs rfl (HXR2.out.al _) wA.heap.size 1 [.int .i64 pr, .int .i64 (F : Int), .slice fa F fc] rfl rfl ⟨_, heap_alloc_new _ _⟩ (by simp [Value.oneCell']) (by unfold maxLen; omega) (by omega) (Nat.le_trans HXX.out.sz ((Ext.rf wA).al _).sz) ?_; intro v8 w8 hown8 hgrow8 hblk8; obtain ⟨a8, c8, rfl, _⟩ := hown8.any; have HOWN := Lib.hid hown8; have HX8 := Lib.hid ((HXX.out.al (.cells #[.int .i64 pr, .int .i64 (F : Int), .slice fa F fc] 31)).gr hgrow8 (fun q hq => (HXR2.out.lt q hq).1)); clear hown8 hgrow8 hblk8)))
        go_roundg (L - (i + 1))
        case measure => omega
        case rel =>
          refine ⟨i + 1, by omega, by omega, by go_num, (show AllI _ _ _ _ _ _ from ⟨_, HOWN.out, fun j hj => ?_⟩), (show Ext _ _ from HX8.out)⟩
          have hxl : xs.length = i * 3 := HXR.out.1
          by_cases e : j = i
          · subst e
            rw [List.drop_left' hxl, List.take_of_length_le (by simp)]
            exact HRW.out
          · rw [List.drop_append_of_le_length (by omega), List.take_append_of_le_length (by rw [List.length_drop]; omega)]
            exact HXA.out j (by omega)
      case neg =>
        have hltz : ¬ (i : Int) < (L : Int) := by omega
        obtain rfl : L = i := by omega
        have HALL := Lib.hid (AllI.sl (by rw [HL.out]; exact HI.out) HEW.out)
        obtain ⟨xs, hxr, _⟩ := HI.out
        obtain ⟨sa, sc, rfl, _⟩ := hxr.any
        clear hxr
        go_wp2_with fail
        refine (DL2.out _ _ HALL.out).mono ?_
        rintro e w6 ⟨bv, rfl, he6, Mb, hrb, hMb, hsb, hab⟩
        have HX6 := Lib.hid (HEW.out.trans' he6)
        obtain ⟨hfb, hfc⟩ := HF.out Mb hsb hab
        have hsub := HSUB.out Mb hab
        have hbl : (marks Mb N).length ≤ N := marks_len Mb N
        have HBI := Lib.hid hrb.ints
        obtain ⟨ba, bc, rfl, _⟩ := hrb.any
        have HC6 := Lib.hid (HC5.out.ext (HX.out.trans' he6))
        have HA6 := Lib.hid (HA5.out.ext (HX.out.trans' he6))
        have HAC : Hid ((c.any fun x => !(marks Mb N).contains x) = false) := Lib.hid (by rw [List.any_eq_false]; intro x hx; rw [hfc x hx]; simp)
        have HAB : Hid ((A.any fun x => !(marks Mb N).contains x) = false) := Lib.hid (by rw [List.any_eq_false]; intro x hx; rw [hsub x hx]; simp)
        generalize marks Mb N = Bm at *
        obtain ⟨lb, hlb⟩ : ∃ q, Bm.length = q := ⟨_, rfl⟩
        have HLB := Lib.hid hlb
        rw [hlb] at hfb hbl HBI ⊢
        have HY := Lib.hid ((Ext.rf w6).al (.cells #[.slice ba lb bc] 26))
        have HBX := Lib.hid (heap_alloc_new w6 (.cells #[.slice ba lb bc] 26))
        have b0 := cellOf HBX.out 0
        simp only [List.getElem?_toArray, List.getElem?_cons_zero] at b0
        have HB0 := Lib.hid b0
        have S1 := Lib.hid (fun (W : World) (hW : Ext (w6.alloc (.cells #[.slice ba lb bc] 26)) W) => containsFunc_int _ #[.pointer (some ⟨w6.heap.size, 0, none⟩)] enters_11 (fun x => !Bm.contains x) _ c W (HC6.out.ext (HY.out.trans' hW)) (by rw [HLC.out]; omega) (cyc1_says (hW.cl HB0.out) (HBI.out.ext (HY.out.trans' hW)) (by rw [HLB.out]; omega) c))
        have S2 := Lib.hid (fun (W : World) (hW : Ext (w6.alloc (.cells #[.slice ba lb bc] 26)) W) => containsFunc_int _ #[.pointer (some ⟨w6.heap.size, 0, none⟩)] enters_13 (fun x => !Bm.contains x) _ A W (HA6.out.ext (HY.out.trans' hW)) (by rw [HLA.out]; omega) (cyc2_says (hW.cl HB0.out) (HBI.out.ext (HY.out.trans' hW)) (by rw [HLB.out]; omega) A))
        rw [HAC.out] at S1
        rw [HAB.out] at S2
        have hdz : decide (0 < (lb : Int)) = true := by rw [← hfb]; simp
        clear he6 hrb hMb hsb hab hfc hsub hlb
        go_wp2_with fail
        refine (S1.out _ (Ext.rf _)).mono ?_
        rintro e w7 ⟨rfl, he7⟩
        have HE7 := Lib.hid he7
        have b7 := he7.cl HB0.out
        clear he7
        go_wp2_with fail
        refine (S2.out _ HE7.out).mono ?_
        rintro e w8 ⟨rfl, he8⟩
        go_wp2
        go_ret
        exact ⟨rfl, HX6.out.trans' (HY.out.trans' (HE7.out.trans' he8))⟩

end Go.Proofs.Ytodkcfebcjgahaa
