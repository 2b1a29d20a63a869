import Derived.Test.YtfcpnggdpaeldaaGa
import Derived.Test.YtfcpnggdpaeldaaProg
import Derived.Test.YtfcpnggdpaeldaaGl
import Derived.Test.YtfcpnggdpaeldaaGe
import Derived.Test.YtfcpnggdpaeldaaGc
import Derived.Test.YtfcpnggdpaeldaaGk
import Derived.Test.YtfcpnggdpaeldaaRows
import Derived.BigQuiet
import Derived.Deep.QuietTactic
import Derived.Deep.LoopGhost
import Derived.Shelf.Abstract
import Derived.Deep.DeepCutAuto
import Derived.Laws.EntriesVeiled
import Derived.ProofKit
import Derived.OpenShut
import Derived.ChangeArms
import Derived.ChangeSlices
/-
  Ranges, changes and unit steps in the reference.
-/
namespace Go.Proofs.Ytfcpnggdpaeldaa
open Go.RowKit
set_option linter.unusedVariables false

theorem enters_31 : ∀ args w, (callFunc 31 args).run Try.prog w = .ok (.enter 31 args) w := enters_of Try.func31 (by kernel_rfl) rfl

set_option maxHeartbeats 4000000 in
set_option maxRecDepth 100000 in
theorem changesF_calls (v : Value) (t : Tr) (p i : Nat) (w : World) (h : TrAt w v t) (hv : validT t = true) (hp : p < t.length) (hi : i < t[p]!.vars.length) :
    Calls Try.prog 18 #[.agg #[v], .int .i64 p, .int .i64 i] w fun e w' => IntsOut w w' e (chgF (valF t p i) t[p]!.events.length) := by
  obtain ⟨ii, hii, iz0, iz1, iz2⟩ := info_parts info_cints
  have HVC := Lib.hid (fun W (hW : Ext w W) k (hk : k ≤ t[p]!.events.length) => valueF_calls v t p i k W (h.ext hW) hv hp hi hk)
  have HVI := Lib.hid (fun k (hk : k ≤ t[p]!.events.length) => valF_in hv hp hi hk)
  have hne8 := (stOk_valid hv hp).ne
  obtain ⟨B, O, C, vv, ve, rfl, hlC, hB, hn0, hv0, he0, hV, hE0⟩ := proc_at h p hp
  obtain ⟨ea, ec, rfl, hec⟩ := hE0.sh
  have hn1 := (valid_small hv).1
  generalize hln : t.length = n at *
  have HX0 := Lib.hid (heap_alloc_new w (.cells #[.slice (some ⟨B, O, none⟩) n C] 24))
  have HE1 := Lib.hid ((Ext.rf w).al (.cells #[.slice (some ⟨B, O, none⟩) n C] 24))
  have hpz : (0 : Int) ≤ (p : Int) := by omega
  have hpn : (p : Int) < (n : Int) := by omega
  have HV0 := Lib.hid he0
  have HY := Lib.hid (fun j => @chgF_yes (valF t p i) j)
  have HN := Lib.hid (fun j => @chgF_no (valF t p i) j)
  have HLC := Lib.hid (chgF_len (valF t p i))
  generalize valF t p i = f at *
  generalize t[p]!.events.length = ne at *
  have HEC := Lib.hid hec
  clear h hn0 hv0 he0 hV hE0 hln hv hp hi hec
  go_enter Try.func18, Try.ntmps18
  go_wp2
  generalize hw2 : w.alloc (.cells #[.slice (some ⟨B, O, none⟩) n C] 24) = w2 at *
  clear hw2
  go_loopg [7, 8] ne (fun g s7 s8 wr => ∃ k : Nat, 1 ≤ k ∧ k ≤ ne + 1 ∧ ne + 1 - k ≤ g ∧ s8 = .int .i64 k ∧ Aside (Row wr w2.heap.size 3 1 s7 (chgF f (k - 1)).length ((chgF f (k - 1)).map (Value.int .i64))) ∧ Aside (Ext w2 wr))
  case atStart => exact ⟨1, by omega, by omega, by omega, rfl, (show Row _ _ _ _ _ _ _ from by rw [Nat.sub_self, chgF_zero]; exact Row.mkNil _ _ _ _), Ext.rf _⟩
  case round =>
    obtain ⟨k, hk1, hk, hg, rfl, HR, HEK⟩ := hrel
    have HEW := Lib.hid (HE1.out.trans' HEK.out)
    have HY1 := Lib.hid (HEK.out.hp HX0.out)
    have t0 := cellOf HY1.out 0
    simp only [List.getElem?_toArray, List.getElem?_cons_zero] at t0
    have e1 := HEW.out.cl HV0.out
    by_cases hlt : k < ne + 1
    case pos =>
      obtain ⟨j, rfl⟩ : ∃ j, k = j + 1 := ⟨k - 1, by omega⟩
      rw [Nat.add_sub_cancel] at HR
      have d0 : decide ((j : Int) + 1 ≤ (ne : Int)) = true := decide_eq_true (by omega)
      have d0p : (j : Int) + 1 ≤ (ne : Int) := by omega
      have d0n : decide (j + 1 ≤ ne) = true := decide_eq_true (by omega)
      have HC1 := Lib.hid (fun W (hW : Ext w W) => HVC.out W hW (j + 1) (by omega))
      have HC0 := Lib.hid (fun W (hW : Ext w W) => HVC.out W hW j (by omega))
      have HYJ := Lib.hid (HY.out j)
      have HNJ := Lib.hid (HN.out j)
      have hlc := HLC.out j
      generalize f (j + 1) = y at *
      generalize f j = x at *
      generalize hcl : (chgF f j).length = cl at *
      have HCL := Lib.hid hcl
      have e3 : ((j + 1 : Nat) : Int) - 1 = (j : Int) := by omega
      have e4 : (j : Int) + 1 - 1 = (j : Int) := by omega
      have hcj : ((j + 1 : Nat) : Int) = (j : Int) + 1 := by omega
      clear hcl hlt
      go_upto_region 5 with (fail)
      go_cut [31] (fun s31 wx => s31 = .bool (y != x) ∧ Aside (Ext wr wx))
      case first =>
        go_wp2
        have hwj : IntKind.i64.wrap (j : Int) = (j : Int) := IntWalk.i64_in _ (by omega)
        have HET := Lib.hid (show Ext wr wr.drew from (Ext.rf wr).dr)
        have HWT := Lib.hid (show Ext w wr.drew from HEW.out.dr)
        have t1 := cellOf (HET.out.hp HY1.out) 0
        simp only [List.getElem?_toArray, List.getElem?_cons_zero] at t1
        refine wp_region_tail (fun w' => w'.cell? ⟨w.heap.size, 0, none⟩ = some (.slice (some ⟨B, O, none⟩) n C)) 11 (by kernel_rfl) t1 (fun hHeld => ?_)
        generalize wr.drew = wT at *
        refine wpAnyT_take (i := 1) (d := some 21) (v := ?_) rfl rfl (by kernel_rfl) (by kernel_rfl) (by kernel_rfl) (by kernel_rfl) (fun _ _ _ h => h) (Or.inl ⟨by rfl, ?_⟩) (by assumption) ?_
        rotate_left
        · (intro w hSw; (try dsimp only at hSw); go_simp; try (with_reducible rfl))
        try simp only [Act.put]
        try simp only [List.setIfInBounds_toArray]
        try simp only [List.set_cons_zero, List.set_cons_succ]
        refine wpAnyT_take (i := 2) (d := some 22) (v := ?_) rfl rfl (by kernel_rfl) (by kernel_rfl) (by kernel_rfl) (by kernel_rfl) (fun _ _ _ h => h) (Or.inl ⟨by rfl, ?_⟩) (by assumption) ?_
        rotate_left
        · (intro w hSw; (try dsimp only at hSw); go_simp; try (with_reducible rfl))
        try simp only [Act.put]
        try simp only [List.setIfInBounds_toArray]
        try simp only [List.set_cons_zero, List.set_cons_succ]
        refine wpAnyT_take (i := 3) (d := some 23) (v := ?_) rfl rfl (by kernel_rfl) (by kernel_rfl) (by kernel_rfl) (by kernel_rfl) (fun _ _ _ h => h) (Or.inl ⟨by rfl, ?_⟩) (by assumption) ?_
        rotate_left
        · (intro w hSw; (try dsimp only at hSw); go_simp; try (with_reducible rfl))
        try simp only [Act.put]
        try simp only [List.setIfInBounds_toArray]
        try simp only [List.set_cons_zero, List.set_cons_succ]
        refine wpAnyT_take (i := 6) (d := some 26) (v := ?_) rfl rfl (by kernel_rfl) (by kernel_rfl) (by kernel_rfl) (by kernel_rfl) (fun _ _ _ h => h) (Or.inl ⟨by rfl, ?_⟩) (by assumption) ?_
        rotate_left
        · (intro w hSw; (try dsimp only at hSw); go_simp; try (with_reducible rfl))
        try simp only [Act.put]
        try simp only [List.setIfInBounds_toArray]
        try simp only [List.set_cons_zero, List.set_cons_succ]
        refine wpAnyT_take (i := 7) (d := some 27) (v := ?_) rfl rfl (by kernel_rfl) (by kernel_rfl) (by kernel_rfl) (by kernel_rfl) (fun _ _ _ h => h) (Or.inl ⟨by rfl, ?_⟩) (by assumption) ?_
        rotate_left
        · (intro w hSw; (try dsimp only at hSw); go_simp; try (with_reducible rfl))
        try simp only [Act.put]
        try simp only [List.setIfInBounds_toArray]
        try simp only [List.set_cons_zero, List.set_cons_succ]
        refine wpAnyT_take (i := 8) (d := some 28) (v := ?_) rfl rfl (by kernel_rfl) (by kernel_rfl) (by kernel_rfl) (by kernel_rfl) (fun _ _ _ h => h) (Or.inl ⟨by rfl, ?_⟩) (by assumption) ?_
        rotate_left
        · (intro w hSw; (try dsimp only at hSw); go_simp; try (with_reducible rfl))
        try simp only [Act.put]
        try simp only [List.setIfInBounds_toArray]
        try simp only [List.set_cons_zero, List.set_cons_succ]
        refine wpAnyT_take (i := 9) (d := some 29) (v := ?_) rfl rfl (by kernel_rfl) (by kernel_rfl) (by kernel_rfl) (by kernel_rfl) (fun _ _ _ h => h) (Or.inl ⟨by rfl, ?_⟩) (by assumption) ?_
        rotate_left
        · (intro w hSw; (try dsimp only at hSw); go_simp; try (with_reducible rfl))
        try simp only [Act.put]
        try simp only [List.setIfInBounds_toArray]
        try simp only [List.set_cons_zero, List.set_cons_succ]
        refine wpAnyT_take (i := 0) (d := some 20) (v := ?_) rfl rfl (by kernel_rfl) (by kernel_rfl) (by kernel_rfl) (by kernel_rfl) (fun _ _ _ h => h) (Or.inl ⟨by rfl, ?_⟩) (by assumption) ?_
        rotate_left
        · (intro w hSw; (try dsimp only at hSw); go_simp; try (with_reducible rfl))
        try simp only [Act.put]
        try simp only [List.setIfInBounds_toArray]
        try simp only [List.set_cons_zero, List.set_cons_succ]
        refine wpAnyT_take (i := 5) (d := some 25) (v := ?_) rfl rfl (by kernel_rfl) (by kernel_rfl) (by kernel_rfl) (by kernel_rfl) (fun _ _ _ h => h) (Or.inl ⟨by rfl, ?_⟩) (by assumption) ?_
        rotate_left
        · (intro w hSw; (try dsimp only at hSw); go_simp; try (with_reducible rfl))
        try simp only [Act.put]
        try simp only [List.setIfInBounds_toArray]
        try simp only [List.set_cons_zero, List.set_cons_succ]
        refine wpAnyT_step (i := 4) (by kernel_rfl) rfl (fun K hK => ?_)
        refine step_call rfl 31 _ _ rfl enters_31 [.agg #[.slice (some ⟨B, O, none⟩) n C], .int .i64 p, .int .i64 i, .int .i64 ((j + 1 : Nat) : Int)] (by first | rfl | kernel_rfl | go_simp) (HC1.out _ HWT.out) ?_
        rintro e w4 ⟨rfl, hX4⟩
        refine ⟨_, rfl, ?_⟩
        have HX4 := Lib.hid hX4
        have t4 := hX4.cl t1
        clear hX4
        refine hK.out _ _ ?_ (fun hHeld => ?_)
        · (try dsimp only)
          exact t4
        clear hK K
        try simp only [Act.put]
        try simp only [List.setIfInBounds_toArray]
        try simp only [List.set_cons_zero, List.set_cons_succ]
        refine wpAnyT_step (i := 10) (by kernel_rfl) rfl (fun K hK => ?_)
        refine step_call rfl 31 _ _ rfl enters_31 [.agg #[.slice (some ⟨B, O, none⟩) n C], .int .i64 p, .int .i64 i, .int .i64 (j : Int)] (by first | rfl | kernel_rfl | go_simp) (HC0.out _ (HWT.out.trans' HX4.out)) ?_
        rintro e w5 ⟨rfl, hX5⟩
        refine ⟨_, rfl, ?_⟩
        have HX5 := Lib.hid (HX4.out.trans' hX5)
        have t5 := hX5.cl t4
        clear hX5
        refine hK.out _ _ ?_ (fun hHeld => ?_)
        · (try dsimp only)
          exact t5
        clear hK K
        try simp only [Act.put]
        try simp only [List.setIfInBounds_toArray]
        try simp only [List.set_cons_zero, List.set_cons_succ]
        refine wpAnyT_last (by kernel_rfl) rfl (by kernel_rfl) (fun K hK => ?_)
        go_simp
        refine hK.out _ _ ?_
        go_wp2_with fail
        go_meet
        exact ⟨rfl, (show Ext wr _ from HET.out.trans' HX5.out)⟩
      case rest =>
        obtain ⟨rfl, HXW⟩ := hcut
        have HEK3 := Lib.hid (HEK.out.trans' HXW.out)
        have HR3 := Lib.hid (HR.out.ext HXW.out)
        have hsz3 := HEK3.out.sz
        clear t0 e1
        by_cases hyx : y = x
        · have d1 : (y != x) = false := by simp [hyx]
          have HY2 := Lib.hid (HNJ.out d1)
          clear hyx
          go_wp2
          go_roundg (ne + 1 - (j + 1 + 1))
          case measure => omega
          case rel =>
            refine ⟨j + 1 + 1, by omega, by omega, by omega, by go_num, (show Row _ _ _ _ _ _ _ from ?_), (show Ext _ _ from HEK3.out)⟩
            rw [Nat.add_sub_cancel, HY2.out, HCL.out]
            exact HR3.out
        · have d1 : (y != x) = true := by simp [hyx]
          have HY2 := Lib.hid (HYJ.out d1)
          clear hyx
          go_wp2_with ((at_builtin; go_loud (refine wpList_append_one rfl _ _ 30 rfl w2.heap.size 3 ii (.int .i64 0) 1 8 Try.underlying30 hii iz0 iz1 iz2 rfl (by decide) _ cl _ rfl (HR3.out.al _) wc.heap.size 1 [.int .i64 ((j : Int) + 1)] rfl rfl ⟨_, heap_alloc_new _ _⟩ (by simp [Value.oneCell']) (by unfold maxLen; omega) (by omega) (by simp; omega) ?_; intro v8 w8 hown8 hgrow8 hblk8; have HOWN := Lib.hid hown8; have HX8 := Lib.hid ((HEK3.out.al _).gr hgrow8 (fun q hq => (HR3.out.lt q hq).1)); clear hown8 hgrow8 hblk8)))
          go_roundg (ne + 1 - (j + 1 + 1))
          case measure => omega
          case rel =>
            refine ⟨j + 1 + 1, by omega, by omega, by omega, by go_num, (show Row _ _ _ _ _ _ _ from ?_), (show Ext _ _ from HX8.out)⟩
            rw [Nat.add_sub_cancel, HY2.out, List.length_append, HCL.out, List.map_append]
            exact HOWN.out
    case neg =>
      obtain rfl : k = ne + 1 := by omega
      rw [Nat.add_sub_cancel] at HR
      have d0 : decide (((ne + 1 : Nat) : Int) ≤ (ne : Int)) = false := decide_eq_false (by omega)
      have d0p : ¬ ((ne + 1 : Nat) : Int) ≤ (ne : Int) := by omega
      have HR3 := Lib.hid HR.out
      clear hlt
      go_wp2
      go_ret
      exact ⟨_, rfl, HR3.out.mono HE1.out.sz, HEW.out⟩

set_option maxHeartbeats 4000000 in
set_option maxRecDepth 100000 in
theorem unitF_calls (v : Value) (t : Tr) (p i : Nat) (w : World) (h : TrAt w v t) (hv : validT t = true) (hp : p < t.length) (hi : i < t[p]!.vars.length) :
    Calls Try.prog 19 #[.agg #[v], .int .i64 p, .int .i64 i] w fun e w' => e = .returned (.bool (unitF (valF t p i) t[p]!.events.length)) ∧ Ext w w' := by
  have HVC := Lib.hid (fun W (hW : Ext w W) k (hk : k ≤ t[p]!.events.length) => valueF_calls v t p i k W (h.ext hW) hv hp hi hk)
  have HVI := Lib.hid (fun k (hk : k ≤ t[p]!.events.length) => valF_in hv hp hi hk)
  have hne8 := (stOk_valid hv hp).ne
  obtain ⟨B, O, C, vv, ve, rfl, hlC, hB, hn0, hv0, he0, hV, hE0⟩ := proc_at h p hp
  obtain ⟨ea, ec, rfl, hec⟩ := hE0.sh
  have hn1 := (valid_small hv).1
  generalize hln : t.length = n at *
  have HX0 := Lib.hid (heap_alloc_new w (.cells #[.slice (some ⟨B, O, none⟩) n C] 24))
  have HE1 := Lib.hid ((Ext.rf w).al (.cells #[.slice (some ⟨B, O, none⟩) n C] 24))
  have hpz : (0 : Int) ≤ (p : Int) := by omega
  have hpn : (p : Int) < (n : Int) := by omega
  have HV0 := Lib.hid he0
  have HY := Lib.hid (fun j => unitF_succ (valF t p i) j)
  have HN := Lib.hid (fun j n hj h => unitF_no (f := valF t p i) (k := j) (n := n) hj h)
  have HZ := Lib.hid (unitF_zero (valF t p i))
  generalize valF t p i = f at *
  obtain ⟨R, hR⟩ : ∃ R, unitF f t[p]!.events.length = R := ⟨_, rfl⟩
  rw [hR]
  have HR := Lib.hid hR
  clear hR
  generalize t[p]!.events.length = ne at *
  have HEC := Lib.hid hec
  clear h hn0 hv0 he0 hV hE0 hln hv hp hi hec
  go_enter Try.func19, Try.ntmps19
  go_wp2
  generalize hw2 : w.alloc (.cells #[.slice (some ⟨B, O, none⟩) n C] 24) = w2 at *
  clear hw2
  go_loopg [7] ne (fun g s7 wr => ∃ k : Nat, 1 ≤ k ∧ k ≤ ne + 1 ∧ ne + 1 - k ≤ g ∧ s7 = .int .i64 k ∧ Aside (unitF f (k - 1) = true) ∧ Aside (Ext w2 wr))
  case atStart => exact ⟨1, by omega, by omega, by omega, rfl, (show Aside _ from HZ.out), Ext.rf _⟩
  case round =>
    obtain ⟨k, hk1, hk, hg, rfl, HU, HEK⟩ := hrel
    have HEW := Lib.hid (HE1.out.trans' HEK.out)
    have HY1 := Lib.hid (HEK.out.hp HX0.out)
    have t0 := cellOf HY1.out 0
    simp only [List.getElem?_toArray, List.getElem?_cons_zero] at t0
    have e1 := HEW.out.cl HV0.out
    by_cases hlt : k < ne + 1
    case pos =>
      obtain ⟨j, rfl⟩ : ∃ j, k = j + 1 := ⟨k - 1, by omega⟩
      rw [Nat.add_sub_cancel] at HU
      have d0 : decide ((j : Int) + 1 ≤ (ne : Int)) = true := decide_eq_true (by omega)
      have d0p : (j : Int) + 1 ≤ (ne : Int) := by omega
      have HC1 := Lib.hid (fun W (hW : Ext w W) => HVC.out W hW (j + 1) (by omega))
      have HC0 := Lib.hid (fun W (hW : Ext w W) => HVC.out W hW j (by omega))
      have HYJ := Lib.hid (HY.out j)
      have HNJ := Lib.hid (HN.out j ne (by omega))
      have hr1 := HVI.out (j + 1) (by omega)
      have hr0 := HVI.out j (by omega)
      generalize f (j + 1) = y at *
      generalize f j = x at *
      have hwr : IntKind.i64.wrap (y - x) = y - x := IntWalk.i64_in _ (by omega)
      obtain ⟨z, hz⟩ : ∃ z, y - x = z := ⟨_, rfl⟩
      have HZZ := Lib.hid hz
      rw [hz] at hwr
      have e3 : ((j + 1 : Nat) : Int) - 1 = (j : Int) := by omega
      have e4 : (j : Int) + 1 - 1 = (j : Int) := by omega
      have hcj : ((j + 1 : Nat) : Int) = (j : Int) + 1 := by omega
      clear hlt hr1 hr0
      go_upto_region 4 with (fail)
      go_cut [8] (fun s8 wx => s8 = .int .i64 z ∧ Aside (Ext wr wx))
      case first =>
        go_wp2
        have hwj : IntKind.i64.wrap (j : Int) = (j : Int) := IntWalk.i64_in _ (by omega)
        have HET := Lib.hid (show Ext wr wr.drew from (Ext.rf wr).dr)
        have HWT := Lib.hid (show Ext w wr.drew from HEW.out.dr)
        have t1 := cellOf (HET.out.hp HY1.out) 0
        simp only [List.getElem?_toArray, List.getElem?_cons_zero] at t1
        refine wp_region_tail (fun w' => w'.cell? ⟨w.heap.size, 0, none⟩ = some (.slice (some ⟨B, O, none⟩) n C)) 12 (by kernel_rfl) t1 (fun hHeld => ?_)
        generalize wr.drew = wT at *
        refine wpAnyT_take (i := 1) (d := some 21) (v := ?_) rfl rfl (by kernel_rfl) (by kernel_rfl) (by kernel_rfl) (by kernel_rfl) (fun _ _ _ h => h) (Or.inl ⟨by rfl, ?_⟩) (by assumption) ?_
        rotate_left
        · (intro w hSw; (try dsimp only at hSw); go_simp; try (with_reducible rfl))
        try simp only [Act.put]
        try simp only [List.setIfInBounds_toArray]
        try simp only [List.set_cons_zero, List.set_cons_succ]
        refine wpAnyT_take (i := 2) (d := some 22) (v := ?_) rfl rfl (by kernel_rfl) (by kernel_rfl) (by kernel_rfl) (by kernel_rfl) (fun _ _ _ h => h) (Or.inl ⟨by rfl, ?_⟩) (by assumption) ?_
        rotate_left
        · (intro w hSw; (try dsimp only at hSw); go_simp; try (with_reducible rfl))
        try simp only [Act.put]
        try simp only [List.setIfInBounds_toArray]
        try simp only [List.set_cons_zero, List.set_cons_succ]
        refine wpAnyT_take (i := 3) (d := some 23) (v := ?_) rfl rfl (by kernel_rfl) (by kernel_rfl) (by kernel_rfl) (by kernel_rfl) (fun _ _ _ h => h) (Or.inl ⟨by rfl, ?_⟩) (by assumption) ?_
        rotate_left
        · (intro w hSw; (try dsimp only at hSw); go_simp; try (with_reducible rfl))
        try simp only [Act.put]
        try simp only [List.setIfInBounds_toArray]
        try simp only [List.set_cons_zero, List.set_cons_succ]
        refine wpAnyT_take (i := 6) (d := some 26) (v := ?_) rfl rfl (by kernel_rfl) (by kernel_rfl) (by kernel_rfl) (by kernel_rfl) (fun _ _ _ h => h) (Or.inl ⟨by rfl, ?_⟩) (by assumption) ?_
        rotate_left
        · (intro w hSw; (try dsimp only at hSw); go_simp; try (with_reducible rfl))
        try simp only [Act.put]
        try simp only [List.setIfInBounds_toArray]
        try simp only [List.set_cons_zero, List.set_cons_succ]
        refine wpAnyT_take (i := 7) (d := some 27) (v := ?_) rfl rfl (by kernel_rfl) (by kernel_rfl) (by kernel_rfl) (by kernel_rfl) (fun _ _ _ h => h) (Or.inl ⟨by rfl, ?_⟩) (by assumption) ?_
        rotate_left
        · (intro w hSw; (try dsimp only at hSw); go_simp; try (with_reducible rfl))
        try simp only [Act.put]
        try simp only [List.setIfInBounds_toArray]
        try simp only [List.set_cons_zero, List.set_cons_succ]
        refine wpAnyT_take (i := 8) (d := some 28) (v := ?_) rfl rfl (by kernel_rfl) (by kernel_rfl) (by kernel_rfl) (by kernel_rfl) (fun _ _ _ h => h) (Or.inl ⟨by rfl, ?_⟩) (by assumption) ?_
        rotate_left
        · (intro w hSw; (try dsimp only at hSw); go_simp; try (with_reducible rfl))
        try simp only [Act.put]
        try simp only [List.setIfInBounds_toArray]
        try simp only [List.set_cons_zero, List.set_cons_succ]
        refine wpAnyT_take (i := 9) (d := some 29) (v := ?_) rfl rfl (by kernel_rfl) (by kernel_rfl) (by kernel_rfl) (by kernel_rfl) (fun _ _ _ h => h) (Or.inl ⟨by rfl, ?_⟩) (by assumption) ?_
        rotate_left
        · (intro w hSw; (try dsimp only at hSw); go_simp; try (with_reducible rfl))
        try simp only [Act.put]
        try simp only [List.setIfInBounds_toArray]
        try simp only [List.set_cons_zero, List.set_cons_succ]
        refine wpAnyT_take (i := 0) (d := some 20) (v := ?_) rfl rfl (by kernel_rfl) (by kernel_rfl) (by kernel_rfl) (by kernel_rfl) (fun _ _ _ h => h) (Or.inl ⟨by rfl, ?_⟩) (by assumption) ?_
        rotate_left
        · (intro w hSw; (try dsimp only at hSw); go_simp; try (with_reducible rfl))
        try simp only [Act.put]
        try simp only [List.setIfInBounds_toArray]
        try simp only [List.set_cons_zero, List.set_cons_succ]
        refine wpAnyT_take (i := 5) (d := some 25) (v := ?_) rfl rfl (by kernel_rfl) (by kernel_rfl) (by kernel_rfl) (by kernel_rfl) (fun _ _ _ h => h) (Or.inl ⟨by rfl, ?_⟩) (by assumption) ?_
        rotate_left
        · (intro w hSw; (try dsimp only at hSw); go_simp; try (with_reducible rfl))
        try simp only [Act.put]
        try simp only [List.setIfInBounds_toArray]
        try simp only [List.set_cons_zero, List.set_cons_succ]
        refine wpAnyT_step (i := 4) (by kernel_rfl) rfl (fun K hK => ?_)
        refine step_call rfl 31 _ _ rfl enters_31 [.agg #[.slice (some ⟨B, O, none⟩) n C], .int .i64 p, .int .i64 i, .int .i64 ((j + 1 : Nat) : Int)] (by first | rfl | kernel_rfl | go_simp) (HC1.out _ HWT.out) ?_
        rintro e w4 ⟨rfl, hX4⟩
        refine ⟨_, rfl, ?_⟩
        have HX4 := Lib.hid hX4
        have t4 := hX4.cl t1
        clear hX4
        refine hK.out _ _ ?_ (fun hHeld => ?_)
        · (try dsimp only)
          exact t4
        clear hK K
        try simp only [Act.put]
        try simp only [List.setIfInBounds_toArray]
        try simp only [List.set_cons_zero, List.set_cons_succ]
        refine wpAnyT_step (i := 10) (by kernel_rfl) rfl (fun K hK => ?_)
        refine step_call rfl 31 _ _ rfl enters_31 [.agg #[.slice (some ⟨B, O, none⟩) n C], .int .i64 p, .int .i64 i, .int .i64 (j : Int)] (by first | rfl | kernel_rfl | go_simp) (HC0.out _ (HWT.out.trans' HX4.out)) ?_
        rintro e w5 ⟨rfl, hX5⟩
        refine ⟨_, rfl, ?_⟩
        have HX5 := Lib.hid (HX4.out.trans' hX5)
        have t5 := hX5.cl t4
        clear hX5
        refine hK.out _ _ ?_ (fun hHeld => ?_)
        · (try dsimp only)
          exact t5
        clear hK K
        try simp only [Act.put]
        try simp only [List.setIfInBounds_toArray]
        try simp only [List.set_cons_zero, List.set_cons_succ]
        refine wpAnyT_step (i := 11) (by kernel_rfl) rfl (fun K hK => ?_)
        go_simp
        refine hK.out _ _ ?_ (fun hHeld => ?_)
        · (try dsimp only)
          exact t5
        clear hK K
        try simp only [Act.put]
        try simp only [List.setIfInBounds_toArray]
        try simp only [List.set_cons_zero, List.set_cons_succ]
        refine wpAnyT_last (by kernel_rfl) rfl (by kernel_rfl) (fun K hK => ?_)
        go_simp
        refine hK.out _ _ ?_
        go_wp2_with fail
        go_meet
        exact ⟨rfl, (show Ext wr _ from HET.out.trans' HX5.out)⟩
      case rest =>
        obtain ⟨rfl, HXW⟩ := hcut
        have HEK3 := Lib.hid (HEK.out.trans' HXW.out)
        have HEW3 := Lib.hid (HEW.out.trans' HXW.out)
        clear t0 e1
        by_cases h1 : z < -1
        · have d1 : decide (z < -1) = true := decide_eq_true h1
          have HF := Lib.hid (HNJ.out (by rw [HZZ.out, decide_eq_false (show ¬ -1 ≤ z by omega)]; rfl))
          obtain rfl : R = false := by rw [← HR.out, HF.out]
          clear h1
          go_wp2
          go_ret
          exact ⟨rfl, HEW3.out⟩
        · have d1 : decide (z < -1) = false := decide_eq_false h1
          by_cases h2 : 1 < z
          · have d2 : decide (1 < z) = true := decide_eq_true h2
            have HF := Lib.hid (HNJ.out (by rw [HZZ.out, decide_eq_false (show ¬ z ≤ 1 by omega), Bool.and_false]))
            obtain rfl : R = false := by rw [← HR.out, HF.out]
            clear h1 h2
            go_wp2
            go_ret
            exact ⟨rfl, HEW3.out⟩
          · have d2 : decide (1 < z) = false := decide_eq_false h2
            have HY2 : Hid (unitF f (j + 1) = true) := Lib.hid (by rw [HYJ.out, HU.out, HZZ.out, decide_eq_true (show -1 ≤ z by omega), decide_eq_true (show z ≤ 1 by omega)]; rfl)
            clear h1 h2
            go_wp2
            go_roundg (ne + 1 - (j + 1 + 1))
            case measure => omega
            case rel =>
              refine ⟨j + 1 + 1, by omega, by omega, by omega, by go_num, (show Aside _ from ?_), (show Ext _ _ from HEK3.out)⟩
              rw [Nat.add_sub_cancel]; exact HY2.out
    case neg =>
      obtain rfl : k = ne + 1 := by omega
      rw [Nat.add_sub_cancel] at HU
      have d0 : decide (((ne + 1 : Nat) : Int) ≤ (ne : Int)) = false := decide_eq_false (by omega)
      have d0p : ¬ ((ne + 1 : Nat) : Int) ≤ (ne : Int) := by omega
      obtain rfl : R = true := by rw [← HR.out]; exact HU.out
      clear hlt
      go_wp2
      go_ret
      exact ⟨rfl, HEW.out⟩

set_option maxHeartbeats 4000000 in
set_option maxRecDepth 100000 in
theorem rangeF_calls (v : Value) (t : Tr) (p i : Nat) (w : World) (h : TrAt w v t) (hv : validT t = true) (hp : p < t.length) (hi : i < t[p]!.vars.length) :
    Calls Try.prog 16 #[.agg #[v], .int .i64 p, .int .i64 i] w fun e w' => e = .returned (.tuple #[.int .i64 (lowF (valF t p i) t[p]!.events.length), .int .i64 (highF (valF t p i) t[p]!.events.length)]) ∧ Ext w w' := by
  have HVC := Lib.hid (fun W (hW : Ext w W) k (hk : k ≤ t[p]!.events.length) => valueF_calls v t p i k W (h.ext hW) hv hp hi hk)
  have HVI := Lib.hid (fun k (hk : k ≤ t[p]!.events.length) => valF_in hv hp hi hk)
  have hne8 := (stOk_valid hv hp).ne
  obtain ⟨B, O, C, vv, ve, rfl, hlC, hB, hn0, hv0, he0, hV, hE0⟩ := proc_at h p hp
  obtain ⟨ea, ec, rfl, hec⟩ := hE0.sh
  have hn1 := (valid_small hv).1
  generalize hln : t.length = n at *
  have HX0 := Lib.hid (heap_alloc_new w (.cells #[.slice (some ⟨B, O, none⟩) n C] 24))
  have HE1 := Lib.hid ((Ext.rf w).al (.cells #[.slice (some ⟨B, O, none⟩) n C] 24))
  have hpz : (0 : Int) ≤ (p : Int) := by omega
  have hpn : (p : Int) < (n : Int) := by omega
  have HV0 := Lib.hid he0
  have HC0 := Lib.hid (fun W (hW : Ext w W) => HVC.out W hW 0 (Nat.zero_le _))
  have HLY : Hid (∀ j, lowF (valF t p i) (j + 1) = if valF t p i (j + 1) < lowF (valF t p i) j then valF t p i (j + 1) else lowF (valF t p i) j) := Lib.hid (fun j => rfl)
  have HHY : Hid (∀ j, highF (valF t p i) (j + 1) = if highF (valF t p i) j < valF t p i (j + 1) then valF t p i (j + 1) else highF (valF t p i) j) := Lib.hid (fun j => rfl)
  have HLZ : Hid (lowF (valF t p i) 0 = valF t p i 0) := Lib.hid rfl
  have HHZ : Hid (highF (valF t p i) 0 = valF t p i 0) := Lib.hid rfl
  generalize valF t p i = f at *
  obtain ⟨lo, hlo⟩ : ∃ lo, lowF f t[p]!.events.length = lo := ⟨_, rfl⟩
  obtain ⟨hh, hhi⟩ : ∃ hh, highF f t[p]!.events.length = hh := ⟨_, rfl⟩
  rw [hlo, hhi]
  have HLO := Lib.hid hlo
  have HHI := Lib.hid hhi
  generalize f 0 = f0 at *
  clear hlo hhi
  generalize t[p]!.events.length = ne at *
  have HEC := Lib.hid hec
  clear h hn0 hv0 he0 hV hE0 hln hv hp hi hec
  go_enter Try.func16, Try.ntmps16
  go_wp2
  generalize hw2 : w.alloc (.cells #[.slice (some ⟨B, O, none⟩) n C] 24) = w2 at *
  clear hw2
  have t0 := cellOf HX0.out 0
  simp only [List.getElem?_toArray, List.getElem?_cons_zero] at t0
  go_upto_region 1 with (fail)
  go_cut [8, 9] (fun s8 s9 wx => s8 = .int .i64 f0 ∧ s9 = .int .i64 f0 ∧ Aside (Ext w2 wx))
  case first =>
    go_wp2
    have HWT := Lib.hid (show Ext w w2.drew from HE1.out.dr)
    have HET := Lib.hid (show Ext w2 w2.drew from (Ext.rf w2).dr)
    have t1 := HET.out.cl t0
    go_region_with ((go_at_call 31; refine (HC0.out _ (by first | exact HXa.out | exact HWT.out)).mono ?_; rintro e w4 ⟨rfl, hX4⟩; have HXb := Lib.hid (show Ext w2 w4 from by first | exact HXb.out.trans' hX4 | exact HET.out.trans' hX4); have HXa := Lib.hid (show Ext w w4 from by first | exact HXa.out.trans' hX4 | exact HWT.out.trans' hX4); have t4 : w4.cell? ⟨w.heap.size, 0, none⟩ = some (.slice (some ⟨B, O, none⟩) n C) := hX4.cl (by first | exact t4 | exact t1); clear hX4))
    all_goals
      go_wp2
      go_meet
      exact ⟨rfl, rfl, (show Ext w2 _ from HXb.out)⟩
  case rest =>
  obtain ⟨rfl, rfl, HXW⟩ := hcut
  clear t0
  go_wp2
  go_loopg [8, 9, 10] ne (fun g s8 s9 s10 wr => ∃ k : Nat, 1 ≤ k ∧ k ≤ ne + 1 ∧ ne + 1 - k ≤ g ∧ s10 = .int .i64 k ∧ (∃ a b, s8 = .int .i64 a ∧ s9 = .int .i64 b ∧ Aside (lowF f (k - 1) = a ∧ highF f (k - 1) = b)) ∧ Aside (Ext w2 wr))
  case atStart => exact ⟨1, by omega, by omega, by omega, rfl, ⟨_, _, rfl, rfl, (show Aside _ from ⟨HLZ.out, HHZ.out⟩)⟩, (show Ext _ _ from HXW.out)⟩
  case round =>
    obtain ⟨k, hk1, hk, hg, rfl, ⟨a, b, rfl, rfl, HAB⟩, HEK⟩ := hrel
    have HEW := Lib.hid (HE1.out.trans' HEK.out)
    have HY1 := Lib.hid (HEK.out.hp HX0.out)
    have t0 := cellOf HY1.out 0
    simp only [List.getElem?_toArray, List.getElem?_cons_zero] at t0
    have e1 := HEW.out.cl HV0.out
    by_cases hlt : k < ne + 1
    case pos =>
      obtain ⟨j, rfl⟩ : ∃ j, k = j + 1 := ⟨k - 1, by omega⟩
      rw [Nat.add_sub_cancel] at HAB
      have d0 : decide ((j : Int) + 1 ≤ (ne : Int)) = true := decide_eq_true (by omega)
      have d0p : (j : Int) + 1 ≤ (ne : Int) := by omega
      have HC1 := Lib.hid (fun W (hW : Ext w W) => HVC.out W hW (j + 1) (by omega))
      have HL := Lib.hid (HLY.out j)
      have HH := Lib.hid (HHY.out j)
      rw [HAB.out.1] at HL
      rw [HAB.out.2] at HH
      generalize f (j + 1) = y at *
      have hcj : ((j + 1 : Nat) : Int) = (j : Int) + 1 := by omega
      clear hlt
      go_wp2_with fail
      refine (HC1.out _ HEW.out).mono ?_
      rintro e w5 ⟨rfl, hX5⟩
      have HE5 := Lib.hid (HEK.out.trans' hX5)
      clear hX5 t0 e1
      by_cases h1 : y < a
      · have HL2 := Lib.hid (HL.out.trans (if_pos h1))
        have d1 : decide (y < a) = true := decide_eq_true h1
        by_cases h2 : b < y
        · have HH2 := Lib.hid (HH.out.trans (if_pos h2))
          have d2 : decide (b < y) = true := decide_eq_true h2
          clear h1 h2
          go_wp2
          go_roundg (ne + 1 - (j + 1 + 1))
          case measure => omega
          case rel => exact ⟨j + 1 + 1, by omega, by omega, by omega, by go_num, ⟨_, _, rfl, rfl, (show Aside _ from by rw [Nat.add_sub_cancel]; exact ⟨HL2.out, HH2.out⟩)⟩, (show Ext _ _ from HE5.out)⟩
        · have HH2 := Lib.hid (HH.out.trans (if_neg h2))
          have d2 : decide (b < y) = false := decide_eq_false h2
          clear h1 h2
          go_wp2
          go_roundg (ne + 1 - (j + 1 + 1))
          case measure => omega
          case rel => exact ⟨j + 1 + 1, by omega, by omega, by omega, by go_num, ⟨_, _, rfl, rfl, (show Aside _ from by rw [Nat.add_sub_cancel]; exact ⟨HL2.out, HH2.out⟩)⟩, (show Ext _ _ from HE5.out)⟩
      · have HL2 := Lib.hid (HL.out.trans (if_neg h1))
        have d1 : decide (y < a) = false := decide_eq_false h1
        by_cases h2 : b < y
        · have HH2 := Lib.hid (HH.out.trans (if_pos h2))
          have d2 : decide (b < y) = true := decide_eq_true h2
          clear h1 h2
          go_wp2
          go_roundg (ne + 1 - (j + 1 + 1))
          case measure => omega
          case rel => exact ⟨j + 1 + 1, by omega, by omega, by omega, by go_num, ⟨_, _, rfl, rfl, (show Aside _ from by rw [Nat.add_sub_cancel]; exact ⟨HL2.out, HH2.out⟩)⟩, (show Ext _ _ from HE5.out)⟩
        · have HH2 := Lib.hid (HH.out.trans (if_neg h2))
          have d2 : decide (b < y) = false := decide_eq_false h2
          clear h1 h2
          go_wp2
          go_roundg (ne + 1 - (j + 1 + 1))
          case measure => omega
          case rel => exact ⟨j + 1 + 1, by omega, by omega, by omega, by go_num, ⟨_, _, rfl, rfl, (show Aside _ from by rw [Nat.add_sub_cancel]; exact ⟨HL2.out, HH2.out⟩)⟩, (show Ext _ _ from HE5.out)⟩
    case neg =>
      obtain rfl : k = ne + 1 := by omega
      rw [Nat.add_sub_cancel] at HAB
      have d0 : decide (((ne + 1 : Nat) : Int) ≤ (ne : Int)) = false := decide_eq_false (by omega)
      have d0p : ¬ ((ne + 1 : Nat) : Int) ≤ (ne : Int) := by omega
      obtain rfl : lo = a := by rw [← HLO.out]; exact HAB.out.1
      obtain rfl : hh = b := by rw [← HHI.out]; exact HAB.out.2
      clear hlt
      go_wp2
      go_ret2
      exact ⟨rfl, HEW.out⟩

end Go.Proofs.Ytfcpnggdpaeldaa

/-
  The law's own bounds of traces.
-/
namespace Go.Proofs.Ytfcpnggdpaeldaa
open Go.RowKit
set_option linter.unusedVariables false

def greatE (e : Ev) : Bool := decide (20 < e.asg.length)
def greatP (x : Pr) : Bool := decide (80 < x.events.length) || (decide (20 < x.vars.length) || x.events.any greatE)
def greatT (t : Tr) : Bool := decide (20 < t.length) || t.any greatP
theorem great_loose {t : Tr} (h : greatT t = false) : LooseTr t ∧ t.length ≤ 20 := by
  simp only [greatT, Bool.or_eq_false_iff, decide_eq_false_iff_not] at h
  refine ⟨⟨by omega, fun p hp => ?_⟩, by omega⟩
  have h1 := List.any_eq_false.1 h.2 _ (mem_at t p hp)
  simp only [greatP, Bool.or_eq_true, decide_eq_true_eq, not_or] at h1
  refine ⟨by omega, fun i hi => ?_⟩
  have h2 := List.any_eq_false.1 (Bool.eq_false_iff.2 h1.2.2) _ (mem_at t[p]!.events i hi)
  simp only [greatE, decide_eq_true_eq] at h2
  omega

theorem enters_39 : ∀ args w, (callFunc 39 args).run Try.prog w = .ok (.enter 39 args) w := enters_of Try.func39 (by kernel_rfl) rfl
theorem enters_41 : ∀ args w, (callFunc 41 args).run Try.prog w = .ok (.enter 41 args) w := enters_of Try.func41 (by kernel_rfl) rfl

set_option maxHeartbeats 1000000 in
theorem great11_calls (vs : List Value) (x : Ev) (w : World) (hv : REv w vs x) : Calls Try.prog 41 #[.agg vs.toArray] w fun e w' => e = .returned (.bool (greatE x)) ∧ Ext w w' := by
  obtain ⟨v, rfl, hs⟩ := hv
  obtain ⟨a, c, rfl, hlc⟩ := hs.sh
  clear hs
  obtain ⟨r, hr⟩ : ∃ r, decide (20 < (x.asg.length : Int)) = r := ⟨_, rfl⟩
  have HR : Hid (greatE x = r) := Lib.hid (by unfold greatE; rw [← hr]; simp; omega)
  rw [HR.out]
  generalize x.asg.length = n at *
  go_enter Try.func41, Try.ntmps41
  go_wp2
  go_ret
  exact ⟨rfl, (by repeat (first | refine Ext.st ?_ (by first | exact Nat.le_refl _ | exact Nat.le_succ _ | assumption | omega) _ | refine Ext.al ?_ _ | refine Ext.dr ?_ | refine Ext.drN ?_ _ | exact Ext.rf _))⟩

set_option maxHeartbeats 2000000 in
set_option maxRecDepth 100000 in
theorem great1_calls (vs : List Value) (x : Pr) (w : World) (hv : RPr w vs x) : Calls Try.prog 39 #[.agg vs.toArray] w fun e w' => e = .returned (.bool (greatP x)) ∧ Ext w w' := by
  obtain ⟨vv, ve, rfl, hV, hE⟩ := hv
  have HCE := Lib.hid (fun W (hW : Ext w W) (hb : x.events.length ≤ 80) => containsFunc_evs REv rev_lasts 41 #[] enters_41 greatE ve x.events W (hE.ext rev_lasts hW) (by omega) (fun y _ W vs _ hR => great11_calls vs y W hR))
  have HP : Hid (greatP x = (decide (80 < x.events.length) || (decide (20 < x.vars.length) || x.events.any greatE))) := Lib.hid rfl
  obtain ⟨va, vc, rfl, hvc⟩ := hV.sh
  obtain ⟨ea, ec, rfl, hec⟩ := hE.sh
  obtain ⟨r, hr⟩ : ∃ r, greatP x = r := ⟨_, rfl⟩
  rw [hr] at HP ⊢
  generalize x.events.any greatE = b at *
  generalize x.vars.length = nv at *
  generalize x.events.length = ne at *
  generalize x.name = nm at *
  have HE1 : Hid (Ext w (w.alloc (.cells #[.string nm, .slice va nv vc, .slice ea ne ec] 47))) := Lib.hid (by repeat (first | refine Ext.st ?_ (by first | exact Nat.le_refl _ | exact Nat.le_succ _ | assumption | omega) _ | refine Ext.al ?_ _ | refine Ext.dr ?_ | refine Ext.drN ?_ _ | exact Ext.rf _))
  clear hV hE hr
  by_cases h1 : 80 < ne
  · have d1 : decide (80 < (ne : Int)) = true := decide_eq_true (by omega)
    have d1n : decide (80 < ne) = true := decide_eq_true h1
    obtain rfl : r = true := by rw [HP.out, d1n]; rfl
    clear h1
    go_enter Try.func39, Try.ntmps39
    go_wp2
    go_ret
    exact ⟨rfl, HE1.out⟩
  · have d1 : decide (80 < (ne : Int)) = false := decide_eq_false (by omega)
    have d1n : decide (80 < ne) = false := decide_eq_false h1
    have HC := Lib.hid (fun W hW => HCE.out W hW (by omega))
    by_cases h2 : 20 < nv
    · have d2 : decide (20 < (nv : Int)) = true := decide_eq_true (by omega)
      have d2n : decide (20 < nv) = true := decide_eq_true h2
      obtain rfl : r = true := by rw [HP.out, d1n, d2n]; rfl
      clear h1 h2
      go_enter Try.func39, Try.ntmps39
      go_wp2
      go_ret
      exact ⟨rfl, HE1.out⟩
    · have d2 : decide (20 < (nv : Int)) = false := decide_eq_false (by omega)
      have d2n : decide (20 < nv) = false := decide_eq_false h2
      obtain rfl : r = b := by rw [HP.out, d1n, d2n]; rfl
      clear h1 h2
      go_enter Try.func39, Try.ntmps39
      go_wp2_with fail
      refine (HC.out _ HE1.out).mono ?_
      rintro e w3 ⟨rfl, hX⟩
      go_wp2
      go_ret
      exact ⟨rfl, HE1.out.trans' hX⟩

set_option maxHeartbeats 2000000 in
set_option maxRecDepth 100000 in
theorem great_calls (v : Value) (t : Tr) (w : World) (h : TrAt w v t) : Calls Try.prog 10 #[.agg #[v]] w fun e w' => e = .returned (.bool (greatT t)) ∧ Ext w w' := by
  have HCE := Lib.hid (fun W (hW : Ext w W) (hb : t.length ≤ 20) => containsFunc_procs RPr rpr_lasts 39 #[] enters_39 greatP v t W (h.ext hW) (by omega) (fun y _ W vs _ hR => great1_calls vs y W hR))
  have HP : Hid (greatT t = (decide (20 < t.length) || t.any greatP)) := Lib.hid rfl
  obtain ⟨ta, tc, rfl, htc⟩ := h.sh
  obtain ⟨r, hr⟩ : ∃ r, greatT t = r := ⟨_, rfl⟩
  rw [hr] at HP ⊢
  generalize t.any greatP = b at *
  generalize t.length = n at *
  have HE1 : Hid (Ext w (w.alloc (.cells #[.slice ta n tc] 24))) := Lib.hid (by repeat (first | refine Ext.st ?_ (by first | exact Nat.le_refl _ | exact Nat.le_succ _ | assumption | omega) _ | refine Ext.al ?_ _ | refine Ext.dr ?_ | refine Ext.drN ?_ _ | exact Ext.rf _))
  clear h hr
  by_cases h1 : 20 < n
  · have d1 : decide (20 < (n : Int)) = true := decide_eq_true (by omega)
    have d1n : decide (20 < n) = true := decide_eq_true h1
    obtain rfl : r = true := by rw [HP.out, d1n]; rfl
    clear h1
    go_enter Try.func10, Try.ntmps10
    go_wp2
    go_ret
    exact ⟨rfl, HE1.out⟩
  · have d1 : decide (20 < (n : Int)) = false := decide_eq_false (by omega)
    have d1n : decide (20 < n) = false := decide_eq_false h1
    have HC := Lib.hid (fun W hW => HCE.out W hW (by omega))
    obtain rfl : r = b := by rw [HP.out, d1n]; rfl
    clear h1
    go_enter Try.func10, Try.ntmps10
    go_wp2_with fail
    refine (HC.out _ HE1.out).mono ?_
    rintro e w3 ⟨rfl, hX⟩
    go_wp2
    go_ret
    exact ⟨rfl, HE1.out.trans' hX⟩

end Go.Proofs.Ytfcpnggdpaeldaa

/-
  The example of the chapter on variables holds.
-/
namespace Go.Proofs.Ytfcpnggdpaeldaa
open Go.RowKit
set_option linter.unusedVariables false

/-- The trace of the chapter. -/
def exV : Tr := [⟨⟨#[112]⟩, [⟨⟨#[120]⟩, 1⟩], [⟨1, 0, 0, 0, []⟩, ⟨1, 0, 0, 0, [⟨0, 3⟩]⟩]⟩]
def exVa : List Value := [.string ⟨#[120]⟩, .int .i64 1]
def exVb : List Value := [.int .i64 0, .int .i64 3]
def exVc (n : Nat) : List Value := [.int .i64 1, .int .i64 0, .int .i64 0, .int .i64 0, .slice none 0 0, .int .i64 1, .int .i64 0, .int .i64 0, .int .i64 0, .slice (some ⟨n + 1, 0, none⟩) 1 1]
def exVd (n : Nat) : List Value := [.string ⟨#[112]⟩, .slice (some ⟨n, 0, none⟩) 1 1, .slice (some ⟨n + 1 + 1, 0, none⟩) 2 2]
theorem sl_noneV {α : Type} [Inhabited α] (R : World → List Value → α → Prop) (k : Nat) (w : World) : Sl R k w (.slice none 0 0) [] := ⟨none, 0, rfl, Nat.le_refl _, fun h => absurd rfl h⟩
theorem exV_at {W : World} {n : Nat} {a b c d : TypeId} (h0 : W.heap[n]? = some (.cells exVa.toArray a)) (h1 : W.heap[n + 1]? = some (.cells exVb.toArray b)) (h2 : W.heap[n + 2]? = some (.cells (exVc n).toArray c)) (h3 : W.heap[n + 3]? = some (.cells (exVd n).toArray d)) :
    TrAt W (.slice (some ⟨n + 1 + 1 + 1, 0, none⟩) 1 1) exV := by
  have a1 : Sl RVr 2 W (.slice (some ⟨n, 0, none⟩) 1 1) [⟨⟨#[120]⟩, 1⟩] :=
    (cells_laid 2 1 h0 rfl).sl (R := RVr) (l := ([⟨⟨#[120]⟩, 1⟩] : List Vr)) (fun i hi => by
      have hi : i < 1 := hi
      obtain rfl : i = 0 := by omega
      rfl)
  have a2 : Sl RAsg 2 W (.slice (some ⟨n + 1, 0, none⟩) 1 1) [⟨0, 3⟩] :=
    (cells_laid 2 1 h1 rfl).sl (R := RAsg) (l := ([⟨0, 3⟩] : List Asg)) (fun i hi => by
      have hi : i < 1 := hi
      obtain rfl : i = 0 := by omega
      rfl)
  have a3 : Sl REv 5 W (.slice (some ⟨n + 1 + 1, 0, none⟩) 2 2) [⟨1, 0, 0, 0, []⟩, ⟨1, 0, 0, 0, [⟨0, 3⟩]⟩] :=
    (cells_laid 5 2 h2 rfl).sl (R := REv) (l := ([⟨1, 0, 0, 0, []⟩, ⟨1, 0, 0, 0, [⟨0, 3⟩]⟩] : List Ev)) (fun i hi => by
      have hi : i < 2 := hi
      rcases (show i = 0 ∨ i = 1 by omega) with rfl | rfl
      · exact ⟨_, rfl, sl_noneV _ _ _⟩
      · exact ⟨_, rfl, a2⟩)
  exact (cells_laid 3 1 h3 rfl).sl (R := RPr) (l := exV) (fun i hi => by
    obtain rfl : i = 0 := by have hi : i < 1 := hi; omega
    exact ⟨_, _, rfl, a1, a3⟩)

theorem exV_shape : shapeB exV = true := by decide +kernel
theorem exV_pair : pairB exV = true := by decide +kernel
theorem exV_dir {y x : Eid} (h : Dir exV y x) : 10 * y.1 + y.2 < 10 * x.1 + x.2 := by
  obtain ⟨⟨h1, h2⟩, h⟩ := h
  obtain ⟨p, i⟩ := x
  obtain ⟨q, j⟩ := y
  simp only at h1 h2 h ⊢
  rcases h with ⟨rfl, rfl⟩ | ⟨hk, hf⟩
  · omega
  · obtain rfl : p = 0 := by have h1 : p < 1 := h1; omega
    have h2 : i < 2 := h2
    rcases (show i = 0 ∨ i = 1 by omega) with rfl | rfl
    · exact absurd hk (by decide)
    · exact absurd hk (by decide)
theorem exV_cyc : ¬ Cyc exV := by
  rintro ⟨x, hx⟩
  have key : ∀ {y x : Eid}, Relation.TransGen (Dir exV) y x → 10 * y.1 + y.2 < 10 * x.1 + x.2 := by
    intro y x h
    induction h with
    | single h => exact exV_dir h
    | tail _ h ih => exact Nat.lt_trans ih (exV_dir h)
  exact Nat.lt_irrefl _ (key hx)
theorem exV_valid : validT exV = true := validT_parts.2 ⟨exV_shape, exV_pair, exV_cyc⟩
theorem exV_loose : LooseTr exV := (valid_small exV_valid).loose
def exS : ByteArray := ⟨#[120]⟩
theorem exV_f1 : faultV exV 0 1 exS = 0 := by unfold faultV placeE; rw [exV_valid]; decide +kernel
theorem exV_f2 : faultV exV 0 2 exS = 0 := by unfold faultV placeE; rw [exV_valid]; decide +kernel
theorem exV_e : fndE exV 0 exS = 0 := by unfold fndE; rw [exV_valid]; decide +kernel
theorem exV_i : fndI exV 0 exS = 0 := by unfold fndI; rw [exV_e]; decide +kernel
theorem exV_v1 : valF exV (0 : Int).toNat (idxV exV[(0 : Int).toNat]! exS).toNat (1 : Int).toNat = 1 := by decide +kernel
theorem exV_v2 : valF exV (0 : Int).toNat (idxV exV[(0 : Int).toNat]! exS).toNat (2 : Int).toNat = 3 := by decide +kernel
theorem exV_lo : lowF (valF exV (0 : Int).toNat (0 : Int).toNat) exV[(0 : Int).toNat]!.events.length = 1 := by decide +kernel
theorem exV_hi : highF (valF exV (0 : Int).toNat (0 : Int).toNat) exV[(0 : Int).toNat]!.events.length = 3 := by decide +kernel
theorem exV_ch : chgF (valF exV (0 : Int).toNat (0 : Int).toNat) exV[(0 : Int).toNat]!.events.length = [2] := by decide +kernel

theorem awk_v1 (v : Value) (w : World) (h : TrAt w v exV) : Calls Try.prog 29 #[.agg #[v], .int .i64 0, .string ⟨#[120]⟩, .int .i64 1] w fun e w' => e = .returned (.tuple #[.int .i64 1, .int .i64 0]) ∧ Ext w w' := by
  have := valueV_calls v exV 0 exS 1 w h exV_loose
  rw [exV_f1, if_pos rfl, exV_v1] at this
  exact this
theorem awk_v2 (v : Value) (w : World) (h : TrAt w v exV) : Calls Try.prog 29 #[.agg #[v], .int .i64 0, .string ⟨#[120]⟩, .int .i64 2] w fun e w' => e = .returned (.tuple #[.int .i64 3, .int .i64 0]) ∧ Ext w w' := by
  have := valueV_calls v exV 0 exS 2 w h exV_loose
  rw [exV_f2, if_pos rfl, exV_v2] at this
  exact this
theorem awk_r (v : Value) (w : World) (h : TrAt w v exV) : Calls Try.prog 11 #[.agg #[v], .int .i64 0, .string ⟨#[120]⟩] w fun e w' => e = .returned (.tuple #[.int .i64 1, .int .i64 3, .int .i64 0]) ∧ Ext w w' := by
  have := rangeP_calls v exV 0 exS w h exV_loose
  rw [exV_e, exV_i, if_pos rfl, if_pos rfl, exV_lo, exV_hi] at this
  exact this
theorem awk_c (v : Value) (w : World) (h : TrAt w v exV) : Calls Try.prog 12 #[.agg #[v], .int .i64 0, .string ⟨#[120]⟩] w fun e w' => IntsRes w w' e 0 [2] := by
  have := changesP_calls v exV 0 exS w h exV_loose
  rw [exV_e, exV_i, if_pos rfl, exV_ch] at this
  exact this

set_option maxHeartbeats 4000000 in
set_option maxRecDepth 100000 in
theorem awake25_calls (w : World) : Calls Try.prog 9 #[] w fun e w' => e = .returned (.bool true) ∧ Ext w w' := by
  go_enter Try.func9, Try.ntmps9
  go_wp2_with fail
  have HB := Lib.hid (fun i o => allocs_at [.cells #[.string ⟨#[120]⟩, .int .i64 1] 52, .cells #[.int .i64 0, .int .i64 3] 57, .cells #[.int .i64 1, .int .i64 0, .int .i64 0, .int .i64 0, .slice none 0 0, .int .i64 1, .int .i64 0, .int .i64 0, .int .i64 0, .slice (some ⟨w.heap.size + 1, 0, none⟩) 1 1] 55, .cells #[.string ⟨#[112]⟩, .slice (some ⟨w.heap.size, 0, none⟩) 1 1, .slice (some ⟨w.heap.size + 1 + 1, 0, none⟩) 2 2] 47, .cells #[.slice (some ⟨w.heap.size + 1 + 1 + 1, 0, none⟩) 1 1] 24] w i o)
  have hE0 : Ext w (((((w.alloc (.cells #[.string ⟨#[120]⟩, .int .i64 1] 52)).alloc (.cells #[.int .i64 0, .int .i64 3] 57)).alloc (.cells #[.int .i64 1, .int .i64 0, .int .i64 0, .int .i64 0, .slice none 0 0, .int .i64 1, .int .i64 0, .int .i64 0, .int .i64 0, .slice (some ⟨w.heap.size + 1, 0, none⟩) 1 1] 55)).alloc (.cells #[.string ⟨#[112]⟩, .slice (some ⟨w.heap.size, 0, none⟩) 1 1, .slice (some ⟨w.heap.size + 1 + 1, 0, none⟩) 2 2] 47)).alloc (.cells #[.slice (some ⟨w.heap.size + 1 + 1 + 1, 0, none⟩) 1 1] 24)) := (by repeat (first | refine Ext.st ?_ (by first | exact Nat.le_refl _ | exact Nat.le_succ _ | assumption | omega) _ | refine Ext.al ?_ _ | refine Ext.dr ?_ | refine Ext.drN ?_ _ | exact Ext.rf _))
  obtain ⟨w5, hw5⟩ : ∃ z, ((((w.alloc (.cells #[.string ⟨#[120]⟩, .int .i64 1] 52)).alloc (.cells #[.int .i64 0, .int .i64 3] 57)).alloc (.cells #[.int .i64 1, .int .i64 0, .int .i64 0, .int .i64 0, .slice none 0 0, .int .i64 1, .int .i64 0, .int .i64 0, .int .i64 0, .slice (some ⟨w.heap.size + 1, 0, none⟩) 1 1] 55)).alloc (.cells #[.string ⟨#[112]⟩, .slice (some ⟨w.heap.size, 0, none⟩) 1 1, .slice (some ⟨w.heap.size + 1 + 1, 0, none⟩) 2 2] 47)).alloc (.cells #[.slice (some ⟨w.heap.size + 1 + 1 + 1, 0, none⟩) 1 1] 24) = z := ⟨_, rfl⟩
  have HB : Hid (∀ i o, _ → w5.heap[w.heap.size + i]? = some o) := Lib.hid (fun i o h => hw5 ▸ HB.out i o h)
  rw [hw5] at hE0 ⊢
  clear hw5
  have HE0 := Lib.hid hE0
  have HT0 := Lib.hid (exV_at (HB.out 0 _ rfl) (HB.out 1 _ rfl) (HB.out 2 _ rfl) (HB.out 3 _ rfl))
  have HX0 := Lib.hid (HB.out 4 _ rfl)
  clear hE0 HB
  refine (awk_v1 _ _ HT0.out).mono ?_
  rintro e w6 ⟨rfl, hX6⟩
  have HE6 := Lib.hid (HE0.out.trans' hX6)
  have HT6 := Lib.hid (HT0.out.ext hX6)
  have HX6 := Lib.hid (hX6.hp HX0.out)
  have t6 := cellOf HX6.out 0
  simp only [List.getElem?_toArray, List.getElem?_cons_zero] at t6
  clear hX6
  go_wp2_with fail
  refine (awk_v2 _ _ HT6.out).mono ?_
  rintro e w7 ⟨rfl, hX7⟩
  have HE7 := Lib.hid (HE6.out.trans' hX7)
  have HT7 := Lib.hid (HT6.out.ext hX7)
  have HX7 := Lib.hid (hX7.hp HX6.out)
  have t7 := cellOf HX7.out 0
  simp only [List.getElem?_toArray, List.getElem?_cons_zero] at t7
  clear hX7
  go_wp2_with fail
  refine (awk_r _ _ HT7.out).mono ?_
  rintro e w8 ⟨rfl, hX8⟩
  have HE8 := Lib.hid (HE7.out.trans' hX8)
  have HT8 := Lib.hid (HT7.out.ext hX8)
  have HX8 := Lib.hid (hX8.hp HX7.out)
  have t8 := cellOf HX8.out 0
  simp only [List.getElem?_toArray, List.getElem?_cons_zero] at t8
  clear hX8
  go_wp2_with fail
  refine (awk_c _ _ HT8.out).mono ?_
  rintro e w9 ⟨u, rfl, hR9, hX9⟩
  have HI9 := Lib.hid hR9.ints
  obtain ⟨ua, uc, rfl, _⟩ := hR9.any
  have HE9 := Lib.hid (HE8.out.trans' hX9)
  clear hR9 hX9 t8
  go_wp2_with fail
  refine (equal_int _ _ [2] [2] _ (HI9.out.ext ((Ext.rf _).al _)) (ints_laid [2] (heap_alloc_new _ _)) (by decide) (by decide)).mono ?_
  rintro e w10 ⟨rfl, hX10⟩
  go_wp2
  go_ret
  exact ⟨rfl, (HE9.out.al _).trans' hX10⟩

end Go.Proofs.Ytfcpnggdpaeldaa

/-
  From a reading of an argument to what the walks ask of it. No program is named here.
-/
namespace Go.Proofs.Ytfcpnggdpaeldaa
open Go.RowKit Go.ChangeShapes Go.WideShapes
set_option linter.unusedVariables false

section
variable {H : Type} {enc : TypeId × Value → H} {P : Program} {w : World} {base : Nat} {spare : Nat → Bool} {held : Bool}

/-- What the readings of a type at its cells give. -/
def Gives {α : Type} (enc : TypeId × Value → H) (P : Program) (w : World) (base : Nat) (spare : Nat → Bool) (held : Bool) (t : TypeId) (R : World → List Value → α → Prop) : Prop :=
  ∀ fuel cs x, DataW.trod enc P w base spare held fuel t cs = some x → ∃ y, R w cs y

theorem gives_int {t : TypeId} (ht : P.underlying t = some (.int .i64)) : Gives enc P w base spare held t (fun _ cs (n : Int) => cs = [.int .i64 n] ∧ -9223372036854775808 ≤ n ∧ n ≤ 9223372036854775807) := by
  intro fuel cs x h
  obtain ⟨n, rfl, _, hw⟩ := DataW.trod_int ht h
  refine ⟨n, rfl, ?_⟩
  simpa [Lit.wf, IntKind.min, IntKind.max, IntKind.signed, IntKind.bits] using hw

/-- A slice, whose elements are read by R. -/
theorem gives_slice {α : Type} [Inhabited α] {t e : TypeId} {R : World → List Value → α → Prop} {k : Nat} (ht : P.underlying t = some (.slice e)) (hk : P.cellsOf e = k) (hk0 : 0 < k) (hR : Gives enc P w base spare held e R) :
    Gives enc P w base spare held t (fun w cs (l : List α) => ∃ v, cs = [v] ∧ Sl R k w v l ∧ l.length ≤ 9223372036854775807) := by
  intro fuel cs x h
  rcases DataW.trod_slice ht h with ⟨rfl, _⟩ | ⟨a, len, cap, elems, rest, n, _, rfl, _, hb, hl, hm, hlen, hel, _, _⟩
  · exact ⟨[], _, rfl, ⟨_, _, rfl, Nat.le_refl _, fun h => absurd rfl h⟩, by simp⟩
  · have hlm : len ≤ 9223372036854775807 := by unfold maxLen at hm; omega
    have one : ∀ i, i < len → ∃ vs y, w.cells? base (a.add (i * k)) k = some vs ∧ R w vs y := by
      intro i hi
      have := hel i hi
      rw [List.getElem?_eq_getElem (by omega), hk] at this
      obtain ⟨cs', h1, h2⟩ := Option.bind_eq_some_iff.1 this
      obtain ⟨y, hy⟩ := hR _ _ _ h2
      exact ⟨cs', y, h1, hy⟩
    by_cases h0 : len = 0
    · subst h0
      exact ⟨[], _, rfl, ⟨_, _, rfl, hl, fun h => absurd rfl h⟩, by simp⟩
    -- the address
    have haddr : ∃ b off, a = ⟨b, off, none⟩ ∧ b < w.heap.size := by
      obtain ⟨vs, y, h1, _⟩ := one 0 (by omega)
      obtain ⟨_, hlen', hc⟩ := World.cells?_some h1
      have hc0 := hc 0 (by omega)
      rw [List.getElem?_eq_getElem (by omega)] at hc0
      have hsp := World.cell?_spot hc0
      obtain ⟨b, off, sp⟩ := a
      simp only [Nat.zero_mul, Addr.add, if_true] at hsp hc0
      subst hsp
      exact ⟨b, off, rfl, World.block_lt_of_cell? w _ hc0⟩
    obtain ⟨b, off, rfl, hbw⟩ := haddr
    classical
    let f : Nat → α := fun i => if hi : i < len then Classical.choose (Classical.choose_spec (one i hi)) else default
    refine ⟨(List.range len).map f, _, rfl, ⟨_, cap, by simp, by simpa using hl, fun _ => ⟨b, off, rfl, hbw, fun i hi => ?_⟩⟩, by simpa using hlm⟩
    have hi' : i < len := by simpa using hi
    have hspec := Classical.choose_spec (Classical.choose_spec (one i hi'))
    refine ⟨Classical.choose (one i hi'), ?_, ?_, fun j hj => ?_⟩
    · exact (World.cells?_some hspec.1).2.1
    · have : ((List.range len).map f)[i]! = f i := by rw [getElem!_pos _ i hi]; simp
      rw [this]
      simp only [f, dif_pos hi']
      exact hspec.2
    · obtain ⟨_, hl2, hc⟩ := World.cells?_some hspec.1
      have := hc j hj
      rw [getElem!_pos _ j (by rw [hl2]; exact hj)]
      rw [← List.getElem?_eq_getElem, ← this]
      congr 1
      by_cases hik : i * k = 0
      · by_cases hj0 : j = 0
        · simp [Addr.add, hik, hj0]
        · simp [Addr.add, hik, hj0]
      · by_cases hj0 : j = 0
        · simp [Addr.add, hik, hj0]
        · simp [Addr.add, hik, hj0]

theorem sl_ints {w : World} {v : Value} {l : List Int} (h : Sl (fun _ cs (n : Int) => cs = [.int .i64 n] ∧ -9223372036854775808 ≤ n ∧ n ≤ 9223372036854775807) 1 w v l) : Ints w v l := by
  obtain ⟨a, c, rfl, hlc, h⟩ := h
  refine ⟨a, c, rfl, hlc, fun hl => ?_⟩
  obtain ⟨b, off, rfl, hb, hc⟩ := h hl
  refine ⟨b, off, rfl, hb, fun i hi => ?_⟩
  obtain ⟨vs, _, ⟨rfl, _⟩, h3⟩ := hc i hi
  have := h3 0 (by omega)
  simpa using this

theorem gives_ints {t e : TypeId} (ht : P.underlying t = some (.slice e)) (he : P.underlying e = some (.int .i64)) (hk : P.cellsOf e = 1) :
    Gives enc P w base spare held t (fun w cs (l : List Int) => ∃ v, cs = [v] ∧ Ints w v l ∧ l.length ≤ 9223372036854775807) := by
  intro fuel cs x h
  obtain ⟨l, v, rfl, hs, hl⟩ := gives_slice ht hk (by omega) (gives_int he) fuel cs x h
  exact ⟨l, v, rfl, sl_ints hs, hl⟩

/-- An array of two numbers. -/
theorem gives_pair {t e : TypeId} (ht : P.underlying t = some (.array 2 e)) (he : P.underlying e = some (.int .i64)) (hk : P.cellsOf e = 1) (hkt : P.cellsOf t = 2) :
    Gives enc P w base spare held t (fun _ cs (x : Int × Int) => cs = [.int .i64 x.1, .int .i64 x.2]) := by
  intro fuel cs x h
  obtain ⟨xs, m, _, _, hl, hxl, hx⟩ := DataW.trod_array ht h
  rw [hkt] at hl
  match cs, hl with
  | [c0, c1], _ =>
    have h0 := hx 0 (by omega)
    have h1 := hx 1 (by omega)
    rw [hk, List.getElem?_eq_getElem (by omega)] at h0 h1
    simp only [Nat.zero_mul, List.drop_zero, Nat.one_mul, List.drop_succ_cons, List.take_succ_cons, List.take_zero] at h0 h1
    obtain ⟨n0, e0, _⟩ := DataW.trod_int he h0
    obtain ⟨n1, e1, _⟩ := DataW.trod_int he h1
    simp only [List.cons.injEq, and_true] at e0 e1
    exact ⟨(n0, n1), by rw [e0, e1]⟩

theorem Gives.imp {α : Type} {t : TypeId} {R R' : World → List Value → α → Prop} (h : Gives enc P w base spare held t R) (hi : ∀ cs y, R w cs y → R' w cs y) : Gives enc P w base spare held t R' := by
  intro fuel cs x hx
  obtain ⟨y, hy⟩ := h fuel cs x hx
  exact ⟨y, hi _ _ hy⟩

/-- An argument of one cell. -/
theorem gives_arg {α : Type} {t : TypeId} {R : World → List Value → α → Prop} {v : Value} {d : DataW H} {ps : List MemPlace} (h : Gives enc P w base spare held t R) (hd : DataW.Trod enc P w base spare held t v d ps) : ∃ y, R w v.cells.toList y := by
  obtain ⟨fuel, hf⟩ := hd
  exact h _ _ _ hf

theorem okWide_array {r : Reach} {t e : TypeId} {n : Nat} {v : Value} (ht : P.underlying t = some (.array n e)) (h : Value.okWide P w r base t v) : ∃ cs, v = .agg cs := by
  simp only [Value.okWide, ht] at h
  obtain ⟨cs, h1, _⟩ := h
  exact ⟨cs, h1⟩

end

end Go.Proofs.Ytfcpnggdpaeldaa

/-
  From a reading of a trace to what the walks ask of it.
-/
namespace Go.Proofs.Ytfcpnggdpaeldaa
open Go.RowKit
set_option linter.unusedVariables false
open Go.ChangeShapes Go.WideShapes

section
variable {H : Type} {enc : TypeId × Value → H} {w : World} {base : Nat} {spare : Nat → Bool} {held : Bool}

theorem gives_num : Gives enc Try.prog w base spare held 3 (fun w cs (n : Int) => cs = [.int .i64 n]) := by
  intro fuel cs x h
  obtain ⟨n, rfl, _⟩ := DataW.trod_int Try.underlying3 h
  exact ⟨n, rfl⟩
theorem gives_str : Gives enc Try.prog w base spare held 9 (fun w cs (s : ByteArray) => cs = [.string s]) := by
  intro fuel cs x h
  obtain ⟨n, rfl, _⟩ := DataW.trod_string Try.underlying9 h
  exact ⟨n, rfl⟩

set_option maxRecDepth 100000 in
theorem gives_asg : Gives enc Try.prog w base spare held 57 RAsg := by
  have hk2 : Try.prog.cellsOf 3 = 1 := by kernel_rfl
  intro fuel cs x h
  obtain ⟨xs, n, _, _, hl, hxl, hf⟩ := DataW.trod_struct Try.underlying57 h
  rw [show Try.prog.cellsOf 57 = 2 from by kernel_rfl] at hl
  have hxl3 : xs.length = 2 := hxl
  match cs, hl with
  | [c0, c1], _ =>
    have h0 : DataW.trod enc Try.prog w base spare held n 3 (([c0, c1].drop 0).take (Try.prog.cellsOf 3)) = xs[0]? := hf 0 _ rfl
    have h1 : DataW.trod enc Try.prog w base spare held n 3 (([c0, c1].drop 1).take (Try.prog.cellsOf 3)) = xs[1]? := hf 1 _ rfl
    rw [hk2, List.getElem?_eq_getElem (by omega)] at h0 h1
    simp only [List.drop_zero, List.drop_succ_cons, List.take_succ_cons, List.take_zero] at h0 h1
    obtain ⟨a, e0⟩ := gives_num _ _ _ h0
    obtain ⟨b, e1⟩ := gives_num _ _ _ h1
    simp only [List.cons.injEq, and_true] at e0 e1
    exact ⟨⟨a, b⟩, by unfold RAsg; rw [e0, e1]⟩
theorem gives_asgs : Gives enc Try.prog w base spare held 53 (fun w cs (l : List Asg) => ∃ v, cs = [v] ∧ Sl RAsg 2 w v l ∧ l.length ≤ 9223372036854775807) :=
  gives_slice Try.underlying53 (show Try.prog.cellsOf 57 = 2 from by kernel_rfl) (by omega) gives_asg

set_option maxRecDepth 100000 in
theorem gives_var : Gives enc Try.prog w base spare held 52 RVr := by
  have hk1 : Try.prog.cellsOf 9 = 1 := by kernel_rfl
  have hk2 : Try.prog.cellsOf 3 = 1 := by kernel_rfl
  intro fuel cs x h
  obtain ⟨xs, n, _, _, hl, hxl, hf⟩ := DataW.trod_struct Try.underlying52 h
  rw [show Try.prog.cellsOf 52 = 2 from by kernel_rfl] at hl
  have hxl3 : xs.length = 2 := hxl
  match cs, hl with
  | [c0, c1], _ =>
    have h0 : DataW.trod enc Try.prog w base spare held n 9 (([c0, c1].drop 0).take (Try.prog.cellsOf 9)) = xs[0]? := hf 0 _ rfl
    have h1 : DataW.trod enc Try.prog w base spare held n 3 (([c0, c1].drop 1).take (Try.prog.cellsOf 3)) = xs[1]? := hf 1 _ rfl
    rw [hk1] at h0
    rw [hk2] at h1
    rw [List.getElem?_eq_getElem (by omega)] at h0 h1
    simp only [List.drop_zero, List.drop_succ_cons, List.take_succ_cons, List.take_zero] at h0 h1
    obtain ⟨a, e0⟩ := gives_str _ _ _ h0
    obtain ⟨b, e1⟩ := gives_num _ _ _ h1
    simp only [List.cons.injEq, and_true] at e0 e1
    exact ⟨⟨a, b⟩, by unfold RVr; rw [e0, e1]⟩
theorem gives_vars : Gives enc Try.prog w base spare held 44 (fun w cs (l : List Vr) => ∃ v, cs = [v] ∧ Sl RVr 2 w v l ∧ l.length ≤ 9223372036854775807) :=
  gives_slice Try.underlying44 (show Try.prog.cellsOf 52 = 2 from by kernel_rfl) (by omega) gives_var

set_option maxRecDepth 100000 in
theorem gives_event : Gives enc Try.prog w base spare held 55 REv := by
  have hk1 : Try.prog.cellsOf 53 = 1 := by kernel_rfl
  have hk2 : Try.prog.cellsOf 3 = 1 := by kernel_rfl
  intro fuel cs x h
  obtain ⟨xs, n, _, _, hl, hxl, hf⟩ := DataW.trod_struct Try.underlying55 h
  rw [show Try.prog.cellsOf 55 = 5 from by kernel_rfl] at hl
  have hxl3 : xs.length = 5 := hxl
  match cs, hl with
  | [c0, c1, c2, c3, c4], _ =>
    have h0 : DataW.trod enc Try.prog w base spare held n 3 (([c0, c1, c2, c3, c4].drop 0).take (Try.prog.cellsOf 3)) = xs[0]? := hf 0 _ rfl
    have h1 : DataW.trod enc Try.prog w base spare held n 3 (([c0, c1, c2, c3, c4].drop 1).take (Try.prog.cellsOf 3)) = xs[1]? := hf 1 _ rfl
    have h2 : DataW.trod enc Try.prog w base spare held n 3 (([c0, c1, c2, c3, c4].drop 2).take (Try.prog.cellsOf 3)) = xs[2]? := hf 2 _ rfl
    have h3 : DataW.trod enc Try.prog w base spare held n 3 (([c0, c1, c2, c3, c4].drop 3).take (Try.prog.cellsOf 3)) = xs[3]? := hf 3 _ rfl
    have h4 : DataW.trod enc Try.prog w base spare held n 53 (([c0, c1, c2, c3, c4].drop 4).take (Try.prog.cellsOf 53)) = xs[4]? := hf 4 _ rfl
    rw [hk2] at h0 h1 h2 h3
    rw [hk1] at h4
    rw [List.getElem?_eq_getElem (by omega)] at h0 h1 h2 h3 h4
    simp only [List.drop_zero, List.drop_succ_cons, List.take_succ_cons, List.take_zero] at h0 h1 h2 h3 h4
    obtain ⟨a0, e0⟩ := gives_num _ _ _ h0
    obtain ⟨a1, e1⟩ := gives_num _ _ _ h1
    obtain ⟨a2, e2⟩ := gives_num _ _ _ h2
    obtain ⟨a3, e3⟩ := gives_num _ _ _ h3
    obtain ⟨l, v, e4, hv, _⟩ := gives_asgs _ _ _ h4
    simp only [List.cons.injEq, and_true] at e0 e1 e2 e3 e4
    exact ⟨⟨a0, a1, a2, a3, l⟩, v, by rw [e0, e1, e2, e3, e4], hv⟩
theorem gives_events : Gives enc Try.prog w base spare held 45 (fun w cs (l : List Ev) => ∃ v, cs = [v] ∧ Sl REv 5 w v l ∧ l.length ≤ 9223372036854775807) :=
  gives_slice Try.underlying45 (show Try.prog.cellsOf 55 = 5 from by kernel_rfl) (by omega) gives_event

/-- What a machine bears: no list has more elements than an index can name. -/
def TopPr (x : Pr) : Prop := x.vars.length ≤ 9223372036854775807 ∧ x.events.length ≤ 9223372036854775807
set_option maxRecDepth 100000 in
theorem gives_proc : Gives enc Try.prog w base spare held 47 (fun w cs (x : Pr) => RPr w cs x ∧ TopPr x) := by
  have hk1 : Try.prog.cellsOf 9 = 1 := by kernel_rfl
  have hk2 : Try.prog.cellsOf 44 = 1 := by kernel_rfl
  have hk3 : Try.prog.cellsOf 45 = 1 := by kernel_rfl
  intro fuel cs x h
  obtain ⟨xs, n, _, _, hl, hxl, hf⟩ := DataW.trod_struct Try.underlying47 h
  rw [show Try.prog.cellsOf 47 = 3 from by kernel_rfl] at hl
  have hxl3 : xs.length = 3 := hxl
  match cs, hl with
  | [c0, c1, c2], _ =>
    have h0 : DataW.trod enc Try.prog w base spare held n 9 (([c0, c1, c2].drop 0).take (Try.prog.cellsOf 9)) = xs[0]? := hf 0 _ rfl
    have h1 : DataW.trod enc Try.prog w base spare held n 44 (([c0, c1, c2].drop 1).take (Try.prog.cellsOf 44)) = xs[1]? := hf 1 _ rfl
    have h2 : DataW.trod enc Try.prog w base spare held n 45 (([c0, c1, c2].drop 2).take (Try.prog.cellsOf 45)) = xs[2]? := hf 2 _ rfl
    rw [hk1] at h0
    rw [hk2] at h1
    rw [hk3] at h2
    rw [List.getElem?_eq_getElem (by omega)] at h0 h1 h2
    simp only [List.drop_zero, List.drop_succ_cons, List.take_succ_cons, List.take_zero] at h0 h1 h2
    obtain ⟨s, e0⟩ := gives_str _ _ _ h0
    obtain ⟨vl, vv, e1, hv, hvl⟩ := gives_vars _ _ _ h1
    obtain ⟨el, ve, e2, he, hel⟩ := gives_events _ _ _ h2
    simp only [List.cons.injEq, and_true] at e0 e1 e2
    exact ⟨⟨s, vl, el⟩, ⟨vv, ve, by rw [e0, e1, e2], hv, he⟩, hvl, hel⟩
/-- No list of a trace has more elements than an index can name. -/
def TopTr (t : Tr) : Prop := t.length ≤ 9223372036854775807 ∧ ∀ p, p < t.length → TopPr t[p]!
set_option maxRecDepth 100000 in
theorem gives_trace : Gives enc Try.prog w base spare held 24 (fun w cs (t : Tr) => ∃ v, cs = [v] ∧ TrAt w v t ∧ TopTr t) := by
  have hk1 : Try.prog.cellsOf 22 = 1 := by kernel_rfl
  intro fuel cs x h
  obtain ⟨xs, n, _, _, hl, hxl, hf⟩ := DataW.trod_struct Try.underlying24 h
  rw [show Try.prog.cellsOf 24 = 1 from by kernel_rfl] at hl
  have hxl3 : xs.length = 1 := hxl
  match cs, hl with
  | [c0], _ =>
    have h0 : DataW.trod enc Try.prog w base spare held n 22 (([c0].drop 0).take (Try.prog.cellsOf 22)) = xs[0]? := hf 0 _ rfl
    rw [hk1, List.getElem?_eq_getElem (by omega)] at h0
    simp only [List.drop_zero, List.take_succ_cons, List.take_zero] at h0
    obtain ⟨l, v, e0, hs, hl⟩ := gives_slice Try.underlying22 (show Try.prog.cellsOf 47 = 3 from by kernel_rfl) (by omega) gives_proc _ _ _ h0
    simp only [List.cons.injEq, and_true] at e0
    refine ⟨l, v, by rw [e0], ?_, hl, fun p hp => ?_⟩
    · obtain ⟨a, c, rfl, hlc, h⟩ := hs
      refine ⟨a, c, rfl, hlc, fun hl => ?_⟩
      obtain ⟨b, off, rfl, hb, hc⟩ := h hl
      refine ⟨b, off, rfl, hb, fun i hi => ?_⟩
      obtain ⟨vs, h1, ⟨h2, _⟩, h3⟩ := hc i hi
      exact ⟨vs, h1, h2, h3⟩
    · obtain ⟨a, c, rfl, hlc, h⟩ := hs
      obtain ⟨b, off, rfl, hb, hc⟩ := h (by rintro rfl; simp at hp)
      obtain ⟨vs, h1, ⟨_, h2⟩, h3⟩ := hc p hp
      exact h2

end
end Go.Proofs.Ytfcpnggdpaeldaa
