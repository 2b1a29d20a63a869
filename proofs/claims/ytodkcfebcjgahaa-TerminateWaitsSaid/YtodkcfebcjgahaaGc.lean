import Derived.Test.YtodkcfebcjgahaaBase
import Derived.Test.YtodkcfebcjgahaaProg
import Derived.Test.YtodkcfebcjgahaaGb
import Derived.Test.YtodkcfebcjgahaaGarbM
import Derived.Test.YtodkcfebcjgahaaGarR
import Derived.BigQuiet
import Derived.Deep.QuietTactic
import Derived.Deep.LoopGhost
import Derived.Shelf.Abstract
/-
  The reference's Garbage.
-/
namespace Go.Proofs.Ytodkcfebcjgahaa
open Go.RowKit
set_option linter.unusedVariables false

theorem bcell {w : World} {base br N : Nat} {M : List Bool} (h : Row w base 4 1 (.slice (some ⟨br, 0, none⟩) N N) N (M.map Value.bool)) (hM : M.length = N) (Y : Nat) (hY : Y < N) : w.cell? ⟨br, Y, none⟩ = some (.bool M[Y]!) := by
  have := h.cell Y (by omega)
  rw [Nat.zero_add] at this
  rw [this, List.getElem?_map, List.getElem?_eq_getElem (by omega), getElem!_pos M Y (by omega)]; rfl
theorem marksTo_all (N : Nat) (s : List Int) : marksTo N s s.length = marksOf N s := by unfold marksTo; rw [List.take_length]

theorem enters_15 : ∀ args w, (callFunc 15 args).run Try.prog w = .ok (.enter 15 args) w := enters_of Try.func15 (by kernel_rfl) rfl
set_option maxHeartbeats 8000000 in
set_option maxRecDepth 100000 in
theorem gbR_good (u v : Value) (refs : List (Int × Int)) (roots : List Int) (N : Nat) (w : World) (hu : Sl RPair 2 w u refs) (hv : Ints w v roots) (hr : refs.length ≤ 1000000) (ht : roots.length ≤ 1000000) (hN : N ≤ 512) (ok : GOk refs roots N) :
    Calls Try.prog 15 #[u, v, .int .i64 N] w fun e w' => ∃ v', e = .returned (.tuple #[v', .bool true]) ∧ Ext w w' ∧
      RowD w' w.heap.size v' (gaps (sees refs (marksOf N roots) N) N) := by
  have HU := Lib.hid hu
  have HV := Lib.hid hv
  have OKR := Lib.hid ok.1
  have OKF := Lib.hid ok.2
  obtain ⟨ib, bi, bz0, bz1, bz2⟩ := info_partsW info_bool
  obtain ⟨ii, hii, iz0, iz1, iz2⟩ := info_partsW info_intW
  obtain ⟨ua, uc, rfl, huc⟩ := hu.sh
  obtain ⟨va, vc, rfl, _, _⟩ := hv
  obtain ⟨F, hF⟩ : ∃ F, refs.length = F := ⟨_, rfl⟩
  have HF := Lib.hid hF
  obtain ⟨T, hT⟩ : ∃ T, roots.length = T := ⟨_, rfl⟩
  have HT := Lib.hid hT
  rw [hF] at HU hr ⊢
  rw [hT] at HV ht ⊢
  have hNz : ¬ (N : Int) < 0 := by omega
  have hNy : ¬ (512 : Int) < (N : Int) := by omega
  have HSZ : Hid (w.heap.size ≤ w.heap.size) := Lib.hid (Nat.le_refl _)
  clear hu ok huc hF hT
  go_enter Try.func15, Try.ntmps15
  go_wp2_with ((at_make; refine wpList_make_full _ rfl _ _ 49 rfl w.heap.size 4 ib (.bool false) 1 Try.underlying49 bi bz0 bz1 .i64 .i64 _ _ N rfl rfl rfl rfl (by rw [bz2]; omega) (by unfold maxLen; omega) HSZ.out ?_; intro w3 hown3 hgrow3))
  have HB3 := Lib.hid (show Row w3 w.heap.size 4 1 (.slice (some ⟨w.heap.size, 0, none⟩) N N) N ((marksTo N roots 0).map Value.bool) from by
    have := Row.ofOwns hown3
    rw [show (Value.bool false).cells = #[.bool false] from rfl, Nat.mul_one, toList_madeCells_one] at this
    have e : marksTo N roots 0 = List.replicate N false := List.ext_getElem (by simp [marksTo, marksOf_len]) fun i h1 h2 => by simp [marksTo, marksOf]
    rw [e, List.map_replicate]; exact this)
  have HE3 := Lib.hid ((Ext.rf w).gr hgrow3 (by simp))
  have hbr : w.heap.size ≤ w.heap.size := Nat.le_refl _
  clear hown3 hgrow3
  obtain ⟨br, hbre⟩ : ∃ br, w.heap.size = br := ⟨_, rfl⟩
  rw [hbre] at HB3 hbr ⊢
  go_wp2
  go_loopg [9] T (fun g s9 wr => ∃ k : Nat, k ≤ T ∧ T - k ≤ g ∧ s9 = .int .i64 k ∧ Aside (Ext w wr) ∧ Aside (Row wr br 4 1 (.slice (some ⟨br, 0, none⟩) N N) N ((marksTo N roots k).map Value.bool)))
  case atStart => exact ⟨0, Nat.zero_le _, by omega, rfl, (show Ext _ _ from HE3.out), (show Row _ _ _ _ _ _ _ from HB3.out)⟩
  case round =>
    obtain ⟨k, hk, hg, rfl, HX, HB⟩ := hrel
    by_cases hlt : k < T
    case pos =>
      have hltz : (k : Int) < (T : Int) := by omega
      have hkz : (0 : Int) ≤ (k : Int) := by omega
      have hkT : k < roots.length := by rw [HT.out]; exact hlt
      obtain ⟨b, o, rfl, _, hcell⟩ := ints_atW HV.out k hkT
      have d0 := HX.out.cl hcell
      have hok := OKR.out roots[k]! (mem_at roots k hkT)
      have MS := Lib.hid (fun (Y : Nat) (hY : roots[k]! = (Y : Int)) (hYN : Y < N) => marksTo_step (N := N) (s := roots) (k := k) hkT hY hYN)
      generalize roots[k]! = y at *
      obtain ⟨Y, rfl⟩ : ∃ Y : Nat, y = (Y : Int) := ⟨y.toNat, by omega⟩
      have hYN : Y < N := by omega
      have hY0 : ¬ (Y : Int) < 0 := by omega
      have hY1 : ¬ (N : Int) ≤ (Y : Int) := by omega
      have hm := bcell HB.out (by unfold marksTo; exact marksOf_len _ _) Y hYN
      have hfr : wr.frozen? ⟨br, Y, none⟩ = false := HB.out.free Y
      have HSt := Lib.hid (HB.out.set Y (.bool true) (by omega))
      rw [Nat.zero_add, ← List.map_set, MS.out Y rfl hYN] at HSt
      generalize (marksTo N roots k)[Y]! = m0 at *
      have HX2 := Lib.hid (HX.out.st (p := ⟨br, Y, none⟩) (show w.heap.size ≤ br by omega) (.bool true))
      clear hcell hok MS hkT
      go_wp2
      go_roundg (T - (k + 1))
      case measure => exact Nat.lt_of_lt_of_le (Nat.sub_lt_sub_left hlt (Nat.lt_succ_self k)) hg
      case rel => exact ⟨k + 1, by omega, by omega, by go_num, (show Ext _ _ from HX2.out), (show Row _ _ _ _ _ _ _ from HSt.out)⟩
    case neg =>
      have hltz : ¬ (k : Int) < (T : Int) := by omega
      obtain rfl : T = k := by omega
      have HM := Lib.hid (show Row wr br 4 1 (.slice (some ⟨br, 0, none⟩) N N) N ((marksOf N roots).map Value.bool) from by
        have := HB.out
        rw [← HT.out, marksTo_all] at this; exact this)
      clear HB
      obtain ⟨w8, rfl⟩ : ∃ x, x = wr := ⟨_, rfl⟩
      go_wp2
      go_loopg [10] F (fun g s10 wx => wx = w8 ∧ ∃ k : Nat, k ≤ F ∧ F - k ≤ g ∧ s10 = .int .i64 k)
      case atStart => exact ⟨rfl, 0, Nat.zero_le _, by omega, rfl⟩
      case round =>
        obtain ⟨rfl, k, hk, hg, rfl⟩ := hrel
        by_cases hlt : k < F
        case pos =>
          have hltz : (k : Int) < (F : Int) := by omega
          have hkz : (0 : Int) ≤ (k : Int) := by omega
          obtain ⟨WB, WO, WC, vs, hve, hlC, hB, hl3, hR, hcells⟩ := Sl.cellsOf HU.out k (by rw [HF.out]; exact hlt)
          simp only [Value.slice.injEq] at hve
          obtain ⟨rfl, hzz, rfl⟩ := hve
          obtain rfl : vs = _ := hR
          have hok := OKF.out refs[k]! (mem_at refs k (by rw [HF.out]; exact hlt))
          have w0 := HX.out.cl (hcells 0 (by omega))
          have w1 := HX.out.cl (hcells 1 (by omega))
          simp only [List.getElem!_cons_zero, List.getElem!_cons_succ, Nat.add_zero] at w0 w1
          generalize refs[k]! = rk at *
          obtain ⟨a, b⟩ := rk
          simp only at hok w0 w1
          obtain ⟨⟨ha0, ha1⟩, hb0, hb1⟩ := hok
          have ha2 : ¬ a < 0 := by omega
          have hb2 : ¬ b < 0 := by omega
          have ha3 : ¬ (N : Int) ≤ a := by omega
          have hb3 : ¬ (N : Int) ≤ b := by omega
          clear hcells hzz
          go_wp2
          go_roundg (F - (k + 1))
          case measure => exact Nat.lt_of_lt_of_le (Nat.sub_lt_sub_left hlt (Nat.lt_succ_self k)) hg
          case rel => exact ⟨rfl, k + 1, by omega, by omega, by go_num⟩
        case neg =>
          have hltz : ¬ (k : Int) < (F : Int) := by omega
          obtain rfl : F = k := by omega
          have HM0 := Lib.hid (show Row _ br 4 1 (.slice (some ⟨br, 0, none⟩) N N) N ((sees refs (marksOf N roots) 0).map Value.bool) from HM.out)
          have HSL := Lib.hid (fun r => (sees_len refs (marksOf N roots) r).trans (marksOf_len N roots))
          have HNX := Lib.hid (fun r => (show sees refs (marksOf N roots) (r + 1) = seeTo refs (sees refs (marksOf N roots) r) refs.length from rfl))
          generalize hM0 : marksOf N roots = M0 at *
          have HM0E := Lib.hid hM0
          clear hM0
          clear HM
          go_wp2
          go_loopg [11, 12] N (fun g s11 _ wr => ∃ r : Nat, r ≤ N ∧ N - r ≤ g ∧ s11 = .int .i64 r ∧ Aside (Ext w wr) ∧ Aside (Row wr br 4 1 (.slice (some ⟨br, 0, none⟩) N N) N ((sees refs M0 r).map Value.bool)))
          case atStart => exact ⟨0, Nat.zero_le _, by omega, rfl, (show Ext _ _ from HX.out), (show Row _ _ _ _ _ _ _ from HM0.out)⟩
          case round =>
            obtain ⟨r, hr, hg, rfl, HXR, HBR⟩ := hrel
            clear HX HM0
            by_cases hlt : r < N
            case pos =>
              have hltz : (r : Int) < (N : Int) := by omega
              have HB0 := Lib.hid (show Row wr br 4 1 (.slice (some ⟨br, 0, none⟩) N N) N ((seeTo refs (sees refs M0 r) 0).map Value.bool) from HBR.out)
              have HNXR := Lib.hid (HNX.out r)
              have hSL := HSL.out r
              generalize sees refs M0 r = S at *
              go_wp2
              go_loopg [12] F (fun g s12 wr => ∃ k : Nat, k ≤ F ∧ F - k ≤ g ∧ s12 = .int .i64 k ∧ Aside (Ext w wr) ∧ Aside (Row wr br 4 1 (.slice (some ⟨br, 0, none⟩) N N) N ((seeTo refs S k).map Value.bool)))
              case atStart => exact ⟨0, Nat.zero_le _, by omega, rfl, (show Ext _ _ from HXR.out), (show Row _ _ _ _ _ _ _ from HB0.out)⟩
              case round =>
                obtain ⟨k, hk, hg2, rfl, HX, HB⟩ := hrel
                by_cases hlt2 : k < F
                case pos =>
                  have hltz2 : (k : Int) < (F : Int) := by omega
                  have hkz : (0 : Int) ≤ (k : Int) := by omega
                  obtain ⟨WB, WO, WC, vs, hve, hlC, hB, hl3, hR, hcells⟩ := Sl.cellsOf HU.out k (by rw [HF.out]; exact hlt2)
                  simp only [Value.slice.injEq] at hve
                  obtain ⟨rfl, hzz, rfl⟩ := hve
                  obtain rfl : vs = _ := hR
                  have hok := OKF.out refs[k]! (mem_at refs k (by rw [HF.out]; exact hlt2))
                  have w0 := HX.out.cl (hcells 0 (by omega))
                  have w1 := HX.out.cl (hcells 1 (by omega))
                  simp only [List.getElem!_cons_zero, List.getElem!_cons_succ, Nat.add_zero] at w0 w1
                  have HSE := Lib.hid (seeTo_succ refs S k (by rw [HF.out]; exact hlt2))
                  have hTL : (seeTo refs S k).length = N := (seeTo_len refs S k).trans hSL
                  generalize refs[k]! = rk at *
                  obtain ⟨a, b⟩ := rk
                  simp only at hok w0 w1
                  obtain ⟨⟨ha0, ha1⟩, hb0, hb1⟩ := hok
                  obtain ⟨A, rfl⟩ : ∃ A : Nat, a = (A : Int) := ⟨a.toNat, by omega⟩
                  obtain ⟨B, rfl⟩ : ∃ B : Nat, b = (B : Int) := ⟨b.toNat, by omega⟩
                  have hAN : A < N := by omega
                  have hBN : B < N := by omega
                  have ma := bcell HB.out hTL A hAN
                  have mb := bcell HB.out hTL B hBN
                  have hfr : wr.frozen? ⟨br, B, none⟩ = false := HB.out.free B
                  have HSt := Lib.hid (HB.out.set B (.bool true) (by omega))
                  rw [Nat.zero_add, ← List.map_set] at HSt
                  have HB2 := Lib.hid HB.out
                  unfold see1 at HSE
                  simp only [Int.toNat_natCast] at HSE
                  obtain ⟨S2, hS2⟩ : ∃ x, seeTo refs S (k + 1) = x := ⟨_, rfl⟩
                  have HS2 := Lib.hid hS2
                  rw [hS2] at HSE
                  clear hS2
                  generalize seeTo refs S k = S1 at *
                  generalize S1[B]! = m0 at *
                  have HX2 := Lib.hid (HX.out.st (p := ⟨br, B, none⟩) (show w.heap.size ≤ br by omega) (.bool true))
                  clear hcells hzz ha0 ha1 hb0 hb1
                  obtain ⟨ba, hba⟩ : ∃ x, S1[A]! = x := ⟨_, rfl⟩
                  rw [hba] at ma HSE
                  clear hba
                  cases ba with
                  | true =>
                    have e : S2 = S1.set B true := by rw [HSE.out]; rfl
                    have HE := Lib.hid e
                    clear e
                    go_wp2
                    go_roundg (F - (k + 1))
                    case measure => exact Nat.lt_of_lt_of_le (Nat.sub_lt_sub_left hlt2 (Nat.lt_succ_self k)) hg2
                    case rel => exact ⟨k + 1, by omega, by omega, by go_num, (show Ext _ _ from HX2.out), (show Row _ _ _ _ _ _ _ from by rw [HS2.out, HE.out]; exact HSt.out)⟩
                  | false =>
                    have e : S2 = S1 := by rw [HSE.out]; rfl
                    have HE := Lib.hid e
                    clear e
                    go_wp2
                    go_roundg (F - (k + 1))
                    case measure => exact Nat.lt_of_lt_of_le (Nat.sub_lt_sub_left hlt2 (Nat.lt_succ_self k)) hg2
                    case rel => exact ⟨k + 1, by omega, by omega, by go_num, (show Ext _ _ from HX.out), (show Row _ _ _ _ _ _ _ from by rw [HS2.out, HE.out]; exact HB2.out)⟩
                case neg =>
                  have hltz2 : ¬ (k : Int) < (F : Int) := by omega
                  obtain rfl : F = k := by omega
                  have HBN := Lib.hid (show Row wr br 4 1 (.slice (some ⟨br, 0, none⟩) N N) N ((sees refs M0 (r + 1)).map Value.bool) from by rw [HNXR.out, HF.out]; exact HB.out)
                  go_wp2
                  go_roundg (N - (r + 1))
                  case measure => exact Nat.lt_of_lt_of_le (Nat.sub_lt_sub_left hlt (Nat.lt_succ_self r)) hg
                  case rel => exact ⟨r + 1, by omega, by omega, by go_num, (show Ext _ _ from HX.out), (show Row _ _ _ _ _ _ _ from HBN.out)⟩
            case neg =>
              have hltz : ¬ (r : Int) < (N : Int) := by omega
              obtain rfl : N = r := by omega
              have hSL := HSL.out N
              generalize hME : sees refs M0 N = M at *
              have HME := Lib.hid hME
              clear hME
              clear HSL HNX HU HV OKR OKF
              go_wp2
              go_loopg [13, 14] N (fun g s13 s14 wr => ∃ k : Nat, k ≤ N ∧ N - k ≤ g ∧ s14 = .int .i64 k ∧ Aside (RowD wr br s13 (gaps M k)) ∧ Aside (Ext w wr) ∧ Aside (Row wr br 4 1 (.slice (some ⟨br, 0, none⟩) N N) N (M.map Value.bool)))
              case atStart => exact ⟨0, Nat.zero_le _, by omega, rfl, (show RowD _ _ _ _ from Row.mkNil _ _ _ _), (show Ext _ _ from HXR.out), (show Row _ _ _ _ _ _ _ from HBR.out)⟩
              case round =>
                obtain ⟨k, hk, hg, rfl, HG, HX, HB⟩ := hrel
                clear HXR HBR
                obtain ⟨ga, gc, rfl, _⟩ := HG.out.any
                have hgl := gaps_len M k
                obtain ⟨n, hn9⟩ : ∃ n, (gaps M k).length = n := ⟨_, rfl⟩
                have HNL := Lib.hid hn9
                have HG2 := Lib.hid HG.out
                rw [RowD, hn9] at HG2
                rw [hn9] at hgl ⊢
                by_cases hlt : k < N
                case pos =>
                  have hltz : (k : Int) < (N : Int) := by omega
                  have hkz : (0 : Int) ≤ (k : Int) := by omega
                  have mk := bcell HB.out hSL k hlt
                  obtain ⟨b, hb⟩ : ∃ b, M[k]! = b := ⟨_, rfl⟩
                  have HMK := Lib.hid hb
                  rw [hb] at mk
                  clear hn9 hb
                  cases b with
                  | true =>
                    go_wp2
                    go_roundg (N - (k + 1))
                    case measure => exact Nat.lt_of_lt_of_le (Nat.sub_lt_sub_left hlt (Nat.lt_succ_self k)) hg
                    case rel => exact ⟨k + 1, by omega, by omega, by go_num, (show RowD _ _ _ _ from by rw [gaps_no M k HMK.out, RowD, HNL.out]; exact HG2.out), (show Ext _ _ from HX.out), (show Row _ _ _ _ _ _ _ from HB.out)⟩
                  | false =>
                    go_wp2_with ((at_builtin; go_loud (refine wpList_append_one rfl _ _ 26 rfl br 3 ii (.int .i64 0) 1 8 Try.underlying26 hii iz0 iz1 iz2 rfl (by decide) _ n ((gaps M k).map (Value.int .i64)) rfl (HG2.out.al _) wr.heap.size 1 [.int .i64 (k : Int)] rfl rfl ⟨_, heap_alloc_new _ _⟩ (by simp [Value.oneCell']) (by unfold maxLen; omega) (by omega) (by rw [← hbre]; exact (HX.out.al _).sz) ?_; intro v8 w8 hown8 hgrow8 hblk8; obtain ⟨a8, c8, rfl, _⟩ := hown8.any; have HOWN := Lib.hid hown8; have HX8 := Lib.hid ((HX.out.al (.cells #[.int .i64 (k : Int)] 3)).gr hgrow8 (fun q hq => (show w.heap.size ≤ q by rw [hbre]; exact (HG2.out.lt q hq).1))); have HB8 := Lib.hid ((HB.out.al (.cells #[.int .i64 (k : Int)] 3)).grown hgrow8 (HB.out.apart HG2.out (by decide))); clear hown8 hgrow8 hblk8)))
                    go_roundg (N - (k + 1))
                    case measure => exact Nat.lt_of_lt_of_le (Nat.sub_lt_sub_left hlt (Nat.lt_succ_self k)) hg
                    case rel => exact ⟨k + 1, by omega, by omega, by go_num, (show RowD _ _ _ _ from by rw [gaps_yes M k HMK.out, RowD, List.length_append, HNL.out, List.length_singleton, List.map_append]; exact HOWN.out), (show Ext _ _ from HX8.out), (show Row _ _ _ _ _ _ _ from HB8.out)⟩
                case neg =>
                  have hltz : ¬ (k : Int) < (N : Int) := by omega
                  obtain rfl : N = k := by omega
                  have HGN := Lib.hid (show RowD wr br (.slice ga n gc) (gaps M N) from by rw [RowD, HNL.out]; exact HG2.out)
                  clear hn9
                  go_wp2
                  go_ret2
                  exact ⟨_, rfl, HX.out, by rw [HM0E.out, HME.out]; exact HGN.out⟩

end Go.Proofs.Ytodkcfebcjgahaa

/-
  The reference's Garbage, where an argument is out of range.
-/
namespace Go.Proofs.Ytodkcfebcjgahaa
open Go.RowKit
set_option linter.unusedVariables false

theorem garb_fine {refs : List (Int × Int)} {roots : List Int} {N : Nat} (h0 : N ≤ 512) (h1 : ∀ j, j < roots.length → outB (N : Int) roots[j]! = false) (h2 : ∀ j, j < refs.length → (outB (N : Int) refs[j]!.1 || outB (N : Int) refs[j]!.2) = false) : garbBad refs roots (N : Int) = false := by
  have a : roots.any (outB (N : Int)) = false := List.any_eq_false.2 fun x hx => by
    obtain ⟨j, hj, rfl⟩ := List.getElem_of_mem hx
    have := h1 j hj
    rw [getElem!_pos roots j hj] at this
    rw [this]; simp
  have b : refs.any (fun r => outB (N : Int) r.1 || outB (N : Int) r.2) = false := List.any_eq_false.2 fun x hx => by
    obtain ⟨j, hj, rfl⟩ := List.getElem_of_mem hx
    have := h2 j hj
    rw [getElem!_pos refs j hj] at this
    rw [this]; simp
  unfold garbBad
  rw [a, b, decide_eq_false (show ¬ (N : Int) < 0 by omega), decide_eq_false (show ¬ (512 : Int) < (N : Int) by omega)]; rfl

set_option maxHeartbeats 8000000 in
set_option maxRecDepth 100000 in
theorem gbR_in (u v : Value) (refs : List (Int × Int)) (roots : List Int) (N : Nat) (w : World) (hu : Sl RPair 2 w u refs) (hv : Ints w v roots) (hr : refs.length ≤ 1000000) (ht : roots.length ≤ 1000000) (hN : N ≤ 512) (hbad : garbBad refs roots (N : Int) = true) :
    Calls Try.prog 15 #[u, v, .int .i64 N] w fun e w' => e = .returned (.tuple #[.slice none 0 0, .bool false]) ∧ Ext w w' := by
  have HU := Lib.hid hu
  have HV := Lib.hid hv
  have BAD := Lib.hid hbad
  have FINE := Lib.hid (fun h1 h2 => garb_fine (refs := refs) (roots := roots) (N := N) hN h1 h2)
  obtain ⟨ib, bi, bz0, bz1, bz2⟩ := info_partsW info_bool
  obtain ⟨ii, hii, iz0, iz1, iz2⟩ := info_partsW info_intW
  obtain ⟨ua, uc, rfl, huc⟩ := hu.sh
  obtain ⟨va, vc, rfl, _, _⟩ := hv
  obtain ⟨F, hF⟩ : ∃ F, refs.length = F := ⟨_, rfl⟩
  have HF := Lib.hid hF
  obtain ⟨T, hT⟩ : ∃ T, roots.length = T := ⟨_, rfl⟩
  have HT := Lib.hid hT
  rw [hF] at HU hr ⊢
  rw [hT] at HV ht ⊢
  have hNz : ¬ (N : Int) < 0 := by omega
  have hNy : ¬ (512 : Int) < (N : Int) := by omega
  have HSZ : Hid (w.heap.size ≤ w.heap.size) := Lib.hid (Nat.le_refl _)
  clear hu hbad huc hF hT
  go_enter Try.func15, Try.ntmps15
  go_wp2_with ((at_make; refine wpList_make_full _ rfl _ _ 49 rfl w.heap.size 4 ib (.bool false) 1 Try.underlying49 bi bz0 bz1 .i64 .i64 _ _ N rfl rfl rfl rfl (by rw [bz2]; omega) (by unfold maxLen; omega) HSZ.out ?_; intro w3 hown3 hgrow3))
  have HB3 := Lib.hid (show Row w3 w.heap.size 4 1 (.slice (some ⟨w.heap.size, 0, none⟩) N N) N ((marksTo N roots 0).map Value.bool) from by
    have := Row.ofOwns hown3
    rw [show (Value.bool false).cells = #[.bool false] from rfl, Nat.mul_one, toList_madeCells_one] at this
    have e : marksTo N roots 0 = List.replicate N false := List.ext_getElem (by simp [marksTo, marksOf_len]) fun i h1 h2 => by simp [marksTo, marksOf]
    rw [e, List.map_replicate]; exact this)
  have HE3 := Lib.hid ((Ext.rf w).gr hgrow3 (by simp))
  have hbr : w.heap.size ≤ w.heap.size := Nat.le_refl _
  clear hown3 hgrow3
  obtain ⟨br, hbre⟩ : ∃ br, w.heap.size = br := ⟨_, rfl⟩
  rw [hbre] at HB3 hbr ⊢
  go_wp2
  go_loopg [9] T (fun g s9 wr => ∃ k : Nat, k ≤ T ∧ T - k ≤ g ∧ s9 = .int .i64 k ∧ Aside (∀ j, j < k → outB (N : Int) roots[j]! = false) ∧ Aside (Ext w wr) ∧ Aside (Row wr br 4 1 (.slice (some ⟨br, 0, none⟩) N N) N ((marksTo N roots k).map Value.bool)))
  case atStart => exact ⟨0, Nat.zero_le _, by omega, rfl, (show Aside _ from fun j hj => absurd hj (Nat.not_lt_zero _)), (show Ext _ _ from HE3.out), (show Row _ _ _ _ _ _ _ from HB3.out)⟩
  case round =>
    obtain ⟨k, hk, hg, rfl, HA, HX, HB⟩ := hrel
    by_cases hlt : k < T
    case pos =>
      have hltz : (k : Int) < (T : Int) := by omega
      have hkz : (0 : Int) ≤ (k : Int) := by omega
      have hkT : k < roots.length := by rw [HT.out]; exact hlt
      obtain ⟨b, o, rfl, _, hcell⟩ := ints_atW HV.out k hkT
      have d0 := HX.out.cl hcell
      have HA2 := Lib.hid (fun (h : outB (N : Int) roots[k]! = false) => (show ∀ j, j < k + 1 → outB (N : Int) roots[j]! = false from fun j hj => by
        by_cases e : j = k
        · subst e; exact h
        · exact HA.out j (by omega)))
      have MS := Lib.hid (fun (Y : Nat) (hY : roots[k]! = (Y : Int)) (hYN : Y < N) => marksTo_step (N := N) (s := roots) (k := k) hkT hY hYN)
      generalize roots[k]! = y at *
      by_cases hb1 : y < 0
      · go_wp2
        go_ret2
        exact ⟨rfl, HX.out⟩
      by_cases hb2 : (N : Int) ≤ y
      · go_wp2
        go_ret2
        exact ⟨rfl, HX.out⟩
      have HA3 := Lib.hid (HA2.out (by unfold outB; rw [decide_eq_false hb1, decide_eq_false hb2]; rfl))
      clear HA2
      obtain ⟨Y, rfl⟩ : ∃ Y : Nat, y = (Y : Int) := ⟨y.toNat, by omega⟩
      have hYN : Y < N := by omega
      have hY0 : ¬ (Y : Int) < 0 := by omega
      have hY1 : ¬ (N : Int) ≤ (Y : Int) := by omega
      have hm := bcell HB.out (by unfold marksTo; exact marksOf_len _ _) Y hYN
      have hfr : wr.frozen? ⟨br, Y, none⟩ = false := HB.out.free Y
      have HSt := Lib.hid (HB.out.set Y (.bool true) (by omega))
      rw [Nat.zero_add, ← List.map_set, MS.out Y rfl hYN] at HSt
      generalize (marksTo N roots k)[Y]! = m0 at *
      have HX2 := Lib.hid (HX.out.st (p := ⟨br, Y, none⟩) (show w.heap.size ≤ br by omega) (.bool true))
      clear hcell MS hkT
      go_wp2
      go_roundg (T - (k + 1))
      case measure => exact Nat.lt_of_lt_of_le (Nat.sub_lt_sub_left hlt (Nat.lt_succ_self k)) hg
      case rel => exact ⟨k + 1, by omega, by omega, by go_num, (show Aside _ from HA3.out), (show Ext _ _ from HX2.out), (show Row _ _ _ _ _ _ _ from HSt.out)⟩
    case neg =>
      have hltz : ¬ (k : Int) < (T : Int) := by omega
      obtain rfl : T = k := by omega
      clear HB
      obtain ⟨w8, rfl⟩ : ∃ x, x = wr := ⟨_, rfl⟩
      go_wp2
      go_loopg [10] F (fun g s10 wx => wx = w8 ∧ ∃ k : Nat, k ≤ F ∧ F - k ≤ g ∧ s10 = .int .i64 k ∧ Aside (∀ j, j < k → (outB (N : Int) refs[j]!.1 || outB (N : Int) refs[j]!.2) = false))
      case atStart => exact ⟨rfl, 0, Nat.zero_le _, by omega, rfl, (show Aside _ from fun j hj => absurd hj (Nat.not_lt_zero _))⟩
      case round =>
        obtain ⟨rfl, k, hk, hg, rfl, HC⟩ := hrel
        by_cases hlt : k < F
        case pos =>
          have hltz : (k : Int) < (F : Int) := by omega
          have hkz : (0 : Int) ≤ (k : Int) := by omega
          obtain ⟨WB, WO, WC, vs, hve, hlC, hB, hl3, hR, hcells⟩ := Sl.cellsOf HU.out k (by rw [HF.out]; exact hlt)
          simp only [Value.slice.injEq] at hve
          obtain ⟨rfl, hzz, rfl⟩ := hve
          obtain rfl : vs = _ := hR
          have HC2 := Lib.hid (fun (h : (outB (N : Int) refs[k]!.1 || outB (N : Int) refs[k]!.2) = false) => (show ∀ j, j < k + 1 → (outB (N : Int) refs[j]!.1 || outB (N : Int) refs[j]!.2) = false from fun j hj => by
            by_cases e : j = k
            · subst e; exact h
            · exact HC.out j (by omega)))
          have w0 := HX.out.cl (hcells 0 (by omega))
          have w1 := HX.out.cl (hcells 1 (by omega))
          simp only [List.getElem!_cons_zero, List.getElem!_cons_succ, Nat.add_zero] at w0 w1
          clear hcells hzz
          generalize refs[k]! = rk at *
          obtain ⟨a, b⟩ := rk
          simp only at w0 w1
          by_cases ha1 : a < 0
          · go_wp2
            go_ret2
            exact ⟨rfl, HX.out⟩
          by_cases ha2 : (N : Int) ≤ a
          · go_wp2
            go_ret2
            exact ⟨rfl, HX.out⟩
          by_cases hb1 : b < 0
          · go_wp2
            go_ret2
            exact ⟨rfl, HX.out⟩
          by_cases hb2 : (N : Int) ≤ b
          · go_wp2
            go_ret2
            exact ⟨rfl, HX.out⟩
          have HC3 := Lib.hid (HC2.out (by simp only; unfold outB; rw [decide_eq_false ha1, decide_eq_false ha2, decide_eq_false hb1, decide_eq_false hb2]; rfl))
          clear HC2
          go_wp2
          go_roundg (F - (k + 1))
          case measure => exact Nat.lt_of_lt_of_le (Nat.sub_lt_sub_left hlt (Nat.lt_succ_self k)) hg
          case rel => exact ⟨rfl, k + 1, by omega, by omega, by go_num, (show Aside _ from HC3.out)⟩
        case neg =>
          obtain rfl : F = k := by omega
          have := FINE.out (fun j hj => HA.out j (by rw [← HT.out]; exact hj)) (fun j hj => HC.out j (by rw [← HF.out]; exact hj))
          rw [BAD.out] at this
          cases this

set_option maxHeartbeats 1000000 in
theorem gbR_bad (u v : Value) (refs : List (Int × Int)) (roots : List Int) (n : Int) (w : World) (hu : Sl RPair 2 w u refs) (hv : Ints w v roots) (hr : refs.length ≤ 1000000) (ht : roots.length ≤ 1000000) (hbad : garbBad refs roots n = true) :
    Calls Try.prog 15 #[u, v, .int .i64 n] w fun e w' => e = .returned (.tuple #[.slice none 0 0, .bool false]) ∧ Ext w w' := by
  by_cases h1 : n < 0
  · clear hu hv hr ht hbad
    go_enter Try.func15, Try.ntmps15
    go_wp2
    go_ret2
    exact ⟨rfl, Ext.rf _⟩
  by_cases h2 : 512 < n
  · clear hu hv hr ht hbad
    go_enter Try.func15, Try.ntmps15
    go_wp2
    go_ret2
    exact ⟨rfl, Ext.rf _⟩
  obtain ⟨N, rfl⟩ : ∃ N : Nat, n = (N : Int) := ⟨n.toNat, by omega⟩
  exact gbR_in u v refs roots N w hu hv hr ht (by omega) hbad

end Go.Proofs.Ytodkcfebcjgahaa
