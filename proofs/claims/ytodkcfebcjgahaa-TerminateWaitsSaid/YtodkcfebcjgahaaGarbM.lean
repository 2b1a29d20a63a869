/-
  The walk of terminate.Garbage, the function.
-/
import Derived.Test.YtodkcfebcjgahaaBase
import Derived.Test.YtodkcfebcjgahaaProg
import Derived.BigQuiet
import Derived.Deep.QuietTactic
import Derived.Deep.LoopGhost
import Derived.Shelf.Abstract
import Derived.Test.YtodkcfebcjgahaaGarb
import Derived.Laws.EntriesVeiled
namespace Go.Proofs.Ytodkcfebcjgahaa
open Go.RowKit
set_option linter.unusedVariables false

/-- The two tests of the arguments, at a world in which the two captured variables lie. -/
theorem garbage_test1 (v : Value) (roots : List Int) (n : Int) (w : World) (hv : Ints w v roots) (ht : roots.length ≤ 1000000) :
    ∀ W, Ext w W → W.cell? ⟨w.heap.size, 0, none⟩ = some (.int .i64 n) → Calls Try.prog 10 #[v, .func (.func 30) #[] #[.pointer (some ⟨w.heap.size, 0, none⟩)]] W fun e w' => e = .returned (.bool (roots.any (outB n))) ∧ Ext W w' :=
  fun W hW hc => containsFunc_int _ _ enters_30 _ _ _ W (hv.ext hW) ht (garbage_says1 hc roots)
theorem garbage_test2 (u : Value) (refs : List (Int × Int)) (n : Int) (w : World) (hu : Sl RPair 2 w u refs) (hr : refs.length ≤ 1000000) :
    ∀ W, Ext w W → W.cell? ⟨w.heap.size, 0, none⟩ = some (.int .i64 n) → W.cell? ⟨w.heap.size + 1, 0, none⟩ = some (.func (.func 30) #[] #[.pointer (some ⟨w.heap.size, 0, none⟩)]) →
      Calls Try.prog 31 #[u, .func (.func 32) #[] #[.pointer (some ⟨w.heap.size + 1, 0, none⟩)]] W fun e w' => e = .returned (.bool (refs.any (fun r => outB n r.1 || outB n r.2))) ∧ Ext W w' :=
  fun W hW hc ho => containsFunc_pair RPair rpair_lasts _ _ enters_32 _ _ _ W (hu.ext rpair_lasts hW) hr (garbage_says2 hc ho refs)

set_option maxHeartbeats 1000000 in
theorem garbage_bad (u v : Value) (refs : List (Int × Int)) (roots : List Int) (n : Int) (w : World) (hu : Sl RPair 2 w u refs) (hv : Ints w v roots)
    (hr : refs.length ≤ 1000000) (ht : roots.length ≤ 1000000) (hbad : garbBad refs roots n = true) :
    Calls Try.prog 14 #[u, v, .int .i64 n] w fun e w' => e = .returned (.tuple #[.slice none 0 0, .int .i64 2]) ∧ Ext w w' := by
  have T1 := Lib.hid (garbage_test1 v roots n w hv ht); clear hv ht
  have T2 := Lib.hid (garbage_test2 u refs n w hu hr); clear hu hr
  have HB := Lib.hid hbad; clear hbad
  by_cases h1 : n < 0
  · go_enter Try.func14, Try.ntmps14
    go_wp2
    go_ret2
    exact ⟨rfl, ((Ext.rf _).al _).al _⟩
  by_cases h2 : 512 < n
  · go_enter Try.func14, Try.ntmps14
    go_wp2
    go_ret2
    exact ⟨rfl, ((Ext.rf _).al _).al _⟩
  cases h3 : roots.any (outB n) with
  | true =>
    have H3 := Lib.hid h3; clear h3
    go_enter Try.func14, Try.ntmps14
    go_wp2_with fail
    refine (T1.out _ (((Ext.rf _).al _).al _) (((Ext.rf _).al _).cl (cell_new _ _ _ _ _ rfl))).mono ?_
    rw [H3.out]
    rintro e w1 ⟨rfl, he1⟩
    have HE := Lib.hid ((((Ext.rf _).al _).al _).trans' he1); clear he1
    go_wp2
    go_ret2
    exact ⟨rfl, HE.out⟩
  | false =>
    have h4 : refs.any (fun r => outB n r.1 || outB n r.2) = true := by
      have := HB.out
      simp only [garbBad, h3, Bool.or_false, Bool.or_eq_true, decide_eq_true_eq] at this
      rcases this with (h | h) | h
      · exact absurd h h1
      · exact absurd h h2
      · exact h
    have H3 := Lib.hid h3; clear h3
    have H4 := Lib.hid h4; clear h4
    go_enter Try.func14, Try.ntmps14
    go_wp2_with fail
    refine (T1.out _ (((Ext.rf _).al _).al _) (((Ext.rf _).al _).cl (cell_new _ _ _ _ _ rfl))).mono ?_
    rw [H3.out]
    rintro e w1 ⟨rfl, he1⟩
    have c0 : w1.cell? ⟨w.heap.size, 0, none⟩ = some (.int .i64 n) := he1.cl (((Ext.rf _).al _).cl (cell_new _ _ _ _ _ rfl))
    have c1 : w1.cell? ⟨w.heap.size + 1, 0, none⟩ = some (.func (.func 30) #[] #[.pointer (some ⟨w.heap.size, 0, none⟩)]) := he1.cl (cell_new_eq (by simp) rfl)
    have HE := Lib.hid ((((Ext.rf _).al _).al _).trans' he1); clear he1
    go_wp2_with fail
    refine (T2.out _ HE.out c0 c1).mono ?_
    rw [H4.out]
    rintro e w2 ⟨rfl, he2⟩
    have HE2 := Lib.hid (HE.out.trans' he2); clear he2 c0 c1
    go_wp2
    go_ret2
    exact ⟨rfl, HE2.out⟩

theorem info_bool : (Try.prog.info? 4).map (fun i => (i.zero, i.size, i.bytes)) = some (some (.bool false), 1, 1) := by kernel_rfl

/-- What comes back: the places that are not reached, ascending, in a row of the call's own. -/
def GarbPost (refs : List (Int × Int)) (roots : List Int) (N : Nat) (w w' : World) (v' : Value) : Prop :=
  ∃ M, Row w' w.heap.size 3 1 v' (gaps M N).length ((gaps M N).map (Value.int .i64)) ∧ M.length = N ∧ ∀ i : Nat, i < N → (M[i]! = true ↔ Reach refs roots i)

set_option maxHeartbeats 4000000 in
set_option maxRecDepth 100000 in
theorem garbage_good (u v : Value) (refs : List (Int × Int)) (roots : List Int) (n : Int) (w : World) (hu : Sl RPair 2 w u refs) (hv : Ints w v roots)
    (hr : refs.length ≤ 1000) (ht : roots.length ≤ 1000) (hgood : garbBad refs roots n = false) :
    Calls Try.prog 14 #[u, v, .int .i64 n] w fun e w' => ∃ v', e = .returned (.tuple #[v', .int .i64 0]) ∧ Ext w w' ∧
      GarbPost refs roots n.toNat w w' v' := by
  have T1 := Lib.hid (garbage_test1 v roots n w hv (by omega))
  have T2 := Lib.hid (garbage_test2 u refs n w hu (by omega))
  obtain ⟨g1, g2, gok⟩ := garb_ok hgood
  have h3 : roots.any (outB n) = false := by simp only [garbBad, Bool.or_eq_false_iff] at hgood; exact hgood.1.2
  have h4 : refs.any (fun r => outB n r.1 || outB n r.2) = false := by simp only [garbBad, Bool.or_eq_false_iff] at hgood; exact hgood.2
  obtain ⟨N, rfl⟩ : ∃ N : Nat, n = (N : Int) := ⟨n.toNat, by omega⟩
  rw [Int.toNat_natCast] at gok
  rw [Int.toNat_natCast]
  have hN : N ≤ 512 := by omega
  have CL := Lib.hid (fun (W : World) (hW : Ext w W) => clone_int v roots.length (roots.map (Value.int .i64)) W (hv.cells.ext hW) (by intro x hx; obtain ⟨y, _, rfl⟩ := List.mem_map.1 hx; rfl) (by omega))
  have HU := Lib.hid hu
  have OK := Lib.hid gok
  have H3 := Lib.hid h3
  have H4 := Lib.hid h4
  obtain ⟨ib, bi, bz0, bz1, bz2⟩ := info_parts info_bool
  obtain ⟨ii, ni, nz0, nz1, nz2⟩ := info_parts info_int
  clear hu hv hgood gok h3 h4 g2
  go_enter Try.func14, Try.ntmps14
  go_wp2_with fail
  refine (T1.out _ (((Ext.rf _).al _).al _) (((Ext.rf _).al _).cl (cell_new _ _ _ _ _ rfl))).mono ?_
  rw [H3.out]
  rintro e w1 ⟨rfl, he1⟩
  have c0 : w1.cell? ⟨w.heap.size, 0, none⟩ = some (.int .i64 (N : Int)) := he1.cl (((Ext.rf _).al _).cl (cell_new _ _ _ _ _ rfl))
  have c1 : w1.cell? ⟨w.heap.size + 1, 0, none⟩ = some (.func (.func 30) #[] #[.pointer (some ⟨w.heap.size, 0, none⟩)]) := he1.cl (cell_new_eq (by simp) rfl)
  have HE := Lib.hid ((((Ext.rf _).al _).al _).trans' he1); clear he1
  go_wp2_with fail
  refine (T2.out _ HE.out c0 c1).mono ?_
  rw [H4.out]
  rintro e w2 ⟨rfl, he2⟩
  have c02 := he2.cl c0
  have HE2 := Lib.hid (HE.out.trans' he2); clear he2 c0 c1 T1 T2 H3 H4 HE
  go_wp2_with ((at_make; refine wpList_make_full _ rfl _ _ 49 rfl w.heap.size 4 ib (.bool false) 1 Try.underlying49 bi bz0 bz1 .i64 .i64 _ _ N rfl rfl rfl rfl (by rw [bz2]; omega) (by unfold maxLen; omega) HE2.out.sz ?_; intro w3 hown3 hgrow3))
  have HB3 := Lib.hid (show Row w3 w.heap.size 4 1 (.slice (some ⟨w2.heap.size, 0, none⟩) N N) N ((List.replicate N false).map Value.bool) from by
    have := Row.ofOwns hown3
    rw [show (Value.bool false).cells = #[.bool false] from rfl, Nat.mul_one, toList_madeCells_one] at this
    rw [List.map_replicate]; exact this)
  have HE3 := Lib.hid (HE2.out.gr hgrow3 (by simp))
  have HS3 := Lib.hid hgrow3.size
  have HS2 := Lib.hid HE2.out.sz
  have hbr : w.heap.size ≤ w2.heap.size := HE2.out.sz
  generalize w2.heap.size = br at *
  clear hown3 hgrow3 HE2 c02
  refine (CL.out _ HE3.out).mono ?_
  rintro e w4 ⟨v', rfl, hrow4, he4⟩
  have HR4 := Lib.hid (hrow4.mono HE3.out.sz)
  have HB4 := Lib.hid (HB3.out.ext he4)
  have HE4 := Lib.hid (HE3.out.trans' he4)
  clear hrow4 he4 HB3 HE3 CL HS3 HS2
  go_wp2
  go_loopg [10] (roots.length + N * (refs.length + 1)) (fun g v10 wr => ∃ (M : List Bool) (T : List Int), M.length = N ∧ T.length + unset M * (refs.length + 1) ≤ g ∧ T.length + unset M * (refs.length + 1) ≤ 514000 ∧
    Aside (Row wr w.heap.size 3 1 v10 T.length (T.map (Value.int .i64))) ∧ Aside (Row wr w.heap.size 4 1 (.slice (some ⟨br, 0, none⟩) N N) N (M.map Value.bool)) ∧ Ext w wr ∧ Aside (GInv refs roots N M T))
  case atStart =>
    refine ⟨List.replicate N false, roots, by simp, by rw [unset_replicate]; omega, ?_, HR4.out, HB4.out, HE4.out, ginv_start OK.out⟩
    rw [unset_replicate]
    have : N * (refs.length + 1) ≤ 512 * 1001 := Nat.mul_le_mul hN (by omega)
    omega
  case round =>
    obtain ⟨M, T, hM, hg, hgK, hT, hB, he, hI⟩ := hrel
    obtain ⟨wo, rfl⟩ : ∃ wo : World, wo = wr := ⟨_, rfl⟩
    have HE := Lib.hid he; clear he HE4 HB4 HR4
    cases T with
    | nil =>
      obtain ⟨a, c, rfl⟩ := hT.out.nil_of rfl
      clear hT
      go_wp2
      go_loopg [14, 79] N (fun g v14 s79 wr => ∃ k : Nat, k ≤ N ∧ N - k ≤ g ∧ s79 = .int .i64 k ∧ Aside (Row wr w.heap.size 3 1 v14 (gaps M k).length ((gaps M k).map (Value.int .i64))) ∧
        Aside (Row wr w.heap.size 4 1 (.slice (some ⟨br, 0, none⟩) N N) N (M.map Value.bool)) ∧ Ext w wr)
      case atStart => exact ⟨0, Nat.zero_le _, by omega, rfl, Row.mkNil _ _ _ _, hB.out, HE.out⟩
      case round =>
        obtain ⟨k, hk, hkg, rfl, hG, hB2, he2⟩ := hrel
        have HE2 := Lib.hid he2; clear he2
        by_cases hlt : k < N
        · have hltz : (k : Int) < (N : Int) := by omega
          have hcell : wr.cell? ⟨br, k, none⟩ = some (.bool M[k]!) := by
            have := hB2.out.cell k (by omega)
            rw [Nat.zero_add] at this
            rw [this, List.getElem?_map, List.getElem?_eq_getElem (by omega), getElem!_pos M k (by omega)]
            rfl
          have hgl := gaps_len M k
          cases hMk : M[k]! with
          | true =>
            have HM := Lib.hid hMk
            rw [hMk] at hcell
            clear hMk
            go_wp2
            go_roundg (N - (k + 1))
            case measure => omega
            case rel => exact ⟨k + 1, by omega, by omega, by go_num, by rw [gaps_no M k HM.out]; exact hG, hB2, HE2.out⟩
          | false =>
            have HM := Lib.hid hMk
            rw [hMk] at hcell
            clear hMk
            go_wp2_with ((at_builtin; refine wpList_append_one rfl _ _ 26 rfl w.heap.size 3 ii (.int .i64 0) 1 8 Try.underlying26 ni nz0 nz1 nz2 rfl (by decide) _ _ _ rfl (hG.out.al _) wr.heap.size 1 [.int .i64 k] rfl rfl ⟨_, heap_alloc_new _ _⟩ (by simp [Value.oneCell']) (by unfold maxLen; omega) (by omega) ((HE2.out).al _).sz ?_; intro v5 w5 hown5 hgrow5 hblk5))
            go_roundg (N - (k + 1))
            case measure => omega
            case rel =>
              refine ⟨k + 1, by omega, by omega, by go_num, ?_, ?_, ?_⟩
              · rw [gaps_yes M k HM.out, List.length_append, List.map_append]; exact hown5
              · exact (hB2.out.al _).grown hgrow5 (hB2.out.apart hG.out (by decide))
              · exact (HE2.out.al _).gr hgrow5 (fun k hk => (hG.out.lt k hk).1)
        · have hltz : ¬ (k : Int) < (N : Int) := by omega
          obtain rfl : k = N := by omega
          go_wp2
          go_ret2
          exact ⟨_, rfl, HE2.out, M, hG.out, hM, fun i hi => ginv_end OK.out hI.out i hi⟩
    | cons x T =>
      obtain ⟨x0, xN, _⟩ := hI.out.1 x (List.mem_cons_self)
      obtain ⟨X, rfl⟩ : ∃ X : Nat, x = (X : Int) := ⟨x.toNat, by omega⟩
      simp only [List.length_cons] at hg hgK hT
      obtain ⟨q, off, cap, rfl, hq1, hq2, hcap⟩ := hT.out.shape (by omega)
      have hx : wo.cell? ⟨q, off, none⟩ = some (.int .i64 (X : Int)) := by
        have := hT.out.cell 0 (by omega)
        rw [Nat.add_zero] at this
        rw [this]; rfl
      have hm : wo.cell? ⟨br, X, none⟩ = some (.bool M[X]!) := by
        have := hB.out.cell X (by omega)
        rw [Nat.zero_add] at this
        rw [this, List.getElem?_map, List.getElem?_eq_getElem (by omega), getElem!_pos M X (by omega)]
        rfl
      have htl := hT.out.tail
      have HT1 := Lib.hid htl.1
      have HT2 := Lib.hid htl.2
      clear htl
      have hXN : X < N := by omega
      cases hMX : M[X]! with
      | true =>
        have HM := Lib.hid hMX
        rw [hMX] at hm
        clear hMX
        by_cases hc1 : cap = 1
        · subst hc1
          obtain rfl : T = [] := List.eq_nil_of_length_eq_zero (by omega)
          simp only [List.length_nil] at hg hgK
          go_wp2
          go_roundg (unset M * (refs.length + 1))
          case measure => omega
          case rel => exact ⟨M, [], hM, by simp only [List.length_nil]; omega, by simp only [List.length_nil]; omega, HT2.out, hB, HE.out, ginv_met hI.out HM.out⟩
        · go_wp2
          go_roundg (T.length + unset M * (refs.length + 1))
          case measure => omega
          case rel => exact ⟨M, T, hM, by omega, by omega, HT1.out, hB, HE.out, ginv_met hI.out HM.out⟩
      | false =>
        have HM := Lib.hid hMX
        rw [hMX] at hm
        have hfr : wo.frozen? ⟨br, X, none⟩ = false := hB.out.free X
        have hun := unset_set M X (by omega) hMX
        have hml : unset M * (refs.length + 1) = unset (M.set X true) * (refs.length + 1) + (refs.length + 1) := by rw [hun, Nat.add_mul, Nat.one_mul]
        have HML := Lib.hid hml
        clear hMX hun hml
        -- the world behind the mark
        have hB' := hB.out.set X (.bool true) (by omega)
        rw [Nat.zero_add, ← List.map_set] at hB'
        have hne : (Value.slice (some ⟨q, off, none⟩) (T.length + 1) cap).ownBlock ≠ some br := by
          rcases hT.out.apart hB.out (by decide) with h | h
          · exact absurd h (by simp [Value.ownBlock])
          · exact h
        have HW := Lib.hid (HE.out.st (p := ⟨br, X, none⟩) hbr (.bool true))
        have HB' := Lib.hid hB'
        have HUr := Lib.hid (HU.out.ext rpair_lasts HW.out)
        obtain ⟨ua, uc, rfl, _, hua⟩ := HU.out
        have HUa := Lib.hid hua
        clear hua hB' HU HUr
        by_cases hc1 : cap = 1
        case' pos =>
          subst hc1
          obtain rfl : T = [] := List.eq_nil_of_length_eq_zero (by omega)
          have HT3 := Lib.hid (HT2.out.st (p := ⟨br, X, none⟩) (by simpa [Value.ownBlock] using hne) (.bool true))
          obtain ⟨T, hT0⟩ : ∃ T : List Int, T = [] := ⟨[], rfl⟩
          replace HT3 : Hid (Row (wo.setCell ⟨br, X, none⟩ (.bool true)) w.heap.size 3 1 (.slice (some ⟨q, off, none⟩) 0 0) T.length (List.drop 1 (List.map (Value.int .i64) ((X : Int) :: T)))) := by
            rw [hT0]; exact HT3
          rw [← hT0] at hg hgK hI
          clear hT0
        case' neg => have HT3 := Lib.hid (HT1.out.st (p := ⟨br, X, none⟩) (by simpa [Value.ownBlock] using hne) (.bool true))
        all_goals
          clear HT1 HT2 hB hT hne
          go_wp2
          go_loopg [10, 55] refs.length (fun g v10 s55 wr => ∃ k : Nat, k ≤ refs.length ∧ refs.length - k ≤ g ∧ s55 = .int .i64 k ∧
            Aside (Row wr w.heap.size 3 1 v10 (T.length + (pushed refs (M.set X true) X k).length) ((T ++ pushed refs (M.set X true) X k).map (Value.int .i64))) ∧
            Aside (Row wr w.heap.size 4 1 (.slice (some ⟨br, 0, none⟩) N N) N ((M.set X true).map Value.bool)) ∧ Ext w wr)
          case atStart => exact ⟨0, Nat.zero_le _, by omega, rfl, (show Row _ _ _ _ _ _ _ from by simpa [pushed] using HT3.out), HB'.out, HW.out⟩
          case round =>
            obtain ⟨k, hk, hkg, rfl, hT4, hB4, he4⟩ := hrel
            have HE4 := Lib.hid he4; clear he4
            have hpl := pushed_len refs (M.set X true) X k
            by_cases hlt : k < refs.length
            · have hltz : (k : Int) < (refs.length : Int) := by omega
              obtain ⟨b, o, rfl, hb, hc⟩ := HUa.out (by intro e; rw [e] at hlt; simp at hlt)
              obtain ⟨vs, hvs, hR, hcell⟩ := hc k hlt
              obtain rfl : vs = _ := hR
              have d0 : wr.cell? ⟨b, o + k * 2, none⟩ = some (.int .i64 refs[k]!.1) := HE4.out.cl (hcell 0 (by omega))
              have d1 : wr.cell? ⟨b, o + k * 2 + 1, none⟩ = some (.int .i64 refs[k]!.2) := HE4.out.cl (hcell 1 (by omega))
              clear hcell hc hvs
              obtain ⟨_, y0, yN⟩ := OK.out.2 _ (mem_at refs k hlt)
              generalize hre : refs[k]! = r at *
              obtain ⟨r1, r2⟩ := r
              simp only at d0 d1 y0 yN
              obtain ⟨Y, rfl⟩ : ∃ Y : Nat, r2 = (Y : Int) := ⟨r2.toNat, by omega⟩
              have hy : wr.cell? ⟨br, Y, none⟩ = some (.bool (M.set X true)[Y]!) := by
                have := hB4.out.cell Y (by omega)
                rw [Nat.zero_add] at this
                rw [this, List.getElem?_map, List.getElem?_eq_getElem (by rw [List.length_set]; omega), getElem!_pos _ Y (by rw [List.length_set]; omega)]
                rfl
              have hbrw : br < wr.heap.size := World.block_lt_of_cell? wr _ hy
              have HRE := Lib.hid hre
              clear hre
              cases h1 : (r1 == (X : Int)) with
              | false =>
                have H1 := Lib.hid h1
                go_wp2
                go_roundg (refs.length - (k + 1))
                case measure => omega
                case rel =>
                  have hp := pushed_no (M := M.set X true) (x := X) hlt (by rw [HRE.out]; simp only [H1.out, Bool.false_and])
                  exact ⟨k + 1, by omega, by omega, by go_num, by rw [hp]; exact (hT4.out.al _), hB4.out.al _, HE4.out.al _⟩
              | true =>
                have H1 := Lib.hid h1
                cases h2 : (M.set X true)[Y]! with
                | true =>
                  have H2 := Lib.hid h2
                  rw [h2] at hy
                  clear h2
                  go_wp2
                  go_roundg (refs.length - (k + 1))
                  case measure => omega
                  case rel =>
                    have hp := pushed_no (M := M.set X true) (x := X) hlt (by rw [HRE.out]; simp only [Int.toNat_natCast, H2.out, Bool.not_true, Bool.and_false])
                    exact ⟨k + 1, by omega, by omega, by go_num, by rw [hp]; exact (hT4.out.al _), hB4.out.al _, HE4.out.al _⟩
                | false =>
                  have H2 := Lib.hid h2
                  rw [h2] at hy
                  clear h2
                  go_wp2_with ((at_builtin; refine wpList_append_one rfl _ _ 26 rfl w.heap.size 3 ii (.int .i64 0) 1 8 Try.underlying26 ni nz0 nz1 nz2 rfl (by decide) _ _ _ rfl ((hT4.out.al _).al _) (wr.heap.size + 1) 1 [.int .i64 (Y : Int)] rfl rfl ⟨_, by simpa using heap_alloc_new (wr.alloc _) _⟩ (by simp [Value.oneCell']) (by unfold maxLen; omega) (by omega) ((HE4.out.al _).al _).sz ?_; intro v5 w5 hown5 hgrow5 hblk5))
                  go_roundg (refs.length - (k + 1))
                  case measure => omega
                  case rel =>
                    have hp := pushed_yes (M := M.set X true) (x := X) hlt (by rw [HRE.out]; exact H1.out) (by rw [HRE.out]; exact H2.out)
                    rw [HRE.out] at hp
                    refine ⟨k + 1, by omega, by omega, by go_num, ?_, ?_, ?_⟩
                    · rw [hp, List.length_append, ← List.append_assoc, List.map_append]
                      exact hown5
                    · exact ((hB4.out.al _).al _).grown hgrow5 (hB4.out.apart hT4.out (by decide))
                    · exact ((HE4.out.al _).al _).gr hgrow5 (fun k hk => (hT4.out.lt k hk).1)
            · have hltz : ¬ (k : Int) < (refs.length : Int) := by omega
              obtain rfl : k = refs.length := by omega
              go_wp2
              go_roundg (T.length + 1 + unset M * (refs.length + 1) - 1)
              case measure => omega
              case rel =>
                have := HML.out
                refine ⟨M.set X true, T ++ pushed refs (M.set X true) X refs.length, by simpa using hM, ?_, ?_, ?_, hB4, HE4.out, ginv_new OK.out hI.out hM HM.out⟩
                · rw [List.length_append]; omega
                · rw [List.length_append]; omega
                · rw [List.length_append]; exact hT4.out

end Go.Proofs.Ytodkcfebcjgahaa
