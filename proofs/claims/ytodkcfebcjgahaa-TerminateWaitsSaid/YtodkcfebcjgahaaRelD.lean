/-
  Relations: the least cycle.
-/
import Derived.Test.YtodkcfebcjgahaaBase
import Derived.Test.YtodkcfebcjgahaaProg
import Derived.BigQuiet
import Derived.Deep.QuietTactic
import Derived.Deep.LoopGhost
import Derived.Shelf.Abstract
import Derived.Test.YtodkcfebcjgahaaRelB
import Derived.Test.YtodkcfebcjgahaaRelC
import Derived.Test.YtodkcfebcjgahaaRelR
import Derived.BigRegion
import Derived.Laws.EntriesVeiled
import Derived.Deep.CutBlock
import Derived.Deep.DeepCutAuto
namespace Go.Proofs.Ytodkcfebcjgahaa
open Go.RowKit
set_option linter.unusedVariables false

theorem enters_48 : ∀ args w, (callFunc 48 args).run Try.prog w = .ok (.enter 48 args) w := enters_of Try.func48 (by kernel_rfl) rfl
abbrev RowN (w : World) (base : Nat) (v : Value) (l : List Nat) : Prop := Row w base 3 1 v l.length (l.map fun (x : Nat) => Value.int .i64 (x : Int))
abbrev RowZ (w : World) (base : Nat) (v : Value) (l : List Int) : Prop := Row w base 3 1 v l.length (l.map (Value.int .i64))
/-- What Cycle hands back. -/
def CycOut (M : List Nat) (w w' : World) (e : Ending) : Prop := ∃ v err, e = .returned (.tuple #[v, .int .i64 err]) ∧ Ext w w' ∧
  ((err = 7 ∧ v = .slice none 0 0 ∧ ∀ f, f < M.length → ¬ PathM M f f) ∨
   (err = 0 ∧ ∃ f S Q L l, PathM M f f ∧ (∀ g, g < f → ¬ PathM M g g) ∧ BfsM M f S Q L Q.length 0 ∧ LeastM M f f l ∧ RowN w' w.heap.size v (outTo M f S l l)))
/-- The search under way. -/
def CyI (w1 W : World) (M : List Nat) (f k i : Nat) (s7 s8 s9 : Value) (S : List Int) (Q : List Nat) (L : Int) : Prop :=
  RowZ W w1.heap.size s7 S ∧ RowN W w1.heap.size s8 Q ∧ s7.ownBlock ≠ s8.ownBlock ∧ s9 = .int .i64 L ∧ BfsM M f S Q L k i ∧ Ext w1 W

theorem dep_keep {S : List Int} {f i x : Nat} {u : Int} (hx : x ≠ i) : depM (S.set i u) f x = depM S f x := by
  unfold depM
  by_cases e : x = f
  · rw [if_pos e, if_pos e]
  · rw [if_neg e, if_neg e]
    by_cases hl : x < S.length
    · rw [getElem!_pos _ x (by rw [List.length_set]; exact hl), getElem!_pos S x hl, List.getElem_set_ne (fun e => hx e.symm)]
    · rw [getElem!_neg _ x (by rw [List.length_set]; exact hl), getElem!_neg S x hl]
theorem snoc_atR {Q : List Nat} {i k : Nat} (hk : k < Q.length) : (Q ++ [i])[k]! = Q[k]! := by
  rw [getElem!_pos _ k (by simp; omega), getElem!_pos Q k hk, List.getElem_append_left hk]
theorem find_range {p : Nat → Bool} {n j : Nat} (hj : j < n) (h : p j = true) (hb : ∀ i, i < j → p i = false) : (List.range n).find? p = some j := by
  rw [List.find?_eq_some_iff_append]
  refine ⟨h, List.range j, (List.range' (j + 1) (n - (j + 1))), ?_, fun a ha => ?_⟩
  · have e1 : List.range n = List.range j ++ List.range' j (n - j) := by
      have h := List.range'_append_1 (s := 0) (m := j) (n := n - j)
      rw [Nat.zero_add, show j + (n - j) = n by omega] at h
      rw [List.range_eq_range', List.range_eq_range']; exact h.symm
    have e2 : List.range' j (n - j) = j :: List.range' (j + 1) (n - (j + 1)) := by
      rw [show n - j = (n - (j + 1)) + 1 by omega, List.range'_succ]
    rw [e1, e2]
  · rw [hb a (List.mem_range.1 ha)]; rfl
theorem lastD_at {l : List Nat} {m d : Nat} (h : l.length = m + 1) : l.getLastD d = l[m]! := by
  have hne : l ≠ [] := by intro e; rw [e] at h; simp at h
  rw [List.getLastD_eq_getLast?, List.getLast?_eq_getElem?, h, Nat.add_sub_cancel, getElem!_pos l m (by omega), List.getElem?_eq_getElem (by omega)]
  rfl

set_option maxHeartbeats 16000000 in
set_option maxRecDepth 100000 in
theorem cycle_calls (v : Value) (N : Nat) (M : List Nat) (w : World) (h : Sl (RSet N) 2 w v M) (hl : M.length = N) (hN : N ≤ 63) (hb : BndM N M) :
    Calls Try.prog 27 #[.agg #[v]] w fun e w' => CycOut M w w' e := by
  have HL := Lib.hid hl
  have HVC := Lib.hid (fun W (hW : Ext w W) => rvalid_calls v N M W (h.ext (rset_lasts N) hW) hl hN hb)
  have HCC := Lib.hid (fun W (hW : Ext w W) => closure_calls v N M W (h.ext (rset_lasts N) hW) hl hN hb)
  have HHC := Lib.hid (fun W (hW : Ext w W) (i j : Nat) (hi : i < N) (hj : j < N) => has_calls v N M i j W (h.ext (rset_lasts N) hW) (by rw [hl]; exact hi) (by omega) (hb.u64 (by omega) i))
  have HIF := Lib.hid (fun (i : Nat) (hi : i < N) => closeM_iff (M := M) (i := i) (j := i) (by rw [hl]; exact hi))
  obtain ⟨ra, rc, rfl, hrc⟩ := h.sh
  rw [hl] at HVC HCC HHC ⊢
  have HB0 := Lib.hid (heap_alloc_new w (.cells #[.slice ra N rc] 53))
  have HE1 := Lib.hid ((Ext.rf w).al (.cells #[.slice ra N rc] 53))
  have b0 := cellOf HB0.out 0
  simp only [List.getElem?_toArray, List.getElem?_cons_zero] at b0
  have hw1s : (w.alloc (.cells #[.slice ra N rc] 53)).heap.size = w.heap.size + 1 := by simp
  clear h hl hb hrc
  go_enter Try.func27, Try.ntmps27
  go_wp2_with fail
  refine (HVC.out _ HE1.out).mono ?_
  rintro e w2 ⟨rfl, hX2⟩
  have HE2 := Lib.hid (HE1.out.trans' hX2)
  have HB2 := Lib.hid (hX2.hp HB0.out)
  have b2 := cellOf HB2.out 0
  simp only [List.getElem?_toArray, List.getElem?_cons_zero] at b2
  have HX2 := Lib.hid hX2
  generalize hw1 : w.alloc (.cells #[.slice ra N rc] 53) = w1 at *
  clear hw1 hX2 b0
  go_wp2_with fail
  refine (HCC.out _ HE2.out).mono ?_
  rintro e w3 ⟨cv, vw, rfl, hO, hB, hX3⟩
  obtain ⟨ca, cc, rfl⟩ := hO.any
  have HCM : Hid ((closeM M).length = N) := Lib.hid (by unfold closeM; rw [closeTo_len, HL.out])
  rw [HCM.out] at hO
  rw [HCM.out]
  have HX4 := Lib.hid (HX2.out.trans' (hX3.trans' ((Ext.rf w3).al (.cells #[.slice ca N cc] 53))))
  have HD4 := Lib.hid (heap_alloc_new w3 (.cells #[.slice ca N cc] 53))
  have HO4 := Lib.hid (hO.ext ((Ext.rf w3).al (.cells #[.slice ca N cc] 53)))
  have HHK := Lib.hid (fun W (hW : Ext (w3.alloc (.cells #[.slice ca N cc] 53)) W) (i : Nat) (hi : i < N) => has_calls (.slice ca N cc) N (closeM M) i i W ((HO4.out.ext hW).sl) (by rw [HCM.out]; exact hi) (by omega) (hB.u64 (by omega) i))
  have d4 := cellOf HD4.out 0
  simp only [List.getElem?_toArray, List.getElem?_cons_zero] at d4
  have hb3 : w.heap.size ≠ w3.heap.size := Nat.ne_of_lt (by have := (HX2.out.trans' hX3).sz; omega)
  clear hO hB hX3 b2
  go_upto_block 0 with (fail)
  generalize w3.alloc (.cells #[.slice ca N cc] 53) = w4 at *
  generalize hD : w3.heap.size = D at *
  clear hD d4 hb3
  go_cut [5] (fun s5 wx => Aside (Ext w4 wx) ∧ ((s5 = .int .i64 (-1) ∧ ∀ i, i < N → ¬ PathM M i i) ∨ ∃ f : Nat, s5 = .int .i64 f ∧ f < N ∧ PathM M f f ∧ ∀ g, g < f → ¬ PathM M g g))
  case first =>
    go_wp2
    go_loopg [5, 25] N (fun g s5 s25 wr => ∃ i : Nat, i ≤ N ∧ N - i ≤ g ∧ s5 = .int .i64 (-1) ∧ s25 = .int .i64 i ∧ Aside (Ext w4 wr) ∧ Aside (∀ j, j < i → ¬ PathM M j j))
    case atStart => exact ⟨0, Nat.zero_le _, by omega, rfl, rfl, Ext.rf _, fun j hj => absurd hj (Nat.not_lt_zero _)⟩
    case round =>
      obtain ⟨i, hi, hg, rfl, rfl, HX, A⟩ := hrel
      have c0 := cellOf (HX.out.hp HD4.out) 0
      simp only [List.getElem?_toArray, List.getElem?_cons_zero] at c0
      by_cases hlt : i < N
      · have hltz : (i : Int) < (N : Int) := by omega
        have HC := Lib.hid (HHK.out wr HX.out i hlt)
        have HI := Lib.hid (HIF.out i hlt)
        obtain ⟨r, hr⟩ : ∃ r, hasM (closeM M) i i = r := ⟨_, rfl⟩
        rw [hr] at HC HI
        clear hr
        go_wp2_with fail
        refine HC.out.mono ?_
        rintro e w9 ⟨rfl, hX9⟩
        have HX9 := Lib.hid (HX.out.trans' hX9)
        clear hX9 c0
        cases r with
        | true =>
          go_wp2
          go_meet
          exact ⟨HX9.out, .inr ⟨i, rfl, hlt, HI.out.1 (by trivial), A.out⟩⟩
        | false =>
          have HA : Hid (∀ j, j < i + 1 → ¬ PathM M j j) := Lib.hid (fun j hj => by
            by_cases e : j = i
            · subst e; exact fun hp => by have := HI.out.2 hp; cases this
            · exact A.out j (by omega))
          go_wp2
          go_roundg (N - (i + 1))
          case measure => omega
          case rel => exact ⟨i + 1, by omega, by omega, rfl, by go_num, (show Ext _ _ from HX9.out), (show Aside _ from HA.out)⟩
      · have hltz : ¬ (i : Int) < (N : Int) := by omega
        obtain rfl : N = i := by omega
        go_wp2
        go_meet
        exact ⟨HX.out, .inl ⟨rfl, A.out⟩⟩
  case rest =>
    obtain ⟨HX5, hs5⟩ := hcut
    have HE5 := Lib.hid (HE1.out.trans' (HX4.out.trans' HX5.out))
    rcases hs5 with ⟨rfl, hno⟩ | ⟨f, rfl, hfN, hpf, hmin⟩
    · have HNO := Lib.hid hno
      clear hno
      go_wp2
      go_ret2
      exact ⟨_, _, rfl, HE5.out, .inl ⟨rfl, rfl, by rw [HL.out]; exact HNO.out⟩⟩
    · have HPF := Lib.hid hpf
      have HMIN := Lib.hid hmin
      clear hpf hmin
      have HB5 := Lib.hid (HX5.out.hp (HX4.out.hp (show w1.heap[w.heap.size]? = _ from HB0.out)))
      have b5 := cellOf HB5.out 0
      simp only [List.getElem?_toArray, List.getElem?_cons_zero] at b5
      have hbw5 := World.block_lt_of_cell? wc _ b5
      have hbw6 : w.heap.size ≠ wc.heap.size := Nat.ne_of_lt hbw5
      have HRC := Lib.hid (fun W b c hc => repeat_calls N b c W hc (by omega) hN)
      have hfz : ¬ (f : Int) < 0 := by omega
      obtain ⟨ii, hii, iz0, iz1, iz2⟩ := info_partsI info_int9
      go_wp2_with fail
      refine (HRC.out _ _ _ (heap_alloc_new _ _)).mono ?_
      rintro e w6 ⟨sv, rfl, hS, hX6⟩
      obtain ⟨gS, oS, sc, rfl, _⟩ := hS.shape (by omega)
      have HX6 := Lib.hid ((HX4.out.trans' HX5.out).trans' (((Ext.rf wc).al (.cells #[.int .i64 (-1)] 3)).trans' hX6))
      have HX7 := Lib.hid (HX6.out.al (.cells #[.int .i64 (f : Int)] 3))
      have HI0 : Hid (CyI w1 (w6.alloc (.cells #[.int .i64 (f : Int)] 3)) M f 0 0 (.slice (some ⟨gS, oS, none⟩) N sc) (.slice (some ⟨w6.heap.size, 0, none⟩) 1 1) (.int .i64 0) (List.replicate N (-1)) [f] 0) := Lib.hid (by
        refine ⟨?_, ?_, ?_, rfl, ?_, HX7.out⟩
        · have h := (hS.mono (base' := w1.heap.size) (Nat.le_trans (HX4.out.trans' HX5.out).sz ((Ext.rf wc).al _).sz)).al (.cells #[.int .i64 (f : Int)] 3)
          rw [RowZ, List.length_replicate]; exact h
        · exact ⟨rfl, .inr ⟨w6.heap.size, 0, 1, _, rfl, HX6.out.sz, heap_alloc_new _ _, Nat.le_refl _, by unfold maxLen; omega, by simp, by simp⟩⟩
        · show some gS ≠ some w6.heap.size
          have := (hS.lt gS rfl).2
          intro e; simp only [Option.some.injEq] at e; omega
        · have h := bfs_start (M := M) (f := f) (by rw [HL.out]; exact hfN)
          rw [HL.out] at h; exact h)
      clear hS hX6 b5 hbw5 hbw6
      go_wp2
      generalize w6.alloc (.cells #[.int .i64 (f : Int)] 3) = w7 at *
      go_loopg [8, 9, 10] N (fun g s8 s9 s10 wr => ∃ (k : Nat) (S : List Int) (Q : List Nat) (L : Int), k ≤ Q.length ∧ N - k ≤ g ∧ s10 = .int .i64 k ∧ Aside (CyI w1 wr M f k 0 (.slice (some ⟨gS, oS, none⟩) N sc) s8 s9 S Q L))
      case atStart => exact ⟨0, _, _, _, Nat.zero_le _, by omega, rfl, (show CyI _ _ _ _ _ _ _ _ _ _ _ _ from HI0.out)⟩
      case round =>
        obtain ⟨k, S, Q, L, hk, hg, rfl, HI⟩ := hrel
        obtain ⟨hS, hQ, hne, rfl, hB, hX⟩ := HI.out
        have hSl : S.length = N := hB.far.len.trans HL.out
        have hQl : Q.length ≤ N := by have := far_len hB.far; rw [HL.out] at this; exact this
        obtain ⟨gQ, oQ, qc, rfl, _⟩ := hQ.shape hB.far.qpos
        have HSS := Lib.hid hS
        have HQ := Lib.hid hQ
        have HBF := Lib.hid hB
        have HX := Lib.hid hX
        have HSL := Lib.hid hSl
        have HBB := Lib.hid (HX.out.hp (show w1.heap[w.heap.size]? = _ from HB0.out))
        have bb := cellOf HBB.out 0
        simp only [List.getElem?_toArray, List.getElem?_cons_zero] at bb
        obtain ⟨n, hn⟩ : ∃ n, Q.length = n := ⟨_, rfl⟩
        have HN := Lib.hid hn
        rw [hn] at hk hQl ⊢
        clear hS hQ hne hB hX hSl
        by_cases hlk : k < n
        case neg =>
          have hlkz : ¬ (k : Int) < (n : Int) := by omega
          have hkn : k = n := by omega
          subst hkn
          have HBE : Hid (BfsM M f S Q L Q.length 0) := Lib.hid (by have h := HBF.out; rw [← HN.out] at h; exact h)
          obtain ⟨l, hLl, hle, hlN⟩ := bfs_turn HBE.out HPF.out
          rw [HL.out] at hlN
          subst hLl
          have HLE := Lib.hid hle
          have HOL := Lib.hid (fun m hm => out_last HBE.out HLE.out m hm)
          have hwl : IntKind.i64.wrap (l : Int) = (l : Int) := IntWalk.i64_in _ (by omega)
          obtain ⟨wp, rfl⟩ : ∃ x, x = wr := ⟨_, rfl⟩
          have HXN := Lib.hid ((Ext.rf wp).al (.cells #[.int .i64 (f : Int)] 3))
          have HR0 : Hid (RowN (wp.alloc (.cells #[.int .i64 (f : Int)] 3)) wp.heap.size (.slice (some ⟨wp.heap.size, 0, none⟩) 1 1) (outTo M f S l 0)) := Lib.hid ⟨rfl, .inr ⟨wp.heap.size, 0, 1, _, rfl, Nat.le_refl _, heap_alloc_new _ _, Nat.le_refl _, by unfold maxLen; omega, by simp, by simp [outTo]⟩⟩
          clear hle bb
          go_wp2
          clear hwl
          generalize wp.alloc (.cells #[.int .i64 (f : Int)] 3) = wN at *
          go_loopg [13, 14] l (fun g s13 s14 wr => ∃ m : Nat, m ≤ l ∧ l - m ≤ g ∧ s14 = .int .i64 ((l - m : Nat) : Int) ∧ Aside (RowN wr wp.heap.size s13 (outTo M f S l m)) ∧ Aside (Ext wp wr))
          case atStart => exact ⟨0, Nat.zero_le _, by omega, rfl, (show RowN _ _ _ _ from HR0.out), (show Ext _ _ from HXN.out)⟩
          case round =>
            obtain ⟨m, hm, hg5, rfl, HR, HXP⟩ := hrel
            obtain ⟨ho1, ho2, ho3⟩ := HOL.out m hm
            have HEP := Lib.hid (HX.out.trans' HXP.out)
            obtain ⟨gR, oR, cR, rfl, _⟩ := HR.out.shape (by rw [ho1]; omega)
            have HRL := Lib.hid ho1
            rw [ho1]
            obtain ⟨lf, hlf⟩ : ∃ q, l - m = q := ⟨_, rfl⟩
            rw [hlf] at hg5 ⊢
            by_cases hml : m < l
            case neg =>
              have hlz : ¬ (0 : Int) < (lf : Int) := by omega
              have hlz2 : ¬ 0 < lf := by omega
              have hmm : m = l := by omega
              subst hmm
              go_wp2
              go_ret2
              refine ⟨_, _, rfl, HE1.out.trans' HEP.out, .inr ⟨rfl, f, S, Q, _, m, HPF.out, HMIN.out, HBE.out, HLE.out, ?_⟩⟩
              have h := HR.out
              rw [RowN, HRL.out] at h ⊢
              exact h.mono (Nat.le_trans (by omega) HX.out.sz)
            case pos =>
              have hlz : (0 : Int) < (lf : Int) := by omega
              have hlz2 : 0 < lf := by omega
              have HLF : Hid ((lf : Int) - 1 = ((l - (m + 1) : Nat) : Int)) := Lib.hid (by omega)
              have HM1 := Lib.hid (show m + 1 ≤ l from hml)
              have HM2 := Lib.hid (show l - (m + 1) ≤ l - (m + 1) from Nat.le_refl _)
              have HM3 := Lib.hid (show l - (m + 1) < gk from by omega)
              obtain ⟨y, hy⟩ : ∃ y, (outTo M f S l m).getLastD f = y := ⟨_, rfl⟩
              have HYE := Lib.hid hy
              have hyN : y < N := by rw [hy, HL.out] at ho2; exact ho2
              have qm : wr.cell? ⟨gR, oR + m, none⟩ = some (.int .i64 (y : Int)) := by
                have h := HR.out
                rw [RowN, HRL.out] at h
                have h2 := h.cell m (by omega)
                have hml2 : m < (outTo M f S l m).length := by rw [HRL.out]; omega
                rw [h2, List.getElem?_map, List.getElem?_eq_getElem hml2]
                rw [lastD_at HRL.out, getElem!_pos _ m hml2] at hy
                rw [hy]; rfl
              have HNS : Hid (∃ j, j < N ∧ nextB M f S y lf j = true) := Lib.hid (by
                rw [hy, show l - m = (l - (m + 1)) + 1 by omega] at ho3
                obtain ⟨j, hj, hb, _⟩ := next_some HBE.out HLE.out ho3 (by omega)
                rw [show l - (m + 1) + 1 = lf by omega] at hb
                exact ⟨j, by rw [← HL.out]; exact hj, hb⟩)
              have HOS : Hid (∀ j, j < N → nextB M f S y lf j = true → (∀ i, i < j → nextB M f S y lf i = false) → outTo M f S l (m + 1) = outTo M f S l m ++ [j]) := Lib.hid (fun j hj hb hall => by
                show (match (List.range M.length).find? (nextB M f S ((outTo M f S l m).getLastD f) (l - m)) with | some j => outTo M f S l m ++ [j] | none => outTo M f S l m) = _
                rw [hy, hlf, HL.out, find_range hj hb hall])
              have HBP := Lib.hid (HEP.out.hp (show w1.heap[w.heap.size]? = _ from HB0.out))
              have bp := cellOf HBP.out 0
              simp only [List.getElem?_toArray, List.getElem?_cons_zero] at bp
              have hmz : (0 : Int) ≤ (m : Int) := by omega
              have hmz2 : (m : Int) < (m : Int) + 1 := by omega
              have hwm : IntKind.i64.wrap (m : Int) = (m : Int) := IntWalk.i64_in _ (by omega)
              clear ho1 ho2 ho3 hy
              go_wp2
              clear bp qm hwm
              obtain ⟨wq, rfl⟩ : ∃ x, x = wr := ⟨_, rfl⟩
              go_loopg [13, 118] N (fun g s13 s118 wr => ∃ j : Nat, j ≤ N ∧ N - j ≤ g ∧ s13 = .slice (some ⟨gR, oR, none⟩) (m + 1) cR ∧ s118 = .int .i64 j ∧ Aside (∀ i, i < j → nextB M f S y lf i = false) ∧ Aside (Ext wq wr))
              case atStart => exact ⟨0, Nat.zero_le _, by omega, rfl, rfl, (fun i hi => absurd hi (Nat.not_lt_zero _)), Ext.rf _⟩
              case round =>
                obtain ⟨j, hj, hg6, rfl, rfl, A, HXJ⟩ := hrel
                by_cases hjN : j < N
                case neg =>
                  exfalso
                  obtain ⟨j', hj', hb⟩ := HNS.out
                  have := A.out j' (by omega)
                  rw [hb] at this; cases this
                case pos =>
                  have hjz : (j : Int) < (N : Int) := by omega
                  have hjz0 : (0 : Int) ≤ (j : Int) := by omega
                  have HBJ := Lib.hid (HXJ.out.hp HBP.out)
                  have bj := cellOf HBJ.out 0
                  simp only [List.getElem?_toArray, List.getElem?_cons_zero] at bj
                  have HHJ := Lib.hid (HHC.out wr (HE1.out.trans' (HEP.out.trans' HXJ.out)) y j hyN hjN)
                  have HNB : Hid (nextB M f S y lf j = (hasM M y j && ((j != f) && (S[j]! == (lf : Int))))) := Lib.hid rfl
                  have HAJ : Hid (nextB M f S y lf j = false → ∀ i, i < j + 1 → nextB M f S y lf i = false) := Lib.hid (fun h i hi => by
                    by_cases e : i = j
                    · subst e; exact h
                    · exact A.out i (by omega))
                  have HOJ := Lib.hid (fun h => HOS.out j hjN h A.out)
                  have hsj : wr.cell? ⟨gS, oS + j, none⟩ = some (.int .i64 S[j]!) := by
                    have h := HSS.out
                    rw [RowZ, HSL.out] at h
                    have h2 := h.cell j (by omega)
                    have hjS : j < S.length := by rw [HSL.out]; exact hjN
                    refine (HXP.out.trans' HXJ.out).cl ?_
                    rw [h2, List.getElem?_map, List.getElem?_eq_getElem hjS, getElem!_pos S j hjS]; rfl
                  obtain ⟨r, hr⟩ : ∃ r, hasM M y j = r := ⟨_, rfl⟩
                  rw [hr] at HHJ HNB
                  generalize S[j]! = sj at *
                  have HSJ := Lib.hid hsj
                  clear hr hsj
                  go_wp2_with fail
                  refine HHJ.out.mono ?_
                  rintro e w9 ⟨rfl, hX9⟩
                  have HX9 := Lib.hid (HXJ.out.trans' hX9)
                  have hs9 := hX9.cl HSJ.out
                  have HR9 := Lib.hid (HR.out.ext (HXJ.out.trans' hX9))
                  rw [HRL.out] at HR9
                  clear bj hX9
                  cases r with
                  | false =>
                    have HA9 := Lib.hid (HAJ.out (by rw [HNB.out]; rfl))
                    go_wp2
                    go_roundg (N - (j + 1))
                    case measure => omega
                    case rel => exact ⟨j + 1, by omega, by omega, rfl, by go_num, (show Aside _ from HA9.out), (show Ext _ _ from HX9.out)⟩
                  | true =>
                    by_cases hjf : j = f
                    · have HA9 := Lib.hid (HAJ.out (by rw [HNB.out, hjf]; simp))
                      have hq : ((j : Int) != (f : Int)) = false := by rw [bne_eq_false_iff_eq, hjf]
                      clear hjf
                      go_wp2
                      go_roundg (N - (j + 1))
                      case measure => omega
                      case rel => exact ⟨j + 1, by omega, by omega, rfl, by go_num, (show Aside _ from HA9.out), (show Ext _ _ from HX9.out)⟩
                    · have hq : ((j : Int) != (f : Int)) = true := by rw [bne_iff_ne]; omega
                      by_cases hsl : sj = (lf : Int)
                      · have hq2 : (sj == (lf : Int)) = true := by rw [hsl]; simp
                        have HON := Lib.hid (HOJ.out (by rw [HNB.out, hq2, bne_iff_ne.2 hjf]; rfl))
                        have hwlf : IntKind.i64.wrap ((lf : Int) - 1) = (lf : Int) - 1 := IntWalk.i64_in _ (by omega)
                        clear hjf hsl
                        go_wp2_with ((at_builtin; go_loud (refine wpList_append_one rfl _ _ 26 rfl wp.heap.size 3 ii (.int .i64 0) 1 8 Try.underlying26 hii iz0 iz1 iz2 rfl (by decide) _ (m + 1) ((outTo M f S l m).map fun (x : Nat) => Value.int .i64 (x : Int)) rfl (HR9.out.al _) w9.heap.size 1 [.int .i64 (j : Int)] rfl rfl ⟨_, heap_alloc_new _ _⟩ (by simp [Value.oneCell']) (by unfold maxLen; omega) (by omega) (Nat.le_trans (HXP.out.trans' HX9.out).sz ((Ext.rf w9).al _).sz) ?_; intro v8 w8 hown8 hgrow8 hblk8; obtain ⟨a8, c8, rfl, _⟩ := hown8.any; have HOWN := Lib.hid hown8; have HX8 := Lib.hid (((HXP.out.trans' HX9.out).al (.cells #[.int .i64 (j : Int)] 3)).gr hgrow8 (fun q hq => (HR9.out.lt q hq).1)); clear hown8 hgrow8 hblk8)))
                        go_roundg (l - (m + 1))
                        case measure => exact HM3.out
                        case rel =>
                          refine ⟨m + 1, HM1.out, HM2.out, by first | rw [HLF.out] | rw [hwlf, HLF.out], (show RowN _ _ _ _ from ?_), (show Ext _ _ from HX8.out)⟩
                          rw [HON.out, RowN, List.length_append, HRL.out, List.length_singleton, List.map_append]
                          exact HOWN.out
                      · have hq2 : (sj == (lf : Int)) = false := by rw [beq_eq_false_iff_ne]; exact hsl
                        have HA9 := Lib.hid (HAJ.out (by rw [HNB.out, hq2]; simp))
                        clear hjf hsl
                        go_wp2
                        go_roundg (N - (j + 1))
                        case measure => omega
                        case rel => exact ⟨j + 1, by omega, by omega, rfl, by go_num, (show Aside _ from HA9.out), (show Ext _ _ from HX9.out)⟩
        case pos =>
          have hlkz : (k : Int) < (n : Int) := by omega
          have hkz : (0 : Int) ≤ (k : Int) := by omega
          have HKQ := Lib.hid (show k < Q.length from by rw [HN.out]; exact hlk)
          obtain ⟨x, hx⟩ : ∃ x, Q[k]! = x := ⟨_, rfl⟩
          have HXQ := Lib.hid hx
          have hxN : x < N := by have := HBF.out.far.qlt k HKQ.out; rw [hx, HL.out] at this; exact this
          have qk : wr.cell? ⟨gQ, oQ + k, none⟩ = some (.int .i64 (x : Int)) := by
            have h := HQ.out
            rw [RowN, HN.out] at h
            have h2 := h.cell k (by omega)
            rw [h2, List.getElem?_map, List.getElem?_eq_getElem HKQ.out]
            rw [getElem!_pos Q k HKQ.out] at hx
            rw [hx]; rfl
          obtain ⟨a, ha⟩ : ∃ a, depM S f Q[k]! = a := ⟨_, rfl⟩
          have HDA := Lib.hid ha
          obtain ⟨d, hda, _, hdk, _⟩ := dep_way HBF.out.far HKQ.out
          have haz : 0 ≤ a := by rw [← ha, hda]; omega
          have ha63 : a ≤ 63 := by rw [← ha, hda]; omega
          have hsx : 0 < k → wr.cell? ⟨gS, oS + x, none⟩ = some (.int .i64 a) := fun h0 => by
            have h := HSS.out
            rw [RowZ, HSL.out] at h
            have h2 := h.cell x (by omega)
            have hxS : x < S.length := by rw [HSL.out]; exact hxN
            rw [h2, List.getElem?_map, List.getElem?_eq_getElem hxS]
            have hnf := (dep_way HBF.out.far HKQ.out).choose_spec.2.2.2 h0
            rw [hx] at ha hnf
            rw [← ha, depM, if_neg hnf, getElem!_pos S x hxS]; rfl
          have hk0 : k = 0 → a = 0 := fun e => by
            subst e
            rw [← ha, HBF.out.far.q0]; exact if_pos rfl
          clear hx ha hda
          go_upto_if 50 with (fail)
          go_cut [11] (fun s11 wx => s11 = .int .i64 a ∧ wx = wr)
          case first =>
            by_cases e0 : k = 0
            · have hlz : ¬ (0 : Int) < (k : Int) := by omega
              obtain rfl : a = 0 := hk0 e0
              clear hsx hk0 e0
              go_wp2
              go_meet
              exact ⟨rfl, rfl⟩
            · have hlz : (0 : Int) < (k : Int) := by omega
              have hsk := hsx (by omega)
              have hxz : (0 : Int) ≤ (x : Int) := by omega
              have hxz2 : (x : Int) < (N : Int) := by omega
              clear hsx hk0 e0
              go_wp2
              go_meet
              exact ⟨rfl, rfl⟩
          case rest =>
            obtain ⟨rfl, rfl⟩ := hcut
            have HI1 : Hid (CyI w1 wc M f k 0 (.slice (some ⟨gS, oS, none⟩) N sc) (.slice (some ⟨gQ, oQ, none⟩) n qc) (.int .i64 L) S Q L ∧ depM S f Q[k]! = a ∧ Q[k]! = x ∧ k < Q.length) := Lib.hid ⟨by have h := HI.out; rw [HN.out] at h; exact h, HDA.out, HXQ.out, HKQ.out⟩
            clear qk hsx hk0
            go_wp2
            clear bb
            obtain ⟨wo, rfl⟩ : ∃ x, x = wc := ⟨_, rfl⟩
            go_loopg [8, 9, 61] N (fun g s8 s9 s61 wr => ∃ (i : Nat) (S : List Int) (Q : List Nat) (L : Int), i ≤ N ∧ N - i ≤ g ∧ s61 = .int .i64 i ∧ Aside (CyI w1 wr M f k i (.slice (some ⟨gS, oS, none⟩) N sc) s8 s9 S Q L ∧ depM S f Q[k]! = a ∧ Q[k]! = x ∧ k < Q.length))
            case atStart => exact ⟨0, _, _, _, Nat.zero_le _, by omega, rfl, (show CyI _ _ _ _ _ _ _ _ _ S Q L ∧ _ from HI1.out)⟩
            case round =>
              obtain ⟨i, S, Q, L, hi, hg3, rfl, HI3⟩ := hrel
              obtain ⟨⟨hS, hQ, hne, rfl, hB, hX⟩, hda, hqx, hkQ⟩ := HI3.out
              have hSl : S.length = N := hB.far.len.trans HL.out
              have hQl : Q.length ≤ N := by have := far_len hB.far; rw [HL.out] at this; exact this
              obtain ⟨gQ, oQ, qc, rfl, _⟩ := hQ.shape hB.far.qpos
              have HSS := Lib.hid hS
              have HQ := Lib.hid hQ
              have HBF := Lib.hid hB
              have HX := Lib.hid hX
              have HSL := Lib.hid hSl
              have HDA := Lib.hid hda
              have HXQ := Lib.hid hqx
              have HNE := Lib.hid hne
              have HBB := Lib.hid (HX.out.hp (show w1.heap[w.heap.size]? = _ from HB0.out))
              have bb := cellOf HBB.out 0
              simp only [List.getElem?_toArray, List.getElem?_cons_zero] at bb
              obtain ⟨n2, hn⟩ : ∃ n, Q.length = n := ⟨_, rfl⟩
              have HN := Lib.hid hn
              rw [hn] at hQl ⊢
              have hkn : k < n2 := by omega
              have HKQ := Lib.hid hkQ
              clear hS hQ hne hB hX hSl hda hqx hkQ hn
              by_cases hli : i < N
              case neg =>
                have hliz : ¬ (i : Int) < (N : Int) := by omega
                obtain rfl : N = i := by omega
                have HNX : Hid (CyI w1 wr M f (k + 1) 0 (.slice (some ⟨gS, oS, none⟩) N sc) (.slice (some ⟨gQ, oQ, none⟩) n2 qc) (.int .i64 L) S Q L) := Lib.hid (by
                  obtain ⟨⟨h1, h2, h3, h4, h5, h6⟩, h7⟩ := HI3.out
                  rw [HN.out] at h2 h3
                  refine ⟨h1, h2, h3, rfl, bfs_next (by rw [HL.out]; exact h5) HKQ.out, h6⟩)
                clear bb
                go_wp2
                go_roundg (N - (k + 1))
                case measure => omega
                case rel => exact ⟨k + 1, S, Q, L, by rw [HN.out]; omega, by omega, by go_num, (show CyI _ _ _ _ _ _ _ _ _ _ _ _ from HNX.out)⟩
              case pos =>
                have hliz : (i : Int) < (N : Int) := by omega
                have hiz : (0 : Int) ≤ (i : Int) := by omega
                have hknz : (k : Int) < (n2 : Int) := by omega
                have qk : wr.cell? ⟨gQ, oQ + k, none⟩ = some (.int .i64 (x : Int)) := by
                  have h := HQ.out
                  rw [RowN, HN.out] at h
                  have h2 := h.cell k (by omega)
                  have hx := HXQ.out
                  rw [h2, List.getElem?_map, List.getElem?_eq_getElem HKQ.out]
                  rw [getElem!_pos Q k HKQ.out] at hx
                  rw [hx]; rfl
                have HHI := Lib.hid (fun W (hW : Ext wr W) => HHC.out W (HE1.out.trans' (HX.out.trans' hW)) i x hli hxN)
                obtain ⟨r, hr⟩ : ∃ r, hasM M i x = r := ⟨_, rfl⟩
                have HRR := Lib.hid hr
                rw [hr] at HHI
                clear hr
                have hsi : wr.cell? ⟨gS, oS + i, none⟩ = some (.int .i64 S[i]!) ∧ wr.frozen? ⟨gS, oS + i, none⟩ = false := by
                  have h := HSS.out
                  rw [RowZ, HSL.out] at h
                  have h2 := h.cell i (by omega)
                  have hiS : i < S.length := by rw [HSL.out]; exact hli
                  exact ⟨by rw [h2, List.getElem?_map, List.getElem?_eq_getElem hiS, getElem!_pos S i hiS]; rfl, h.free _⟩
                have HSI := Lib.hid hsi
                clear hsi
                go_upto_region 25 with (fail)
                go_cut [71] (fun s71 wx => s71 = .bool (!r) ∧ Aside (Ext wr wx))
                case first =>
                  go_region_with (refine (HHI.out _ (Ext.rf _).dr).mono ?_; rintro e w9 ⟨rfl, hX9⟩; have HX9 := Lib.hid hX9; clear hX9)
                  all_goals (go_wp2; go_meet)
                  all_goals exact ⟨rfl, (show Ext _ _ from (Ext.rf wr).dr.trans' HX9.out)⟩
                case rest =>
                  obtain ⟨rfl, HXC⟩ := hcut
                  have HS9 := Lib.hid (HSS.out.ext HXC.out)
                  have HQ9 := Lib.hid (HQ.out.ext HXC.out)
                  have HX9 := Lib.hid (HX.out.trans' HXC.out)
                  have hgs : gS < wr.heap.size := (HSS.out.lt gS rfl).2
                  have hs9 := HXC.out.cl HSI.out.1
                  have hf9 := (World.frozen?_of_block (a := ⟨gS, oS + i, none⟩) (HXC.out.block gS hgs)).trans HSI.out.2
                  rw [HN.out] at HQ9
                  cases r with
                  | false =>
                    have HI9 : Hid (CyI w1 wc M f k (i + 1) (.slice (some ⟨gS, oS, none⟩) N sc) (.slice (some ⟨gQ, oQ, none⟩) n2 qc) (.int .i64 L) S Q L ∧ depM S f Q[k]! = a ∧ Q[k]! = x ∧ k < Q.length) := Lib.hid ⟨⟨HS9.out, by rw [RowN, HN.out]; exact HQ9.out, HNE.out, rfl, bfs_miss HBF.out (by rw [HXQ.out]; exact HRR.out), HX9.out⟩, HDA.out, HXQ.out, HKQ.out⟩
                    clear qk bb hs9 hf9
                    go_wp2
                    go_roundg (N - (i + 1))
                    case measure => omega
                    case rel => exact ⟨i + 1, S, Q, L, by omega, by omega, by go_num, (show CyI _ _ _ _ _ _ _ _ _ _ _ _ ∧ _ from HI9.out)⟩
                  | true =>
                    have hwa : IntKind.i64.wrap (a + 1) = a + 1 := IntWalk.i64_in _ (by omega)
                    have HB9 : Hid (hasM M i Q[k]! = true) := Lib.hid (by rw [HXQ.out]; exact HRR.out)
                    by_cases hif : i = f
                    · have hq1 : ((i : Int) == (f : Int)) = true := by rw [beq_iff_eq, hif]
                      have hq2 : ((i : Int) != (f : Int)) = false := by rw [bne_eq_false_iff_eq, hif]
                      have HIF2 := Lib.hid hif
                      clear hif
                      by_cases hL : L = 0
                      · have hL1 : (L == 0) = true := by rw [hL]; rfl
                        have HI9 : Hid (CyI w1 wc M f k (i + 1) (.slice (some ⟨gS, oS, none⟩) N sc) (.slice (some ⟨gQ, oQ, none⟩) n2 qc) (.int .i64 (a + 1)) S Q (a + 1) ∧ depM S f Q[k]! = a ∧ Q[k]! = x ∧ k < Q.length) := Lib.hid (by
                          refine ⟨⟨HS9.out, by rw [RowN, HN.out]; exact HQ9.out, HNE.out, rfl, ?_, HX9.out⟩, HDA.out, HXQ.out, HKQ.out⟩
                          have h := HBF.out
                          have hb := HB9.out
                          rw [HIF2.out] at h hb ⊢
                          have h2 := bfs_first h HKQ.out hb
                          rw [if_pos hL, HDA.out] at h2; exact h2)
                        clear qk bb hs9 hf9 hL
                        go_wp2
                        go_roundg (N - (i + 1))
                        case measure => omega
                        case rel => exact ⟨i + 1, S, Q, a + 1, by omega, by omega, by go_num, (show CyI _ _ _ _ _ _ _ _ _ _ _ _ ∧ _ from HI9.out)⟩
                      · have hL1 : (L == 0) = false := by rw [beq_eq_false_iff_ne]; exact hL
                        have HI9 : Hid (CyI w1 wc M f k (i + 1) (.slice (some ⟨gS, oS, none⟩) N sc) (.slice (some ⟨gQ, oQ, none⟩) n2 qc) (.int .i64 L) S Q L ∧ depM S f Q[k]! = a ∧ Q[k]! = x ∧ k < Q.length) := Lib.hid (by
                          refine ⟨⟨HS9.out, by rw [RowN, HN.out]; exact HQ9.out, HNE.out, rfl, ?_, HX9.out⟩, HDA.out, HXQ.out, HKQ.out⟩
                          have h := HBF.out
                          have hb := HB9.out
                          rw [HIF2.out] at h hb ⊢
                          have h2 := bfs_first h HKQ.out hb
                          rw [if_neg hL] at h2; exact h2)
                        clear qk bb hs9 hf9 hL
                        go_wp2
                        go_roundg (N - (i + 1))
                        case measure => omega
                        case rel => exact ⟨i + 1, S, Q, L, by omega, by omega, by go_num, (show CyI _ _ _ _ _ _ _ _ _ _ _ _ ∧ _ from HI9.out)⟩
                    · have hq1 : ((i : Int) == (f : Int)) = false := by rw [beq_eq_false_iff_ne]; omega
                      have hq2 : ((i : Int) != (f : Int)) = true := by rw [bne_iff_ne]; omega
                      have HIF2 := Lib.hid hif
                      clear hif
                      obtain ⟨si, hsi⟩ : ∃ y, S[i]! = y := ⟨_, rfl⟩
                      have HSI2 := Lib.hid hsi
                      rw [hsi] at hs9
                      clear hsi
                      by_cases hs0 : si < 0
                      · have HSN := Lib.hid (bfs_new HBF.out HKQ.out (by rw [HL.out]; exact hli) HIF2.out (by rw [HSI2.out]; exact hs0) HB9.out)
                        rw [HDA.out] at HSN
                        have hxi : x ≠ i := fun e => by
                          have h := HDA.out
                          rw [HXQ.out, e, depM, if_neg HIF2.out, HSI2.out] at h
                          omega
                        have HXI := Lib.hid hxi
                        clear qk bb hxi
                        have HS8 := Lib.hid HS9.out
                        have HQ8 := Lib.hid HQ9.out
                        have HX8 := Lib.hid HX9.out
                        have HSS9 : Hid (Row (wc.setCell ⟨gS, oS + i, none⟩ (.int .i64 (a + 1))) w1.heap.size 3 1 (.slice (some ⟨gS, oS, none⟩) N sc) N ((S.set i (a + 1)).map (Value.int .i64))) := Lib.hid (by
                          have h := HS8.out
                          rw [HSL.out] at h
                          have h2 := h.set i (.int .i64 (a + 1)) (by omega)
                          rw [← List.map_set] at h2; exact h2)
                        have HQQ9 : Hid (Row (wc.setCell ⟨gS, oS + i, none⟩ (.int .i64 (a + 1))) w1.heap.size 3 1 (.slice (some ⟨gQ, oQ, none⟩) n2 qc) n2 (Q.map fun (x : Nat) => Value.int .i64 (x : Int))) := Lib.hid (HQ8.out.st (p := ⟨gS, oS + i, none⟩) (fun e => HNE.out e.symm) _)
                        have HXX9 : Hid (Ext w1 (wc.setCell ⟨gS, oS + i, none⟩ (.int .i64 (a + 1)))) := Lib.hid (HX8.out.st (HSS.out.lt gS rfl).1 _)
                        have hgsT : gS < (wc.setCell ⟨gS, oS + i, none⟩ (.int .i64 (a + 1))).heap.size := by rw [size_setCell]; exact (HS8.out.lt gS rfl).2
                        go_upto_region 30 with (fail)
                        generalize wc.setCell ⟨gS, oS + i, none⟩ (.int .i64 (a + 1)) = wS at *
                        go_wp2_with ((at_builtin; go_loud (refine wpList_append_one rfl _ _ 26 rfl w1.heap.size 3 ii (.int .i64 0) 1 8 Try.underlying26 hii iz0 iz1 iz2 rfl (by decide) _ n2 (Q.map fun (x : Nat) => Value.int .i64 (x : Int)) rfl (HQQ9.out.al _) wS.heap.size 1 [.int .i64 (i : Int)] rfl rfl ⟨_, heap_alloc_new _ _⟩ (by simp [Value.oneCell']) (by unfold maxLen; omega) (by omega) (Nat.le_trans HXX9.out.sz ((Ext.rf wS).al _).sz) ?_; intro v8 w8 hown8 hgrow8 hblk8; obtain ⟨a8, c8, rfl, _⟩ := hown8.any; have HOWN := Lib.hid hown8; have HG8 := Lib.hid hgrow8; have HBK := Lib.hid hblk8; clear hown8 hgrow8 hblk8)))
                        have HI9 : Hid (CyI w1 w8 M f k (i + 1) (.slice (some ⟨gS, oS, none⟩) N sc) (.slice a8 (n2 + 1) c8) (.int .i64 L) (S.set i (a + 1)) (Q ++ [i]) L ∧ depM (S.set i (a + 1)) f (Q ++ [i])[k]! = a ∧ (Q ++ [i])[k]! = x ∧ k < (Q ++ [i]).length) := Lib.hid (by
                          have hdis : (Value.slice (some ⟨gS, oS, none⟩) N sc).ownBlock ≠ (Value.slice (some ⟨gQ, oQ, none⟩) n2 qc).ownBlock := HNE.out
                          refine ⟨⟨?_, ?_, ?_, rfl, HSN.out, ?_⟩, ?_, ?_, ?_⟩
                          · rw [RowZ, List.length_set, HSL.out]
                            exact (HSS9.out.al (.cells #[.int .i64 (i : Int)] 3)).grown HG8.out (.inr hdis)
                          · rw [RowN, List.length_append, List.length_singleton, HN.out, List.map_append]
                            exact HOWN.out
                          · rcases HBK.out with hb | ⟨q, hq, hqw⟩
                            · rw [hb]; exact hdis
                            · rw [hq]
                              show some gS ≠ some q
                              have h2 := ((Ext.rf wS).al (.cells #[.int .i64 (i : Int)] 3)).sz
                              intro e; simp only [Option.some.injEq] at e; omega
                          · exact (HXX9.out.al _).gr HG8.out (fun q hq => (HQQ9.out.lt q hq).1)
                          · rw [snoc_atR HKQ.out, HXQ.out, dep_keep HXI.out, ← HXQ.out]; exact HDA.out
                          · rw [snoc_atR HKQ.out]; exact HXQ.out
                          · rw [List.length_append]; have := HKQ.out; omega)
                        go_roundg (N - (i + 1))
                        case measure => omega
                        case rel => exact ⟨i + 1, S.set i (a + 1), Q ++ [i], L, by omega, by omega, by go_num, (show CyI _ _ _ _ _ _ _ _ _ _ _ _ ∧ _ from HI9.out)⟩
                      · have HI9 : Hid (CyI w1 wc M f k (i + 1) (.slice (some ⟨gS, oS, none⟩) N sc) (.slice (some ⟨gQ, oQ, none⟩) n2 qc) (.int .i64 L) S Q L ∧ depM S f Q[k]! = a ∧ Q[k]! = x ∧ k < Q.length) := Lib.hid ⟨⟨HS9.out, by rw [RowN, HN.out]; exact HQ9.out, HNE.out, rfl, bfs_old HBF.out HKQ.out (by rw [HL.out]; exact hli) HIF2.out (by rw [HSI2.out]; omega), HX9.out⟩, HDA.out, HXQ.out, HKQ.out⟩
                        clear qk bb hf9
                        go_wp2
                        go_roundg (N - (i + 1))
                        case measure => omega
                        case rel => exact ⟨i + 1, S, Q, L, by omega, by omega, by go_num, (show CyI _ _ _ _ _ _ _ _ _ _ _ _ ∧ _ from HI9.out)⟩

end Go.Proofs.Ytodkcfebcjgahaa
