/-
  Equal lists, and the conclusion of the program's text.
-/
import Derived.Test.YtggofkaakccoeaaBase
import Derived.Test.YtggofkaakccoeaaProg
import Derived.BigQuiet
import Derived.Deep.QuietTactic
import Derived.Deep.LoopGhost
import Derived.Shelf.Abstract
import Derived.Test.YtggofkaakccoeaaCkB
import Derived.Test.YtggofkaakccoeaaBoxG
namespace Go.Proofs.Ytggofkaakccoeaa
open Go.RowKit
set_option linter.unusedVariables false

theorem beq_at (l m : List Int) (h : l.length = m.length) : (∃ k, k < l.length ∧ l[k]! ≠ m[k]!) → (l == m) = false := by
  rintro ⟨k, hk, hne⟩
  rw [beq_eq_false_iff_ne]
  rintro rfl
  exact hne rfl
theorem beq_all (l m : List Int) (h : l.length = m.length) (hall : ∀ k, k < l.length → l[k]! = m[k]!) : (l == m) = true := by
  rw [beq_iff_eq]
  refine List.ext_getElem h fun i h1 h2 => ?_
  have := hall i h1
  rwa [getElem!_pos l i h1, getElem!_pos m i h2] at this
theorem beq_len (l m : List Int) (h : l.length ≠ m.length) : (l == m) = false := by
  rw [beq_eq_false_iff_ne]
  rintro rfl
  exact h rfl

set_option maxHeartbeats 400000 in
theorem equal_int (u v : Value) (l m : List Int) (w : World) (hu : Ints w u l) (hv : Ints w v m) (hn : l.length ≤ 1000000) (hm : m.length ≤ 1000000) :
    Calls Try.prog 85 #[u, v] w fun e w' => e = .returned (.bool (l == m)) ∧ Ext w w' := by
  obtain ⟨a, c, rfl, _, hu⟩ := hu
  obtain ⟨a2, c2, rfl, _, hv⟩ := hv
  have HU := Lib.hid hu; clear hu
  have HV := Lib.hid hv; clear hv
  generalize hln : l.length = n at hn
  generalize hlm : m.length = n2 at hm
  have HL := Lib.hid hln; clear hln
  have HM := Lib.hid hlm; clear hlm
  by_cases hne : n = n2
  · subst hne
    go_enter Try.func85, Try.ntmps85
    go_wp2
    go_loopg [5, 13] n (fun g _ s13 wr => ∃ k : Nat, k ≤ n ∧ n - k ≤ g ∧ s13 = .int .i64 k ∧ Ext w wr ∧ Aside (∀ j, j < k → l[j]! = m[j]!))
    case atStart => exact ⟨0, Nat.zero_le _, by omega, rfl, Ext.rf _, (fun j hj => absurd hj (Nat.not_lt_zero _))⟩
    case round =>
      obtain ⟨k, hk, hg, rfl, he, A⟩ := hrel
      have HE := Lib.hid he; clear he
      by_cases hlt : k < n
      · obtain ⟨b, off, rfl, hb, hc⟩ := HU.out (by intro e; have := HL.out; simp [e] at this; omega)
        obtain ⟨b2, off2, rfl, hb2, hc2⟩ := HV.out (by intro e; have := HM.out; simp [e] at this; omega)
        have hcell : wr.cell? ⟨b, off + k, none⟩ = some (.int .i64 l[k]!) := HE.out.cl (hc k (by rw [HL.out]; exact hlt))
        have hcell2 : wr.cell? ⟨b2, off2 + k, none⟩ = some (.int .i64 m[k]!) := HE.out.cl (hc2 k (by rw [HM.out]; exact hlt))
        have hltz : (k : Int) < (n : Int) := by omega
        have hkz : (0 : Int) ≤ (k : Int) := by omega
        clear hc HV hc2 HU
        generalize hy : l[k]! = y at hcell
        generalize hz : m[k]! = z at hcell2
        have B := Lib.hid hy
        have C := Lib.hid hz
        clear hy hz
        cases hq : (y != z) with
        | true =>
          go_wp2
          go_quiet (fail)
          go_wp2
          go_ret
          exact ⟨by rw [beq_at l m (by rw [HL.out, HM.out]) ⟨k, by rw [HL.out]; exact hlt, by rw [B.out, C.out]; simpa using hq⟩]; rfl, HE.out.drN _⟩
        | false =>
          go_wp2
          go_quiet (fail)
          go_wp2
          go_roundg (n - (k + 1))
          case measure => omega
          case rel =>
            refine ⟨k + 1, by omega, by omega, by go_num, HE.out.drN _, (show Aside _ from fun j hj => ?_)⟩
            by_cases e : j = k
            · subst e
              rw [B.out, C.out]; simpa using hq
            · exact A.out j (by omega)
      · have hltz : ¬ (k : Int) < (n : Int) := by omega
        go_wp2
        go_ret
        exact ⟨by rw [beq_all l m (by rw [HL.out, HM.out]) (fun j hj => A.out j (by rw [HL.out] at hj; omega))]; rfl, HE.out⟩
  · have h1 : ((n : Int) != (n2 : Int)) = true := by rw [bne_iff_ne]; omega
    go_enter Try.func85, Try.ntmps85
    go_wp2
    go_ret
    exact ⟨by rw [beq_len l m (by rw [HL.out, HM.out]; exact hne)]; rfl, Ext.rf _⟩

set_option maxHeartbeats 1000000 in
theorem sameList_calls (u v : Value) (l m : List Int) (w : World) (hu : Ints w u l) (hv : Ints w v m) (hn : l.length ≤ 1000000) (hm : m.length ≤ 1000000) :
    Calls Try.prog 64 #[u, v] w fun e w' => e = .returned (.bool (l == m)) ∧ Drawn w w' := by
  obtain ⟨a, c, rfl, _, hu⟩ := hu
  obtain ⟨a2, c2, rfl, _, hv⟩ := hv
  have HU := Lib.hid hu; clear hu
  have HV := Lib.hid hv; clear hv
  generalize hln : l.length = n at hn
  generalize hlm : m.length = n2 at hm
  have HL := Lib.hid hln; clear hln
  have HM := Lib.hid hlm; clear hlm
  by_cases hne : n = n2
  · subst hne
    have b1 : ((n : Int) != (n : Int)) = false := by simp
    go_enter Try.func64, Try.ntmps64
    go_wp2
    go_loopg [5] n (fun g s5 wr => ∃ k : Nat, k ≤ n ∧ n - k ≤ g ∧ s5 = .int .i64 k ∧ Aside (Drawn w wr) ∧ Aside (∀ j, j < k → l[j]! = m[j]!))
    case atStart => exact ⟨0, Nat.zero_le _, by omega, rfl, Drawn.rf _, (fun j hj => absurd hj (Nat.not_lt_zero _))⟩
    case round =>
      obtain ⟨k, hk, hg, rfl, HD, A⟩ := hrel
      by_cases hlt : k < n
      · obtain ⟨b, off, rfl, hb, hc⟩ := HU.out (by intro e; have := HL.out; simp [e] at this; omega)
        obtain ⟨b2, off2, rfl, hb2, hc2⟩ := HV.out (by intro e; have := HM.out; simp [e] at this; omega)
        have hcell : wr.cell? ⟨b, off + k, none⟩ = some (.int .i64 l[k]!) := HD.out.ext.cl (hc k (by rw [HL.out]; exact hlt))
        have hcell2 : wr.cell? ⟨b2, off2 + k, none⟩ = some (.int .i64 m[k]!) := HD.out.ext.cl (hc2 k (by rw [HM.out]; exact hlt))
        have hltz : (k : Int) < (n : Int) := by omega
        have hkz : (0 : Int) ≤ (k : Int) := by omega
        clear hc HV hc2 HU
        generalize hy : l[k]! = y at hcell
        generalize hz : m[k]! = z at hcell2
        have B := Lib.hid hy
        have C := Lib.hid hz
        clear hy hz
        cases hq : (y != z) with
        | true =>
          have HQ := Lib.hid hq
          go_wp2
          go_quiet (fail)
          go_wp2
          go_ret
          exact ⟨by rw [beq_at l m (by rw [HL.out, HM.out]) ⟨k, by rw [HL.out]; exact hlt, by rw [B.out, C.out]; simpa using HQ.out⟩]; rfl, HD.out.drN _⟩
        | false =>
          have HQ := Lib.hid hq
          go_wp2
          go_quiet (fail)
          go_wp2
          go_roundg (n - (k + 1))
          case measure => omega
          case rel =>
            refine ⟨k + 1, by omega, by omega, by go_num, HD.out.drN _, (show Aside _ from fun j hj => ?_)⟩
            by_cases e : j = k
            · subst e
              rw [B.out, C.out]; simpa using HQ.out
            · exact A.out j (by omega)
      · have hltz : ¬ (k : Int) < (n : Int) := by omega
        go_wp2
        go_ret
        exact ⟨by rw [beq_all l m (by rw [HL.out, HM.out]) (fun j hj => A.out j (by rw [HL.out] at hj; omega))]; rfl, HD.out⟩
  · have b1 : ((n : Int) != (n2 : Int)) = true := by simp; omega
    have HN := Lib.hid hne; clear hne
    go_enter Try.func64, Try.ntmps64
    go_wp2
    go_ret
    exact ⟨by rw [beq_len l m (by rw [HL.out, HM.out]; exact HN.out)]; rfl, Drawn.rf _⟩

theorem info_int : (Try.prog.info? 3).map (fun i => (i.zero, i.size, i.bytes)) = some (some (.int .i64 0), 1, 8) := by kernel_rfl

/-- The candidates' own numbers, of the first k queues. -/
def cutTo (qs : List (List (List Int))) (k : Nat) : List Int := ((List.range k).filter fun p => decide (0 < qs[p]!.length)).map fun p => qs[p]![0]![p]!
theorem cutTo_succ_yes (qs : List (List (List Int))) (k : Nat) (h : 0 < qs[k]!.length) : cutTo qs (k + 1) = cutTo qs k ++ [qs[k]![0]![k]!] := by
  unfold cutTo
  rw [List.range_succ, List.filter_append, List.map_append]
  congr 1
  rw [List.filter_cons, if_pos (by simpa using h)]
  rfl
theorem cutTo_succ_no (qs : List (List (List Int))) (k : Nat) (h : qs[k]!.length = 0) : cutTo qs (k + 1) = cutTo qs k := by
  unfold cutTo
  rw [List.range_succ, List.filter_append, List.map_append]
  rw [List.filter_cons, if_neg (by rw [h]; simp)]
  simp
theorem cutTo_le (qs : List (List (List Int))) (k : Nat) : (cutTo qs k).length ≤ k := by
  unfold cutTo
  rw [List.length_map]
  have := List.length_filter_le (fun p => decide (0 < qs[p]!.length)) (List.range k)
  rwa [List.length_range] at this
theorem cutTo_all (qs : List (List (List Int))) : ((cutTo qs qs.length).length = qs.length ↔ allB qs = true) ∧ (allB qs = true → cutTo qs qs.length = cutOf qs) := by
  constructor
  · unfold cutTo
    rw [List.length_map]
    have := @List.length_filter_eq_length_iff _ (fun p : Nat => decide (0 < qs[p]!.length)) (List.range qs.length)
    rw [List.length_range] at this
    rw [this]
    unfold allB
    rw [List.all_eq_true]
  · intro h
    unfold cutTo cutOf
    rw [List.filter_eq_self.2 (List.all_eq_true.1 h)]

/-- A conclusion, handed back. -/
def ConcOut (w w' : World) (e : Ending) (b : Bool) (l : List Int) : Prop := ∃ v, e = .returned (.tuple #[.bool b, v]) ∧ Row w' w.heap.size 3 1 v l.length (l.map (Value.int .i64)) ∧ Ext w w'

theorem ints_nil (w : World) : Ints w (.slice none 0 0) [] := ⟨none, 0, rfl, Nat.le_refl _, fun h => absurd rfl h⟩
theorem over_hit (qs : List (List (List Int))) (ended : List Bool) (k : Nat) (hk : k < qs.length) (h : qs[k]!.length = 0) (he : ended[k]! = true) : overB qs ended = true :=
  (range_any _ _).2 ⟨k, hk, by rw [h, he]; rfl⟩

set_option maxHeartbeats 8000000 in
set_option maxRecDepth 100000 in
theorem conclusionP_calls (uq ue uc : Value) (d : Bool) (qs : List (List (List Int))) (ended : List Bool) (w : World) (hq : Sl RQueue 1 w uq qs) (he : Sl RBool 1 w ue ended) (hf : FitQ qs) (hl : ended.length = qs.length) :
    Calls Try.prog 84 #[.agg #[uq, ue, .bool d, uc]] w fun e w' => ConcOut w w' e (doneB qs ended) (cutB qs) := by
  obtain ⟨ii, ni, nz0, nz1, nz2⟩ := info_parts info_int
  have HQ := Lib.hid hq
  have HEN := Lib.hid he
  have HF := Lib.hid hf
  have hn8 := hf.1
  obtain ⟨a, c, rfl, hlc⟩ := hq.shape
  obtain ⟨ea, ec, rfl, hec⟩ := he.shape
  rw [hl] at hec HEN ⊢
  have HCA := Lib.hid (cutTo_all qs)
  have HDB := Lib.hid (show doneB qs ended = (allB qs || overB qs ended) from rfl)
  have HCB := Lib.hid (show cutB qs = if allB qs then cutOf qs else [] from rfl)
  generalize doneB qs ended = db at *
  generalize cutB qs = cb at *
  generalize hn : qs.length = n at *
  have HN := Lib.hid hn
  have HL := Lib.hid hl
  clear hq hf hn he hl
  have HX0 := Lib.hid (heap_alloc_new w (.cells #[.slice a n c, .slice ea n ec, .bool d, uc] 62))
  go_enter Try.func84, Try.ntmps84
  go_wp2
  go_loopg [4, 12] n (fun g s4 s12 wr => ∃ k : Nat, k ≤ n ∧ n - k ≤ g ∧ s12 = .int .i64 k ∧ Aside (Row wr (w.heap.size + 1) 3 1 s4 (cutTo qs k).length ((cutTo qs k).map (Value.int .i64))) ∧ Aside (Ext (w.alloc (.cells #[.slice a n c, .slice ea n ec, .bool d, uc] 62)) wr))
  case atStart => exact ⟨0, Nat.zero_le _, by omega, rfl, Row.mkNil _ _ _ _, Ext.rf _⟩
  case round =>
    obtain ⟨k, hk, hg, rfl, HR, HE⟩ := hrel
    have HEW := Lib.hid (((Ext.rf w).al _).trans' HE.out)
    have hsz := HE.out.sz
    simp at hsz
    have hcl := cutTo_le qs k
    obtain ⟨ra, rc, rfl, hrc, hsh⟩ := HR.out.any
    clear hsh
    by_cases hlt : k < n
    · have hltz : (k : Int) < (n : Int) := by omega
      have hkz : (0 : Int) ≤ (k : Int) := by omega
      obtain ⟨B, O, C, a1, m1, c1, hue0, hcp0, M1, hmc1, HS1, HD1⟩ := heads_at HQ.out HF.out k (by rw [HN.out]; exact hlt)
      simp only [Value.slice.injEq] at hue0
      obtain ⟨rfl, hnn, rfl⟩ := hue0
      have hcp := HEW.out.cl hcp0
      have HM1 := Lib.hid M1
      clear M1 HS1 hnn hcp0
      rcases Nat.eq_zero_or_pos m1 with h1 | h1
      · have hct := cutTo_succ_no qs k (by rw [← HM1.out]; exact h1)
        have b2 : decide (0 < (m1 : Int)) = false := by simp; omega
        have b2' : decide (0 < m1) = false := by simp; omega
        have HCT := Lib.hid hct
        clear hct h1 HD1
        go_wp2
        go_roundg (n - (k + 1))
        case measure => omega
        case rel => exact ⟨k + 1, by omega, by omega, by go_num, (show Row _ _ _ _ _ _ _ from by rw [HCT.out]; exact HR.out), HE.out⟩
      · have hct := cutTo_succ_yes qs k (by rw [← HM1.out]; exact h1)
        have b2 : decide (0 < (m1 : Int)) = true := by simp; omega
        have b2' : decide (0 < m1) = true := by simp; omega
        have HCT := Lib.hid hct
        obtain ⟨x1, y1, e1, f1, g1, rfl, hd1, hk1⟩ := HD1 h1
        have hz1 : (0 : Int) < (m1 : Int) := by omega
        rw [HN.out] at hd1
        have k1 := HEW.out.cl hd1
        have k3 := HEW.out.cl (hk1 k (by rw [HN.out]; exact hlt))
        clear hct h1 HD1 hd1 hk1
        generalize qs[k]![0]![k]! = x at *
        generalize hLL : (cutTo qs k).length = LL at *
        have HLL := Lib.hid hLL
        clear hLL
        go_wp2_with ((at_builtin; refine wpList_append_one rfl _ _ 38 rfl (w.heap.size + 1) 3 ii (.int .i64 0) 1 8 Try.underlying38 ni nz0 nz1 nz2 rfl (by decide) _ _ _ rfl (HR.out.al _) wr.heap.size 1 [.int .i64 x] rfl rfl ⟨_, heap_alloc_new _ _⟩ (by simp [Value.oneCell']) (by unfold maxLen; omega) (by omega) (by simp; omega) ?_; intro v5 w5 hown5 hgrow5 hblk5; have HOWN := Lib.hid hown5; have HGR := Lib.hid (show (wr.alloc (.cells #[.int .i64 x] 3)).grownBy w5 (Value.slice ra LL rc).ownBlock from hgrow5); clear hown5 hgrow5 hblk5))
        go_roundg (n - (k + 1))
        case measure => omega
        case rel =>
          refine ⟨k + 1, by omega, by omega, by go_num, (show Row _ _ _ _ _ _ _ from ?_), (show Ext _ _ from (HE.out.al _).gr HGR.out (fun q hq => by have := (HR.out.lt q hq).1; simp; omega))⟩
          rw [HCT.out, List.length_append, List.map_append, HLL.out]
          exact HOWN.out
    · have hltz : ¬ (k : Int) < (n : Int) := by omega
      obtain rfl : n = k := by omega
      have cb0 := cellOf (HE.out.hp HX0.out) 0
      have cb1 := cellOf (HE.out.hp HX0.out) 1
      simp only [List.getElem?_toArray, List.getElem?_cons_zero, List.getElem?_cons_succ] at cb0 cb1
      have hca := HCA.out
      generalize hLL : (cutTo qs n).length = LL at *
      have HLL := Lib.hid hLL
      clear hLL
      cases hall : allB qs with
      | true =>
        rw [hall] at hca
        have h1 : LL = n := hca.1.2 rfl
        have b3 : ((LL : Int) == (n : Int)) = true := by simp; omega
        have HC2 := Lib.hid (hca.2 rfl)
        have HALL := Lib.hid hall
        clear hca hall h1
        go_wp2
        go_ret2
        refine ⟨_, by rw [HDB.out, HALL.out]; rfl, ?_, HEW.out⟩
        rw [HCB.out, HALL.out, if_pos rfl, ← HC2.out]
        have := HR.out
        rw [HLL.out]
        exact this.mono (by omega)
      | false =>
        rw [hall] at hca
        have h1 : LL ≠ n := fun h => by have := hca.1.1 h; simp at this
        have b3 : ((LL : Int) == (n : Int)) = false := by simp; omega
        have HALL := Lib.hid hall
        clear hca hall h1
        go_wp2
        clear cb0
        obtain ⟨wo, rfl⟩ : ∃ x, x = wr := ⟨_, rfl⟩
        go_loopg [40] n (fun g s40 wr => ∃ k : Nat, k ≤ n ∧ n - k ≤ g ∧ s40 = .int .i64 k ∧ wr = wo ∧ Aside (∀ j, j < k → (decide (qs[j]!.length = 0) && ended[j]!) = false))
        case atStart => exact ⟨0, Nat.zero_le _, by omega, rfl, rfl, fun j hj => absurd hj (Nat.not_lt_zero _)⟩
        case round =>
          obtain ⟨k, hk2, hg2, rfl, rfl, A⟩ := hrel
          by_cases hlt2 : k < n
          · have hltz2 : (k : Int) < (n : Int) := by omega
            have hkz : (0 : Int) ≤ (k : Int) := by omega
            obtain ⟨B, O, C, a1, m1, c1, hue0, hcp0, M1, hmc1, HS1, HD1⟩ := heads_at HQ.out HF.out k (by rw [HN.out]; exact hlt2)
            simp only [Value.slice.injEq] at hue0
            obtain ⟨rfl, hnn, rfl⟩ := hue0
            obtain ⟨EB, EO, EC, ev, hee, _, _, hec0, hev⟩ := HEN.out.at1 k (by rw [HL.out]; exact hlt2)
            simp only [Value.slice.injEq] at hee
            obtain ⟨rfl, hnn2, rfl⟩ := hee
            obtain rfl : ev = .bool ended[k]! := by simpa [RBool] using hev
            have hcp := HEW.out.cl hcp0
            have hce := HEW.out.cl hec0
            have HM1 := Lib.hid M1
            clear M1 HS1 hnn hnn2 hcp0 HD1 hev hec0
            generalize hen : ended[k]! = en at *
            have HENK := Lib.hid hen
            clear hen
            rcases Nat.eq_zero_or_pos m1 with h1 | h1
            · have b2 : ((m1 : Int) == 0) = true := by simp; omega
              have HZ := Lib.hid (show qs[k]!.length = 0 from by rw [← HM1.out]; exact h1)
              clear h1
              cases en with
              | true =>
                go_wp2
                go_ret2
                exact ⟨_, by rw [HDB.out, HALL.out, over_hit qs ended k (by rw [HN.out]; exact hlt2) HZ.out HENK.out]; rfl, by rw [HCB.out, HALL.out]; exact Row.mkNil _ _ _ _, HEW.out⟩
              | false =>
                go_wp2
                go_roundg (n - (k + 1))
                case measure => omega
                case rel =>
                  refine ⟨k + 1, by omega, by omega, by go_num, rfl, (show Aside _ from fun j hj => ?_)⟩
                  by_cases e : j = k
                  · subst e; rw [HENK.out]; simp
                  · exact A.out j (by omega)
            · have b2 : ((m1 : Int) == 0) = false := by simp; omega
              have HZ := Lib.hid (show qs[k]!.length ≠ 0 from by rw [← HM1.out]; omega)
              clear h1
              go_wp2
              go_roundg (n - (k + 1))
              case measure => omega
              case rel =>
                refine ⟨k + 1, by omega, by omega, by go_num, rfl, (show Aside _ from fun j hj => ?_)⟩
                by_cases e : j = k
                · subst e; rw [decide_eq_false HZ.out]; rfl
                · exact A.out j (by omega)
          · have hltz2 : ¬ (k : Int) < (n : Int) := by omega
            go_wp2
            go_ret2
            refine ⟨_, ?_, by rw [HCB.out, HALL.out]; exact Row.mkNil _ _ _ _, HEW.out⟩
            have hov : overB qs ended = false := (range_any_false _ _).2 (fun i hi => A.out i (by rw [HN.out] at hi; omega))
            rw [HDB.out, HALL.out, hov]
            rfl

end Go.Proofs.Ytggofkaakccoeaa
