/-
  The walk of terminate.Check.
-/
import Derived.Test.YtodkcfebcjgahaaBase
import Derived.Test.YtodkcfebcjgahaaProg
import Derived.BigQuiet
import Derived.Deep.QuietTactic
import Derived.Deep.LoopGhost
import Derived.Shelf.Abstract
import Derived.Test.YtodkcfebcjgahaaBig
namespace Go.Proofs.Ytodkcfebcjgahaa
open Go.RowKit
set_option linter.unusedVariables false

set_option maxHeartbeats 400000 in
theorem check1_calls (p q P : Int) (v : Value) (bp : Nat) (w : World) (hc : w.cell? ⟨bp, 0, none⟩ = some (.int .i64 P)) :
    Calls Try.prog 35 #[.agg #[.int .i64 p, .int .i64 q, v], .pointer (some ⟨bp, 0, none⟩)] w fun e w' => e = .returned (.bool (p == P)) ∧ Ext w w' := by
  have hb := World.block_lt_of_cell? w _ hc
  simp only at hb
  go_enter Try.func35, Try.ntmps35
  go_wp2
  go_ret
  exact ⟨rfl, (Ext.rf _).al _⟩

theorem check_says {P : Int} {bp : Nat} {w : World} (hc : w.cell? ⟨bp, 0, none⟩ = some (.int .i64 P)) (l : List Wt) :
    SaysOf Try.prog RWait encAgg 35 #[.pointer (some ⟨bp, 0, none⟩)] (fun y => y.proc == P) l w := by
  rintro x _ W vs hW ⟨v, rfl, _⟩
  exact check1_calls x.proc x.need P v bp W (hW.cl hc)

/-- The marks of the first k. -/
def marksTo (N : Nat) (s : List Int) (k : Nat) : List Bool := marksOf N (s.take k)
theorem marksTo_step {N : Nat} {s : List Int} {k Y : Nat} (hk : k < s.length) (hY : s[k]! = (Y : Int)) (hN : Y < N) : (marksTo N s k).set Y true = marksTo N s (k + 1) := by
  unfold marksTo
  refine List.ext_getElem (by rw [List.length_set, marksOf_len, marksOf_len]) fun i h1 h2 => ?_
  rw [marksOf_len] at h2
  have e1 := marksOf_get N (s.take k) i h2
  have e2 := marksOf_get N (s.take (k + 1)) i h2
  rw [getElem!_pos _ i (by rw [marksOf_len]; exact h2)] at e1 e2
  rw [List.getElem_set, e2, take_snoc' s k hk, hY]
  simp only [List.contains_eq_mem, List.mem_append, List.mem_singleton]
  split
  · rename_i e; subst e; simp
  · rename_i e
    rw [e1, List.contains_eq_mem]
    have : ((i : Int) = (Y : Int)) = False := by simp; omega
    simp only [this, or_false]

theorem heldB_hit {l : List Wt} {M : List Bool} {p : Int} {i : Nat} (h : firstAt (fun x : Wt => x.proc == p) l = (i : Int)) : i < l.length ∧ heldB l M p = blockedB l[i]! M := by
  unfold firstAt at h
  cases hf : l.findIdx? (fun x : Wt => x.proc == p) with
  | none => rw [hf] at h; simp only at h; omega
  | some j =>
    rw [hf] at h
    simp only at h
    obtain rfl : j = i := by omega
    obtain ⟨hj, hp, hn⟩ := List.findIdx?_eq_some_iff_getElem.1 hf
    refine ⟨hj, ?_⟩
    have : l.find? (fun x : Wt => x.proc == p) = some l[j] := by
      rw [List.find?_eq_some_iff_getElem]
      exact ⟨hp, j, hj, rfl, fun k hk => by simpa using hn k hk⟩
    unfold heldB
    rw [this, getElem!_pos l j hj]
theorem heldB_miss {l : List Wt} {M : List Bool} {p : Int} (h : firstAt (fun x : Wt => x.proc == p) l < 0) : heldB l M p = false := by
  unfold firstAt at h
  cases hf : l.findIdx? (fun x : Wt => x.proc == p) with
  | some j => rw [hf] at h; simp only at h; omega
  | none =>
    have : l.find? (fun x : Wt => x.proc == p) = none := by
      rw [List.find?_eq_none]; intro x hx; have := List.findIdx?_eq_none_iff.1 hf x hx; simp [this]
    unfold heldB
    rw [this]

theorem checkB_up {l : List Wt} {n : Int} {s : List Int} (k : Nat) (hk : k < s.length) (h : (decide (s[k]! < 0) || decide (n ≤ s[k]!) || (decide (0 < k) && decide (s[k]! ≤ s[k - 1]!))) = true) : checkB l n s = false := by
  have : upAll n s = false := by
    unfold upAll
    rw [List.all_eq_false]
    exact ⟨k, List.mem_range.2 hk, by rw [h]; simp⟩
  simp [checkB, this]
theorem checkB_held {l : List Wt} {n : Int} {s : List Int} (k : Nat) (hk : k < s.length) (h : heldB l (marksOf n.toNat s) s[k]! = false) : checkB l n s = false := by
  have : s.all (heldB l (marksOf n.toNat s)) = false := all_miss _ _ k hk h
  simp only [checkB, this, Bool.and_false]
theorem checkB_yes {l : List Wt} {n : Int} {s : List Int} (hv : validL l n = 0) (h1 : ∀ k, k < s.length → (decide (s[k]! < 0) || decide (n ≤ s[k]!) || (decide (0 < k) && decide (s[k]! ≤ s[k - 1]!))) = false)
    (h2 : ∀ k, k < s.length → heldB l (marksOf n.toNat s) s[k]! = true) : checkB l n s = true := by
  have a : upAll n s = true := by
    unfold upAll
    rw [List.all_eq_true]
    intro i hi
    rw [h1 i (List.mem_range.1 hi)]; rfl
  have b : s.all (heldB l (marksOf n.toNat s)) = true := all_hit _ _ h2
  simp only [checkB, hv, a, b]; rfl

theorem info_boolC : (Try.prog.info? 4).map (fun i => (i.zero, i.size, i.bytes)) = some (some (.bool false), 1, 1) := by kernel_rfl

set_option maxHeartbeats 4000000 in
set_option maxRecDepth 100000 in
theorem check_calls (u v : Value) (l : List Wt) (s : List Int) (n : Int) (w : World) (hu : Sl RWait 3 w u l) (hv : Ints w v s) (hn : l.length ≤ 1000000) (hfl : ∀ x, x ∈ l → x.fors.length ≤ 1000000) (hs : s.length ≤ 1000000) :
    Calls Try.prog 17 #[u, .int .i64 n, v] w fun e w' => e = .returned (.bool (checkB l n s)) ∧ Ext w w' := by
  have HV := Lib.hid (valid_calls u l n w hu hn hfl)
  by_cases h0 : validL l n = 0
  case neg =>
    have HC := Lib.hid (show checkB l n s = false from by simp [checkB, h0])
    rw [HC.out]
    generalize validL l n = q at *
    have hq : (q != 0) = true := by rw [bne_iff_ne]; exact h0
    clear hu hn hfl hv hs h0
    go_enter Try.func17, Try.ntmps17
    go_wp2_with fail
    refine (HV.out).mono ?_
    rintro e w1 ⟨rfl, he1⟩
    have HE := Lib.hid he1; clear he1
    go_wp2
    go_ret
    exact ⟨rfl, HE.out⟩
  rw [h0] at HV
  obtain ⟨g1, g2, gok⟩ := validL_dok h0
  obtain ⟨N, rfl⟩ : ∃ N : Nat, n = (N : Int) := ⟨n.toNat, by omega⟩
  rw [Int.toNat_natCast] at gok
  have hN : N ≤ 512 := by omega
  have hq : ((0 : Int) != 0) = false := by simp
  have OK := Lib.hid gok
  have SL := Lib.hid hu
  obtain ⟨a, c, rfl, hlc, hu⟩ := hu
  have HU := Lib.hid hu; clear hu
  have HF := Lib.hid hfl; clear hfl
  obtain ⟨va, vc, rfl, hvc, hv⟩ := hv
  have VS := Lib.hid hv; clear hv
  obtain ⟨ib, bi, bz0, bz1, bz2⟩ := info_parts info_boolC
  have CU := Lib.hid (fun k hk h => checkB_up (l := l) (n := (N : Int)) (s := s) k hk h)
  have CH := Lib.hid (fun k hk h => checkB_held (l := l) (n := (N : Int)) (s := s) k hk h)
  have CY := Lib.hid (fun h1 h2 => checkB_yes (l := l) (n := (N : Int)) (s := s) h0 h1 h2)
  rw [Int.toNat_natCast] at CH CY
  generalize checkB l (N : Int) s = ans at *
  generalize hln : l.length = L at *
  have HL := Lib.hid hln
  generalize hsn : s.length = S at *
  have HS := Lib.hid hsn
  clear hln hsn g2 gok h0 hlc hvc
  go_enter Try.func17, Try.ntmps17
  go_wp2_with fail
  refine (HV.out).mono ?_
  rintro e w1 ⟨rfl, he1⟩
  have HE1 := Lib.hid he1; clear he1 HV
  go_wp2_with ((at_make; refine wpList_make_full _ rfl _ _ 49 rfl w.heap.size 4 ib (.bool false) 1 Try.underlying49 bi bz0 bz1 .i64 .i64 _ _ N rfl rfl rfl rfl (by rw [bz2]; omega) (by unfold maxLen; omega) HE1.out.sz ?_; intro w3 hown3 hgrow3))
  have HB3 := Lib.hid (show Row w3 w.heap.size 4 1 (.slice (some ⟨w1.heap.size, 0, none⟩) N N) N ((marksTo N s 0).map Value.bool) from by
    have := Row.ofOwns hown3
    rw [show (Value.bool false).cells = #[.bool false] from rfl, Nat.mul_one, toList_madeCells_one] at this
    have e : marksTo N s 0 = List.replicate N false := List.ext_getElem (by simp [marksTo, marksOf_len]) fun i h1 h2 => by simp [marksTo, marksOf]
    rw [e, List.map_replicate]; exact this)
  have HE3 := Lib.hid (HE1.out.gr hgrow3 (by simp))
  have hbr : w.heap.size ≤ w1.heap.size := HE1.out.sz
  generalize w1.heap.size = br at *
  clear hown3 hgrow3 HE1
  go_loopg [21] S (fun g s21 wr => ∃ k : Nat, k ≤ S ∧ S - k ≤ g ∧ s21 = .int .i64 k ∧ Ext w wr ∧ Aside (Row wr w.heap.size 4 1 (.slice (some ⟨br, 0, none⟩) N N) N ((marksTo N s k).map Value.bool)) ∧
    Aside (∀ j, j < k → (decide (s[j]! < 0) || decide ((N : Int) ≤ s[j]!) || (decide (0 < j) && decide (s[j]! ≤ s[j - 1]!))) = false))
  case atStart => exact ⟨0, Nat.zero_le _, by omega, rfl, HE3.out, HB3.out, fun j hj => absurd hj (Nat.not_lt_zero _)⟩
  case round =>
    obtain ⟨k, hk, hg, rfl, he, hB, A⟩ := hrel
    have HE := Lib.hid he; clear he HB3 HE3
    by_cases hlt : k < S
    · have hltz : (k : Int) < (S : Int) := by omega
      obtain ⟨b, off, rfl, hb, hc⟩ := VS.out (by intro e; have := HS.out; simp [e] at this; omega)
      have d0 : wr.cell? ⟨b, off + k, none⟩ = some (.int .i64 s[k]!) := HE.out.cl (hc k hlt)
      have D1 := Lib.hid (fun (hk0 : 0 < k) => (show wr.cell? ⟨b, off + (k - 1), none⟩ = some (.int .i64 s[k - 1]!) from HE.out.cl (hc (k - 1) (by omega))))
      have CU2 := Lib.hid (CU.out k hlt)
      have AK := Lib.hid (fun (h : (decide (s[k]! < 0) || decide ((N : Int) ≤ s[k]!) || (decide (0 < k) && decide (s[k]! ≤ s[k - 1]!))) = false) => (show ∀ j, j < k + 1 → (decide (s[j]! < 0) || decide ((N : Int) ≤ s[j]!) || (decide (0 < j) && decide (s[j]! ≤ s[j - 1]!))) = false from fun j hj => by
        by_cases e : j = k
        · subst e; exact h
        · exact A.out j (by omega)))
      have MS := Lib.hid (fun (Y : Nat) (hY : s[k]! = (Y : Int)) (hYN : Y < N) => marksTo_step (N := N) (s := s) (k := k) (by rw [HS.out]; exact hlt) hY hYN)
      clear hc
      generalize s[k]! = y at *
      by_cases t1 : y < 0
      · have HA := Lib.hid (CU2.out (by simp [t1]))
        go_wp2
        go_ret
        exact ⟨by rw [HA.out]; rfl, HE.out⟩
      by_cases t2 : (N : Int) ≤ y
      · have HA := Lib.hid (CU2.out (by simp [t2]))
        go_wp2
        go_ret
        exact ⟨by rw [HA.out]; rfl, HE.out⟩
      obtain ⟨Y, rfl⟩ : ∃ Y : Nat, y = (Y : Int) := ⟨y.toNat, by omega⟩
      have hYN : Y < N := by omega
      have hm : ∃ bb, wr.cell? ⟨br, Y, none⟩ = some bb := by
        have := hB.out.cell Y (by omega)
        rw [Nat.zero_add] at this
        rw [this, List.getElem?_map, List.getElem?_eq_getElem (by rw [marksTo, marksOf_len]; omega)]
        exact ⟨_, rfl⟩
      obtain ⟨bb, hm⟩ := hm
      have hfr : wr.frozen? ⟨br, Y, none⟩ = false := hB.out.free Y
      have HSt := Lib.hid (hB.out.set Y (.bool true) (by omega))
      rw [Nat.zero_add, ← List.map_set, MS.out Y rfl hYN] at HSt
      by_cases hk0 : 0 < k
      · have hk0z : (0 : Int) < (k : Int) := by omega
        have ek : ((k : Int) - 1).toNat = k - 1 := by omega
        obtain ⟨k1, rfl⟩ : ∃ k1, k = k1 + 1 := ⟨k - 1, by omega⟩
        have d1 := D1.out hk0
        rw [show k1 + 1 - 1 = k1 by omega] at d1 CU2 AK
        clear ek D1
        generalize s[k1]! = z at *
        by_cases t3 : (Y : Int) ≤ z
        · have HA := Lib.hid (CU2.out (by simp [t3]))
          go_wp2
          go_ret
          exact ⟨by rw [HA.out]; rfl, HE.out⟩
        · have AK2 := Lib.hid (AK.out (by simp; omega))
          go_wp2
          go_roundg (S - (k1 + 1 + 1))
          case measure => omega
          case rel => exact ⟨k1 + 1 + 1, by omega, by omega, by go_num, HE.out.st hbr _, HSt.out, AK2.out⟩
      · obtain rfl : k = 0 := by omega
        rw [Nat.add_zero] at d0
        have AK2 := Lib.hid (AK.out (by simp; omega))
        go_wp2
        go_roundg (S - 1)
        case measure => omega
        case rel => exact ⟨1, by omega, by omega, by go_num, HE.out.st hbr _, HSt.out, AK2.out⟩
    · have hltz : ¬ (k : Int) < (S : Int) := by omega
      obtain rfl : k = S := by omega
      have HM := Lib.hid (show Row wr w.heap.size 4 1 (.slice (some ⟨br, 0, none⟩) N N) N ((marksOf N s).map Value.bool) from by
        have := hB.out
        rw [marksTo, List.take_of_length_le (by rw [HS.out]; exact Nat.le_refl _)] at this
        exact this)
      have HML := Lib.hid (marksOf_len N s)
      clear hB CU
      generalize marksOf N s = M at *
      obtain ⟨w4, rfl⟩ : ∃ w4 : World, w4 = wr := ⟨_, rfl⟩
      go_wp2
      go_loopg [52] k (fun g s52 wr => ∃ j : Nat, j ≤ k ∧ k - j ≤ g ∧ s52 = .int .i64 j ∧ Ext w4 wr ∧ Aside (∀ i, i < j → heldB l M s[i]! = true))
      case atStart => exact ⟨0, Nat.zero_le _, by omega, rfl, Ext.rf _, fun j hj => absurd hj (Nat.not_lt_zero _)⟩
      case round =>
        obtain ⟨j, hj, hjg, rfl, he2, A2⟩ := hrel
        have HX := Lib.hid he2
        have HE2 := Lib.hid (HE.out.trans' he2)
        clear he2
        by_cases hjt : j < k
        · have hjtz : (j : Int) < (k : Int) := by omega
          obtain ⟨b, off, rfl, hb, hc⟩ := VS.out (by intro e; have := HS.out; simp [e] at this; omega)
          have d0 : wr.cell? ⟨b, off + j, none⟩ = some (.int .i64 s[j]!) := HE2.out.cl (hc j hjt)
          have CHj := Lib.hid (CH.out j hjt)
          have IX := Lib.hid (fun (W : World) (hW : Ext w W) (P : Int) (bp : Nat) (hP : W.cell? ⟨bp, 0, none⟩ = some (.int .i64 P)) => indexFunc_wait RWait rwait_lasts _ _ enters_35 (fun y => y.proc == P) _ l W (SL.out.ext rwait_lasts hW) (by rw [HL.out]; exact hn) (check_says hP l))
          clear hc
          generalize hp : s[j]! = p at d0 CHj
          have HY := Lib.hid hp; clear hp
          have HEa := Lib.hid (HE2.out.al (.cells #[.int .i64 p] 3))
          have HXa := Lib.hid (HX.out.al (.cells #[.int .i64 p] 3))
          by_cases hf : firstAt (fun x : Wt => x.proc == p) l < 0
          · have HA := Lib.hid (CHj.out (heldB_miss hf))
            generalize hfe : firstAt (fun x : Wt => x.proc == p) l = fx at *
            have HFE := Lib.hid hfe; clear hfe
            go_wp2_with fail
            refine (IX.out _ HEa.out p wr.heap.size (cell_new _ _ _ _ _ rfl)).mono ?_
            rw [HFE.out]
            rintro e w5 ⟨rfl, he5⟩
            have HE5 := Lib.hid (HEa.out.trans' he5); clear he5
            go_wp2
            go_ret
            exact ⟨by rw [HA.out]; rfl, HE5.out⟩
          · obtain ⟨i, hi⟩ : ∃ i : Nat, firstAt (fun x : Wt => x.proc == p) l = (i : Int) := ⟨(firstAt (fun x : Wt => x.proc == p) l).toNat, by omega⟩
            obtain ⟨hil, hhe⟩ := heldB_hit (M := M) hi
            rw [HL.out] at hil
            obtain ⟨b2, off2, rfl, hb2, hc2⟩ := HU.out (by intro e; have := HL.out; simp [e] at this; omega)
            obtain ⟨vs, hvs, ⟨fv, rfl, hfi⟩, hcell⟩ := hc2 i hil
            have hmem := mem_at l i (by rw [HL.out]; exact hil)
            obtain ⟨_, hfo⟩ := OK.out _ hmem
            have EC := Lib.hid (fun (W : World) (hW : Ext w W) => (show W.cell? ⟨b2, off2 + i * 3, none⟩ = some (.int .i64 l[i]!.proc) ∧ W.cell? ⟨b2, off2 + i * 3 + 1, none⟩ = some (.int .i64 l[i]!.need) ∧ W.cell? ⟨b2, off2 + i * 3 + 2, none⟩ = some fv from ⟨hW.cl (hcell 0 (by omega)), hW.cl (hcell 1 (by omega)), hW.cl (hcell 2 (by omega))⟩))
            have BC := Lib.hid (fun (W : World) (hW : Ext w W) (hX : Ext w4 W) => blocked_calls l[i]! N M fv (.slice (some ⟨br, 0, none⟩) N N) W (hfi.ext hW) ((HM.out.ext hX).cells) hfo (HF.out _ hmem))
            have HFE := Lib.hid hi
            have HHE := Lib.hid hhe
            clear hcell hc2 hvs hfi hfo hmem hi hhe hf
            generalize blockedB l[i]! M = bl at *
            generalize l[i]! = x at *
            obtain ⟨xp, xq, fl⟩ := x
            simp only at *
            have hilz : (i : Int) < (L : Int) := by omega
            go_wp2_with fail
            refine (IX.out _ HEa.out p wr.heap.size (cell_new _ _ _ _ _ rfl)).mono ?_
            rw [HFE.out]
            rintro e w5 ⟨rfl, he5⟩
            have HE5 := Lib.hid (HEa.out.trans' he5)
            have HX5 := Lib.hid (HXa.out.trans' he5)
            clear he5
            obtain ⟨e0, e1, e2⟩ := EC.out _ HE5.out
            go_wp2_with fail
            refine (BC.out _ HE5.out HX5.out).mono ?_
            rintro e w6 ⟨rfl, he6⟩
            have HE6 := Lib.hid (HE5.out.trans' he6)
            have HX6 := Lib.hid (HX5.out.trans' he6)
            clear he6 e0 e1 e2
            cases bl with
            | false =>
              have HA := Lib.hid (CHj.out HHE.out)
              go_wp2
              go_ret
              exact ⟨by rw [HA.out]; rfl, HE6.out⟩
            | true =>
              go_wp2
              go_roundg (k - (j + 1))
              case measure => omega
              case rel =>
                refine ⟨j + 1, by omega, by omega, by go_num, HX6.out, (show Aside _ from fun i hi => ?_)⟩
                by_cases e : i = j
                · subst e; rw [HY.out]; exact HHE.out
                · exact A2.out i (by omega)
        · have hjtz : ¬ (j : Int) < (k : Int) := by omega
          obtain rfl : j = k := by omega
          have HA := Lib.hid (CY.out A.out A2.out)
          go_wp2
          go_ret
          exact ⟨by rw [HA.out]; rfl, HE2.out⟩

end Go.Proofs.Ytodkcfebcjgahaa
