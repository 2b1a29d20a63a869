/-
  The walk of terminate.Deadlock.
-/
import Derived.Test.YtodkcfebcjgahaaBase
import Derived.Test.YtodkcfebcjgahaaProg
import Derived.BigQuiet
import Derived.Deep.QuietTactic
import Derived.Deep.LoopGhost
import Derived.Shelf.Abstract
import Derived.Test.YtodkcfebcjgahaaValid
import Derived.Test.YtodkcfebcjgahaaSoC
namespace Go.Proofs.Ytodkcfebcjgahaa
open Go.RowKit
set_option linter.unusedVariables false

theorem info_bool' : (Try.prog.info? 4).map (fun i => (i.zero, i.size, i.bytes)) = some (some (.bool false), 1, 1) := by kernel_rfl

/-- What comes back: the members of the greatest stuck set, ascending, in a row of the call's own. -/
def DeadPost (l : List Wt) (N : Nat) (w w' : World) (v' : Value) : Prop :=
  ∃ M, Row w' w.heap.size 3 1 v' (marks M N).length ((marks M N).map (Value.int .i64)) ∧ M.length = N ∧ StuckM l N M ∧ AllStuck l N M

set_option maxHeartbeats 1000000 in
theorem deadlock_bad (u : Value) (l : List Wt) (n : Int) (w : World) (hu : Sl RWait 3 w u l) (hn : l.length ≤ 1000000) (hfl : ∀ x, x ∈ l → x.fors.length ≤ 1000000) (hbad : validL l n ≠ 0) :
    Calls Try.prog 8 #[u, .int .i64 n] w fun e w' => e = .returned (.tuple #[.slice none 0 0, .int .i64 (validL l n)]) ∧ Ext w w' := by
  have HV := Lib.hid (valid_calls u l n w hu hn hfl)
  generalize validL l n = q at *
  have hq : (q != 0) = true := by rw [bne_iff_ne]; exact hbad
  clear hu hn hfl hbad
  go_enter Try.func8, Try.ntmps8
  go_wp2_with fail
  refine (HV.out).mono ?_
  rintro e w1 ⟨rfl, he1⟩
  have HE := Lib.hid he1; clear he1
  go_wp2
  go_ret2
  exact ⟨rfl, HE.out⟩

set_option maxHeartbeats 4000000 in
set_option maxRecDepth 100000 in
theorem deadlock_good (u : Value) (l : List Wt) (n : Int) (w : World) (hu : Sl RWait 3 w u l) (hn : l.length ≤ 1000000) (hfl : ∀ x, x ∈ l → x.fors.length ≤ 1000000) (hgood : validL l n = 0) :
    Calls Try.prog 8 #[u, .int .i64 n] w fun e w' => ∃ v', e = .returned (.tuple #[v', .int .i64 0]) ∧ Ext w w' ∧ DeadPost l n.toNat w w' v' := by
  have HV := Lib.hid (valid_calls u l n w hu hn hfl)
  rw [hgood] at HV
  obtain ⟨g1, g2, gok⟩ := validL_dok hgood
  have one := validL_once hgood
  obtain ⟨N, rfl⟩ : ∃ N : Nat, n = (N : Int) := ⟨n.toNat, by omega⟩
  rw [Int.toNat_natCast] at gok
  rw [Int.toNat_natCast]
  have hN : N ≤ 512 := by omega
  have hq : ((0 : Int) != 0) = false := by simp
  have OK := Lib.hid gok
  have ONE := Lib.hid one
  have SL := Lib.hid hu
  obtain ⟨a, c, rfl, hlc, hu⟩ := hu
  have HU := Lib.hid hu; clear hu
  have HF := Lib.hid hfl; clear hfl
  obtain ⟨ib, bi, bz0, bz1, bz2⟩ := info_parts info_bool'
  obtain ⟨ii, ni, nz0, nz1, nz2⟩ := info_parts info_int
  generalize hln : l.length = L at hn hlc
  have HL := Lib.hid hln
  rw [hln] at HV
  clear hln g2 gok one hgood hlc
  go_enter Try.func8, Try.ntmps8
  go_wp2_with fail
  refine (HV.out).mono ?_
  rintro e w1 ⟨rfl, he1⟩
  have HE1 := Lib.hid he1; clear he1 HV
  go_wp2_with ((at_make; refine wpList_make_full _ rfl _ _ 49 rfl w.heap.size 4 ib (.bool false) 1 Try.underlying49 bi bz0 bz1 .i64 .i64 _ _ N rfl rfl rfl rfl (by rw [bz2]; omega) (by unfold maxLen; omega) HE1.out.sz ?_; intro w3 hown3 hgrow3))
  have HB3 := Lib.hid (show Row w3 w.heap.size 4 1 (.slice (some ⟨w1.heap.size, 0, none⟩) N N) N ((List.replicate N false).map Value.bool) from by
    have := Row.ofOwns hown3
    rw [show (Value.bool false).cells = #[.bool false] from rfl, Nat.mul_one, toList_madeCells_one] at this
    rw [List.map_replicate]; exact this)
  have HE3 := Lib.hid (HE1.out.gr hgrow3 (by simp))
  have hbr : w.heap.size ≤ w1.heap.size := HE1.out.sz
  generalize w1.heap.size = br at *
  clear hown3 hgrow3 HE1
  go_loopg [26] L (fun g s26 wr => ∃ (k : Nat) (M : List Bool), k ≤ L ∧ L - k ≤ g ∧ s26 = .int .i64 k ∧ M.length = N ∧ Ext w wr ∧ Aside (Row wr w.heap.size 4 1 (.slice (some ⟨br, 0, none⟩) N N) N (M.map Value.bool)) ∧ Aside (Asks l N M k))
  case atStart => exact ⟨0, _, Nat.zero_le _, by omega, rfl, by simp, HE3.out, HB3.out, asks_start l N⟩
  case round =>
    obtain ⟨k, M, hk, hg, rfl, hM, he, hB, hA⟩ := hrel
    have HE := Lib.hid he; clear he HB3 HE3
    by_cases hlt : k < L
    · obtain ⟨b, off, rfl, hb, hc⟩ := HU.out (by intro e; have := HL.out; simp [e] at this; omega)
      obtain ⟨vs, hvs, ⟨fv, rfl, hfi⟩, hcell⟩ := hc k (by rw [HL.out]; exact hlt)
      have d0 : wr.cell? ⟨b, off + k * 3, none⟩ = some (.int .i64 l[k]!.proc) := HE.out.cl (hcell 0 (by omega))
      have d1 : wr.cell? ⟨b, off + k * 3 + 1, none⟩ = some (.int .i64 l[k]!.need) := HE.out.cl (hcell 1 (by omega))
      have d2 : wr.cell? ⟨b, off + k * 3 + 2, none⟩ = some fv := HE.out.cl (hcell 2 (by omega))
      have hltz : (k : Int) < (L : Int) := by omega
      obtain ⟨⟨p0, p1⟩, _⟩ := OK.out _ (mem_at l k (by rw [HL.out]; exact hlt))
      clear hc hcell hvs HU
      obtain ⟨fa, fc, rfl, hfc, hfd⟩ := hfi
      clear hfd hfc
      have AS := Lib.hid (fun (X : Nat) (hX : l[k]!.proc = (X : Int)) (hXN : X < N) => asks_step hM hA.out (by rw [HL.out]; exact hlt) hX hXN)
      generalize l[k]! = x at *
      obtain ⟨p, q, fl⟩ := x
      simp only at *
      obtain ⟨X, rfl⟩ : ∃ X : Nat, p = (X : Int) := ⟨p.toNat, by omega⟩
      have hXN : X < N := by omega
      have hm : ∃ bb, wr.cell? ⟨br, X, none⟩ = some bb := by
        have := hB.out.cell X (by omega)
        rw [Nat.zero_add] at this
        rw [this, List.getElem?_map, List.getElem?_eq_getElem (by omega)]
        exact ⟨_, rfl⟩
      obtain ⟨bb, hm⟩ := hm
      have hbrw : br < wr.heap.size := World.block_lt_of_cell? wr _ hm
      have hfr : wr.frozen? ⟨br, X, none⟩ = false := hB.out.free X
      have HS := Lib.hid (hB.out.set X (.bool true) (by omega))
      rw [Nat.zero_add, ← List.map_set] at HS
      go_wp2
      go_roundg (L - (k + 1))
      case measure => omega
      case rel =>
        refine ⟨k + 1, M.set X true, by omega, by omega, by go_num, by rw [List.length_set]; exact hM, ?_, ?_, AS.out X rfl hXN⟩
        · first | exact (HE.out.al _).st hbr _ | exact (HE.out.st (p := ⟨br, X, none⟩) hbr _).al _
        · first | exact HS.out.al _ | exact (show Row _ _ _ _ _ _ _ from by have := (hB.out.al _).set X (.bool true) (by omega); rw [Nat.zero_add, ← List.map_set] at this; exact this)
    · have hltz : ¬ (k : Int) < (L : Int) := by omega
      obtain rfl : k = L := by omega
      have DI := Lib.hid (dinv_start (l := l) (N := N) (M := M) (by rw [HL.out]; exact hA.out))
      go_wp2
      go_loopg [10] (2 * N + 1) (fun g s10 wr => ∃ (M : List Bool) (again : Bool), M.length = N ∧ s10 = .bool again ∧ 2 * setc M + (if again then 1 else 0) ≤ g ∧ Ext w wr ∧ Aside (Row wr w.heap.size 4 1 (.slice (some ⟨br, 0, none⟩) N N) N (M.map Value.bool)) ∧ Aside (DInv l N M) ∧ Aside (again = false → ∀ x, x ∈ l → M[x.proc.toNat]! = true → blockedB x M = true))
      case atStart => exact ⟨M, true, hM, rfl, (by have := setc_le M; rw [hM] at this; simp; omega), HE.out, hB.out, DI.out, fun h => by simp at h⟩
      case round =>
        obtain ⟨M0, again, hM0, rfl, hg2, he0, hB0, hD0, hF0⟩ := hrel
        obtain ⟨wo, rfl⟩ : ∃ wo : World, wo = wr := ⟨_, rfl⟩
        have HE0 := Lib.hid he0; clear he0 hB hA HE DI
        cases again with
        | false =>
          have HD := Lib.hid (dinv_end hD0.out (hF0.out rfl))
          have HD1 := Lib.hid hD0.out.1
          clear hD0 hF0 HU SL
          go_wp2
          go_loopg [13, 60] N (fun g v13 s60 wr => ∃ j : Nat, j ≤ N ∧ N - j ≤ g ∧ s60 = .int .i64 j ∧ Aside (Row wr w.heap.size 3 1 v13 (marks M0 j).length ((marks M0 j).map (Value.int .i64))) ∧
            Aside (Row wr w.heap.size 4 1 (.slice (some ⟨br, 0, none⟩) N N) N (M0.map Value.bool)) ∧ Ext w wr)
          case atStart => exact ⟨0, Nat.zero_le _, by omega, rfl, Row.mkNil _ _ _ _, hB0.out, HE0.out⟩
          case round =>
            obtain ⟨j, hj, hjg, rfl, hG, hB2, he2⟩ := hrel
            have HE2 := Lib.hid he2; clear he2
            by_cases hlt : j < N
            · have hltz : (j : Int) < (N : Int) := by omega
              have hcell : wr.cell? ⟨br, j, none⟩ = some (.bool M0[j]!) := by
                have := hB2.out.cell j (by omega)
                rw [Nat.zero_add] at this
                rw [this, List.getElem?_map, List.getElem?_eq_getElem (by omega), getElem!_pos M0 j (by omega)]
                rfl
              have hgl := marks_len M0 j
              cases hMk : M0[j]! with
              | false =>
                have HM := Lib.hid hMk
                rw [hMk] at hcell
                clear hMk
                go_wp2
                go_roundg (N - (j + 1))
                case measure => omega
                case rel => exact ⟨j + 1, by omega, by omega, by go_num, by rw [marks_no M0 j HM.out]; exact hG, hB2, HE2.out⟩
              | true =>
                have HM := Lib.hid hMk
                rw [hMk] at hcell
                clear hMk
                go_wp2_with ((at_builtin; refine wpList_append_one rfl _ _ 26 rfl w.heap.size 3 ii (.int .i64 0) 1 8 Try.underlying26 ni nz0 nz1 nz2 rfl (by decide) _ _ _ rfl (hG.out.al _) wr.heap.size 1 [.int .i64 j] rfl rfl ⟨_, heap_alloc_new _ _⟩ (by simp [Value.oneCell']) (by unfold maxLen; omega) (by omega) ((HE2.out).al _).sz ?_; intro v5 w5 hown5 hgrow5 hblk5))
                go_roundg (N - (j + 1))
                case measure => omega
                case rel =>
                  refine ⟨j + 1, by omega, by omega, by go_num, ?_, ?_, ?_⟩
                  · rw [marks_yes M0 j HM.out, List.length_append, List.map_append]; exact hown5
                  · exact (hB2.out.al _).grown hgrow5 (hB2.out.apart hG.out (by decide))
                  · exact (HE2.out.al _).gr hgrow5 (fun k hk => (hG.out.lt k hk).1)
            · have hltz : ¬ (j : Int) < (N : Int) := by omega
              obtain rfl : j = N := by omega
              go_wp2
              go_ret2
              exact ⟨_, rfl, HE2.out, M0, hG.out, hM0, HD.out, HD1.out⟩
        | true =>
          simp only [if_true] at hg2
          clear hF0
          go_wp2
          go_loopg [10, 38] k (fun g s10 s38 wr => ∃ (j : Nat) (M2 : List Bool) (ag : Bool), j ≤ k ∧ k - j ≤ g ∧ s38 = .int .i64 j ∧ s10 = .bool ag ∧ M2.length = N ∧ Ext w wr ∧
            Aside (Row wr w.heap.size 4 1 (.slice (some ⟨br, 0, none⟩) N N) N (M2.map Value.bool)) ∧ Aside (DInv l N M2) ∧ setc M2 + (if ag then 1 else 0) ≤ setc M0 ∧
            Aside (ag = false → ∀ i, i < j → M2[l[i]!.proc.toNat]! = true → blockedB l[i]! M2 = true))
          case atStart => exact ⟨0, M0, false, Nat.zero_le _, by omega, rfl, rfl, hM0, HE0.out, hB0.out, hD0.out, by simp, fun _ i hi => absurd hi (Nat.not_lt_zero _)⟩
          case round =>
            obtain ⟨j, M2, ag, hj, hjg, rfl, rfl, hM2, he2, hB2, hD2, hs2, hF2⟩ := hrel
            have HE2 := Lib.hid he2; clear he2
            by_cases hlt : j < k
            · have hltz : (j : Int) < (k : Int) := by omega
              obtain ⟨b, off, rfl, hb, hc⟩ := HU.out (by intro e; have := HL.out; simp [e] at this; omega)
              obtain ⟨vs, hvs, ⟨fv, rfl, hfi⟩, hcell⟩ := hc j (by rw [HL.out]; exact hlt)
              have d0 : wr.cell? ⟨b, off + j * 3, none⟩ = some (.int .i64 l[j]!.proc) := HE2.out.cl (hcell 0 (by omega))
              have d1 : wr.cell? ⟨b, off + j * 3 + 1, none⟩ = some (.int .i64 l[j]!.need) := HE2.out.cl (hcell 1 (by omega))
              have d2 : wr.cell? ⟨b, off + j * 3 + 2, none⟩ = some fv := HE2.out.cl (hcell 2 (by omega))
              obtain ⟨⟨p0, p1⟩, hfo⟩ := OK.out _ (mem_at l j (by rw [HL.out]; exact hlt))
              have BC := Lib.hid (fun (W : World) (hW : Ext wr W) => blocked_calls l[j]! N M2 fv (.slice (some ⟨br, 0, none⟩) N N) W (hfi.ext (HE2.out.trans' hW)) ((hB2.out.ext hW).cells) hfo (HF.out _ (mem_at l j (by rw [HL.out]; exact hlt))))
              have FR := Lib.hid (fun (X : Nat) (hX : l[j]!.proc = (X : Int)) (hf : blockedB l[j]! M2 = false) => dinv_free hM2 OK.out ONE.out hD2.out (mem_at l j (by rw [HL.out]; exact hlt)) hX hf)
              clear hc hcell hvs hfo
              obtain ⟨fa, fc, rfl, hfc, hfd⟩ := hfi
              clear hfd hfc
              generalize hbl : blockedB l[j]! M2 = bl at BC FR
              have HBL := Lib.hid hbl
              clear hbl
              generalize hx : l[j]! = x at *
              have HX := Lib.hid hx
              clear hx
              obtain ⟨p, q, fl⟩ := x
              simp only at *
              obtain ⟨X, rfl⟩ : ∃ X : Nat, p = (X : Int) := ⟨p.toNat, by omega⟩
              have hXN : X < N := by omega
              have hm : wr.cell? ⟨br, X, none⟩ = some (.bool M2[X]!) := by
                have := hB2.out.cell X (by omega)
                rw [Nat.zero_add] at this
                rw [this, List.getElem?_map, List.getElem?_eq_getElem (by omega), getElem!_pos M2 X (by omega)]
                rfl
              have hbrw : br < wr.heap.size := World.block_lt_of_cell? wr _ hm
              have hms := setc_unset M2 X (by omega)
              cases hMX : M2[X]! with
              | false =>
                rw [hMX] at hm
                have HMX := Lib.hid hMX
                clear hMX hms
                go_wp2
                go_roundg (k - (j + 1))
                case measure => omega
                case rel =>
                  refine ⟨j + 1, M2, ag, by omega, by omega, by go_num, rfl, hM2, HE2.out.al _, hB2.out.al _, hD2, hs2, (show Aside _ from fun h i hi hm' => ?_)⟩
                  by_cases e : i = j
                  · subst e
                    rw [HX.out] at hm'
                    simp only [Int.toNat_natCast] at hm'
                    rw [HMX.out] at hm'
                    simp at hm'
                  · exact hF2.out h i (by omega) hm'
              | true =>
                rw [hMX] at hm
                have HMS := Lib.hid (hms hMX)
                clear hMX hms
                go_wp2_with fail
                refine (BC.out _ ((Ext.rf _).al _)).mono ?_
                rintro e w5 ⟨rfl, he5⟩
                have f0 := he5.cl (cell_new _ _ _ 0 _ rfl)
                have HX5 := Lib.hid (((Ext.rf _).al _).trans' he5)
                have HE5 := Lib.hid (HE2.out.trans' (((Ext.rf _).al _).trans' he5))
                clear he5
                cases bl with
                | true =>
                  go_wp2
                  go_roundg (k - (j + 1))
                  case measure => omega
                  case rel =>
                    refine ⟨j + 1, M2, ag, by omega, by omega, by go_num, rfl, hM2, HE5.out, hB2.out.ext HX5.out, hD2, hs2, (show Aside _ from fun h i hi hm' => ?_)⟩
                    by_cases e : i = j
                    · subst e
                      rw [HX.out]; exact HBL.out
                    · exact hF2.out h i (by omega) hm'
                | false =>
                  have hB5 := hB2.out.ext HX5.out
                  have hfr : w5.frozen? ⟨br, X, none⟩ = false := hB5.free X
                  have hm5 := HX5.out.cl hm
                  have HS := Lib.hid (hB5.set X (.bool false) (by omega))
                  rw [Nat.zero_add, ← List.map_set] at HS
                  clear hB5
                  go_wp2
                  go_roundg (k - (j + 1))
                  case measure => omega
                  case rel =>
                    refine ⟨j + 1, M2.set X false, true, by omega, by omega, by go_num, rfl, by rw [List.length_set]; exact hM2, HE5.out.st hbr _, HS.out, FR.out X rfl (by first | exact rfl | trivial), ?_, fun h => by simp at h⟩
                    have := HMS.out
                    simp only [if_true]
                    cases ag <;> simp at hs2 <;> omega
            · have hltz : ¬ (j : Int) < (k : Int) := by omega
              obtain rfl : j = k := by omega
              have hs2' := hs2
              go_wp2
              go_roundg (2 * setc M2 + (if ag then 1 else 0))
              case measure => cases ag <;> simp at hs2' ⊢ <;> omega
              case rel =>
                refine ⟨M2, ag, hM2, rfl, Nat.le_refl _, HE2.out, hB2, hD2, (show Aside _ from fun h x hx hm' => ?_)⟩
                obtain ⟨i, hi, rfl⟩ := List.getElem_of_mem hx
                have := hF2.out h i (by rw [HL.out] at hi; exact hi)
                rw [getElem!_pos l i hi] at this
                exact this hm'

end Go.Proofs.Ytodkcfebcjgahaa
