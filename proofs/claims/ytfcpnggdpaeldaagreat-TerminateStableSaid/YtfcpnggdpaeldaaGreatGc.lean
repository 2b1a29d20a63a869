import Derived.Test.YtfcpnggdpaeldaaGreatJa
import Derived.Test.YtfcpnggdpaeldaaGreatProg
import Derived.Test.YtfcpnggdpaeldaaGreatGb
import Derived.Test.YtfcpnggdpaeldaaGreatLawGarbL
import Derived.Test.YtfcpnggdpaeldaaGreatGa
import Derived.BigQuiet
import Derived.Deep.QuietTactic
import Derived.Deep.LoopGhost
import Derived.Shelf.Abstract
/-
  The library's Clone of numbers.
-/
namespace Go.Proofs.YtfcpnggdpaeldaaGreat
open Go.RowKit
set_option linter.unusedVariables false

theorem info_int : (Tryz.prog.info? 3).map (fun i => (i.zero, i.size, i.bytes)) = some (some (.int .i64 0), 1, 8) := by kernel_rfl

set_option maxHeartbeats 400000 in
theorem clone_int (v : Value) (n : Nat) (xs : List Value) (w : World) (hv : CellsAt w v 1 n xs) (h1 : ∀ u ∈ xs, u.oneCell' = true) (hn : n ≤ 1000000) :
    Calls Tryz.prog 51 #[v] w fun e w' => ∃ v', e = .returned v' ∧ Row w' w.heap.size 3 1 v' n xs ∧ Ext w w' := by
  obtain ⟨i0, hi, hz0, hz1, hz2⟩ := info_parts info_int
  obtain ⟨hl, a, c, rfl, hlc, hv⟩ := hv
  have HLC := Lib.hid hlc; clear hlc
  cases a with
  | none =>
    have hn0 : n = 0 := by
      rcases Nat.eq_zero_or_pos n with h | h
      · exact h
      · obtain ⟨_, _, h, _⟩ := hv h; simp at h
    subst hn0
    obtain rfl : xs = [] := List.eq_nil_of_length_eq_zero (by omega)
    clear hv h1 hn hl
    have heq := fun wx => Lib.run_eql_slice_nil (P := Tryz.prog) wx 25 3 none 0 c 0 0 Tryz.underlying25
    go_enter Tryz.func51, Tryz.ntmps51
    go_wp2
    go_ret
    exact ⟨_, rfl, Row.mkNil _ _ _ _, Ext.rf _⟩
  | some ad =>
    have heq := fun wx => Lib.run_eql_slice_nil (P := Tryz.prog) wx 25 3 (some ad) n c 0 0 Tryz.underlying25
    have HV := Lib.hid hv; clear hv
    have H1 := Lib.hid h1; clear h1
    have HL := Lib.hid hl; clear hl
    have hrow : Row (w.alloc (.cells #[] 3)) w.heap.size 3 1 (.slice (some ⟨w.heap.size, 0, none⟩) 0 0) 0 [] :=
      ⟨by simp, .inr ⟨w.heap.size, 0, 0, #[], rfl, Nat.le_refl _, heap_alloc_new w _, Nat.le_refl _, Nat.zero_le _, by simp, by simp⟩⟩
    have HR := Lib.hid hrow; clear hrow
    have hcs : 0 < n → ∃ ad', some ad = some ad' ∧ ∀ j u, xs[j]? = some u → (w.alloc (.cells #[] 3)).cell? (ad'.add j) = some u := by
      intro hp
      obtain ⟨b, off, hab, hb, hc⟩ := HV.out hp
      refine ⟨ad, rfl, fun j u hj => ?_⟩
      simp only [Option.some.injEq] at hab
      subst hab
      have hjl : j < n * 1 := by have := (List.getElem?_eq_some_iff.1 hj).1; rw [HL.out] at this; exact this
      rw [Addr.add_lit]
      exact ((Ext.rf w).al _).cl ((hc j hjl).trans hj)
    have HC := Lib.hid hcs; clear hcs
    go_enter Tryz.func51, Tryz.ntmps51
    go_wp2_with ((at_builtin; refine wpList_append_row rfl _ _ 25 rfl w.heap.size 3 i0 (.int .i64 0) 1 8 Tryz.underlying25 hi hz0 hz1 hz2 rfl (by decide) _ 0 [] rfl HR.out _ n c xs rfl HL.out HC.out H1.out (by unfold maxLen; omega) (by omega) (by simp) ?_; intro v' w1 hown1 hgrow1 hblk))
    go_ret
    exact ⟨_, rfl, by simpa using hown1, ((Ext.rf w).al _).gr hgrow1 (fun k hk => by have e : some w.heap.size = some k := hk; simp at e; omega)⟩

end Go.Proofs.YtfcpnggdpaeldaaGreat

/-
  The walk of terminate.Deadlock.
-/
namespace Go.Proofs.YtfcpnggdpaeldaaGreat
open Go.RowKit
set_option linter.unusedVariables false

theorem info_bool' : (Tryz.prog.info? 4).map (fun i => (i.zero, i.size, i.bytes)) = some (some (.bool false), 1, 1) := by kernel_rfl

/-- What comes back: the members of the greatest stuck set, ascending, in a row of the call's own. -/
def DeadPost (l : List Wt) (N : Nat) (w w' : World) (v' : Value) : Prop :=
  ∃ M, Row w' w.heap.size 3 1 v' (marks M N).length ((marks M N).map (Value.int .i64)) ∧ M.length = N ∧ StuckM l N M ∧ AllStuck l N M

set_option maxHeartbeats 1000000 in
theorem deadlock_bad (u : Value) (l : List Wt) (n : Int) (w : World) (hu : Sl RWait 3 w u l) (hn : l.length ≤ 1000000) (hfl : ∀ x, x ∈ l → x.fors.length ≤ 1000000) (hbad : validL l n ≠ 0) :
    Calls Tryz.prog 24 #[u, .int .i64 n] w fun e w' => e = .returned (.tuple #[.slice none 0 0, .int .i64 (validL l n)]) ∧ Ext w w' := by
  have HV := Lib.hid (valid_calls u l n w hu hn hfl)
  generalize validL l n = q at *
  have hq : (q != 0) = true := by rw [bne_iff_ne]; exact hbad
  clear hu hn hfl hbad
  go_enter Tryz.func24, Tryz.ntmps24
  go_wp2_with fail
  refine (HV.out).mono ?_
  rintro e w1 ⟨rfl, he1⟩
  have HE := Lib.hid he1; clear he1
  go_wp2
  go_ret2
  exact ⟨rfl, HE.out⟩

set_option maxHeartbeats 4000000 in
set_option maxRecDepth 100000 in
theorem deadlock_good (u : Value) (l : List Wt) (n : Int) (w : World) (hu : Sl RWait 3 w u l) (hn : l.length ≤ 1000000) (hfl : ∀ x, x ∈ l → x.fors.length ≤ 1000000) (hgood : validL l n = 0) :
    Calls Tryz.prog 24 #[u, .int .i64 n] w fun e w' => ∃ v', e = .returned (.tuple #[v', .int .i64 0]) ∧ Ext w w' ∧ DeadPost l n.toNat w w' v' := by
  have HV := Lib.hid (valid_calls u l n w hu hn hfl)
  rw [hgood] at HV
  obtain ⟨g1, g2, gok⟩ := validL_dok hgood
  have one := validL_once hgood
  obtain ⟨N, rfl⟩ : ∃ N : Nat, n = (N : Int) := ⟨n.toNat, by omega⟩
  rw [Int.toNat_natCast] at gok
  rw [Int.toNat_natCast]
  have hN : N ≤ 512 := by omega
  have hq : ((0 : Int) != 0) = false := by simp
  have OK := Lib.hid gok
  have ONE := Lib.hid one
  have SL := Lib.hid hu
  obtain ⟨a, c, rfl, hlc, hu⟩ := hu
  have HU := Lib.hid hu; clear hu
  have HF := Lib.hid hfl; clear hfl
  obtain ⟨ib, bi, bz0, bz1, bz2⟩ := info_parts info_bool'
  obtain ⟨ii, ni, nz0, nz1, nz2⟩ := info_parts info_int
  generalize hln : l.length = L at hn hlc
  have HL := Lib.hid hln
  rw [hln] at HV
  clear hln g2 gok one hgood hlc
  go_enter Tryz.func24, Tryz.ntmps24
  go_wp2_with fail
  refine (HV.out).mono ?_
  rintro e w1 ⟨rfl, he1⟩
  have HE1 := Lib.hid he1; clear he1 HV
  go_wp2_with ((at_make; refine wpList_make_full _ rfl _ _ 85 rfl w.heap.size 4 ib (.bool false) 1 Tryz.underlying85 bi bz0 bz1 .i64 .i64 _ _ N rfl rfl rfl rfl (by rw [bz2]; omega) (by unfold maxLen; omega) HE1.out.sz ?_; intro w3 hown3 hgrow3))
  have HB3 := Lib.hid (show Row w3 w.heap.size 4 1 (.slice (some ⟨w1.heap.size, 0, none⟩) N N) N ((List.replicate N false).map Value.bool) from by
    have := Row.ofOwns hown3
    rw [show (Value.bool false).cells = #[.bool false] from rfl, Nat.mul_one, toList_madeCells_one] at this
    rw [List.map_replicate]; exact this)
  have HE3 := Lib.hid (HE1.out.gr hgrow3 (by simp))
  have hbr : w.heap.size ≤ w1.heap.size := HE1.out.sz
  generalize w1.heap.size = br at *
  clear hown3 hgrow3 HE1
  go_loopg [26] L (fun g s26 wr => ∃ (k : Nat) (M : List Bool), k ≤ L ∧ L - k ≤ g ∧ s26 = .int .i64 k ∧ M.length = N ∧ Ext w wr ∧ Aside (Row wr w.heap.size 4 1 (.slice (some ⟨br, 0, none⟩) N N) N (M.map Value.bool)) ∧ Aside (Asks l N M k))
  case atStart => exact ⟨0, _, Nat.zero_le _, by omega, rfl, by simp, HE3.out, HB3.out, asks_start l N⟩
  case round =>
    obtain ⟨k, M, hk, hg, rfl, hM, he, hB, hA⟩ := hrel
    have HE := Lib.hid he; clear he HB3 HE3
    by_cases hlt : k < L
    · obtain ⟨b, off, rfl, hb, hc⟩ := HU.out (by intro e; have := HL.out; simp [e] at this; omega)
      obtain ⟨vs, hvs, ⟨fv, rfl, hfi⟩, hcell⟩ := hc k (by rw [HL.out]; exact hlt)
      have d0 : wr.cell? ⟨b, off + k * 3, none⟩ = some (.int .i64 l[k]!.proc) := HE.out.cl (hcell 0 (by omega))
      have d1 : wr.cell? ⟨b, off + k * 3 + 1, none⟩ = some (.int .i64 l[k]!.need) := HE.out.cl (hcell 1 (by omega))
      have d2 : wr.cell? ⟨b, off + k * 3 + 2, none⟩ = some fv := HE.out.cl (hcell 2 (by omega))
      have hltz : (k : Int) < (L : Int) := by omega
      obtain ⟨⟨p0, p1⟩, _⟩ := OK.out _ (mem_at l k (by rw [HL.out]; exact hlt))
      clear hc hcell hvs HU
      obtain ⟨fa, fc, rfl, hfc, hfd⟩ := hfi
      clear hfd hfc
      have AS := Lib.hid (fun (X : Nat) (hX : l[k]!.proc = (X : Int)) (hXN : X < N) => asks_step hM hA.out (by rw [HL.out]; exact hlt) hX hXN)
      generalize l[k]! = x at *
      obtain ⟨p, q, fl⟩ := x
      simp only at *
      obtain ⟨X, rfl⟩ : ∃ X : Nat, p = (X : Int) := ⟨p.toNat, by omega⟩
      have hXN : X < N := by omega
      have hm : ∃ bb, wr.cell? ⟨br, X, none⟩ = some bb := by
        have := hB.out.cell X (by omega)
        rw [Nat.zero_add] at this
        rw [this, List.getElem?_map, List.getElem?_eq_getElem (by omega)]
        exact ⟨_, rfl⟩
      obtain ⟨bb, hm⟩ := hm
      have hbrw : br < wr.heap.size := World.block_lt_of_cell? wr _ hm
      have hfr : wr.frozen? ⟨br, X, none⟩ = false := hB.out.free X
      have HS := Lib.hid (hB.out.set X (.bool true) (by omega))
      rw [Nat.zero_add, ← List.map_set] at HS
      go_wp2
      go_roundg (L - (k + 1))
      case measure => omega
      case rel =>
        refine ⟨k + 1, M.set X true, by omega, by omega, by go_num, by rw [List.length_set]; exact hM, ?_, ?_, AS.out X rfl hXN⟩
        · first | exact (HE.out.al _).st hbr _ | exact (HE.out.st (p := ⟨br, X, none⟩) hbr _).al _
        · first | exact HS.out.al _ | exact (show Row _ _ _ _ _ _ _ from by have := (hB.out.al _).set X (.bool true) (by omega); rw [Nat.zero_add, ← List.map_set] at this; exact this)
    · have hltz : ¬ (k : Int) < (L : Int) := by omega
      obtain rfl : k = L := by omega
      have DI := Lib.hid (dinv_start (l := l) (N := N) (M := M) (by rw [HL.out]; exact hA.out))
      go_wp2
      go_loopg [10] (2 * N + 1) (fun g s10 wr => ∃ (M : List Bool) (again : Bool), M.length = N ∧ s10 = .bool again ∧ 2 * setc M + (if again then 1 else 0) ≤ g ∧ Ext w wr ∧ Aside (Row wr w.heap.size 4 1 (.slice (some ⟨br, 0, none⟩) N N) N (M.map Value.bool)) ∧ Aside (DInv l N M) ∧ Aside (again = false → ∀ x, x ∈ l → M[x.proc.toNat]! = true → blockedB x M = true))
      case atStart => exact ⟨M, true, hM, rfl, (by have := setc_le M; rw [hM] at this; simp; omega), HE.out, hB.out, DI.out, fun h => by simp at h⟩
      case round =>
        obtain ⟨M0, again, hM0, rfl, hg2, he0, hB0, hD0, hF0⟩ := hrel
        obtain ⟨wo, rfl⟩ : ∃ wo : World, wo = wr := ⟨_, rfl⟩
        have HE0 := Lib.hid he0; clear he0 hB hA HE DI
        cases again with
        | false =>
          have HD := Lib.hid (dinv_end hD0.out (hF0.out rfl))
          have HD1 := Lib.hid hD0.out.1
          clear hD0 hF0 HU SL
          go_wp2
          go_loopg [13, 60] N (fun g v13 s60 wr => ∃ j : Nat, j ≤ N ∧ N - j ≤ g ∧ s60 = .int .i64 j ∧ Aside (Row wr w.heap.size 3 1 v13 (marks M0 j).length ((marks M0 j).map (Value.int .i64))) ∧
            Aside (Row wr w.heap.size 4 1 (.slice (some ⟨br, 0, none⟩) N N) N (M0.map Value.bool)) ∧ Ext w wr)
          case atStart => exact ⟨0, Nat.zero_le _, by omega, rfl, Row.mkNil _ _ _ _, hB0.out, HE0.out⟩
          case round =>
            obtain ⟨j, hj, hjg, rfl, hG, hB2, he2⟩ := hrel
            have HE2 := Lib.hid he2; clear he2
            by_cases hlt : j < N
            · have hltz : (j : Int) < (N : Int) := by omega
              have hcell : wr.cell? ⟨br, j, none⟩ = some (.bool M0[j]!) := by
                have := hB2.out.cell j (by omega)
                rw [Nat.zero_add] at this
                rw [this, List.getElem?_map, List.getElem?_eq_getElem (by omega), getElem!_pos M0 j (by omega)]
                rfl
              have hgl := marks_len M0 j
              cases hMk : M0[j]! with
              | false =>
                have HM := Lib.hid hMk
                rw [hMk] at hcell
                clear hMk
                go_wp2
                go_roundg (N - (j + 1))
                case measure => omega
                case rel => exact ⟨j + 1, by omega, by omega, by go_num, by rw [marks_no M0 j HM.out]; exact hG, hB2, HE2.out⟩
              | true =>
                have HM := Lib.hid hMk
                rw [hMk] at hcell
                clear hMk
                go_wp2_with ((at_builtin; refine wpList_append_one rfl _ _ 25 rfl w.heap.size 3 ii (.int .i64 0) 1 8 Tryz.underlying25 ni nz0 nz1 nz2 rfl (by decide) _ _ _ rfl (hG.out.al _) wr.heap.size 1 [.int .i64 j] rfl rfl ⟨_, heap_alloc_new _ _⟩ (by simp [Value.oneCell']) (by unfold maxLen; omega) (by omega) ((HE2.out).al _).sz ?_; intro v5 w5 hown5 hgrow5 hblk5))
                go_roundg (N - (j + 1))
                case measure => omega
                case rel =>
                  refine ⟨j + 1, by omega, by omega, by go_num, ?_, ?_, ?_⟩
                  · rw [marks_yes M0 j HM.out, List.length_append, List.map_append]; exact hown5
                  · exact (hB2.out.al _).grown hgrow5 (hB2.out.apart hG.out (by decide))
                  · exact (HE2.out.al _).gr hgrow5 (fun k hk => (hG.out.lt k hk).1)
            · have hltz : ¬ (j : Int) < (N : Int) := by omega
              obtain rfl : j = N := by omega
              go_wp2
              go_ret2
              exact ⟨_, rfl, HE2.out, M0, hG.out, hM0, HD.out, HD1.out⟩
        | true =>
          simp only [if_true] at hg2
          clear hF0
          go_wp2
          go_loopg [10, 38] k (fun g s10 s38 wr => ∃ (j : Nat) (M2 : List Bool) (ag : Bool), j ≤ k ∧ k - j ≤ g ∧ s38 = .int .i64 j ∧ s10 = .bool ag ∧ M2.length = N ∧ Ext w wr ∧
            Aside (Row wr w.heap.size 4 1 (.slice (some ⟨br, 0, none⟩) N N) N (M2.map Value.bool)) ∧ Aside (DInv l N M2) ∧ setc M2 + (if ag then 1 else 0) ≤ setc M0 ∧
            Aside (ag = false → ∀ i, i < j → M2[l[i]!.proc.toNat]! = true → blockedB l[i]! M2 = true))
          case atStart => exact ⟨0, M0, false, Nat.zero_le _, by omega, rfl, rfl, hM0, HE0.out, hB0.out, hD0.out, by simp, fun _ i hi => absurd hi (Nat.not_lt_zero _)⟩
          case round =>
            obtain ⟨j, M2, ag, hj, hjg, rfl, rfl, hM2, he2, hB2, hD2, hs2, hF2⟩ := hrel
            have HE2 := Lib.hid he2; clear he2
            by_cases hlt : j < k
            · have hltz : (j : Int) < (k : Int) := by omega
              obtain ⟨b, off, rfl, hb, hc⟩ := HU.out (by intro e; have := HL.out; simp [e] at this; omega)
              obtain ⟨vs, hvs, ⟨fv, rfl, hfi⟩, hcell⟩ := hc j (by rw [HL.out]; exact hlt)
              have d0 : wr.cell? ⟨b, off + j * 3, none⟩ = some (.int .i64 l[j]!.proc) := HE2.out.cl (hcell 0 (by omega))
              have d1 : wr.cell? ⟨b, off + j * 3 + 1, none⟩ = some (.int .i64 l[j]!.need) := HE2.out.cl (hcell 1 (by omega))
              have d2 : wr.cell? ⟨b, off + j * 3 + 2, none⟩ = some fv := HE2.out.cl (hcell 2 (by omega))
              obtain ⟨⟨p0, p1⟩, hfo⟩ := OK.out _ (mem_at l j (by rw [HL.out]; exact hlt))
              have BC := Lib.hid (fun (W : World) (hW : Ext wr W) => blocked_calls l[j]! N M2 fv (.slice (some ⟨br, 0, none⟩) N N) W (hfi.ext (HE2.out.trans' hW)) ((hB2.out.ext hW).cells) hfo (HF.out _ (mem_at l j (by rw [HL.out]; exact hlt))))
              have FR := Lib.hid (fun (X : Nat) (hX : l[j]!.proc = (X : Int)) (hf : blockedB l[j]! M2 = false) => dinv_free hM2 OK.out ONE.out hD2.out (mem_at l j (by rw [HL.out]; exact hlt)) hX hf)
              clear hc hcell hvs hfo
              obtain ⟨fa, fc, rfl, hfc, hfd⟩ := hfi
              clear hfd hfc
              generalize hbl : blockedB l[j]! M2 = bl at BC FR
              have HBL := Lib.hid hbl
              clear hbl
              generalize hx : l[j]! = x at *
              have HX := Lib.hid hx
              clear hx
              obtain ⟨p, q, fl⟩ := x
              simp only at *
              obtain ⟨X, rfl⟩ : ∃ X : Nat, p = (X : Int) := ⟨p.toNat, by omega⟩
              have hXN : X < N := by omega
              have hm : wr.cell? ⟨br, X, none⟩ = some (.bool M2[X]!) := by
                have := hB2.out.cell X (by omega)
                rw [Nat.zero_add] at this
                rw [this, List.getElem?_map, List.getElem?_eq_getElem (by omega), getElem!_pos M2 X (by omega)]
                rfl
              have hbrw : br < wr.heap.size := World.block_lt_of_cell? wr _ hm
              have hms := setc_unset M2 X (by omega)
              cases hMX : M2[X]! with
              | false =>
                rw [hMX] at hm
                have HMX := Lib.hid hMX
                clear hMX hms
                go_wp2
                go_roundg (k - (j + 1))
                case measure => omega
                case rel =>
                  refine ⟨j + 1, M2, ag, by omega, by omega, by go_num, rfl, hM2, HE2.out.al _, hB2.out.al _, hD2, hs2, (show Aside _ from fun h i hi hm' => ?_)⟩
                  by_cases e : i = j
                  · subst e
                    rw [HX.out] at hm'
                    simp only [Int.toNat_natCast] at hm'
                    rw [HMX.out] at hm'
                    simp at hm'
                  · exact hF2.out h i (by omega) hm'
              | true =>
                rw [hMX] at hm
                have HMS := Lib.hid (hms hMX)
                clear hMX hms
                go_wp2_with fail
                refine (BC.out _ ((Ext.rf _).al _)).mono ?_
                rintro e w5 ⟨rfl, he5⟩
                have f0 := he5.cl (cell_new _ _ _ 0 _ rfl)
                have HX5 := Lib.hid (((Ext.rf _).al _).trans' he5)
                have HE5 := Lib.hid (HE2.out.trans' (((Ext.rf _).al _).trans' he5))
                clear he5
                cases bl with
                | true =>
                  go_wp2
                  go_roundg (k - (j + 1))
                  case measure => omega
                  case rel =>
                    refine ⟨j + 1, M2, ag, by omega, by omega, by go_num, rfl, hM2, HE5.out, hB2.out.ext HX5.out, hD2, hs2, (show Aside _ from fun h i hi hm' => ?_)⟩
                    by_cases e : i = j
                    · subst e
                      rw [HX.out]; exact HBL.out
                    · exact hF2.out h i (by omega) hm'
                | false =>
                  have hB5 := hB2.out.ext HX5.out
                  have hfr : w5.frozen? ⟨br, X, none⟩ = false := hB5.free X
                  have hm5 := HX5.out.cl hm
                  have HS := Lib.hid (hB5.set X (.bool false) (by omega))
                  rw [Nat.zero_add, ← List.map_set] at HS
                  clear hB5
                  go_wp2
                  go_roundg (k - (j + 1))
                  case measure => omega
                  case rel =>
                    refine ⟨j + 1, M2.set X false, true, by omega, by omega, by go_num, rfl, by rw [List.length_set]; exact hM2, HE5.out.st hbr _, HS.out, FR.out X rfl (by first | exact rfl | trivial), ?_, fun h => by simp at h⟩
                    have := HMS.out
                    simp only [if_true]
                    cases ag <;> simp at hs2 <;> omega
            · have hltz : ¬ (j : Int) < (k : Int) := by omega
              obtain rfl : j = k := by omega
              have hs2' := hs2
              go_wp2
              go_roundg (2 * setc M2 + (if ag then 1 else 0))
              case measure => cases ag <;> simp at hs2' ⊢ <;> omega
              case rel =>
                refine ⟨M2, ag, hM2, rfl, Nat.le_refl _, HE2.out, hB2, hD2, (show Aside _ from fun h x hx hm' => ?_)⟩
                obtain ⟨i, hi, rfl⟩ := List.getElem_of_mem hx
                have := hF2.out h i (by rw [HL.out] at hi; exact hi)
                rw [getElem!_pos l i hi] at this
                exact this hm'

end Go.Proofs.YtfcpnggdpaeldaaGreat

/-
  The library's IndexFunc and ContainsFunc on slices of numbers.
-/
namespace Go.Proofs.YtfcpnggdpaeldaaGreat
open Go.RowKit
set_option linter.unusedVariables false

set_option maxHeartbeats 400000 in
theorem indexFunc_int (g : Nat) (cb : Array Value) (eg : ∀ args w, (callFunc g args).run Tryz.prog w = .ok (.enter g args) w) (p : Int → Bool) (v : Value) (l : List Int) (w : World)
    (hv : Ints w v l) (hn : l.length ≤ 1000000) (hp : Says Tryz.prog g cb p l w) :
    Calls Tryz.prog 85 #[v, .func (.func g) #[] cb] w fun e w' => e = .returned (.int .i64 (firstAt p l)) ∧ Ext w w' := by
  obtain ⟨a, c, rfl, hlc, hv⟩ := hv
  have HLC := Lib.hid hlc; clear hlc
  have HV := Lib.hid hv; clear hv
  have HP := Lib.hid hp; clear hp
  generalize hln : l.length = n at hn
  have HL := Lib.hid hln; clear hln
  go_enter Tryz.func85, Tryz.ntmps85
  go_wp2
  go_loopg [5, 8] n (fun m _ s8 wr => ∃ k : Nat, k ≤ n ∧ n - k ≤ m ∧ s8 = .int .i64 k ∧ Ext w wr ∧ Aside (∀ j, j < k → p l[j]! = false))
  case atStart => exact ⟨0, Nat.zero_le _, by omega, rfl, Below.refl _ _, (fun j hj => absurd hj (Nat.not_lt_zero _))⟩
  case round =>
    obtain ⟨k, hk, hm, rfl, he, A⟩ := hrel
    have HE := Lib.hid he; clear he
    by_cases hlt : k < n
    · obtain ⟨b, off, rfl, hb, hc⟩ := HV.out (by intro e; have := HL.out; simp [e] at this; omega)
      have hcell : wr.cell? ⟨b, off + k, none⟩ = some (.int .i64 l[k]!) := (HE.out.cell hb).trans (hc k (by rw [HL.out]; exact hlt))
      have hltz : (k : Int) < (n : Int) := by omega
      clear hc
      have hcall := HP.out _ (mem_at l k (by rw [HL.out]; exact hlt)) _ HE.out
      generalize hy : l[k]! = y at hcell hcall
      have B := Lib.hid hy
      clear hy
      cases hq : p y with
      | true =>
        rw [hq] at hcall
        have HQ := Lib.hid hq; clear hq
        go_wp2_with (go_at_fn g; refine hcall.mono ?_; rintro e w' ⟨rfl, he'⟩)
        go_ret
        exact ⟨by rw [firstAt_hit p l k (by rw [HL.out]; omega) (by rw [B.out]; exact HQ.out) A.out]; rfl, HE.out.trans' he'⟩
      | false =>
        rw [hq] at hcall
        have HQ := Lib.hid hq; clear hq
        go_wp2_with (go_at_fn g; refine hcall.mono ?_; rintro e w' ⟨rfl, he'⟩)
        go_roundg (n - (k + 1))
        case measure => omega
        case rel =>
          refine ⟨k + 1, by omega, by omega, by go_num, HE.out.trans' he', (show Aside _ from fun j hj => ?_)⟩
          by_cases e : j = k
          · subst e
            rw [B.out]; exact HQ.out
          · exact A.out j (by omega)
    · have hltz : ¬ (k : Int) < (n : Int) := by omega
      go_wp2
      go_ret
      exact ⟨by rw [firstAt_miss p l (fun j hj => A.out j (by rw [HL.out] at hj; omega))]; rfl, HE.out⟩

theorem enters_85 : ∀ args w, (callFunc 85 args).run Tryz.prog w = .ok (.enter 85 args) w := enters_of Tryz.func85 (by kernel_rfl) rfl

set_option maxHeartbeats 400000 in
theorem containsFunc_int (g : Nat) (cb : Array Value) (eg : ∀ args w, (callFunc g args).run Tryz.prog w = .ok (.enter g args) w) (p : Int → Bool) (v : Value) (l : List Int) (w : World)
    (hv : Ints w v l) (hn : l.length ≤ 1000000) (hp : Says Tryz.prog g cb p l w) :
    Calls Tryz.prog 58 #[v, .func (.func g) #[] cb] w fun e w' => e = .returned (.bool (l.any p)) ∧ Ext w w' := by
  have HI := Lib.hid (indexFunc_int g cb eg p v l w hv hn hp)
  clear hv hp eg
  rw [← firstAt_any]
  go_enter Tryz.func58, Tryz.ntmps58
  go_wp2_with (go_at_call 85; refine HI.out.mono ?_; rintro e w' ⟨rfl, he'⟩)
  go_ret
  exact ⟨rfl, he'⟩

end Go.Proofs.YtfcpnggdpaeldaaGreat

/-
  The library's IndexFunc and ContainsFunc on slices of pairs.
-/
namespace Go.Proofs.YtfcpnggdpaeldaaGreat
open Go.RowKit
set_option linter.unusedVariables false

set_option maxHeartbeats 400000 in
theorem indexFunc_pair {α : Type} [Inhabited α] (R : World → List Value → α → Prop) (hLasts : Lasts R) (g : Nat) (cb : Array Value) (eg : ∀ args w, (callFunc g args).run Tryz.prog w = .ok (.enter g args) w) (p : α → Bool) (v : Value) (l : List α) (w : World)
    (hv : Sl R 2 w v l) (hn : l.length ≤ 1000000) (hp : SaysOf Tryz.prog R encAgg g cb p l w) :
    Calls Tryz.prog 86 #[v, .func (.func g) #[] cb] w fun e w' => e = .returned (.int .i64 (firstAt p l)) ∧ Ext w w' := by
  obtain ⟨a, c, rfl, hlc, hv⟩ := hv
  have HLC := Lib.hid hlc; clear hlc
  have HV := Lib.hid hv; clear hv
  have HP := Lib.hid hp; clear hp
  have HT := Lib.hid hLasts; clear hLasts
  generalize hln : l.length = n at hn
  have HL := Lib.hid hln; clear hln
  go_enter Tryz.func86, Tryz.ntmps86
  go_wp2
  go_loopg [5, 8] n (fun m _ s8 wr => ∃ k : Nat, k ≤ n ∧ n - k ≤ m ∧ s8 = .int .i64 k ∧ Ext w wr ∧ Aside (∀ j, j < k → p l[j]! = false))
  case atStart => exact ⟨0, Nat.zero_le _, by omega, rfl, Below.refl _ _, (fun j hj => absurd hj (Nat.not_lt_zero _))⟩
  case round =>
    obtain ⟨k, hk, hm, rfl, he, A⟩ := hrel
    have HE := Lib.hid he; clear he
    by_cases hlt : k < n
    · obtain ⟨b, off, rfl, hb, hc⟩ := HV.out (by intro e; have := HL.out; simp [e] at this; omega)
      obtain ⟨vs, hvs, hR, hcell⟩ := hc k (by rw [HL.out]; exact hlt)
      obtain ⟨c0, c1, rfl⟩ : ∃ c0 c1, vs = [c0, c1] := by match vs, hvs with | [c0, c1], _ => exact ⟨c0, c1, rfl⟩
      have d0 : wr.cell? ⟨b, off + k * 2, none⟩ = some c0 := (HE.out.cell hb).trans (hcell 0 (by omega))
      have d1 : wr.cell? ⟨b, off + k * 2 + 1, none⟩ = some c1 := (HE.out.cell hb).trans (hcell 1 (by omega))
      have hltz : (k : Int) < (n : Int) := by omega
      clear hc hcell
      have hcall := HP.out _ (mem_at l k (by rw [HL.out]; exact hlt)) wr _ HE.out (HT.out _ _ _ _ hR HE.out)
      unfold encAgg at hcall
      generalize hy : l[k]! = y at hcall hR
      have B := Lib.hid hy
      clear hy hR hvs HV HT HP
      cases hq : p y with
      | true =>
        rw [hq] at hcall
        have HQ := Lib.hid hq; clear hq
        go_wp2_with (go_at_fn g; refine hcall.mono ?_; rintro e w' ⟨rfl, he'⟩)
        go_ret
        exact ⟨by rw [firstAt_hit p l k (by rw [HL.out]; omega) (by rw [B.out]; exact HQ.out) A.out]; rfl, HE.out.trans' he'⟩
      | false =>
        rw [hq] at hcall
        have HQ := Lib.hid hq; clear hq
        go_wp2_with (go_at_fn g; refine hcall.mono ?_; rintro e w' ⟨rfl, he'⟩)
        go_roundg (n - (k + 1))
        case measure => omega
        case rel =>
          refine ⟨k + 1, by omega, by omega, by go_num, HE.out.trans' he', (show Aside _ from fun j hj => ?_)⟩
          by_cases e : j = k
          · subst e
            rw [B.out]; exact HQ.out
          · exact A.out j (by omega)
    · have hltz : ¬ (k : Int) < (n : Int) := by omega
      go_wp2
      go_ret
      exact ⟨by rw [firstAt_miss p l (fun j hj => A.out j (by rw [HL.out] at hj; omega))]; rfl, HE.out⟩

theorem enters_86 : ∀ args w, (callFunc 86 args).run Tryz.prog w = .ok (.enter 86 args) w := enters_of Tryz.func86 (by kernel_rfl) rfl

set_option maxHeartbeats 400000 in
theorem containsFunc_pair {α : Type} [Inhabited α] (R : World → List Value → α → Prop) (hLasts : Lasts R) (g : Nat) (cb : Array Value) (eg : ∀ args w, (callFunc g args).run Tryz.prog w = .ok (.enter g args) w) (p : α → Bool) (v : Value) (l : List α) (w : World)
    (hv : Sl R 2 w v l) (hn : l.length ≤ 1000000) (hp : SaysOf Tryz.prog R encAgg g cb p l w) :
    Calls Tryz.prog 59 #[v, .func (.func g) #[] cb] w fun e w' => e = .returned (.bool (l.any p)) ∧ Ext w w' := by
  have HI := Lib.hid (indexFunc_pair R hLasts g cb eg p v l w hv hn hp)
  clear hv hp eg hLasts
  rw [← firstAt_any]
  go_enter Tryz.func59, Tryz.ntmps59
  go_wp2_with (go_at_call 86; refine HI.out.mono ?_; rintro e w' ⟨rfl, he'⟩)
  go_ret
  exact ⟨rfl, he'⟩

end Go.Proofs.YtfcpnggdpaeldaaGreat

/-
  The walk of terminate.Garbage.
-/
namespace Go.Proofs.YtfcpnggdpaeldaaGreat
open Go.RowKit
set_option linter.unusedVariables false

theorem enters_57 : ∀ args w, (callFunc 57 args).run Tryz.prog w = .ok (.enter 57 args) w := enters_of Tryz.func57 (by kernel_rfl) rfl
theorem enters_60 : ∀ args w, (callFunc 60 args).run Tryz.prog w = .ok (.enter 60 args) w := enters_of Tryz.func60 (by kernel_rfl) rfl

def RPair (_ : World) (vs : List Value) (x : Int × Int) : Prop := vs = [.int .i64 x.1, .int .i64 x.2]
theorem rpair_lasts : Lasts RPair := fun _ _ _ _ h _ => h

set_option maxHeartbeats 400000 in
theorem garbage1_calls (x n : Int) (bn : Nat) (w : World) (hc : w.cell? ⟨bn, 0, none⟩ = some (.int .i64 n)) :
    Calls Tryz.prog 57 #[.int .i64 x, .pointer (some ⟨bn, 0, none⟩)] w fun e w' => e = .returned (.bool (outB n x)) ∧ Ext w w' := by
  by_cases h1 : x < 0
  · go_enter Tryz.func57, Tryz.ntmps57
    go_wp2
    go_ret
    exact ⟨by simp [outB, h1], Below.refl _ _⟩
  · go_enter Tryz.func57, Tryz.ntmps57
    go_wp2
    go_ret
    exact ⟨by simp [outB]; omega, Below.refl _ _⟩

set_option maxHeartbeats 400000 in
theorem garbage2_calls (x y n : Int) (bn bo : Nat) (w : World) (hc : w.cell? ⟨bn, 0, none⟩ = some (.int .i64 n))
    (ho : w.cell? ⟨bo, 0, none⟩ = some (.func (.func 57) #[] #[.pointer (some ⟨bn, 0, none⟩)])) :
    Calls Tryz.prog 60 #[.agg #[.int .i64 x, .int .i64 y], .pointer (some ⟨bo, 0, none⟩)] w fun e w' => e = .returned (.bool (outB n x || outB n y)) ∧ Ext w w' := by
  have C : ∀ x W, Ext w W → Calls Tryz.prog 57 #[.int .i64 x, .pointer (some ⟨bn, 0, none⟩)] W fun e w' => e = .returned (.bool (outB n x)) ∧ Ext W w' :=
    fun x W hW => garbage1_calls x n bn W (hW.cl hc)
  have HC := Lib.hid C; clear C
  have hbo : bo < w.heap.size := World.block_lt_of_cell? w _ ho
  have HO := Lib.hid ho
  generalize hp : outB n x = p at *
  generalize hq : outB n y = q at *
  have HP := Lib.hid hp
  have HQ := Lib.hid hq
  clear hp hq
  cases p with
  | true =>
    go_enter Tryz.func60, Tryz.ntmps60
    go_wp2_with fail
    refine (HC.out x _ ((Ext.rf _).al _)).mono ?_
    rw [HP.out]
    rintro e w' ⟨rfl, he'⟩
    go_wp2
    go_ret
    exact ⟨rfl, ((Ext.rf _).al _).trans' he'⟩
  | false =>
    go_enter Tryz.func60, Tryz.ntmps60
    go_wp2_with fail
    refine (HC.out x _ ((Ext.rf _).al _)).mono ?_
    rw [HP.out]
    rintro e w' ⟨rfl, he'⟩
    have h2 : w'.cell? ⟨bo, 0, none⟩ = some (.func (.func 57) #[] #[.pointer (some ⟨bn, 0, none⟩)]) := (((Ext.rf _).al _).trans' he').cl HO.out
    have h3 : w'.cell? ⟨w.heap.size, 1, none⟩ = some (.int .i64 y) := he'.cl (cell_new _ _ _ _ _ rfl)
    have HE := Lib.hid he'; clear he'
    go_wp2_with fail
    refine (HC.out y _ (((Ext.rf _).al _).trans' HE.out)).mono ?_
    rw [HQ.out]
    rintro e w2 ⟨rfl, he2⟩
    go_wp2
    go_ret
    exact ⟨rfl, (((Ext.rf _).al _).trans' HE.out).trans' he2⟩

theorem garbage_says1 {n : Int} {bn : Nat} {w : World} (hc : w.cell? ⟨bn, 0, none⟩ = some (.int .i64 n)) (l : List Int) : Says Tryz.prog 57 #[.pointer (some ⟨bn, 0, none⟩)] (outB n) l w :=
  fun x _ W hW => garbage1_calls x n bn W (hW.cl hc)
theorem garbage_says2 {n : Int} {bn bo : Nat} {w : World} (hc : w.cell? ⟨bn, 0, none⟩ = some (.int .i64 n))
    (ho : w.cell? ⟨bo, 0, none⟩ = some (.func (.func 57) #[] #[.pointer (some ⟨bn, 0, none⟩)])) (l : List (Int × Int)) :
    SaysOf Tryz.prog RPair encAgg 60 #[.pointer (some ⟨bo, 0, none⟩)] (fun r => outB n r.1 || outB n r.2) l w := by
  intro r _ W vs hW hr
  obtain rfl : vs = _ := hr
  exact garbage2_calls r.1 r.2 n bn bo W (hW.cl hc) (hW.cl ho)

end Go.Proofs.YtfcpnggdpaeldaaGreat
