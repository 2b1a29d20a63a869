/-
  The cycle of requests: terminate.Cycle.
-/
import Derived.Test.YtodkcfebcjgahaaBase
import Derived.Test.YtodkcfebcjgahaaProg
import Derived.BigQuiet
import Derived.Deep.QuietTactic
import Derived.Deep.LoopGhost
import Derived.Shelf.Abstract
import Derived.Test.YtodkcfebcjgahaaRelD
import Derived.Test.YtodkcfebcjgahaaValid
import Derived.Test.YtodkcfebcjgahaaDead
import Derived.Laws.EntriesVeiled
namespace Go.Proofs.Ytodkcfebcjgahaa
open Go.RowKit
set_option linter.unusedVariables false

def prCW (p : Int × Int) : List Value := [.int .i64 p.1, .int .i64 p.2]
abbrev RowP (w : World) (base : Nat) (v : Value) (l : List (Int × Int)) : Prop := Row w base 45 2 v l.length (l.flatMap prCW)
theorem prCW_at (l : List (Int × Int)) : ∀ i, i < l.length → ((l.flatMap prCW).drop (i * 2)).take 2 = prCW l[i]! := by
  induction l with
  | nil => intro i hi; exact absurd hi (by simp)
  | cons a l ih =>
    intro i hi
    rw [List.flatMap_cons]
    cases i with
    | zero => rfl
    | succ i =>
      rw [Nat.succ_mul, Nat.add_comm, ← List.drop_drop, show (prCW a ++ l.flatMap prCW).drop 2 = l.flatMap prCW from rfl, ih i (by simpa using hi)]
      rw [getElem!_pos l i (by simpa using hi), getElem!_pos (a :: l) (i + 1) hi]; rfl
theorem RowP.sl {w : World} {base : Nat} {v : Value} {l : List (Int × Int)} (h : RowP w base v l) : Sl RPair 2 w v l := h.cells.sl fun i hi => prCW_at l i hi
def pairsTo (l : List Wt) (i k : Nat) : List (Int × Int) := pairsW (l.take i) ++ (l[i]!.fors.take k).map fun y => (l[i]!.proc, y)
theorem pairsTo_zero (l : List Wt) (i : Nat) : pairsTo l i 0 = pairsW (l.take i) := by unfold pairsTo; simp
theorem pairsTo_step {l : List Wt} {i k : Nat} (hk : k < l[i]!.fors.length) : pairsTo l i (k + 1) = pairsTo l i k ++ [(l[i]!.proc, l[i]!.fors[k]!)] := by
  unfold pairsTo
  rw [List.take_succ_eq_append_getElem hk, List.map_append, getElem!_pos _ k hk, List.append_assoc]; rfl
theorem pairsTo_all {l : List Wt} {i : Nat} (hi : i < l.length) : pairsTo l i l[i]!.fors.length = pairsW (l.take (i + 1)) := by
  unfold pairsTo pairsW
  rw [List.take_length, List.take_succ_eq_append_getElem hi, List.flatMap_append, getElem!_pos l i hi]; simp
theorem pairsW_le {l : List Wt} {b : Nat} (h : ∀ x ∈ l, x.fors.length ≤ b) : (pairsW l).length ≤ l.length * b := by
  induction l with
  | nil => simp [pairsW]
  | cons a l ih =>
    have h1 := h a (by simp)
    have h2 := ih (fun x hx => h x (by simp [hx]))
    unfold pairsW at *
    rw [List.flatMap_cons, List.length_append, List.length_map, List.length_cons, Nat.add_mul]; omega
theorem info_pair2 : (Try.prog.info? 45).map (fun i => (i.zero, i.size, i.bytes)) = some (some (.agg #[.int .i64 0, .int .i64 0]), 2, 16) := by kernel_rfl

set_option maxHeartbeats 2000000 in
set_option maxRecDepth 100000 in
theorem tcycle_bad (u : Value) (l : List Wt) (n : Int) (w : World) (hu : Sl RWait 3 w u l) (hn : l.length ≤ 1000000) (hfl : ∀ x, x ∈ l → x.fors.length ≤ 1000000) (hbad : validL l n ≠ 0) :
    Calls Try.prog 9 #[u, .int .i64 n] w fun e w' => e = .returned (.tuple #[.slice none 0 0, .int .i64 (validL l n)]) ∧ Ext w w' := by
  have HV := Lib.hid (valid_calls u l n w hu hn hfl)
  generalize validL l n = E at *
  have hb : (E != 0) = true := by rw [bne_iff_ne]; exact hbad
  clear hu hfl hbad
  go_enter Try.func9, Try.ntmps9
  go_wp2_with fail
  refine HV.out.mono ?_
  rintro e w1 ⟨rfl, he1⟩
  go_wp2
  go_ret2
  exact ⟨rfl, he1⟩

set_option maxHeartbeats 8000000 in
set_option maxRecDepth 100000 in
theorem tcycle_good (u : Value) (l : List Wt) (n : Int) (w : World) (hu : Sl RWait 3 w u l) (hn : l.length ≤ 40) (hfl : ∀ x, x ∈ l → x.fors.length ≤ 40) (hgood : validL l n = 0) (hn2 : n ≤ 63) :
    Calls Try.prog 9 #[u, .int .i64 n] w fun e w' => CycOut (relW l n.toNat) w w' e := by
  have HV := Lib.hid (valid_calls u l n w hu (by omega) (fun x hx => by have := hfl x hx; omega))
  rw [hgood] at HV
  obtain ⟨hn0, hn512, hok⟩ := validL_dok hgood
  obtain ⟨N, rfl⟩ : ∃ N : Nat, n = (N : Int) := ⟨n.toNat, by omega⟩
  rw [Int.toNat_natCast] at hok ⊢
  have HU := Lib.hid hu
  have HFL := Lib.hid hfl
  have HIN := Lib.hid (pairsW_in hok)
  have HPL : Hid (∀ i k, i < l.length → k ≤ l[i]!.fors.length → (pairsTo l i k).length ≤ 100000) := Lib.hid (fun i k hi hk => by
    have h1 : (pairsW (l.take i)).length ≤ (l.take i).length * 40 := pairsW_le (fun x hx => hfl x (List.mem_of_mem_take hx))
    have h2 := hfl l[i]! (mem_at l i hi)
    unfold pairsTo
    rw [List.length_append, List.length_map, List.length_take]
    rw [List.length_take] at h1
    omega)
  have HPA : Hid ((pairsW l).length ≤ 1000000) := Lib.hid (by have := pairsW_le hfl; omega)
  obtain ⟨ua, uc, rfl, huc⟩ := hu.sh
  obtain ⟨ii, hii, iz0, iz1, iz2⟩ := info_partsI info_pair2
  have HTK : Hid (l.take l.length = l) := Lib.hid (List.take_length)
  obtain ⟨L, hL⟩ : ∃ L, l.length = L := ⟨_, rfl⟩
  have HL := Lib.hid hL
  rw [hL] at hn HV HU HTK ⊢
  clear hu hfl hgood hok hL huc
  go_enter Try.func9, Try.ntmps9
  go_wp2_with fail
  refine HV.out.mono ?_
  rintro e w1 ⟨rfl, he1⟩
  have HE1 := Lib.hid he1
  clear he1
  go_wp2
  go_loopg [7, 22] L (fun g s7 s22 wr => ∃ i : Nat, i ≤ L ∧ L - i ≤ g ∧ s22 = .int .i64 i ∧ Aside (RowP wr w1.heap.size s7 (pairsW (l.take i))) ∧ Aside (Ext w1 wr))
  case atStart => exact ⟨0, Nat.zero_le _, by omega, rfl, (show RowP _ _ _ _ from by rw [List.take_zero]; exact Row.mkNil _ _ _ _), Ext.rf _⟩
  case round =>
    obtain ⟨i, hi, hg, rfl, HR, HX⟩ := hrel
    by_cases hlt : i < L
    case neg =>
      have hltz : ¬ (i : Int) < (L : Int) := by omega
      obtain rfl : L = i := by omega
      rw [HTK.out] at HR
      obtain ⟨pa, pc, rfl, _⟩ := HR.out.any
      have HMK := Lib.hid (fun W (hW : Ext wr W) => make_calls N (.slice pa (pairsW l).length pc) (pairsW l) W (HR.out.sl.ext rpair_lasts hW) HPA.out (by omega) HIN.out)
      generalize (pairsW l).length = PL at *
      go_wp2_with fail
      refine (HMK.out _ (Ext.rf _)).mono ?_
      rintro e w2 ⟨v, vw, rfl, hO, hB, hX2⟩
      have HRW : Hid (relP N (pairsW l) = relW l N) := Lib.hid rfl
      rw [HRW.out] at hO hB
      have HML : Hid ((relW l N).length = N) := Lib.hid (relP_len _)
      obtain ⟨va, vc, rfl⟩ := hO.any
      rw [HML.out] at hO ⊢
      have HX2 := Lib.hid ((HE1.out.trans' HX.out).trans' (hX2.trans' ((Ext.rf w2).al (.cells #[.slice va N vc] 53))))
      have HCY := Lib.hid (cycle_calls (.slice va N vc) N (relW l N) _ ((hO.sl).ext (rset_lasts N) ((Ext.rf w2).al (.cells #[.slice va N vc] 53))) HML.out (by omega) hB)
      clear hO hB hX2
      go_wp2_with fail
      refine HCY.out.mono ?_
      rintro e w3 ⟨cv, err, rfl, hX3, hd⟩
      have HD := Lib.hid hd
      clear hd
      go_wp2
      go_ret2
      refine ⟨_, _, rfl, HX2.out.trans' hX3, ?_⟩
      rcases HD.out with h | ⟨h1, f, S, Q, L', l', h2, h3, h4, h5, h6⟩
      · exact .inl h
      · exact .inr ⟨h1, f, S, Q, L', l', h2, h3, h4, h5, h6.mono HX2.out.sz⟩
    case pos =>
      have hltz : (i : Int) < (L : Int) := by omega
      have hiz : (0 : Int) ≤ (i : Int) := by omega
      obtain ⟨B, O, C, vs, hve, hlC, hB, hl3, hR, hcells⟩ := Sl.cellsOf HU.out i (by rw [HL.out]; exact hlt)
      simp only [Value.slice.injEq] at hve
      obtain ⟨rfl, hzz, rfl⟩ := hve
      obtain ⟨fv, rfl, hints⟩ := hR
      have HEW := Lib.hid (HE1.out.trans' HX.out)
      have c0 := HEW.out.cl (hcells 0 (by omega))
      have c1 := HEW.out.cl (hcells 1 (by omega))
      have c2 := HEW.out.cl (hcells 2 (by omega))
      simp only [List.getElem!_cons_zero, List.getElem!_cons_succ, Nat.add_zero] at c0 c1 c2
      have HIT := Lib.hid hints
      obtain ⟨fa, fc, rfl, hfc, hfc2⟩ := hints
      have HFC2 := Lib.hid hfc2
      have HST := Lib.hid (fun k hk => pairsTo_step (l := l) (i := i) (k := k) hk)
      have HAL := Lib.hid (pairsTo_all (l := l) (i := i) (by rw [HL.out]; exact hlt))
      have HZR := Lib.hid (pairsTo_zero l i)
      have HPI := Lib.hid (fun k hk => HPL.out i k (by rw [HL.out]; exact hlt) hk)
      have HFL40 := Lib.hid (HFL.out l[i]! (mem_at l i (by rw [HL.out]; exact hlt)))
      obtain ⟨F, hF⟩ : ∃ F, l[i]!.fors.length = F := ⟨_, rfl⟩
      have HF := Lib.hid hF
      rw [hF] at c2 HAL HFL40
      have hF40 := HFL40.out
      have HX1 := Lib.hid (heap_alloc_new wr (.cells #[.int .i64 l[i]!.proc, .int .i64 l[i]!.need, .slice fa F fc] 31))
      have HXE := Lib.hid ((Ext.rf wr).al (.cells #[.int .i64 l[i]!.proc, .int .i64 l[i]!.need, .slice fa F fc] 31))
      have HR1 := Lib.hid (HR.out.ext HXE.out)
      have HXX := Lib.hid (HX.out.trans' HXE.out)
      obtain ⟨X, hX9⟩ : ∃ X, wr.heap.size = X := ⟨_, rfl⟩
      have HXS := Lib.hid (show w1.heap.size ≤ X from by rw [← hX9]; exact HX.out.sz)
      generalize l[i]!.need = nd at *
      obtain ⟨pr, hpr⟩ : ∃ p, l[i]!.proc = p := ⟨_, rfl⟩
      have HPR := Lib.hid hpr
      rw [hpr] at c0 HX1 HXE HR1 HXX
      clear hcells hzz hfc hfc2 hF hpr
      go_wp2
      rw [hX9] at HX1
      try simp only [hX9]
      clear c0 c1 c2 hX9
      generalize wr.alloc (.cells #[.int .i64 pr, .int .i64 nd, .slice fa F fc] 31) = wA at *
      go_loopg [7, 29] F (fun g s7 s29 wr => ∃ k : Nat, k ≤ F ∧ F - k ≤ g ∧ s29 = .int .i64 k ∧ Aside (RowP wr w1.heap.size s7 (pairsTo l i k)) ∧ Aside (Ext w1 wr) ∧ Aside (wr.heap[X]? = some (.cells #[.int .i64 pr, .int .i64 nd, .slice fa F fc] 31)))
      case atStart => exact ⟨0, Nat.zero_le _, by omega, rfl, (show RowP _ _ _ _ from by rw [HZR.out]; exact HR1.out), (show Ext _ _ from HXX.out), (show _ = _ from HX1.out)⟩
      case round =>
        obtain ⟨k, hk, hg2, rfl, HRK, HXK, HBK⟩ := hrel
        by_cases hkF : k < F
        case neg =>
          have hkz : ¬ (k : Int) < (F : Int) := by omega
          obtain rfl : F = k := by omega
          rw [HAL.out] at HRK
          go_wp2
          go_roundg (L - (i + 1))
          case measure => omega
          case rel => exact ⟨i + 1, by omega, by omega, by go_num, (show RowP _ _ _ _ from HRK.out), (show Ext _ _ from HXK.out)⟩
        case pos =>
          have hkz : (k : Int) < (F : Int) := by omega
          have hkz0 : (0 : Int) ≤ (k : Int) := by omega
          obtain ⟨fb, fo, rfl, hfb, hfcell⟩ := HFC2.out (by intro e; have := HF.out; rw [e] at this; simp at this; omega)
          have f0 := (HE1.out.trans' HXK.out).cl (hfcell k (by rw [HF.out]; exact hkF))
          have x0 := cellOf HBK.out 0
          simp only [List.getElem?_toArray, List.getElem?_cons_zero] at x0
          have HSK := Lib.hid (HST.out k (by rw [HF.out]; exact hkF))
          have HPK := Lib.hid (HPI.out k (by rw [HF.out]; omega))
          rw [HPR.out] at HSK
          generalize l[i]!.fors[k]! = y at *
          obtain ⟨PL, hPL⟩ : ∃ n, (pairsTo l i k).length = n := ⟨_, rfl⟩
          have HPLN := Lib.hid hPL
          have hp5 := HPK.out
          rw [hPL] at hp5
          obtain ⟨pa, pc, hpv, _⟩ := HRK.out.any
          rw [hPL] at hpv
          subst hpv
          have HRR := Lib.hid HRK.out
          rw [RowP, HPLN.out] at HRR
          clear hfcell hfb hPL
          go_wp2_with ((at_builtin; go_loud (refine wpList_append_one rfl _ _ 35 rfl w1.heap.size 45 ii (.agg #[.int .i64 0, .int .i64 0]) 2 16 Try.underlying35 hii iz0 iz1 iz2 rfl (by decide) _ PL ((pairsTo l i k).flatMap prCW) rfl (HRR.out.al _) wr.heap.size 1 [.int .i64 pr, .int .i64 y] rfl rfl ⟨_, heap_alloc_new _ _⟩ (by simp [Value.oneCell']) (by unfold maxLen; omega) (by omega) (Nat.le_trans HXK.out.sz ((Ext.rf wr).al _).sz) ?_; intro v8 w8 hown8 hgrow8 hblk8; obtain ⟨a8, c8, rfl, _⟩ := hown8.any; have HOWN := Lib.hid hown8; have HX8 := Lib.hid ((HXK.out.al (.cells #[.int .i64 pr, .int .i64 y] 45)).gr hgrow8 (fun q hq => (HRR.out.lt q hq).1)); have HB8 := Lib.hid (heap_keptR (((Ext.rf wr).al (.cells #[.int .i64 pr, .int .i64 y] 45)).hp HBK.out) hgrow8 (fun q hq => by have h9 := HRR.out.notBox HBK.out (by decide); have hq2 : (Value.slice pa PL pc).ownBlock = some q := hq; exact fun e => h9 (by rw [hq2, e]))); clear hown8 hgrow8 hblk8)))
          go_roundg (F - (k + 1))
          case measure => omega
          case rel =>
            refine ⟨k + 1, by omega, by omega, by go_num, (show RowP _ _ _ _ from ?_), (show Ext _ _ from HX8.out), (show _ = _ from HB8.out)⟩
            rw [HSK.out, RowP, List.length_append, HPLN.out, List.length_singleton, List.flatMap_append]
            exact HOWN.out

end Go.Proofs.Ytodkcfebcjgahaa
