/-
  The example of the chapter.
-/
import Derived.Test.YtpjnppkhhbnfoaaBase
import Derived.Test.YtpjnppkhhbnfoaaProg
import Derived.BigQuiet
import Derived.Deep.QuietTactic
import Derived.Deep.LoopGhost
import Derived.Shelf.Abstract
import Derived.Test.YtpjnppkhhbnfoaaTokQ
namespace Go.Proofs.Ytpjnppkhhbnfoaa
open Go.RowKit
set_option linter.unusedVariables false

theorem beq_at (l m : List Int) (h : l.length = m.length) : (∃ k, k < l.length ∧ l[k]! ≠ m[k]!) → (l == m) = false := by
  rintro ⟨k, hk, hne⟩
  rw [beq_eq_false_iff_ne]
  rintro rfl
  exact hne rfl
theorem beq_all (l m : List Int) (h : l.length = m.length) (hall : ∀ k, k < l.length → l[k]! = m[k]!) : (l == m) = true := by
  rw [beq_iff_eq]
  refine List.ext_getElem h fun i h1 h2 => ?_
  have := hall i h1
  rwa [getElem!_pos l i h1, getElem!_pos m i h2] at this
theorem beq_len (l m : List Int) (h : l.length ≠ m.length) : (l == m) = false := by
  rw [beq_eq_false_iff_ne]
  rintro rfl
  exact h rfl

set_option maxHeartbeats 400000 in
theorem equal_int (u v : Value) (l m : List Int) (w : World) (hu : Ints w u l) (hv : Ints w v m) (hn : l.length ≤ 1000000) (hm : m.length ≤ 1000000) :
    Calls Try.prog 17 #[u, v] w fun e w' => e = .returned (.bool (l == m)) ∧ Ext w w' := by
  obtain ⟨a, c, rfl, _, hu⟩ := hu
  obtain ⟨a2, c2, rfl, _, hv⟩ := hv
  have HU := Lib.hid hu; clear hu
  have HV := Lib.hid hv; clear hv
  generalize hln : l.length = n at hn
  generalize hlm : m.length = n2 at hm
  have HL := Lib.hid hln; clear hln
  have HM := Lib.hid hlm; clear hlm
  by_cases hne : n = n2
  · subst hne
    go_enter Try.func17, Try.ntmps17
    go_wp2
    go_loopg [5, 13] n (fun g _ s13 wr => ∃ k : Nat, k ≤ n ∧ n - k ≤ g ∧ s13 = .int .i64 k ∧ Ext w wr ∧ Aside (∀ j, j < k → l[j]! = m[j]!))
    case atStart => exact ⟨0, Nat.zero_le _, by omega, rfl, Ext.rf _, (fun j hj => absurd hj (Nat.not_lt_zero _))⟩
    case round =>
      obtain ⟨k, hk, hg, rfl, he, A⟩ := hrel
      have HE := Lib.hid he; clear he
      by_cases hlt : k < n
      · obtain ⟨b, off, rfl, hb, hc⟩ := HU.out (by intro e; have := HL.out; simp [e] at this; omega)
        obtain ⟨b2, off2, rfl, hb2, hc2⟩ := HV.out (by intro e; have := HM.out; simp [e] at this; omega)
        have hcell : wr.cell? ⟨b, off + k, none⟩ = some (.int .i64 l[k]!) := HE.out.cl (hc k (by rw [HL.out]; exact hlt))
        have hcell2 : wr.cell? ⟨b2, off2 + k, none⟩ = some (.int .i64 m[k]!) := HE.out.cl (hc2 k (by rw [HM.out]; exact hlt))
        have hltz : (k : Int) < (n : Int) := by omega
        have hkz : (0 : Int) ≤ (k : Int) := by omega
        clear hc HV hc2 HU
        generalize hy : l[k]! = y at hcell
        generalize hz : m[k]! = z at hcell2
        have B := Lib.hid hy
        have C := Lib.hid hz
        clear hy hz
        cases hq : (y != z) with
        | true =>
          go_wp2
          go_quiet (fail)
          go_wp2
          go_ret
          exact ⟨by rw [beq_at l m (by rw [HL.out, HM.out]) ⟨k, by rw [HL.out]; exact hlt, by rw [B.out, C.out]; simpa using hq⟩]; rfl, HE.out.drN _⟩
        | false =>
          go_wp2
          go_quiet (fail)
          go_wp2
          go_roundg (n - (k + 1))
          case measure => omega
          case rel =>
            refine ⟨k + 1, by omega, by omega, by go_num, HE.out.drN _, (show Aside _ from fun j hj => ?_)⟩
            by_cases e : j = k
            · subst e
              rw [B.out, C.out]; simpa using hq
            · exact A.out j (by omega)
      · have hltz : ¬ (k : Int) < (n : Int) := by omega
        go_wp2
        go_ret
        exact ⟨by rw [beq_all l m (by rw [HL.out, HM.out]) (fun j hj => A.out j (by rw [HL.out] at hj; omega))]; rfl, HE.out⟩
  · have h1 : ((n : Int) != (n2 : Int)) = true := by rw [bne_iff_ne]; omega
    go_enter Try.func17, Try.ntmps17
    go_wp2
    go_ret
    exact ⟨by rw [beq_len l m (by rw [HL.out, HM.out]; exact hne)]; rfl, Ext.rf _⟩

def awA1 : List Ag := putTL (newA 2) 0 [1, 0]
def awA2 : List Ag := putTL awA1 1 [0, 1]
def awB1 : Ba := stepB (newB 2) awA2 0
def awA3 : List Ag := takeAg awA2 0
theorem aw_e1 : putTE (newA 2) (0 : Nat) [1, 0] = 0 := by decide +kernel
theorem aw_e2 : putTE awA1 (1 : Nat) [0, 1] = 0 := by decide +kernel
theorem aw_r1 : putTR (newA 2) (0 : Nat) [1, 0] = awA1 := by rw [putTR, if_pos aw_e1]; rfl
theorem aw_r2 : putTR awA1 (1 : Nat) [0, 1] = awA2 := by rw [putTR, if_pos aw_e2]; rfl
theorem aw_v1 : validT (newB 2) awA2 = true := by decide +kernel
theorem aw_v2 : validT awB1 awA3 = true := by decide +kernel
theorem aw_a0 : agentsB (newA 2) = true := by decide +kernel
theorem aw_a1 : agentsB awA1 = true := by decide +kernel
theorem aw_b1 : awB1.at_ = 1 ∧ awB1.state = 0 := by decide +kernel
theorem aw_q1 : 0 < awA2[0]!.queue.length ∧ awA2[0]!.dropped ≠ 1000 ∧ (newB 2).cut[0]! ≤ awA2[0]!.queue[0]![0]! := by decide +kernel
theorem aw_q2 : 0 < awA3[1]!.queue.length ∧ awA3[1]!.dropped ≠ 1000 ∧ awB1.cut[1]! ≤ awA3[1]!.queue[0]![1]! := by decide +kernel
theorem aw_b2 : (stepB awB1 awA3 1).state = 1 ∧ (stepB awB1 awA3 1).cut = [1, 1] := by decide +kernel
theorem aw_l0 : (newA 2).length = 2 := by decide +kernel

set_option maxHeartbeats 8000000 in
set_option maxRecDepth 100000 in
theorem awake_calls (w : World) : Calls Try.prog 4 #[] w fun e w' => e = .returned (.bool true) ∧ Ext w w' := by
  have hn := newTP_ok 2 w (by omega) (by omega)
  rw [show ((2 : Nat) : Int) = 2 from rfl] at hn
  have HNEW := Lib.hid hn
  clear hn
  go_enter Try.func4, Try.ntmps4
  go_wp2_with fail
  refine HNEW.out.mono ?_
  rintro e w1 ⟨vc, vg, va, rfl, hB, hA, hE⟩
  rw [show (newB 2).at_ = 0 from rfl, show (newB 2).state = 0 from rfl]
  obtain ⟨a1, c1, rfl, hl1⟩ := hA.read.shape
  obtain ⟨ca, cc, rfl, hcc, hsh⟩ := hB.1.any
  clear hsh
  obtain ⟨ga, gc, rfl, hgc, hsh⟩ := hB.2.any
  clear hsh
  rw [show (newB 2).cut.length = 2 from rfl, show (newB 2).good.length = 2 from rfl] at *
  have HC := Lib.hid (show Ints w1 _ (newB 2).cut from hB.1.ints)
  have HG := Lib.hid (show Sl RBool 1 w1 _ (newB 2).good from hB.2.bools)
  have HR1 := Lib.hid hA.read
  rw [aw_l0] at hl1 ⊢
  rw [aw_l0] at HR1
  have HE1 := Lib.hid hE
  clear hA hB hE
  have hp1 := fun W (hW : Ext w1 W) (v : Value) (hv : Ints W v [1, 0]) => putTP_calls (.slice a1 2 c1) v (0 : Nat) (newA 2) [1, 0] W (HR1.out.ext ragent_lasts hW) (agents_smallT aw_a0) hv (by decide)
  rw [aw_r1, aw_e1, show ((0 : Nat) : Int) = 0 from rfl] at hp1
  have HP1 := Lib.hid hp1
  clear hp1
  go_wp2_with fail
  refine (HP1.out _ (by repeat (first | refine Ext.st ?_ (by first | exact Nat.le_refl _ | exact Nat.le_succ _ | assumption | omega) _ | refine Ext.al ?_ _ | refine Ext.dr ?_ | refine Ext.drN ?_ _ | exact Ext.rf _)) _ (ints_laid [1, 0] (heap_new_eq (by simp)))).mono ?_
  rintro e w2 ⟨v2, rfl, hO2, hE2⟩
  obtain ⟨a2, c2, rfl, hl2⟩ := hO2.read.shape
  rw [show awA1.length = 2 from rfl] at *
  have HR2 := Lib.hid hO2.read
  have HB2 := Lib.hid (hE2.hp ((Ext.al (Ext.rf _) _).hp (heap_alloc_new w1 (baT (.int .i64 0) (.slice ca 2 cc) (.slice ga 2 gc) (.int .i64 0)))))
  have HE2 := Lib.hid (show Ext w1 w2 from Ext.trans' (by repeat (first | refine Ext.st ?_ (by first | exact Nat.le_refl _ | exact Nat.le_succ _ | assumption | omega) _ | refine Ext.al ?_ _ | refine Ext.dr ?_ | refine Ext.drN ?_ _ | exact Ext.rf _)) hE2)
  clear hO2 hE2
  have hp2 := fun W (hW : Ext w2 W) (v : Value) (hv : Ints W v [0, 1]) => putTP_calls (.slice a2 2 c2) v (1 : Nat) awA1 [0, 1] W (HR2.out.ext ragent_lasts hW) (agents_smallT aw_a1) hv (by decide)
  rw [aw_r2, aw_e2, show ((1 : Nat) : Int) = 1 from rfl] at hp2
  have HP2 := Lib.hid hp2
  clear hp2
  go_wp2_with fail
  refine (HP2.out _ (by repeat (first | refine Ext.st ?_ (by first | exact Nat.le_refl _ | exact Nat.le_succ _ | assumption | omega) _ | refine Ext.al ?_ _ | refine Ext.dr ?_ | refine Ext.drN ?_ _ | exact Ext.rf _)) _ (ints_laid [0, 1] (heap_new_eq (by simp)))).mono ?_
  rintro e w3 ⟨v3, rfl, hO3, hE3⟩
  obtain ⟨a3, c3, rfl, hl3⟩ := hO3.read.shape
  rw [show awA2.length = 2 from rfl] at *
  have HR3 := Lib.hid hO3.read
  have HB3 := Lib.hid (hE3.hp ((Ext.al (Ext.rf _) _).hp HB2.out))
  have HE3 := Lib.hid (HE2.out.trans' (Ext.trans' (by repeat (first | refine Ext.st ?_ (by first | exact Nat.le_refl _ | exact Nat.le_succ _ | assumption | omega) _ | refine Ext.al ?_ _ | refine Ext.dr ?_ | refine Ext.drN ?_ _ | exact Ext.rf _)) hE3))
  clear hO3 hE3
  have hs1 := fun W (hW : Ext w3 W) => stepT_calls (.slice ca 2 cc) (.slice ga 2 gc) (.slice a3 2 c3) (newB 2) awA2 0 W ((HC.out.ext HE3.out).ext hW) ((HG.out.ext rbool_lasts HE3.out).ext rbool_lasts hW) (HR3.out.ext ragent_lasts hW) aw_v1 rfl rfl aw_q1.1 aw_q1.2.1 aw_q1.2.2
  rw [show (newB 2).at_ = 0 from rfl, show (newB 2).state = 0 from rfl] at hs1
  have HS1 := Lib.hid hs1
  clear hs1
  have x0 := cellOf HB3.out 0
  have x1 := cellOf HB3.out 1
  have x2 := cellOf HB3.out 2
  have x3 := cellOf HB3.out 3
  simp only [List.getElem?_toArray, List.getElem?_cons_zero, List.getElem?_cons_succ] at x0 x1 x2 x3
  go_wp2_with fail
  refine (HS1.out _ (by repeat (first | refine Ext.st ?_ (by first | exact Nat.le_refl _ | exact Nat.le_succ _ | assumption | omega) _ | refine Ext.al ?_ _ | refine Ext.dr ?_ | refine Ext.drN ?_ _ | exact Ext.rf _))).mono ?_
  rintro e w4 ⟨vc, vg, va, rfl, hB4, hA4, hE4⟩
  rw [show (stepB (newB 2) awA2 0).at_ = 1 from aw_b1.1, show (stepB (newB 2) awA2 0).state = 0 from aw_b1.2]
  obtain ⟨fa, fc, rfl, hfc, hsh⟩ := hB4.1.any
  clear hsh
  obtain ⟨ha, hc, rfl, hhc, hsh⟩ := hB4.2.any
  clear hsh
  obtain ⟨a4, c4, rfl, hl4⟩ := hA4.read.shape
  rw [show (stepB (newB 2) awA2 0).cut.length = 2 from rfl, show (stepB (newB 2) awA2 0).good.length = 2 from rfl, show (takeAg awA2 0).length = 2 from rfl] at *
  have HB4 := Lib.hid (hE4.hp HB3.out)
  have HE4 := Lib.hid (HE3.out.trans' hE4)
  have HOB := Lib.hid hB4
  have HOA := Lib.hid hA4
  clear hB4 hA4 hE4 x0 x1 x2 x3
  have x0 := cellOf HB4.out 0
  have x1 := cellOf HB4.out 1
  have x2 := cellOf HB4.out 2
  have x3 := cellOf HB4.out 3
  simp only [List.getElem?_toArray, List.getElem?_cons_zero, List.getElem?_cons_succ] at x0 x1 x2 x3
  have f0 := freeOf HB4.out 0
  have f1 := freeOf HB4.out 1
  have f2 := freeOf HB4.out 2
  have f3 := freeOf HB4.out 3
  go_wp2_with fail
  obtain ⟨k1, k2, k3, k4, k5⟩ := ba_stored HB4.out (.int .i64 1) (.slice (fa) 2 fc) (.slice ha 2 hc) (.int .i64 0)
  have HB5 := Lib.hid k1
  have HE5 := Lib.hid (show Ext w1 _ from k4 (Nat.le_refl _) HE4.out)
  have HC5 := Lib.hid (k2 HOB.out.1 (by decide)).ints
  have HG5 := Lib.hid (k2 HOB.out.2 (by decide)).bools
  obtain ⟨acs, ahs, q1, q2, q3⟩ := HOA.out
  have HR5 := Lib.hid (OwnAg.read (e1 := 49) (e2 := 22) (e3 := 3) (l := takeAg awA2 0) ⟨acs, ahs, k2 q1 (by decide), q2, k3 q3⟩)
  generalize hw5 : (((w4.setCell ⟨w1.heap.size, 0, none⟩ (.int .i64 1)).setCell ⟨w1.heap.size, 1, none⟩ (.slice fa 2 fc)).setCell ⟨w1.heap.size, 2, none⟩ (.slice ha 2 hc)).setCell ⟨w1.heap.size, 3, none⟩ (.int .i64 0) = w5 at *
  clear hw5 k1 k2 k3 k4 k5 q1 q2 q3 x0 x1 x2 x3 f0 f1 f2 f3
  have hs2 := fun W (hW : Ext w5 W) => stepT_calls (.slice fa 2 fc) (.slice ha 2 hc) (.slice a4 2 c4) awB1 awA3 1 W (HC5.out.ext hW) (HG5.out.ext rbool_lasts hW) (HR5.out.ext ragent_lasts hW) aw_v2 aw_b1.2 aw_b1.1 aw_q2.1 aw_q2.2.1 aw_q2.2.2
  rw [aw_b1.1, aw_b1.2] at hs2
  have HS2 := Lib.hid hs2
  clear hs2
  refine (HS2.out _ (Ext.rf _)).mono ?_
  rintro e w6 ⟨vc, vg, va, rfl, hB6, hA6, hE6⟩
  rw [aw_b2.1]
  obtain ⟨da, dc, rfl, hdc, hsh⟩ := hB6.1.any
  clear hsh
  obtain ⟨ea, ec, rfl, hec, hsh⟩ := hB6.2.any
  clear hsh
  obtain ⟨a6, c6, rfl, hl6⟩ := hA6.read.shape
  rw [show (stepB awB1 awA3 1).cut.length = 2 from rfl, show (stepB awB1 awA3 1).good.length = 2 from rfl, show (takeAg awA3 1).length = 2 from rfl] at *
  have HB6 := Lib.hid (hE6.hp HB5.out)
  have HE6 := Lib.hid (HE5.out.trans' hE6)
  have hrow6 := hB6.1
  rw [aw_b2.2] at hrow6
  have HROW6 := Lib.hid hrow6
  clear hB6 hA6 hE6 hrow6
  generalize (stepB awB1 awA3 1).at_ = y at *
  have x0 := cellOf HB6.out 0
  have x1 := cellOf HB6.out 1
  have x2 := cellOf HB6.out 2
  have x3 := cellOf HB6.out 3
  simp only [List.getElem?_toArray, List.getElem?_cons_zero, List.getElem?_cons_succ] at x0 x1 x2 x3
  have f0 := freeOf HB6.out 0
  have f1 := freeOf HB6.out 1
  have f2 := freeOf HB6.out 2
  have f3 := freeOf HB6.out 3
  have hE7 : Ext w1 ((((w6.setCell ⟨w1.heap.size, 0, none⟩ (.int .i64 y)).setCell ⟨w1.heap.size, 1, none⟩ (.slice da 2 dc)).setCell ⟨w1.heap.size, 2, none⟩ (.slice ea 2 ec)).setCell ⟨w1.heap.size, 3, none⟩ (.int .i64 1)) := (ba_stored HB6.out _ _ _ _).2.2.2.1 (Nat.le_refl _) HE6.out
  have HE7 := Lib.hid hE7
  have HCUT7 : Hid (Ints ((((w6.setCell ⟨w1.heap.size, 0, none⟩ (.int .i64 y)).setCell ⟨w1.heap.size, 1, none⟩ (.slice da 2 dc)).setCell ⟨w1.heap.size, 2, none⟩ (.slice ea 2 ec)).setCell ⟨w1.heap.size, 3, none⟩ (.int .i64 1)) (.slice da 2 dc) [1, 1]) := Lib.hid ((ba_stored HB6.out (.int .i64 y) (.slice da 2 dc) (.slice ea 2 ec) (.int .i64 1)).2.1 HROW6.out (by decide)).ints
  go_wp2_with fail
  generalize hw7 : (((w6.setCell ⟨w1.heap.size, 0, none⟩ (.int .i64 y)).setCell ⟨w1.heap.size, 1, none⟩ (.slice da 2 dc)).setCell ⟨w1.heap.size, 2, none⟩ (.slice ea 2 ec)).setCell ⟨w1.heap.size, 3, none⟩ (.int .i64 1) = w7 at *
  have hs7 : w7.heap.size = w6.heap.size := by rw [← hw7]; simp [size_setCell]
  have heq := fun W (hW : Ext w7 W) (v : Value) (hv : Ints W v [1, 1]) => equal_int (.slice da 2 dc) v [1, 1] [1, 1] W (HCUT7.out.ext hW) hv (by decide) (by decide)
  rw [show (([1, 1] : List Int) == [1, 1]) = true from rfl] at heq
  have HEQ := Lib.hid heq
  clear heq hw7
  refine (HEQ.out _ (by repeat (first | refine Ext.st ?_ (by first | exact Nat.le_refl _ | exact Nat.le_succ _ | assumption | omega) _ | refine Ext.al ?_ _ | refine Ext.dr ?_ | refine Ext.drN ?_ _ | exact Ext.rf _)) _ (ints_laid [1, 1] (heap_new_eq hs7.symm))).mono ?_
  rintro e w8 ⟨rfl, hE⟩
  have HE8 := Lib.hid (HE1.out.trans' (HE7.out.trans' (Ext.trans' (by repeat (first | refine Ext.st ?_ (by first | exact Nat.le_refl _ | exact Nat.le_succ _ | assumption | omega) _ | refine Ext.al ?_ _ | refine Ext.dr ?_ | refine Ext.drN ?_ _ | exact Ext.rf _)) hE)))
  clear hE x0 x1 x2 x3 f0 f1 f2 f3 hs7
  go_wp2
  go_ret
  exact ⟨rfl, HE8.out⟩

end Go.Proofs.Ytpjnppkhhbnfoaa
