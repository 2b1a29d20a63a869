/-
  Relations: what is valid, and the one with some pairs.
-/
import Derived.Test.YtodkcfebcjgahaaBase
import Derived.Test.YtodkcfebcjgahaaProg
import Derived.BigQuiet
import Derived.Deep.QuietTactic
import Derived.Deep.LoopGhost
import Derived.Shelf.Abstract
import Derived.Test.YtodkcfebcjgahaaRelA
import Derived.Test.YtodkcfebcjgahaaFnsS
import Derived.Test.YtodkcfebcjgahaaFnsP
import Derived.Test.YtodkcfebcjgahaaGarb
import Derived.Test.YtodkcfebcjgahaaCycL
namespace Go.Proofs.Ytodkcfebcjgahaa
open Go.RowKit
set_option linter.unusedVariables false

theorem enters_54 : ∀ args w, (callFunc 54 args).run Try.prog w = .ok (.enter 54 args) w := enters_of Try.func54 (by kernel_rfl) rfl
theorem enters_42 : ∀ args w, (callFunc 42 args).run Try.prog w = .ok (.enter 42 args) w := enters_of Try.func42 (by kernel_rfl) rfl
theorem enters_43 : ∀ args w, (callFunc 43 args).run Try.prog w = .ok (.enter 43 args) w := enters_of Try.func43 (by kernel_rfl) rfl

set_option maxHeartbeats 2000000 in
set_option maxRecDepth 100000 in
theorem rvalid1_calls (N m b : Nat) (vs : List Value) (a : Option Addr) (c : Nat) (w : World) (hv : RSet N w vs m) (hb : w.cell? ⟨b, 0, none⟩ = some (.slice a N c)) (hN : 1 ≤ N) (hN2 : N ≤ 63) (hm : m < 2 ^ N) :
    Calls Try.prog 54 #[encAgg vs, .pointer (some ⟨b, 0, none⟩)] w fun e w' => e = .returned (.bool false) ∧ Ext w w' := by
  obtain ⟨wb, wo, wc, rfl, hwb, hc, hcell⟩ := hv
  have HVC := Lib.hid (fun W (hW : Ext w W) => bvalid_calls N wb wo wc m W (hW.cl hcell) hN hN2 hm)
  have hbw := World.block_lt_of_cell? w _ hb
  have HE1 := Lib.hid ((Ext.rf w).al (.cells #[.int .i64 (N : Int), .slice (some ⟨wb, wo, none⟩) 1 wc] 79))
  have k1 := HE1.out.cl hb
  have HX0 := Lib.hid (heap_alloc_new w (.cells #[.int .i64 (N : Int), .slice (some ⟨wb, wo, none⟩) 1 wc] 79))
  have s0 := cellOf HX0.out 0
  have s1 := cellOf HX0.out 1
  simp only [List.getElem?_toArray, List.getElem?_cons_zero, List.getElem?_cons_succ] at s0 s1
  have hne : ((N : Int) != (N : Int)) = false := by simp
  unfold encAgg
  clear hb hcell hwb
  go_enter Try.func54, Try.ntmps54
  go_wp2_with fail
  refine (HVC.out _ HE1.out).mono ?_
  rintro e w9 ⟨rfl, hX9⟩
  go_wp2
  go_ret
  exact ⟨rfl, HE1.out.trans' hX9⟩

set_option maxHeartbeats 2000000 in
set_option maxRecDepth 100000 in
/-- A relation with bits in range is valid. -/
theorem rvalid_calls (v : Value) (N : Nat) (M : List Nat) (w : World) (h : Sl (RSet N) 2 w v M) (hl : M.length = N) (hN : N ≤ 63) (hb : BndM N M) :
    Calls Try.prog 46 #[.agg #[v]] w fun e w' => e = .returned (.bool true) ∧ Ext w w' := by
  obtain ⟨a, c, rfl, hlc⟩ := h.sh
  have HC := Lib.hid (fun W (hW : Ext w W) (hc : W.cell? ⟨w.heap.size, 0, none⟩ = some (.slice a N c)) => containsFunc_set (RSet N) (rset_lasts N) 54 #[.pointer (some ⟨w.heap.size, 0, none⟩)] enters_54 (fun _ => false) _ M W (h.ext (rset_lasts N) hW) (by omega)
    (fun m hm W2 vs hW2 hR => by
      obtain ⟨i, hi, rfl⟩ := List.getElem_of_mem hm
      have := hb i
      rw [getElem!_pos M i hi] at this
      exact rvalid1_calls N _ _ vs a c W2 hR (hW2.cl hc) (by omega) hN this))
  have HA : Hid ((M.any fun _ => false) = false) := Lib.hid (by rw [List.any_eq_false]; intro x _; simp)
  rw [HA.out, hl] at HC
  rw [hl]
  have HE1 := Lib.hid ((Ext.rf w).al (.cells #[.slice a N c] 53))
  have HX0 := Lib.hid (heap_alloc_new w (.cells #[.slice a N c] 53))
  have s0 := cellOf HX0.out 0
  simp only [List.getElem?_toArray, List.getElem?_cons_zero] at s0
  have d0 : decide ((N : Int) ≤ 512) = true := decide_eq_true (by omega)
  clear h hl hb hlc
  go_enter Try.func46, Try.ntmps46
  go_wp2_with fail
  refine (HC.out _ HE1.out s0).mono ?_
  rintro e w9 ⟨rfl, hX9⟩
  go_wp2
  go_ret
  exact ⟨rfl, HE1.out.trans' hX9⟩

/-! ### The relation with some pairs -/
def inB (n x : Int) : Bool := decide (0 ≤ x) && decide (x < n)
set_option maxHeartbeats 400000 in
theorem make1_calls (x n : Int) (bn : Nat) (w : World) (hc : w.cell? ⟨bn, 0, none⟩ = some (.int .i64 n)) (h0 : 0 ≤ x) (h1 : x < n) :
    Calls Try.prog 42 #[.int .i64 x, .pointer (some ⟨bn, 0, none⟩)] w fun e w' => e = .returned (.bool true) ∧ Ext w w' := by
  go_enter Try.func42, Try.ntmps42
  go_wp2
  go_ret
  exact ⟨rfl, Below.refl _ _⟩
set_option maxHeartbeats 400000 in
theorem make2_calls (x y n : Int) (bn bo : Nat) (w : World) (hc : w.cell? ⟨bn, 0, none⟩ = some (.int .i64 n))
    (ho : w.cell? ⟨bo, 0, none⟩ = some (.func (.func 42) #[] #[.pointer (some ⟨bn, 0, none⟩)])) (hx : 0 ≤ x ∧ x < n) (hy : 0 ≤ y ∧ y < n) :
    Calls Try.prog 43 #[.agg #[.int .i64 x, .int .i64 y], .pointer (some ⟨bo, 0, none⟩)] w fun e w' => e = .returned (.bool false) ∧ Ext w w' := by
  have HC := Lib.hid (fun x W (hW : Ext w W) (h : 0 ≤ x ∧ x < n) => make1_calls x n bn W (hW.cl hc) h.1 h.2)
  have HXX := Lib.hid hx
  have HYY := Lib.hid hy
  have hbo : bo < w.heap.size := World.block_lt_of_cell? w _ ho
  have HO := Lib.hid ho
  clear hx hy
  go_enter Try.func43, Try.ntmps43
  go_wp2_with fail
  refine (HC.out x _ ((Ext.rf _).al _) HXX.out).mono ?_
  rintro e w' ⟨rfl, he'⟩
  have h2 : w'.cell? ⟨bo, 0, none⟩ = some (.func (.func 42) #[] #[.pointer (some ⟨bn, 0, none⟩)]) := (((Ext.rf _).al _).trans' he').cl HO.out
  have h3 : w'.cell? ⟨w.heap.size, 1, none⟩ = some (.int .i64 y) := he'.cl (cell_new _ _ _ _ _ rfl)
  have HE := Lib.hid he'; clear he'
  go_wp2_with fail
  refine (HC.out y _ (((Ext.rf _).al _).trans' HE.out) HYY.out).mono ?_
  rintro e w2 ⟨rfl, he2⟩
  go_wp2
  go_ret
  exact ⟨rfl, (((Ext.rf _).al _).trans' HE.out).trans' he2⟩

/-- The relation in the making. -/
def MkI (w W : World) (D base n : Nat) (M : List Nat) : Prop := ∃ v vw, W.heap[D]? = some (.cells #[v] 53) ∧ OwnRel W base v n M vw ∧ W.heap[w.heap.size + 1]? = some (.cells #[.slice none 0 0] 53) ∧ Ext w W ∧ base ≤ W.heap.size
set_option maxHeartbeats 4000000 in
set_option maxRecDepth 100000 in
theorem make_calls (n : Nat) (u : Value) (ps : List (Int × Int)) (w : World) (hu : Sl RPair 2 w u ps) (hl : ps.length ≤ 1000000) (hn : n ≤ 63) (hp : ∀ p ∈ ps, (0 ≤ p.1 ∧ p.1 < (n : Int)) ∧ 0 ≤ p.2 ∧ p.2 < (n : Int)) :
    Calls Try.prog 26 #[.int .i64 n, u] w fun e w' => ∃ v vw, e = .returned (.tuple #[.agg #[v], .int .i64 0]) ∧ OwnRel w' w.heap.size v n (relP n ps) vw ∧ BndM n (relP n ps) ∧ Ext w w' := by
  have HU := Lib.hid hu
  have HPP := Lib.hid hp
  have HC := Lib.hid (fun W (hW : Ext w W) (hc : W.cell? ⟨w.heap.size, 0, none⟩ = some (.int .i64 n)) (ho : W.cell? ⟨w.heap.size + 1 + 1, 0, none⟩ = some (.func (.func 42) #[] #[.pointer (some ⟨w.heap.size, 0, none⟩)])) =>
    containsFunc_pair RPair rpair_lasts 43 #[.pointer (some ⟨w.heap.size + 1 + 1, 0, none⟩)] enters_43 (fun _ => false) u ps W (hu.ext rpair_lasts hW) hl
      (fun p hpm W2 vs hW2 hR => by
        obtain rfl : vs = _ := hR
        exact make2_calls p.1 p.2 n _ _ W2 (hW2.cl hc) (hW2.cl ho) (hp p hpm).1 (hp p hpm).2))
  have HA : Hid ((ps.any fun _ => false) = false) := Lib.hid (by rw [List.any_eq_false]; intro x _; simp)
  rw [HA.out] at HC
  have HEC := Lib.hid (fun W => empty_calls n W hn)
  have HBND : Hid (∀ k, k ≤ ps.length → BndM n (relP n (ps.take k))) := Lib.hid (fun k => by
    induction k with
    | zero => intro _; rw [List.take_zero]; exact BndM.zero n n
    | succ k ih =>
      intro hk
      rw [relP_snoc n ps k (by omega)]
      have h := hp ps[k]! (mem_at ps k (by omega))
      exact (ih (by omega)).put (by omega))
  have HT : Hid (ps.take ps.length = ps) := Lib.hid (List.take_length)
  obtain ⟨ua, uc, rfl, huc⟩ := hu.sh
  obtain ⟨L, hL⟩ : ∃ L, ps.length = L := ⟨_, rfl⟩
  have HL := Lib.hid hL
  rw [hL] at hl HU HBND HT HC ⊢
  clear hu hp hL huc
  go_enter Try.func26, Try.ntmps26
  have d0 : decide ((n : Int) < 0) = false := decide_eq_false (by omega)
  have d1 : decide (512 < (n : Int)) = false := decide_eq_false (by omega)
  go_wp2_with fail
  refine (HC.out _ (by repeat (first | refine Ext.st ?_ (by first | exact Nat.le_refl _ | exact Nat.le_succ _ | assumption | omega) _ | refine Ext.al ?_ _ | refine Ext.dr ?_ | refine Ext.drN ?_ _ | exact Ext.rf _)) ((((Ext.rf _).al _).al _).cl (cell_new _ _ _ _ _ rfl)) (cell_new_eq (by simp) rfl)).mono ?_
  rintro e w1 ⟨rfl, he1⟩
  have HB0 := Lib.hid (he1.hp ((((Ext.rf _).al _).al _).hp (heap_alloc_new w (.cells #[.int .i64 (n : Int)] 3))))
  have HB1 : Hid (w1.heap[w.heap.size + 1]? = some (.cells #[.slice none 0 0] 53)) := Lib.hid (he1.hp (((Ext.rf _).al _).hp (heap_new_eq (by simp))))
  have HE1 := Lib.hid ((((((Ext.rf w).al (.cells #[.int .i64 (n : Int)] 3)).al (.cells #[.slice none 0 0] 53)).al _)).trans' he1)
  have b0 := cellOf HB0.out 0
  simp only [List.getElem?_toArray, List.getElem?_cons_zero] at b0
  clear he1 d0 d1
  go_wp2_with fail
  refine (HEC.out _).mono ?_
  rintro e w2 ⟨v, vw, rfl, ho, hx⟩
  obtain ⟨va, vc, hv⟩ := ho.any
  rw [List.length_replicate] at hv
  subst hv
  have HE2 := Lib.hid (HE1.out.trans' hx)
  have HI0 : Hid (MkI w (w2.alloc (.cells #[.slice va n vc] 53)) w2.heap.size w1.heap.size n (relP n (ps.take 0))) := Lib.hid (by
    refine ⟨_, vw, heap_alloc_new _ _, ?_, ((Ext.rf w2).al _).hp (hx.hp HB1.out), HE2.out.al _, ?_⟩
    · rw [List.take_zero]; exact ho.ext ((Ext.rf w2).al _)
    · exact Nat.le_trans hx.sz ((Ext.rf w2).al _).sz)
  have hbs : w.heap.size + 1 < w1.heap.size := (Array.getElem?_eq_some_iff.1 HB1.out).1
  have HBL := Lib.hid (show w1.heap.size ≤ w2.heap.size from hx.sz)
  clear ho hx b0
  go_wp2
  generalize w2.alloc (.cells #[.slice va n vc] 53) = w3 at *
  generalize hD : w2.heap.size = D at *
  clear hD
  go_loopg [27] L (fun g s27 wr => ∃ k : Nat, k ≤ L ∧ L - k ≤ g ∧ s27 = .int .i64 k ∧ Aside (MkI w wr D w1.heap.size n (relP n (ps.take k))))
  case atStart => exact ⟨0, Nat.zero_le _, by omega, rfl, (show MkI _ _ _ _ _ _ from HI0.out)⟩
  case round =>
    obtain ⟨k, hk, hg, rfl, HI⟩ := hrel
    obtain ⟨v, vw, hb, ho, hb1, hX, hs⟩ := HI.out
    obtain ⟨ra, rc, hv⟩ := ho.any
    rw [relP_len] at hv
    subst hv
    have HB := Lib.hid hb
    have HO := Lib.hid ho
    have HBB := Lib.hid hb1
    have HX := Lib.hid hX
    have s0 := cellOf hb 0
    have r0 := cellOf hb1 0
    have fr0 := freeOf hb1 0
    simp only [List.getElem?_toArray, List.getElem?_cons_zero] at s0 r0
    have hDw : D < wr.heap.size := (Array.getElem?_eq_some_iff.1 hb).1
    clear hb ho hb1 hX
    by_cases hlt : k < L
    · have hltz : (k : Int) < (L : Int) := by omega
      have hkz : (0 : Int) ≤ (k : Int) := by omega
      obtain ⟨B, O, C, vs, hue, hlC, hB, hl2, hR, hcells⟩ := Sl.cellsOf HU.out k (by rw [HL.out]; exact hlt)
      simp only [Value.slice.injEq] at hue
      obtain ⟨rfl, hzz, rfl⟩ := hue
      obtain rfl : vs = _ := hR
      have p0 := HX.out.cl (hcells 0 (by omega))
      have p1 := HX.out.cl (hcells 1 (by omega))
      have HPK := Lib.hid (HPP.out ps[k]! (mem_at ps k (by rw [HL.out]; exact hlt)))
      have HSN := Lib.hid (relP_snoc n ps k (by rw [HL.out]; exact hlt))
      obtain ⟨X, hX1⟩ : ∃ X : Nat, ps[k]!.1 = (X : Int) := ⟨ps[k]!.1.toNat, by have := HPK.out; omega⟩
      obtain ⟨Y, hY1⟩ : ∃ Y : Nat, ps[k]!.2 = (Y : Int) := ⟨ps[k]!.2.toNat, by have := HPK.out; omega⟩
      have hr := HPK.out
      rw [hX1, hY1] at hr p0 p1
      have HSN2 : Hid (relP n (ps.take (k + 1)) = putM (relP n (ps.take k)) X Y) := Lib.hid (by
        rw [HSN.out]; unfold putP; rw [hX1, hY1]; rfl)
      simp only [List.getElem!_cons_zero, List.getElem!_cons_succ, Nat.add_zero] at p0 p1
      have HPC := Lib.hid (fun W (hO : OwnRel W w1.heap.size (.slice ra n rc) n (relP n (ps.take k)) vw) (hs : w1.heap.size ≤ W.heap.size) => put_calls (.slice ra n rc) n (relP n (ps.take k)) vw X Y w1.heap.size W hO (by rw [relP_len]; omega) (by omega) ((HBND.out k hk).u64 (by omega) X) hs)
      clear hcells hX1 hY1 hr hzz r0 fr0
      go_wp2_with fail
      refine (HPC.out _ (HO.out.ext ((Ext.rf _).al _)) (Nat.le_trans hs ((Ext.rf wr).al _).sz)).mono ?_
      rintro e w9 ⟨rfl, hO9, hB9, hK9⟩
      have HI9 : Hid (MkI w w9 D w1.heap.size n (relP n (ps.take (k + 1)))) := Lib.hid (by
        rw [HSN2.out]
        refine ⟨_, vw, hK9 _ _ _ _ (by decide) (((Ext.rf wr).al _).hp HB.out), hO9, hK9 _ _ _ _ (by decide) (((Ext.rf wr).al _).hp HBB.out), ?_, Nat.le_trans (Nat.le_trans hs ((Ext.rf wr).al _).sz) hB9.size⟩
        exact Below.trans (HX.out.al _) (hB9.mono (by omega)))
      clear hO9 hB9 hK9 s0 p0 p1
      go_wp2
      go_roundg (L - (k + 1))
      case measure => omega
      case rel => exact ⟨k + 1, by omega, by omega, by go_num, (show MkI _ _ _ _ _ _ from HI9.out)⟩
    · have hltz : ¬ (k : Int) < (L : Int) := by omega
      obtain rfl : L = k := by omega
      go_wp2
      have z0 := cellOf (heap_setCell_same (o := 0) (u := .slice ra n rc) HBB.out) 0
      simp only [Array.setIfInBounds, List.size_toArray, List.length_cons, List.length_nil, Nat.zero_lt_succ] at z0
      refine bodyPost_ret (v := .tuple #[.agg #[.slice ra n rc], .int .i64 0]) (by simp [results, Try.results26, go_sem, z0]) rfl ?_
      have hO := HO.out
      have hB := HBND.out L hk
      rw [HT.out] at hO hB
      exact ⟨_, rfl, ⟨_, (hO.mono (by omega)).stO HBB.out (by decide) (by decide) _⟩, hB, HX.out.st (by show w.heap.size ≤ w.heap.size + 1; omega) _⟩

end Go.Proofs.Ytodkcfebcjgahaa
