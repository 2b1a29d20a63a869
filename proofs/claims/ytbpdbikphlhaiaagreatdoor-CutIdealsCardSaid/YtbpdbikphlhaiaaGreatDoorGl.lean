import Derived.Test.YtbpdbikphlhaiaaGreatDoorGa
import Derived.Test.YtbpdbikphlhaiaaGreatDoorProg
import Derived.Test.YtbpdbikphlhaiaaGreatDoorGk
import Derived.Test.YtbpdbikphlhaiaaGreatDoorGj
import Derived.BigQuiet
import Derived.Deep.QuietTactic
import Derived.Deep.LoopGhost
import Derived.Shelf.Abstract
import Derived.Deep.DeepCutAuto
import Derived.Laws.CopyOwn
import Derived.BigRegion
namespace Go.Proofs.YtbpdbikphlhaiaaGreatDoor
open Go.RowKit
set_option linter.unusedVariables false
theorem info_two : (Tryz.prog.info? 120).map (fun i => (i.zero, i.size, i.bytes)) = some (some (.agg #[.int .i64 0, .int .i64 0]), 2, 16) := by kernel_rfl
def prN (p : Nat × Nat) : List Value := [.int .i64 (p.1 : Int), .int .i64 (p.2 : Int)]
theorem prN_at : ∀ (L : List (Nat × Nat)) (j : Nat), j < L.length → (L.flatMap prN)[j * 2]? = some (.int .i64 (L[j]!.1 : Int)) ∧ (L.flatMap prN)[j * 2 + 1]? = some (.int .i64 (L[j]!.2 : Int))
 | [], j, h => absurd h (Nat.not_lt_zero _)
 | x :: L, 0, _ => by simp [prN]
 | x :: L, j + 1, h => by
   have ih := prN_at L j (by simpa using h)
   rw [List.flatMap_cons, show (j + 1) * 2 = j * 2 + 1 + 1 from by omega]
   simp only [prN, List.cons_append, List.nil_append, List.getElem?_cons_succ, List.getElem!_cons_succ]
   exact ih
set_option maxHeartbeats 4000000 in
set_option maxRecDepth 100000 in
theorem all_calls (v : Value) (N : Nat) (M : List Nat) (w : World) (h : Sl (RSet N) 2 w v M) (hl : M.length = N) (hN : N ≤ 60) (hb : BndM N M) :
  Calls Tryz.prog 75 #[.agg #[v]] w fun e w' => ∃ u, e = .returned u ∧ Row w' w.heap.size 120 2 u (prsTo M N N 0).length ((prsTo M N N 0).flatMap prN) ∧ Ext w w' := by
 have HH := Lib.hid (fun W (hW : Ext w W) (i j : Nat) (hi : i < N) (hj : j < N) => has_calls v N M i j W (h.ext (rset_lasts N) hW) (by rw [hl]; exact hi) (by omega) (hb.u64 (by omega) i))
 obtain ⟨ip, hip, jz0, jz1, jz2⟩ := info_parts info_two
 obtain ⟨a, c, rfl, hlc⟩ := h.sh
 rw [hl] at HH hlc ⊢
 have HLB := Lib.hid (fun i j => prsTo_len M N i j)
 have HX0 := Lib.hid (heap_alloc_new w (.cells #[.slice a N c] 32))
 have HE1 := Lib.hid ((Ext.rf w).al (.cells #[.slice a N c] 32))
 clear h hl hb
 go_enter Tryz.func75, Tryz.ntmps75
 go_wp2
 generalize hw1 : w.alloc (.cells #[.slice a N c] 32) = w1 at *
 have hsz1 : w.heap.size ≤ w1.heap.size := HE1.out.sz
 clear hw1
 go_loopg [3, 9] N (fun g s3 s9 wr => ∃ i : Nat, i ≤ N ∧ N - i ≤ g ∧ s9 = .int .i64 i ∧ Aside (Row wr w1.heap.size 120 2 s3 (prsTo M N i 0).length ((prsTo M N i 0).flatMap prN)) ∧ Aside (Ext w1 wr))
 case atStart => exact ⟨0, Nat.zero_le _, by omega, rfl, (show Row _ _ _ _ _ _ _ from Row.mkNil _ _ _ _), Ext.rf _⟩
 case round =>
  obtain ⟨i, hi, hg, rfl, HR, HEK⟩ := hrel
  by_cases hlt : i < N
  ·have hltz : (i : Int) < (N : Int) := by omega
   have hiz : (0 : Int) ≤ (i : Int) := by omega
   have t0 := cellOf (HEK.out.hp HX0.out) 0
   simp only [List.getElem?_toArray, List.getElem?_cons_zero] at t0
   obtain ⟨wo, rfl⟩ : ∃ x, x = wr := ⟨_, rfl⟩
   go_wp2
   clear t0
   go_loopg [3, 15] N (fun g s3 s15 wr => ∃ j : Nat, j ≤ N ∧ N - j ≤ g ∧ s15 = .int .i64 j ∧ Aside (Row wr w1.heap.size 120 2 s3 (prsTo M N i j).length ((prsTo M N i j).flatMap prN)) ∧ Aside (Ext w1 wr))
   case atStart => exact ⟨0, Nat.zero_le _, by omega, rfl, HR, HEK⟩
   case round =>
    obtain ⟨j, hj, hgj, rfl, HR, HEK⟩ := hrel
    by_cases hlj : j < N
    ·have hljz : (j : Int) < (N : Int) := by omega
     have hjz : (0 : Int) ≤ (j : Int) := by omega
     have HEW := Lib.hid (HE1.out.trans' HEK.out)
     have HC := Lib.hid (HH.out wr HEW.out i j hlt hlj)
     have t0 := cellOf (HEK.out.hp HX0.out) 0
     simp only [List.getElem?_toArray, List.getElem?_cons_zero] at t0
     have hlb : (prsTo M N i j).length ≤ 4000 := by
      have := HLB.out i j
      have h2 : i * N ≤ 60 * 60 := Nat.mul_le_mul (by omega) hN
      omega
     obtain ⟨bb, hbb⟩ : ∃ b, hasM M i j = b := ⟨_, rfl⟩
     rw [hbb] at HC
     have HBB := Lib.hid hbb
     clear hbb
     go_wp2_with fail
     clear t0
     refine (HC.out).mono ?_
     rintro e w5 ⟨rfl, hX5⟩
     have HR5 := Lib.hid (HR.out.ext hX5)
     have HE5 := Lib.hid (HEK.out.trans' hX5)
     clear hX5
     cases bb with
     | false =>
       have HP := Lib.hid (prsTo_no (N := N) HBB.out)
       go_wp2
       go_roundg (N - (j + 1))
       case measure => omega
       case rel => exact ⟨j + 1, by omega, by omega, by go_num, (show Row _ _ _ _ _ _ _ from by rw [HP.out]; exact HR5.out), HE5⟩
     | true =>
       have HP := Lib.hid (prsTo_yes (N := N) HBB.out)
       have hsz := HE5.out.sz
       generalize hll : (prsTo M N i j).length = ll at *
       have HLL := Lib.hid hll
       clear hll
       go_wp2_with ((at_builtin; go_loud (refine wpList_append_one rfl _ _ 118 rfl w1.heap.size 120 ip (.agg #[.int .i64 0, .int .i64 0]) 2 16 Tryz.underlying118 hip jz0 jz1 jz2 rfl (by decide) _ ll _ rfl (HR5.out.al _) w5.heap.size 1 [.int .i64 i, .int .i64 j] rfl rfl ⟨_, heap_alloc_new _ _⟩ (by simp [Value.oneCell']) (by unfold maxLen; omega) (by omega) (by simp; omega) ?_; intro v8 w8 hown8 hgrow8 hblk8; have HOWN := Lib.hid hown8; have HG8 := Lib.hid hgrow8; clear hown8 hgrow8 hblk8)))
       go_roundg (N - (j + 1))
       case measure => omega
       case rel => exact ⟨j + 1, by omega, by omega, by go_num, (show Row _ _ _ _ _ _ _ from by rw [HP.out, List.length_append, HLL.out, List.flatMap_append]; exact HOWN.out), (HE5.out.al _).gr HG8.out (fun q hq => (HR5.out.lt q hq).1)⟩
    ·have hljz : ¬ (j : Int) < (N : Int) := by omega
     obtain rfl : N = j := by omega
     go_wp2
     go_roundg (N - (i + 1))
     case measure => omega
     case rel => exact ⟨i + 1, by omega, by omega, by go_num, (show Row _ _ _ _ _ _ _ from by rw [← prsTo_next]; exact HR.out), HEK⟩
  ·have hltz : ¬ (i : Int) < (N : Int) := by omega
   obtain rfl : N = i := by omega
   go_wp2
   go_ret
   exact ⟨_, rfl, HR.out.mono hsz1, HE1.out.trans' HEK.out⟩
theorem Row.keepU {w w' : World} {base : Nat} {e : TypeId} {size : Nat} {v : Value} {n : Nat} {xs : List Value} (h : Row w base e size v n xs) (hk : KeepU w w') (he : e ≠ 78) : Row w' base e size v n xs := by
 obtain ⟨h1, h2⟩ := h
 refine ⟨h1, ?_⟩
 rcases h2 with h2 | ⟨g, off, cap, cur, e1, hb, hg, r⟩
 ·exact .inl h2
 ·exact .inr ⟨g, off, cap, cur, e1, hb, hk _ _ _ _ he hg, r⟩
structure InvI (w W : World) (D base n : Nat) (M : List Nat) (u : Value) (L : List (Nat × Nat)) (B2 : Nat) : Prop where
 own : ∃ v vw, W.heap[D]? = some (.cells #[v] 32) ∧ OwnRel W base v n M vw
 rb : W.heap[w.heap.size + 1]? = some (.cells #[.slice none 0 0] 32)
 prs : Row W B2 120 2 u L.length (L.flatMap prN)
 x : Ext w W
 sz : base ≤ W.heap.size
theorem invP_bnd {N : Nat} : ∀ (L : List (Nat × Nat)), (∀ p ∈ L, p.1 < N) → BndM N (invP N L) := by
 intro L h
 unfold invP
 have key : ∀ (L : List (Nat × Nat)) (Q : List Nat), (∀ p ∈ L, p.1 < N) → BndM N Q → BndM N (L.foldl putS Q) := by
  intro L
  induction L with
  | nil => intro Q _ hq; exact hq
  | cons p L ih => intro Q h hq; rw [List.foldl_cons]; exact ih _ (fun q hq => h q (by simp [hq])) (hq.put (h p (by simp)))
 exact key L _ h (BndM.zero N N)
set_option maxHeartbeats 8000000 in
set_option maxRecDepth 100000 in
theorem inverse_calls (v : Value) (N : Nat) (M : List Nat) (w : World) (h : Sl (RSet N) 2 w v M) (hl : M.length = N) (hN : N ≤ 60) (hb : BndM N M) :
  Calls Tryz.prog 56 #[.agg #[v]] w fun e w' => ∃ v' vw, e = .returned (.tuple #[.agg #[v'], .int .i64 0]) ∧ OwnRel w' w.heap.size v' N (invM M N) vw ∧ BndM N (invM M N) ∧ Ext w w' := by
 have HVC := Lib.hid (fun W (hW : Ext w W) => rvalid_calls v N M W (h.ext (rset_lasts N) hW) hl (by omega) hb)
 have HAC := Lib.hid (fun W (hW : Ext w W) => all_calls v N M W (h.ext (rset_lasts N) hW) hl hN hb)
 have HEC := Lib.hid (fun W => empty_calls N W (by omega))
 obtain ⟨a, c, rfl, hlc⟩ := h.sh
 rw [hl] at HVC HAC hlc ⊢
 have HPL := Lib.hid (prsTo_len M N N 0)
 have HPM : Hid (∀ p ∈ prsTo M N N 0, p.1 < N ∧ p.2 < N) := Lib.hid (fun p hp => by
  obtain ⟨x, y⟩ := p
  have := (prsTo_mem.1 hp).2
  simp only; omega)
 have HINV : Hid (invM M N = invP N (prsTo M N N 0)) := Lib.hid rfl
 have HNN : Hid (N * N ≤ 3600) := Lib.hid (by have : N * N ≤ 60 * 60 := Nat.mul_le_mul hN hN; omega)
 generalize prsTo M N N 0 = L at *
 have HBT : Hid (∀ k, BndM N (invP N (L.take k))) := Lib.hid (fun k => invP_bnd _ (fun p hp => (HPM.out p (List.mem_of_mem_take hp)).1))
 have HX0 := Lib.hid (((Ext.rf _).al (.cells #[.slice none 0 0] 32)).hp (heap_alloc_new w (.cells #[.slice a N c] 32)))
 have HX1 := Lib.hid (heap_new_eq (w := w.alloc (.cells #[.slice a N c] 32)) (o := .cells #[.slice none 0 0] 32) (b := w.heap.size + 1) (by simp))
 have HE2 := Lib.hid (((Ext.rf w).al (.cells #[.slice a N c] 32)).al (.cells #[.slice none 0 0] 32))
 clear h hl hb
 go_enter Tryz.func56, Tryz.ntmps56
 go_upto_region 1 with (fail)
 generalize (w.alloc (.cells #[.slice a N c] 32)).alloc (.cells #[.slice none 0 0] 32) = w2 at *
 have t0 := cellOf HX0.out 0
 simp only [List.getElem?_toArray, List.getElem?_cons_zero] at t0
 go_wp2_with fail
 refine (HVC.out _ HE2.out).mono ?_
 rintro e w3 ⟨rfl, hX3⟩
 have HE3 := Lib.hid (HE2.out.trans' hX3)
 have HX0 := Lib.hid (hX3.hp HX0.out)
 have HX1 := Lib.hid (hX3.hp HX1.out)
 have hsz3 : w.heap.size + 1 < w3.heap.size := (Array.getElem?_eq_some_iff.1 HX1.out).1
 have t0 := cellOf HX0.out 0
 simp only [List.getElem?_toArray, List.getElem?_cons_zero] at t0
 clear hX3
 go_wp2_with fail
 refine (HEC.out _).mono ?_
 rintro e w4 ⟨ov, vw, rfl, hO4, hX4⟩
 obtain ⟨oa, oc, hov⟩ := hO4.any
 rw [List.length_replicate] at hov
 subst hov
 have HE4 := Lib.hid (HE3.out.trans' hX4)
 have HX0 := Lib.hid (((Ext.rf w4).al (.cells #[.slice oa N oc] 32)).hp (hX4.hp HX0.out))
 have HX1 := Lib.hid (((Ext.rf w4).al (.cells #[.slice oa N oc] 32)).hp (hX4.hp HX1.out))
 have HD4 := Lib.hid (heap_alloc_new w4 (.cells #[.slice oa N oc] 32))
 have HE5 := Lib.hid (HE4.out.al (.cells #[.slice oa N oc] 32))
 have HO5 := Lib.hid (hO4.ext ((Ext.rf w4).al (.cells #[.slice oa N oc] 32)))
 have hsz4 : w3.heap.size ≤ w4.heap.size := hX4.sz
 have t0 := cellOf HX0.out 0
 simp only [List.getElem?_toArray, List.getElem?_cons_zero] at t0
 clear hX4 hO4
 go_upto_region 4 with (fail)
 generalize w4.alloc (.cells #[.slice oa N oc] 32) = w5 at *
 generalize hDD : w4.heap.size = D at *
 go_wp2_with fail
 refine (HAC.out _ HE5.out).mono ?_
 rintro e w6 ⟨u, rfl, hR6, hX6⟩
 obtain ⟨pa, pc, rfl, _⟩ := hR6.any
 have HI0 : Hid (InvI w w6 D w3.heap.size N (invP N (L.take 0)) (.slice pa L.length pc) L w5.heap.size) := Lib.hid (by
  refine ⟨⟨_, vw, hX6.hp HD4.out, ?_⟩, hX6.hp HX1.out, hR6, HE5.out.trans' hX6, ?_⟩
  ·rw [List.take_zero]; exact HO5.out.ext hX6
  ·have h1 : D < w5.heap.size := (Array.getElem?_eq_some_iff.1 HD4.out).1
   have h2 := hX6.sz
   omega)
 have HDS := Lib.hid (And.intro hsz3 hsz4)
 clear hX6 hR6 t0 hDD HX0 HX1 HD4
 generalize hLl : L.length = ll at *
 have HLL := Lib.hid hLl
 have hll6 : ll ≤ 3600 := by have := HPL.out; have := HNN.out; omega
 clear hLl
 go_wp2
 go_loopg [18] ll (fun g s18 wr => ∃ k : Nat, k ≤ ll ∧ ll - k ≤ g ∧ s18 = .int .i64 k ∧ Aside (InvI w wr D w3.heap.size N (invP N (L.take k)) (.slice pa ll pc) L w5.heap.size))
 case atStart => exact ⟨0, Nat.zero_le _, by omega, rfl, (show InvI _ _ _ _ _ _ _ _ _ from HI0.out)⟩
 case round =>
  obtain ⟨k, hk, hg, rfl, HI⟩ := hrel
  clear HI0
  obtain ⟨⟨v, vw, hD, hO⟩, hrb, hprs, hX, hsz⟩ := HI.out
  obtain ⟨ra, rc, hv⟩ := hO.any
  rw [invP_len] at hv
  subst hv
  have HD := Lib.hid hD
  have HO := Lib.hid hO
  have HRB := Lib.hid hrb
  have HPR := Lib.hid hprs
  have HX := Lib.hid hX
  have s0 := cellOf hD 0
  have r0 := cellOf hrb 0
  have fr0 := freeOf hrb 0
  simp only [List.getElem?_toArray, List.getElem?_cons_zero] at s0 r0
  have hDw : D < wr.heap.size := (Array.getElem?_eq_some_iff.1 hD).1
  clear hD hO hrb hX
  by_cases hlt : k < ll
  ·have hltz : (k : Int) < (ll : Int) := by omega
   have hkz : (0 : Int) ≤ (k : Int) := by omega
   have hkL : k < L.length := by rw [HLL.out]; exact hlt
   rw [HLL.out] at hprs
   obtain ⟨g6, o6, c6, he6, hg6, hg6s, hc6⟩ := hprs.shape (by omega)
   simp only [Value.slice.injEq] at he6
   obtain ⟨rfl, _, rfl⟩ := he6
   have p0 := (hprs.cell (k * 2) (by omega)).trans (prN_at L k hkL).1
   have p1 := (hprs.cell (k * 2 + 1) (by omega)).trans (prN_at L k hkL).2
   have HPK := Lib.hid (HPM.out L[k]! (by rw [getElem!_pos L k hkL]; exact List.getElem_mem _))
   have HSN : Hid (invP N (L.take (k + 1)) = putM (invP N (L.take k)) L[k]!.2 L[k]!.1) := Lib.hid (by
    have e : L.take (k + 1) = L.take k ++ [L[k]!] := by rw [List.take_succ_eq_append_getElem hkL, getElem!_pos L k hkL]
    rw [e, invP_snoc]; rfl)
   have hq := HPK.out
   rw [← Nat.add_assoc] at p1
   generalize L[k]!.1 = X at *
   generalize L[k]!.2 = Y at *
   have HPC := Lib.hid (fun W (hO : OwnRel W w3.heap.size (.slice ra N rc) N (invP N (L.take k)) vw) (hs : w3.heap.size ≤ W.heap.size) => put_calls (.slice ra N rc) N (invP N (L.take k)) vw Y X w3.heap.size W hO (by rw [invP_len]; omega) (by omega) ((HBT.out k).u64 (by omega) Y) hs)
   clear hprs r0 fr0 hkL
   go_wp2_with fail
   refine (HPC.out _ (HO.out.ext ((Ext.rf _).al _)) (Nat.le_trans hsz ((Ext.rf wr).al _).sz)).mono ?_
   rintro e w9 ⟨rfl, hO9, hB9, hK9⟩
   have HI9 : Hid (InvI w w9 D w3.heap.size N (invP N (L.take (k + 1))) (.slice (some ⟨g6, o6, none⟩) ll pc) L w5.heap.size) := Lib.hid (by
    rw [HSN.out]
    refine ⟨⟨_, vw, hK9 _ _ _ _ (by decide) (((Ext.rf wr).al _).hp HD.out), hO9⟩, hK9 _ _ _ _ (by decide) (((Ext.rf wr).al _).hp HRB.out), (HPR.out.ext ((Ext.rf wr).al _)).keepU hK9 (by decide), ?_, Nat.le_trans (Nat.le_trans hsz ((Ext.rf wr).al _).sz) hB9.size⟩
    exact Below.trans (HX.out.al _) (hB9.mono (by have := HDS.out.1; omega)))
   clear hO9 hB9 hK9 s0 p0 p1
   go_wp2
   go_roundg (ll - (k + 1))
   case measure => omega
   case rel => exact ⟨k + 1, by omega, by omega, by go_num, (show InvI _ _ _ _ _ _ _ _ _ from HI9.out)⟩
  ·have hltz : ¬ (k : Int) < (ll : Int) := by omega
   obtain rfl : ll = k := by omega
   clear hprs
   go_wp2
   have z0 := cellOf (heap_setCell_same (o := 0) (u := .slice ra N rc) HRB.out) 0
   simp only [Array.setIfInBounds, List.size_toArray, List.length_cons, List.length_nil, Nat.zero_lt_succ] at z0
   refine bodyPost_ret (v := .tuple #[.agg #[.slice ra N rc], .int .i64 0]) (by simp [results, Tryz.results56, go_sem, z0]) rfl ?_
   have hO := HO.out
   have hB := HBT.out ll
   rw [show L.take ll = L from by rw [← HLL.out]; exact List.take_length] at hO hB
   rw [← HINV.out] at hO hB
   exact ⟨_, rfl, ⟨_, (hO.mono (by have := HDS.out.1; omega)).stO HRB.out (by decide) (by decide) _⟩, hB, HX.out.st (by show w.heap.size ≤ w.heap.size + 1; omega) _⟩
end Go.Proofs.YtbpdbikphlhaiaaGreatDoor
namespace Go.Proofs.YtbpdbikphlhaiaaGreatDoor
open Go.RowKit
set_option linter.unusedVariables false
theorem and_i64_low {z : Nat} (hz : z < 2 ^ 64) : bits .and .i64 (wrap64 (z : Int)) 127 = ((z % 128 : Nat) : Int) := by
 show IntKind.i64.wrap (((BitVec.ofInt 64 (wrap64 (z : Int))) &&& (BitVec.ofInt 64 127)).toNat : Int) = _
 have e1 : (BitVec.ofInt 64 (wrap64 (z : Int))).toNat = z := by
  rw [BitVec.toNat_ofInt]
  unfold wrap64
  omega
 have e2 : (BitVec.ofInt 64 127).toNat = 2 ^ 7 - 1 := by decide
 rw [BitVec.toNat_and, e1, e2, Nat.and_two_pow_sub_one_eq_mod]
 have h9 := Nat.mod_lt z (show 0 < 2 ^ 7 by decide)
 generalize z % 2 ^ 7 = r at *
 exact IntWalk.i64_in _ (by omega)
set_option maxHeartbeats 2000000 in
theorem ones_calls (x : Nat) (w : World) (hx : x < 2 ^ 64) :
  Calls Tryz.prog 119 #[.int .u64 x] w fun e w' => e = .returned (.int .i64 ((digD 64 x).sum : Nat)) ∧ w' = w := by
 have m1 : maskD 1 32 = 6148914691236517205 := by decide +kernel
 have m2 : maskD 2 16 = 3689348814741910323 := by decide +kernel
 have m3 : maskD 4 8 = 1085102592571150095 := by decide +kernel
 obtain ⟨A1, hA1⟩ : ∃ a, x >>> 1 &&& maskD 1 32 = a := ⟨_, rfl⟩
 obtain ⟨A2, hA2⟩ : ∃ a, x &&& maskD 1 32 = a := ⟨_, rfl⟩
 obtain ⟨y1, hy1⟩ : ∃ a, A1 + A2 = a := ⟨_, rfl⟩
 obtain ⟨B1, hB1⟩ : ∃ a, y1 >>> 2 &&& maskD 2 16 = a := ⟨_, rfl⟩
 obtain ⟨B2, hB2⟩ : ∃ a, y1 &&& maskD 2 16 = a := ⟨_, rfl⟩
 obtain ⟨y2, hy2⟩ : ∃ a, B1 + B2 = a := ⟨_, rfl⟩
 obtain ⟨c, hc⟩ : ∃ a, y2 >>> 4 + y2 = a := ⟨_, rfl⟩
 obtain ⟨y3, hy3⟩ : ∃ a, c &&& maskD 4 8 = a := ⟨_, rfl⟩
 obtain ⟨X, hX⟩ : ∃ a, y3 + y3 >>> 8 = a := ⟨_, rfl⟩
 obtain ⟨Y, hY⟩ : ∃ a, X + X >>> 16 = a := ⟨_, rfl⟩
 obtain ⟨Z, hZ⟩ : ∃ a, Y + Y >>> 32 = a := ⟨_, rfl⟩
 obtain ⟨hs, l1, l2, lc, l3, lX, lY, lZ⟩ := ones_count hx (by rw [hA1, hA2, hy1]) (by rw [hB1, hB2, hy2]) (by rw [hc, hy3]) (by rw [hX]) (by rw [hY]) (by rw [hZ])
 rw [hc] at lc
 rw [m1] at hA1 hA2
 rw [m2] at hB1 hB2
 rw [m3] at hy3
 rw [Nat.shiftRight_eq_div_pow] at hA1 hB1 hc hX hY hZ
 have g1 : bits .and .u64 ((x : Int) / 2) 6148914691236517205 = (A1 : Int) := by
  rw [show (x : Int) / 2 = ((x / 2 ^ 1 : Nat) : Int) by omega, show (6148914691236517205 : Int) = ((6148914691236517205 : Nat) : Int) by rfl, bits_and_nat (by omega) (by decide), hA1]
 have g2 : bits .and .u64 (x : Int) 6148914691236517205 = (A2 : Int) := by
  rw [show (6148914691236517205 : Int) = ((6148914691236517205 : Nat) : Int) by rfl, bits_and_nat hx (by decide), hA2]
 have g3 : IntKind.u64.wrap ((A1 : Int) + (A2 : Int)) = (y1 : Int) := by rw [show (A1 : Int) + (A2 : Int) = (y1 : Int) by omega]; exact u64_wrap_nat l1
 have g4 : bits .and .u64 ((y1 : Int) / 4) 3689348814741910323 = (B1 : Int) := by
  rw [show (y1 : Int) / 4 = ((y1 / 2 ^ 2 : Nat) : Int) by omega, show (3689348814741910323 : Int) = ((3689348814741910323 : Nat) : Int) by rfl, bits_and_nat (by omega) (by decide), hB1]
 have g5 : bits .and .u64 (y1 : Int) 3689348814741910323 = (B2 : Int) := by
  rw [show (3689348814741910323 : Int) = ((3689348814741910323 : Nat) : Int) by rfl, bits_and_nat l1 (by decide), hB2]
 have g6 : IntKind.u64.wrap ((B1 : Int) + (B2 : Int)) = (y2 : Int) := by rw [show (B1 : Int) + (B2 : Int) = (y2 : Int) by omega]; exact u64_wrap_nat l2
 have g7 : IntKind.u64.wrap ((y2 : Int) / 16 + (y2 : Int)) = (c : Int) := by rw [show (y2 : Int) / 16 + (y2 : Int) = (c : Int) by omega]; exact u64_wrap_nat lc
 have g8 : bits .and .u64 (c : Int) 1085102592571150095 = (y3 : Int) := by
  rw [show (1085102592571150095 : Int) = ((1085102592571150095 : Nat) : Int) by rfl, bits_and_nat lc (by decide), hy3]
 have g9 : IntKind.u64.wrap ((y3 : Int) + (y3 : Int) / 256) = (X : Int) := by rw [show (y3 : Int) + (y3 : Int) / 256 = (X : Int) by omega]; exact u64_wrap_nat lX
 have g10 : IntKind.u64.wrap ((X : Int) + (X : Int) / 65536) = (Y : Int) := by rw [show (X : Int) + (X : Int) / 65536 = (Y : Int) by omega]; exact u64_wrap_nat lY
 have g11 : IntKind.u64.wrap ((Y : Int) + (Y : Int) / 4294967296) = (Z : Int) := by rw [show (Y : Int) + (Y : Int) / 4294967296 = (Z : Int) by omega]; exact u64_wrap_nat lZ
 have g12 := and_i64_low lZ
 rw [hs] at g12
 generalize (digD 64 x).sum = S at *
 clear hs l1 l2 lc l3 lX lY lZ m1 m2 m3 hA1 hA2 hy1 hB1 hB2 hy2 hc hy3 hX hY hZ hx
 go_enter Tryz.func119, Tryz.ntmps119
 go_wp2
 go_ret
 exact ⟨rfl, rfl⟩
end Go.Proofs.YtbpdbikphlhaiaaGreatDoor
namespace Go.Proofs.YtbpdbikphlhaiaaGreatDoor
open Go.RowKit
set_option linter.unusedVariables false
theorem run_copy_rows {P : Program} (w : World) (dT sT ty elem : TypeId) (size g o n dCap : Nat) (a : Addr) (sCap : Nat) (cur : Array Value) (t : TypeId) (cs : List Value)
  (hu : P.underlying dT = some (.slice elem)) (hs : (P.info? elem).map (·.size) = some size)
  (hg : w.heap[g]? = some (.cells cur t (0, 0))) (hn : cs.length = n * size)
  (hsrc : ∀ j v, cs[j]? = some v → w.cell? (a.add j) = some v) (hfit : o + cs.length ≤ cur.size) (h1 : ∀ v ∈ cs, v.oneCell' = true) :
  (Builtin.copy_ #[dT, sT] ty #[.slice (some ⟨g, o, none⟩) n dCap, .slice (some a) n sCap]).run P w =
   .ok (goInt n) (w.setRow g (cur.toList.take o ++ cs ++ cur.toList.drop (o + cs.length)).toArray) := by
 have hl := run_loadCells_list (P := P) w a cs hsrc
 have hst := run_storeCells_at P g o t cs 0 cur w hg (by simpa using hfit) h1
 cases hq : P.info? elem with
 | none => simp [hq] at hs
 | some i =>
   have hi : i.size = size := by simpa [hq] using hs
   simp [Builtin.copy_, run_underlying hu, Builtin.lenOf, Builtin.firstCells, sizeOf, typeInfo, hq, hi, ← hn, hl, hst]
theorem run_copy_none' {P : Program} (w : World) (dT sT ty elem : TypeId) (size : Nat) (d a : Option Addr) (dCap sCap : Nat) (hu : P.underlying dT = some (.slice elem)) (hs : (P.info? elem).map (·.size) = some size) :
  (Builtin.copy_ #[dT, sT] ty #[.slice d 0 dCap, .slice a 0 sCap]).run P w = .ok (goInt 0) w := by
 cases hq : P.info? elem with
 | none => simp [hq] at hs
 | some i =>
   have hl : ∀ (x : Addr), (loadCells x 0).run P w = .ok #[] w := fun x => by simpa using run_loadCells_list (P := P) w x [] (by simp)
   cases d <;> cases a <;> simp [Builtin.copy_, run_underlying hu, Builtin.lenOf, Builtin.firstCells, sizeOf, typeInfo, hq, storeCells, hl]
theorem wpList_copy_all {P : Program} {w : World} {ops : Array Oper} {rest : List Oper} {o : Oper} {a : Act} {Q : Exit → Act → World → Prop} (hgd : o.guard = none) (d s : Operand) (dT sT : TypeId)
  (ho : o.op = .call { callee := .builtin .copy, args := #[d, s], argTypes := #[dT, sT] }) (elem : TypeId) (size : Nat) (hu : P.underlying dT = some (.slice elem)) (hsz : (P.info? elem).map (·.size) = some size)
  (base n : Nat) (v u : Value) (xs cs : List Value) (hd : a.eval d = v) (hown : Row w base elem size v n xs) (hs : a.eval s = u) (hsrc : CellsAt w u size n cs) (h1 : ∀ x ∈ cs, x.oneCell' = true)
  (h : ∀ w', Row w' base elem size v n cs → w.grownBy w' v.ownBlock → wpList P ops Q rest (a.put o.dst (goInt n)) w') : wpList P ops Q (o :: rest) a w := by
 refine wpList_plain hgd fun K hK => ?_
 obtain ⟨hl, sa, sc, rfl, hsc, hcells⟩ := hsrc
 rcases Nat.eq_zero_or_pos n with rfl | hn
 ·obtain ⟨da, dc, rfl⟩ := hown.nil_of rfl
  have hrun := run_copy_none' (P := P) w dT sT o.type elem size da sa dc sc hu hsz
  have hcs : cs = [] := List.eq_nil_of_length_eq_zero (by rw [hl]; simp)
  have hxs : xs = [] := List.eq_nil_of_length_eq_zero (by rw [hown.1]; simp)
  unfold Oper.wp
  simp [execOp, ho, resolve, invoke, builtin, hd, hs, hrun, Result.andThen]
  exact hK _ _ (h w (by rw [hcs]; rw [hxs] at hown; exact hown) (World.grownBy.refl w _))
 ·rcases hown.2 with ⟨_, h0⟩ | ⟨g, off, cap, cur, rfl, hb, hg, hnc, hcm, hfit, hx⟩
  ·omega
  ·obtain ⟨b, so, rfl, hbs, hc⟩ := hcells hn
   have hmul : n * size ≤ cap * size := Nat.mul_le_mul_right _ hnc
   have hrun := run_copy_rows (P := P) w dT sT o.type elem size g off n cap ⟨b, so, none⟩ sc cur elem cs hu hsz hg hl (fun j x hj => by
    have hjl : j < n * size := by have := (List.getElem?_eq_some_iff.1 hj).1; omega
    rw [Addr.add_lit, hc j hjl]; exact hj) (by omega) h1
   unfold Oper.wp
   simp [execOp, ho, resolve, invoke, builtin, hd, hs, hrun, Result.andThen]
   have hcl : cur.toList.length = cur.size := Array.length_toList
   refine hK _ _ (by
    have := h (w.setRow g (cur.toList.take off ++ cs ++ cur.toList.drop (off + cs.length)).toArray) ?_ ?_
    ·simpa using this
    ·refine ⟨hl, .inr ⟨g, off, cap, _, rfl, hb, setRow_heap w g cur _ elem _ hg, hnc, hcm, ?_, ?_⟩⟩
     ·simp; omega
     ·rw [List.append_assoc, List.drop_left' (by rw [List.length_take]; omega), List.take_left' hl]
    ·refine ⟨rfl, rfl, rfl, by simp [World.setRow], fun k hk hne => setRow_other w g k _ (fun e => hne (by rw [e]; rfl))⟩)
end Go.Proofs.YtbpdbikphlhaiaaGreatDoor
namespace Go.Proofs.YtbpdbikphlhaiaaGreatDoor
open Go.RowKit
set_option linter.unusedVariables false
attribute [local go_sem ↓] Go.wp_at_zero Go.wp_at_succ
theorem info_u64s : (Tryz.prog.info? 78).map (·.size) = some 1 := by kernel_rfl
theorem word_cells {w : World} {b o c s : Nat} (h : w.cell? ⟨b, o, none⟩ = some (.int .u64 (s : Int))) (hc : 1 ≤ c) : CellsAt w (.slice (some ⟨b, o, none⟩) 1 c) 1 1 [.int .u64 (s : Int)] :=
 ⟨rfl, _, _, rfl, hc, fun _ => ⟨b, o, rfl, World.block_lt_of_cell? w _ h, fun j hj => by
  obtain rfl : j = 0 := by omega
  exact h⟩⟩
set_option maxHeartbeats 4000000 in
set_option maxRecDepth 100000 in
theorem copied_calls (N b o c s : Nat) (w : World) (h : w.cell? ⟨b, o, none⟩ = some (.int .u64 (s : Int))) (hc : 1 ≤ c) :
  Calls Tryz.prog 112 #[.agg #[.int .i64 (N : Int), .slice (some ⟨b, o, none⟩) 1 c]] w fun e w' => ∃ u, e = .returned (.agg #[.int .i64 (N : Int), u]) ∧ Row w' w.heap.size 78 1 u 1 [.int .u64 (s : Int)] ∧ Ext w w' := by
 have HMK := mk_words
 have HCELL := Lib.hid h
 have hbw := World.block_lt_of_cell? w _ h
 clear h
 go_enter Tryz.func112, Tryz.ntmps112
 go_wp2
 go_region
 ·have hcell := HCELL.out
  clear HMK
  have HR0 : Hid (Row ((((w.alloc (.cells #[.int .i64 (N : Int), .slice (some ⟨b, o, none⟩) 1 c] 42)).alloc (.cells #[.int .i64 0, .slice none 0 0] 42)).alloc (.cells #[.int .u64 0] 78)).alloc (.cells #[.int .i64 (N : Int), .slice (some ⟨w.heap.size + 1 + 1, 0, none⟩) 1 1] 42)) w.heap.size 78 1 (.slice (some ⟨w.heap.size + 1 + 1, 0, none⟩) 1 1) 1 [.int .u64 (0 : Nat)]) := Lib.hid (word_row (m := 0) (by first | exact heap_new_eq (by simp) | exact ((Ext.rf _).al _).hp (heap_new_eq (by simp))) (by omega))
  have HSB : Hid (((((w.alloc (.cells #[.int .i64 (N : Int), .slice (some ⟨b, o, none⟩) 1 c] 42)).alloc (.cells #[.int .i64 0, .slice none 0 0] 42)).alloc (.cells #[.int .u64 0] 78)).alloc (.cells #[.int .i64 (N : Int), .slice (some ⟨w.heap.size + 1 + 1, 0, none⟩) 1 1] 42)).heap[w.heap.size + 1 + 1 + 1]? = some (.cells #[.int .i64 (N : Int), .slice (some ⟨w.heap.size + 1 + 1, 0, none⟩) 1 1] 42)) := Lib.hid (by first | exact heap_new_eq (by simp) | exact ((Ext.rf _).al _).hp (heap_new_eq (by simp)))
  have HRB : Hid (((((w.alloc (.cells #[.int .i64 (N : Int), .slice (some ⟨b, o, none⟩) 1 c] 42)).alloc (.cells #[.int .i64 0, .slice none 0 0] 42)).alloc (.cells #[.int .u64 0] 78)).alloc (.cells #[.int .i64 (N : Int), .slice (some ⟨w.heap.size + 1 + 1, 0, none⟩) 1 1] 42)).heap[w.heap.size + 1]? = some (.cells #[.int .i64 0, .slice none 0 0] 42)) := Lib.hid ((((Ext.rf _).al _).al _).hp (heap_new_eq (by simp)))
  have HAB : Hid (((((w.alloc (.cells #[.int .i64 (N : Int), .slice (some ⟨b, o, none⟩) 1 c] 42)).alloc (.cells #[.int .i64 0, .slice none 0 0] 42)).alloc (.cells #[.int .u64 0] 78)).alloc (.cells #[.int .i64 (N : Int), .slice (some ⟨w.heap.size + 1 + 1, 0, none⟩) 1 1] 42)).heap[w.heap.size]? = some (.cells #[.int .i64 (N : Int), .slice (some ⟨b, o, none⟩) 1 c] 42)) := Lib.hid ((((Ext.rf _).al _).al _).hp (((Ext.rf _).al _).hp (heap_alloc_new w _)))
  have HX : Hid (Ext w ((((w.alloc (.cells #[.int .i64 (N : Int), .slice (some ⟨b, o, none⟩) 1 c] 42)).alloc (.cells #[.int .i64 0, .slice none 0 0] 42)).alloc (.cells #[.int .u64 0] 78)).alloc (.cells #[.int .i64 (N : Int), .slice (some ⟨w.heap.size + 1 + 1, 0, none⟩) 1 1] 42))) := Lib.hid (by repeat (first | refine Ext.st ?_ (by first | exact Nat.le_refl _ | exact Nat.le_succ _ | assumption | omega) _ | refine Ext.al ?_ _ | refine Ext.dr ?_ | refine Ext.drN ?_ _ | exact Ext.rf _))
  generalize ((((w.alloc (.cells #[.int .i64 (N : Int), .slice (some ⟨b, o, none⟩) 1 c] 42)).alloc (.cells #[.int .i64 0, .slice none 0 0] 42)).alloc (.cells #[.int .u64 0] 78)).alloc (.cells #[.int .i64 (N : Int), .slice (some ⟨w.heap.size + 1 + 1, 0, none⟩) 1 1] 42)) = w3 at *
  have HR := Lib.hid (HR0.out.ext (Ext.rf w3).dr)
  have HSB := Lib.hid ((Ext.rf w3).dr.hp HSB.out)
  have HRB := Lib.hid ((Ext.rf w3).dr.hp HRB.out)
  have HAB := Lib.hid ((Ext.rf w3).dr.hp HAB.out)
  have HX := Lib.hid (HX.out.dr)
  clear HR0
  generalize w3.drew = w4 at *
  have a1 := cellOf HAB.out 1
  have s1 := cellOf HSB.out 1
  simp only [List.getElem?_toArray, List.getElem?_cons_zero, List.getElem?_cons_succ] at a1 s1
  go_wp2_with ((refine wpList_copy_all rfl _ _ 40 40 rfl 78 1 Tryz.underlying40 info_u64s w.heap.size 1 (.slice (some ⟨w.heap.size + 1 + 1, 0, none⟩) 1 1) (.slice (some ⟨b, o, none⟩) 1 c) _ [.int .u64 (s : Int)] rfl HR.out rfl (word_cells (HX.out.cl hcell) hc) (by simp [Value.oneCell']) ?_; intro w8 hown8 hgrow8; have HOWN := Lib.hid hown8; have HSB8 := Lib.hid (grownKeep hgrow8 (by first | (simp [Value.ownBlock]; done) | (simp [Value.ownBlock]; omega)) HSB.out); have HRB8 := Lib.hid (grownKeep hgrow8 (by first | (simp [Value.ownBlock]; done) | (simp [Value.ownBlock]; omega)) HRB.out); have HX8 := Lib.hid (HX.out.gr hgrow8 (fun q hq => (HR.out.lt q hq).1)); have s0 := cellOf HSB8.out 0; have s1 := cellOf HSB8.out 1; have r0 := cellOf HRB8.out 0; have r1 := cellOf HRB8.out 1; have f0 := freeOf HRB8.out 0; have f1 := freeOf HRB8.out 1; simp only [List.getElem?_toArray, List.getElem?_cons_zero, List.getElem?_cons_succ] at s0 s1 r0 r1; clear hown8 hgrow8))
  have e1 := heap_setCell_same (o := 1) (u := .slice (some ⟨w.heap.size + 1 + 1, 0, none⟩) 1 1) (heap_setCell_same (o := 0) (u := .int .i64 (N : Int)) HRB8.out)
  have z0 := cellOf e1 0
  have z1 := cellOf e1 1
  simp only [Array.setIfInBounds, List.size_toArray, List.length_cons, List.length_nil, Nat.zero_lt_succ] at z0 z1
  refine bodyPost_ret (v := .agg #[.int .i64 (N : Int), .slice (some ⟨w.heap.size + 1 + 1, 0, none⟩) 1 1]) (by simp [results, Tryz.results112, go_sem, z0, z1]) rfl ⟨_, rfl, ?_, ?_⟩
  ·refine (HOWN.out.st (p := ⟨w.heap.size + 1, 0, none⟩) (by first | (simp [Value.ownBlock]; done) | (simp [Value.ownBlock]; omega)) _).st (p := ⟨w.heap.size + 1, 1, none⟩) (by first | (simp [Value.ownBlock]; done) | (simp [Value.ownBlock]; omega)) _
  ·exact (HX8.out.st (by show w.heap.size ≤ w.heap.size + 1; omega) _).st (by show w.heap.size ≤ w.heap.size + 1; omega) _
 ·have hcell := HCELL.out
  clear HMK
  have HR0 : Hid (Row ((((w.alloc (.cells #[.int .i64 (N : Int), .slice (some ⟨b, o, none⟩) 1 c] 42)).alloc (.cells #[.int .i64 0, .slice none 0 0] 42)).alloc (.cells #[.int .i64 (N : Int), .slice (some ⟨w.heap.size + 1 + 1 + 1, 0, none⟩) 1 1] 42)).alloc (.cells #[.int .u64 0] 78)) w.heap.size 78 1 (.slice (some ⟨w.heap.size + 1 + 1 + 1, 0, none⟩) 1 1) 1 [.int .u64 (0 : Nat)]) := Lib.hid (word_row (m := 0) (by first | exact heap_new_eq (by simp) | exact ((Ext.rf _).al _).hp (heap_new_eq (by simp))) (by omega))
  have HSB : Hid (((((w.alloc (.cells #[.int .i64 (N : Int), .slice (some ⟨b, o, none⟩) 1 c] 42)).alloc (.cells #[.int .i64 0, .slice none 0 0] 42)).alloc (.cells #[.int .i64 (N : Int), .slice (some ⟨w.heap.size + 1 + 1 + 1, 0, none⟩) 1 1] 42)).alloc (.cells #[.int .u64 0] 78)).heap[w.heap.size + 1 + 1]? = some (.cells #[.int .i64 (N : Int), .slice (some ⟨w.heap.size + 1 + 1 + 1, 0, none⟩) 1 1] 42)) := Lib.hid (by first | exact heap_new_eq (by simp) | exact ((Ext.rf _).al _).hp (heap_new_eq (by simp)))
  have HRB : Hid (((((w.alloc (.cells #[.int .i64 (N : Int), .slice (some ⟨b, o, none⟩) 1 c] 42)).alloc (.cells #[.int .i64 0, .slice none 0 0] 42)).alloc (.cells #[.int .i64 (N : Int), .slice (some ⟨w.heap.size + 1 + 1 + 1, 0, none⟩) 1 1] 42)).alloc (.cells #[.int .u64 0] 78)).heap[w.heap.size + 1]? = some (.cells #[.int .i64 0, .slice none 0 0] 42)) := Lib.hid ((((Ext.rf _).al _).al _).hp (heap_new_eq (by simp)))
  have HAB : Hid (((((w.alloc (.cells #[.int .i64 (N : Int), .slice (some ⟨b, o, none⟩) 1 c] 42)).alloc (.cells #[.int .i64 0, .slice none 0 0] 42)).alloc (.cells #[.int .i64 (N : Int), .slice (some ⟨w.heap.size + 1 + 1 + 1, 0, none⟩) 1 1] 42)).alloc (.cells #[.int .u64 0] 78)).heap[w.heap.size]? = some (.cells #[.int .i64 (N : Int), .slice (some ⟨b, o, none⟩) 1 c] 42)) := Lib.hid ((((Ext.rf _).al _).al _).hp (((Ext.rf _).al _).hp (heap_alloc_new w _)))
  have HX : Hid (Ext w ((((w.alloc (.cells #[.int .i64 (N : Int), .slice (some ⟨b, o, none⟩) 1 c] 42)).alloc (.cells #[.int .i64 0, .slice none 0 0] 42)).alloc (.cells #[.int .i64 (N : Int), .slice (some ⟨w.heap.size + 1 + 1 + 1, 0, none⟩) 1 1] 42)).alloc (.cells #[.int .u64 0] 78))) := Lib.hid (by repeat (first | refine Ext.st ?_ (by first | exact Nat.le_refl _ | exact Nat.le_succ _ | assumption | omega) _ | refine Ext.al ?_ _ | refine Ext.dr ?_ | refine Ext.drN ?_ _ | exact Ext.rf _))
  generalize ((((w.alloc (.cells #[.int .i64 (N : Int), .slice (some ⟨b, o, none⟩) 1 c] 42)).alloc (.cells #[.int .i64 0, .slice none 0 0] 42)).alloc (.cells #[.int .i64 (N : Int), .slice (some ⟨w.heap.size + 1 + 1 + 1, 0, none⟩) 1 1] 42)).alloc (.cells #[.int .u64 0] 78)) = w3 at *
  have HR := Lib.hid (HR0.out.ext (Ext.rf w3).dr)
  have HSB := Lib.hid ((Ext.rf w3).dr.hp HSB.out)
  have HRB := Lib.hid ((Ext.rf w3).dr.hp HRB.out)
  have HAB := Lib.hid ((Ext.rf w3).dr.hp HAB.out)
  have HX := Lib.hid (HX.out.dr)
  clear HR0
  generalize w3.drew = w4 at *
  have a1 := cellOf HAB.out 1
  have s1 := cellOf HSB.out 1
  simp only [List.getElem?_toArray, List.getElem?_cons_zero, List.getElem?_cons_succ] at a1 s1
  go_wp2_with ((refine wpList_copy_all rfl _ _ 40 40 rfl 78 1 Tryz.underlying40 info_u64s w.heap.size 1 (.slice (some ⟨w.heap.size + 1 + 1 + 1, 0, none⟩) 1 1) (.slice (some ⟨b, o, none⟩) 1 c) _ [.int .u64 (s : Int)] rfl HR.out rfl (word_cells (HX.out.cl hcell) hc) (by simp [Value.oneCell']) ?_; intro w8 hown8 hgrow8; have HOWN := Lib.hid hown8; have HSB8 := Lib.hid (grownKeep hgrow8 (by first | (simp [Value.ownBlock]; done) | (simp [Value.ownBlock]; omega)) HSB.out); have HRB8 := Lib.hid (grownKeep hgrow8 (by first | (simp [Value.ownBlock]; done) | (simp [Value.ownBlock]; omega)) HRB.out); have HX8 := Lib.hid (HX.out.gr hgrow8 (fun q hq => (HR.out.lt q hq).1)); have s0 := cellOf HSB8.out 0; have s1 := cellOf HSB8.out 1; have r0 := cellOf HRB8.out 0; have r1 := cellOf HRB8.out 1; have f0 := freeOf HRB8.out 0; have f1 := freeOf HRB8.out 1; simp only [List.getElem?_toArray, List.getElem?_cons_zero, List.getElem?_cons_succ] at s0 s1 r0 r1; clear hown8 hgrow8))
  have e1 := heap_setCell_same (o := 1) (u := .slice (some ⟨w.heap.size + 1 + 1 + 1, 0, none⟩) 1 1) (heap_setCell_same (o := 0) (u := .int .i64 (N : Int)) HRB8.out)
  have z0 := cellOf e1 0
  have z1 := cellOf e1 1
  simp only [Array.setIfInBounds, List.size_toArray, List.length_cons, List.length_nil, Nat.zero_lt_succ] at z0 z1
  refine bodyPost_ret (v := .agg #[.int .i64 (N : Int), .slice (some ⟨w.heap.size + 1 + 1 + 1, 0, none⟩) 1 1]) (by simp [results, Tryz.results112, go_sem, z0, z1]) rfl ⟨_, rfl, ?_, ?_⟩
  ·refine (HOWN.out.st (p := ⟨w.heap.size + 1, 0, none⟩) (by first | (simp [Value.ownBlock]; done) | (simp [Value.ownBlock]; omega)) _).st (p := ⟨w.heap.size + 1, 1, none⟩) (by first | (simp [Value.ownBlock]; done) | (simp [Value.ownBlock]; omega)) _
  ·exact (HX8.out.st (by show w.heap.size ≤ w.heap.size + 1; omega) _).st (by show w.heap.size ≤ w.heap.size + 1; omega) _
def FnW (g : Nat) (F : Nat → Nat → Nat) : Prop := ∀ (a b : Nat) (W : World), a < 2 ^ 64 → b < 2 ^ 64 → Calls Tryz.prog g #[.int .u64 (a : Int), .int .u64 (b : Int)] W fun e w' => e = .returned (.int .u64 (F a b : Int)) ∧ w' = W
def orW (a b : Nat) : Nat := a ||| b
theorem union1_calls : FnW 95 orW := fun a b W ha hb => by
 have g : bits .or .u64 (a : Int) (b : Int) = ((orW a b : Nat) : Int) := bits_or_nat ha hb
 generalize orW a b = c at *
 go_enter Tryz.func95, Tryz.ntmps95
 go_wp2
 go_ret
 exact ⟨rfl, rfl⟩
theorem minus1_calls : FnW 118 minW := fun a b W ha hb => by
 have g := bits_andnot_nat ha hb
 generalize minW a b = c at *
 go_enter Tryz.func118, Tryz.ntmps118
 go_wp2
 go_ret
 exact ⟨rfl, rfl⟩
theorem enters_95 : ∀ args w, (callFunc 95 args).run Tryz.prog w = .ok (.enter 95 args) w := enters_of Tryz.func95 (by kernel_rfl) rfl
theorem enters_118 : ∀ args w, (callFunc 118 args).run Tryz.prog w = .ok (.enter 118 args) w := enters_of Tryz.func118 (by kernel_rfl) rfl
set_option maxHeartbeats 4000000 in
set_option maxRecDepth 100000 in
theorem bmatching_calls (N b o c s b2 o2 c2 s2 : Nat) (w : World) (h : w.cell? ⟨b, o, none⟩ = some (.int .u64 (s : Int))) (h2 : w.cell? ⟨b2, o2, none⟩ = some (.int .u64 (s2 : Int))) (hN : 1 ≤ N) (hN2 : N ≤ 63) (hs : s < 2 ^ N) (hs2 : s2 < 2 ^ N) :
  Calls Tryz.prog 111 #[.agg #[.int .i64 (N : Int), .slice (some ⟨b, o, none⟩) 1 c], .agg #[.int .i64 (N : Int), .slice (some ⟨b2, o2, none⟩) 1 c2]] w fun e w' => e = .returned (.bool true) ∧ Ext w w' := by
 have HV1 := Lib.hid (fun W (hW : Ext w W) => bvalid_calls N b o c s W (hW.cl h) hN hN2 hs)
 have HV2 := Lib.hid (fun W (hW : Ext w W) => bvalid_calls N b2 o2 c2 s2 W (hW.cl h2) hN hN2 hs2)
 have HX0 := Lib.hid (((Ext.rf _).al (.cells #[.int .i64 (N : Int), .slice (some ⟨b2, o2, none⟩) 1 c2] 42)).hp (heap_alloc_new w (.cells #[.int .i64 (N : Int), .slice (some ⟨b, o, none⟩) 1 c] 42)))
 have HX1 := Lib.hid (heap_new_eq (w := w.alloc (.cells #[.int .i64 (N : Int), .slice (some ⟨b, o, none⟩) 1 c] 42)) (o := .cells #[.int .i64 (N : Int), .slice (some ⟨b2, o2, none⟩) 1 c2] 42) (b := w.heap.size + 1) (by simp))
 have HE2 := Lib.hid (((Ext.rf w).al (.cells #[.int .i64 (N : Int), .slice (some ⟨b, o, none⟩) 1 c] 42)).al (.cells #[.int .i64 (N : Int), .slice (some ⟨b2, o2, none⟩) 1 c2] 42))
 clear h h2 hs hs2
 go_enter Tryz.func111, Tryz.ntmps111
 go_upto_region 1 with (fail)
 generalize (w.alloc (.cells #[.int .i64 (N : Int), .slice (some ⟨b, o, none⟩) 1 c] 42)).alloc (.cells #[.int .i64 (N : Int), .slice (some ⟨b2, o2, none⟩) 1 c2] 42) = w2 at *
 have a0 := cellOf HX0.out 0
 have a1 := cellOf HX0.out 1
 have c0 := cellOf HX1.out 0
 have c1 := cellOf HX1.out 1
 simp only [List.getElem?_toArray, List.getElem?_cons_zero, List.getElem?_cons_succ] at a0 a1 c0 c1
 go_wp2_with fail
 refine (HV1.out _ HE2.out).mono ?_
 rintro e w3 ⟨rfl, hX3⟩
 have HE3 := Lib.hid (HE2.out.trans' hX3)
 have a0 := hX3.cl a0
 have c0 := hX3.cl c0
 have c1 := hX3.cl c1
 clear hX3
 go_wp2_with fail
 refine (HV2.out _ HE3.out).mono ?_
 rintro e w4 ⟨rfl, hX4⟩
 have HE4 := Lib.hid (HE3.out.trans' hX4)
 have a0 := hX4.cl a0
 have c0 := hX4.cl c0
 clear hX4
 go_wp2
 go_ret
 exact ⟨rfl, HE4.out⟩
set_option maxHeartbeats 4000000 in
set_option maxRecDepth 100000 in
theorem combined_calls (g : Nat) (F : Nat → Nat → Nat) (eg : ∀ args w, (callFunc g args).run Tryz.prog w = .ok (.enter g args) w) (hF : FnW g F) (N b o c s b2 o2 c2 s2 : Nat) (w : World) (h : w.cell? ⟨b, o, none⟩ = some (.int .u64 (s : Int))) (h2 : w.cell? ⟨b2, o2, none⟩ = some (.int .u64 (s2 : Int))) (hc : 1 ≤ c) (hc2 : 1 ≤ c2) (hN : 1 ≤ N) (hN2 : N ≤ 63) (hs : s < 2 ^ N) (hs2 : s2 < 2 ^ N) :
  Calls Tryz.prog 94 #[.agg #[.int .i64 (N : Int), .slice (some ⟨b, o, none⟩) 1 c], .agg #[.int .i64 (N : Int), .slice (some ⟨b2, o2, none⟩) 1 c2], .func (.func g) #[] #[]] w fun e w' => ∃ u, e = .returned (.tuple #[.agg #[.int .i64 (N : Int), u], .int .i64 0]) ∧ Row w' w.heap.size 78 1 u 1 [.int .u64 (F s s2 : Int)] ∧ Ext w w' := by
 have HMC := Lib.hid (fun W (hW : Ext w W) => bmatching_calls N b o c s b2 o2 c2 s2 W (hW.cl h) (hW.cl h2) hN hN2 hs hs2)
 have HCC := Lib.hid (fun W (hW : Ext w W) => copied_calls N b o c s W (hW.cl h) hc)
 have h64 : 2 ^ N ≤ 2 ^ 64 := Nat.pow_le_pow_right (by decide) (by omega)
 have HF := Lib.hid (fun W => hF s s2 W (by omega) (by omega))
 have HH2 := Lib.hid h2
 generalize F s s2 = r at *
 have HX0 := Lib.hid ((((Ext.rf _).al (.cells #[.int .i64 (N : Int), .slice (some ⟨b2, o2, none⟩) 1 c2] 42)).al (.cells #[.int .i64 0, .slice none 0 0] 42)).hp (heap_alloc_new w (.cells #[.int .i64 (N : Int), .slice (some ⟨b, o, none⟩) 1 c] 42)))
 have HX1 := Lib.hid (((Ext.rf _).al (.cells #[.int .i64 0, .slice none 0 0] 42)).hp (heap_new_eq (w := w.alloc (.cells #[.int .i64 (N : Int), .slice (some ⟨b, o, none⟩) 1 c] 42)) (o := .cells #[.int .i64 (N : Int), .slice (some ⟨b2, o2, none⟩) 1 c2] 42) (b := w.heap.size + 1) (by simp)))
 have HX2 := Lib.hid (heap_new_eq (w := (w.alloc (.cells #[.int .i64 (N : Int), .slice (some ⟨b, o, none⟩) 1 c] 42)).alloc (.cells #[.int .i64 (N : Int), .slice (some ⟨b2, o2, none⟩) 1 c2] 42)) (o := .cells #[.int .i64 0, .slice none 0 0] 42) (b := w.heap.size + 2) (by simp))
 have HE2 := Lib.hid ((((Ext.rf w).al (.cells #[.int .i64 (N : Int), .slice (some ⟨b, o, none⟩) 1 c] 42)).al (.cells #[.int .i64 (N : Int), .slice (some ⟨b2, o2, none⟩) 1 c2] 42)).al (.cells #[.int .i64 0, .slice none 0 0] 42))
 clear h h2 hs hs2 hF h64
 go_enter Tryz.func94, Tryz.ntmps94
 go_upto_region 1 with (fail)
 generalize ((w.alloc (.cells #[.int .i64 (N : Int), .slice (some ⟨b, o, none⟩) 1 c] 42)).alloc (.cells #[.int .i64 (N : Int), .slice (some ⟨b2, o2, none⟩) 1 c2] 42)).alloc (.cells #[.int .i64 0, .slice none 0 0] 42) = w2 at *
 have a0 := cellOf HX0.out 0
 have a1 := cellOf HX0.out 1
 have c0 := cellOf HX1.out 0
 have c1 := cellOf HX1.out 1
 simp only [List.getElem?_toArray, List.getElem?_cons_zero, List.getElem?_cons_succ] at a0 a1 c0 c1
 go_wp2_with fail
 refine (HMC.out _ HE2.out).mono ?_
 rintro e w3 ⟨rfl, hX3⟩
 have HE3 := Lib.hid (HE2.out.trans' hX3)
 have a0 := hX3.cl a0
 have a1 := hX3.cl a1
 have HX1 := Lib.hid (hX3.hp HX1.out)
 have HX2 := Lib.hid (hX3.hp HX2.out)
 have hw3 : w.heap.size + 2 < w3.heap.size := (Array.getElem?_eq_some_iff.1 HX2.out).1
 clear hX3 c0 c1
 go_wp2_with fail
 refine (HCC.out _ HE3.out).mono ?_
 rintro e w4 ⟨u, rfl, hR4, hX4⟩
 obtain ⟨wb, wo, wc, rfl, hwb, hws, hwc⟩ := hR4.shape (by decide)
 have HE4 := Lib.hid (HE3.out.trans' hX4)
 have HX1 := Lib.hid (hX4.hp HX1.out)
 have HX2 := Lib.hid (hX4.hp HX2.out)
 have HR4 := Lib.hid hR4
 have hwb3 := hwb
 clear hX4 hR4 a0 a1
 have c1 := cellOf (((Ext.rf w4).al (.cells #[.int .i64 (N : Int), .slice (some ⟨wb, wo, none⟩) 1 wc] 42)).hp HX1.out) 1
 simp only [List.getElem?_toArray, List.getElem?_cons_zero, List.getElem?_cons_succ] at c1
 go_wp2
 have HSB := Lib.hid (heap_alloc_new w4 (.cells #[.int .i64 (N : Int), .slice (some ⟨wb, wo, none⟩) 1 wc] 42))
 have HE5 := Lib.hid (HE4.out.al (.cells #[.int .i64 (N : Int), .slice (some ⟨wb, wo, none⟩) 1 wc] 42))
 have HX2 := Lib.hid (((Ext.rf w4).al (.cells #[.int .i64 (N : Int), .slice (some ⟨wb, wo, none⟩) 1 wc] 42)).hp HX2.out)
 have HR5 := Lib.hid ((HR4.out.mono HE3.out.sz).al (.cells #[.int .i64 (N : Int), .slice (some ⟨wb, wo, none⟩) 1 wc] 42))
 have hsz4 : w.heap.size < w4.heap.size := by have := HE3.out.sz; omega
 clear c1 HR4 hwb3
 generalize w4.alloc (.cells #[.int .i64 (N : Int), .slice (some ⟨wb, wo, none⟩) 1 wc] 42) = w5 at *
 obtain ⟨sb, hsb⟩ : ∃ b, w4.heap.size = b := ⟨_, rfl⟩
 rw [hsb] at HSB hws hsz4 ⊢
 clear hsb
 go_loopg [21] 1 (fun g s21 wr => ∃ k : Nat, k ≤ 1 ∧ 1 - k ≤ g ∧ s21 = .int .i64 k ∧ Aside (Row wr w.heap.size 78 1 (.slice (some ⟨wb, wo, none⟩) 1 wc) 1 [.int .u64 ((if k = 0 then s else r : Nat) : Int)]) ∧ Aside (wr.heap[sb]? = some (.cells #[.int .i64 (N : Int), .slice (some ⟨wb, wo, none⟩) 1 wc] 42)) ∧ Aside (wr.heap[w.heap.size + 2]? = some (.cells #[.int .i64 0, .slice none 0 0] 42)) ∧ Aside (Ext w wr))
 case atStart => exact ⟨0, Nat.zero_le _, by omega, rfl, (show Row _ _ _ _ _ _ _ from HR5.out), HSB, HX2, HE5⟩
 case round =>
  obtain ⟨k, hk, hg, rfl, HR, HS, HRB, HEK⟩ := hrel
  clear HR5 HSB HX2 HE5
  by_cases hk0 : k = 0
  ·subst hk0
   have hz : (0 : Int) < 1 := by decide
   have q0 := HEK.out.cl HH2.out
   have s1 := cellOf HS.out 1
   simp only [List.getElem?_toArray, List.getElem?_cons_zero, List.getElem?_cons_succ] at s1
   have m0 := HR.out.cell 0 (by omega)
   have fr := HR.out.free wo
   simp only [if_true, List.getElem?_cons_zero, Nat.add_zero] at m0
   go_wp2
   go_region_with (refine (HF.out _).mono ?_; rintro e w' ⟨rfl, rfl⟩)
   all_goals
    go_wp2
    go_roundg 0
   all_goals first
    | omega
    | exact ⟨1, Nat.le_refl _, Nat.le_refl _, by go_num, (show Row _ _ _ _ _ _ _ from (HR.out.set 0 (.int .u64 (r : Int)) (by omega)).ext (by first | exact (Ext.rf _).dr | exact (Ext.rf _).dr.dr)), (show _ = _ from by
      first
       | (refine ((Ext.rf _).dr).hp ?_; rw [Below.heap_setCell _ ⟨wb, wo, none⟩ _ _ (by simp only; omega)]; exact HS.out)
       | (refine ((Ext.rf _).dr.dr).hp ?_; rw [Below.heap_setCell _ ⟨wb, wo, none⟩ _ _ (by simp only; omega)]; exact HS.out)), (show _ = _ from by
      first
       | (refine ((Ext.rf _).dr).hp ?_; rw [Below.heap_setCell _ ⟨wb, wo, none⟩ _ _ (by simp only; omega)]; exact HRB.out)
       | (refine ((Ext.rf _).dr.dr).hp ?_; rw [Below.heap_setCell _ ⟨wb, wo, none⟩ _ _ (by simp only; omega)]; exact HRB.out)), by first | exact (HEK.out.st (p := ⟨wb, wo, none⟩) (by show w.heap.size ≤ wb; omega) _).dr | exact (HEK.out.st (p := ⟨wb, wo, none⟩) (by show w.heap.size ≤ wb; omega) _).dr.dr⟩
  ·obtain rfl : k = 1 := by omega
   have hR := HR.out
   rw [if_neg (by decide)] at hR
   have HR := Lib.hid hR
   have s0 := cellOf HS.out 0
   have s1 := cellOf HS.out 1
   have r0 := cellOf HRB.out 0
   have r1 := cellOf HRB.out 1
   have f0 := freeOf HRB.out 0
   have f1 := freeOf HRB.out 1
   simp only [List.getElem?_toArray, List.getElem?_cons_zero, List.getElem?_cons_succ] at s0 s1 r0 r1
   clear hR
   go_wp2
   have e1 := heap_setCell_same (o := 1) (u := .slice (some ⟨wb, wo, none⟩) 1 wc) (heap_setCell_same (o := 0) (u := .int .i64 (N : Int)) HRB.out)
   have z0 := cellOf e1 0
   have z1 := cellOf e1 1
   simp only [Array.setIfInBounds, List.size_toArray, List.length_cons, List.length_nil, Nat.zero_lt_succ] at z0 z1
   refine bodyPost_ret (v := .tuple #[.agg #[.int .i64 (N : Int), .slice (some ⟨wb, wo, none⟩) 1 wc], .int .i64 0]) (by simp [results, Tryz.results94, go_sem, z0, z1]) rfl ⟨_, rfl, ?_, ?_⟩
   ·exact (HR.out.stT HRB.out (by decide) _).stT (heap_setCell_same HRB.out) (by decide) _
   ·exact (HEK.out.st (by show w.heap.size ≤ w.heap.size + 2; omega) _).st (by show w.heap.size ≤ w.heap.size + 2; omega) _
set_option maxHeartbeats 2000000 in
set_option maxRecDepth 100000 in
theorem unionC_calls (N b o c s b2 o2 c2 s2 : Nat) (w : World) (h : w.cell? ⟨b, o, none⟩ = some (.int .u64 (s : Int))) (h2 : w.cell? ⟨b2, o2, none⟩ = some (.int .u64 (s2 : Int))) (hc : 1 ≤ c) (hc2 : 1 ≤ c2) (hN : 1 ≤ N) (hN2 : N ≤ 63) (hs : s < 2 ^ N) (hs2 : s2 < 2 ^ N) :
  Calls Tryz.prog 77 #[.agg #[.int .i64 (N : Int), .slice (some ⟨b, o, none⟩) 1 c], .agg #[.int .i64 (N : Int), .slice (some ⟨b2, o2, none⟩) 1 c2]] w fun e w' => ∃ u, e = .returned (.tuple #[.agg #[.int .i64 (N : Int), u], .int .i64 0]) ∧ Row w' w.heap.size 78 1 u 1 [.int .u64 (orW s s2 : Int)] ∧ Ext w w' := by
 have HCC := Lib.hid (fun W (hW : Ext w W) => combined_calls 95 orW enters_95 union1_calls N b o c s b2 o2 c2 s2 W (hW.cl h) (hW.cl h2) hc hc2 hN hN2 hs hs2)
 generalize orW s s2 = r at *
 have HX0 := Lib.hid ((((Ext.rf _).al (.cells #[.int .i64 (N : Int), .slice (some ⟨b2, o2, none⟩) 1 c2] 42)).al (.cells #[.int .i64 0, .slice none 0 0] 42)).hp (heap_alloc_new w (.cells #[.int .i64 (N : Int), .slice (some ⟨b, o, none⟩) 1 c] 42)))
 have HX1 := Lib.hid (((Ext.rf _).al (.cells #[.int .i64 0, .slice none 0 0] 42)).hp (heap_new_eq (w := w.alloc (.cells #[.int .i64 (N : Int), .slice (some ⟨b, o, none⟩) 1 c] 42)) (o := .cells #[.int .i64 (N : Int), .slice (some ⟨b2, o2, none⟩) 1 c2] 42) (b := w.heap.size + 1) (by simp)))
 have HX2 := Lib.hid (heap_new_eq (w := (w.alloc (.cells #[.int .i64 (N : Int), .slice (some ⟨b, o, none⟩) 1 c] 42)).alloc (.cells #[.int .i64 (N : Int), .slice (some ⟨b2, o2, none⟩) 1 c2] 42)) (o := .cells #[.int .i64 0, .slice none 0 0] 42) (b := w.heap.size + 2) (by simp))
 have HE2 := Lib.hid ((((Ext.rf w).al (.cells #[.int .i64 (N : Int), .slice (some ⟨b, o, none⟩) 1 c] 42)).al (.cells #[.int .i64 (N : Int), .slice (some ⟨b2, o2, none⟩) 1 c2] 42)).al (.cells #[.int .i64 0, .slice none 0 0] 42))
 clear h h2 hs hs2
 go_enter Tryz.func77, Tryz.ntmps77
 go_upto_region 1 with (fail)
 generalize ((w.alloc (.cells #[.int .i64 (N : Int), .slice (some ⟨b, o, none⟩) 1 c] 42)).alloc (.cells #[.int .i64 (N : Int), .slice (some ⟨b2, o2, none⟩) 1 c2] 42)).alloc (.cells #[.int .i64 0, .slice none 0 0] 42) = w2 at *
 have a0 := cellOf HX0.out 0
 have a1 := cellOf HX0.out 1
 have c0 := cellOf HX1.out 0
 have c1 := cellOf HX1.out 1
 simp only [List.getElem?_toArray, List.getElem?_cons_zero, List.getElem?_cons_succ] at a0 a1 c0 c1
 go_wp2_with fail
 refine (HCC.out _ HE2.out).mono ?_
 rintro e w4 ⟨u, rfl, hR4, hX4⟩
 obtain ⟨wb, wo, wc, rfl, hwb, hws, hwc⟩ := hR4.shape (by decide)
 have HE4 := Lib.hid (HE2.out.trans' hX4)
 have HRB := Lib.hid (hX4.hp HX2.out)
 have HR := Lib.hid (hR4.mono HE2.out.sz)
 clear hX4 hR4 a0 a1 c0 c1
 have r0 := cellOf HRB.out 0
 have r1 := cellOf HRB.out 1
 have f0 := freeOf HRB.out 0
 have f1 := freeOf HRB.out 1
 simp only [List.getElem?_toArray, List.getElem?_cons_zero, List.getElem?_cons_succ] at r0 r1
 go_wp2
 have e1 := heap_setCell_same (o := 1) (u := .slice (some ⟨wb, wo, none⟩) 1 wc) (heap_setCell_same (o := 0) (u := .int .i64 (N : Int)) HRB.out)
 have z0 := cellOf e1 0
 have z1 := cellOf e1 1
 simp only [Array.setIfInBounds, List.size_toArray, List.length_cons, List.length_nil, Nat.zero_lt_succ] at z0 z1
 refine bodyPost_ret (v := .tuple #[.agg #[.int .i64 (N : Int), .slice (some ⟨wb, wo, none⟩) 1 wc], .int .i64 0]) (by simp [results, Tryz.results77, go_sem, z0, z1]) rfl ⟨_, rfl, ?_, ?_⟩
 ·exact (HR.out.stT HRB.out (by decide) _).stT (heap_setCell_same HRB.out) (by decide) _
 ·exact (HE4.out.st (by show w.heap.size ≤ w.heap.size + 2; omega) _).st (by show w.heap.size ≤ w.heap.size + 2; omega) _
set_option maxHeartbeats 2000000 in
set_option maxRecDepth 100000 in
theorem minusC_calls (N b o c s b2 o2 c2 s2 : Nat) (w : World) (h : w.cell? ⟨b, o, none⟩ = some (.int .u64 (s : Int))) (h2 : w.cell? ⟨b2, o2, none⟩ = some (.int .u64 (s2 : Int))) (hc : 1 ≤ c) (hc2 : 1 ≤ c2) (hN : 1 ≤ N) (hN2 : N ≤ 63) (hs : s < 2 ^ N) (hs2 : s2 < 2 ^ N) :
  Calls Tryz.prog 108 #[.agg #[.int .i64 (N : Int), .slice (some ⟨b, o, none⟩) 1 c], .agg #[.int .i64 (N : Int), .slice (some ⟨b2, o2, none⟩) 1 c2]] w fun e w' => ∃ u, e = .returned (.tuple #[.agg #[.int .i64 (N : Int), u], .int .i64 0]) ∧ Row w' w.heap.size 78 1 u 1 [.int .u64 (minW s s2 : Int)] ∧ Ext w w' := by
 have HCC := Lib.hid (fun W (hW : Ext w W) => combined_calls 118 minW enters_118 minus1_calls N b o c s b2 o2 c2 s2 W (hW.cl h) (hW.cl h2) hc hc2 hN hN2 hs hs2)
 generalize minW s s2 = r at *
 have HX0 := Lib.hid ((((Ext.rf _).al (.cells #[.int .i64 (N : Int), .slice (some ⟨b2, o2, none⟩) 1 c2] 42)).al (.cells #[.int .i64 0, .slice none 0 0] 42)).hp (heap_alloc_new w (.cells #[.int .i64 (N : Int), .slice (some ⟨b, o, none⟩) 1 c] 42)))
 have HX1 := Lib.hid (((Ext.rf _).al (.cells #[.int .i64 0, .slice none 0 0] 42)).hp (heap_new_eq (w := w.alloc (.cells #[.int .i64 (N : Int), .slice (some ⟨b, o, none⟩) 1 c] 42)) (o := .cells #[.int .i64 (N : Int), .slice (some ⟨b2, o2, none⟩) 1 c2] 42) (b := w.heap.size + 1) (by simp)))
 have HX2 := Lib.hid (heap_new_eq (w := (w.alloc (.cells #[.int .i64 (N : Int), .slice (some ⟨b, o, none⟩) 1 c] 42)).alloc (.cells #[.int .i64 (N : Int), .slice (some ⟨b2, o2, none⟩) 1 c2] 42)) (o := .cells #[.int .i64 0, .slice none 0 0] 42) (b := w.heap.size + 2) (by simp))
 have HE2 := Lib.hid ((((Ext.rf w).al (.cells #[.int .i64 (N : Int), .slice (some ⟨b, o, none⟩) 1 c] 42)).al (.cells #[.int .i64 (N : Int), .slice (some ⟨b2, o2, none⟩) 1 c2] 42)).al (.cells #[.int .i64 0, .slice none 0 0] 42))
 clear h h2 hs hs2
 go_enter Tryz.func108, Tryz.ntmps108
 go_upto_region 1 with (fail)
 generalize ((w.alloc (.cells #[.int .i64 (N : Int), .slice (some ⟨b, o, none⟩) 1 c] 42)).alloc (.cells #[.int .i64 (N : Int), .slice (some ⟨b2, o2, none⟩) 1 c2] 42)).alloc (.cells #[.int .i64 0, .slice none 0 0] 42) = w2 at *
 have a0 := cellOf HX0.out 0
 have a1 := cellOf HX0.out 1
 have c0 := cellOf HX1.out 0
 have c1 := cellOf HX1.out 1
 simp only [List.getElem?_toArray, List.getElem?_cons_zero, List.getElem?_cons_succ] at a0 a1 c0 c1
 go_wp2_with fail
 refine (HCC.out _ HE2.out).mono ?_
 rintro e w4 ⟨u, rfl, hR4, hX4⟩
 obtain ⟨wb, wo, wc, rfl, hwb, hws, hwc⟩ := hR4.shape (by decide)
 have HE4 := Lib.hid (HE2.out.trans' hX4)
 have HRB := Lib.hid (hX4.hp HX2.out)
 have HR := Lib.hid (hR4.mono HE2.out.sz)
 clear hX4 hR4 a0 a1 c0 c1
 have r0 := cellOf HRB.out 0
 have r1 := cellOf HRB.out 1
 have f0 := freeOf HRB.out 0
 have f1 := freeOf HRB.out 1
 simp only [List.getElem?_toArray, List.getElem?_cons_zero, List.getElem?_cons_succ] at r0 r1
 go_wp2
 have e1 := heap_setCell_same (o := 1) (u := .slice (some ⟨wb, wo, none⟩) 1 wc) (heap_setCell_same (o := 0) (u := .int .i64 (N : Int)) HRB.out)
 have z0 := cellOf e1 0
 have z1 := cellOf e1 1
 simp only [Array.setIfInBounds, List.size_toArray, List.length_cons, List.length_nil, Nat.zero_lt_succ] at z0 z1
 refine bodyPost_ret (v := .tuple #[.agg #[.int .i64 (N : Int), .slice (some ⟨wb, wo, none⟩) 1 wc], .int .i64 0]) (by simp [results, Tryz.results108, go_sem, z0, z1]) rfl ⟨_, rfl, ?_, ?_⟩
 ·exact (HR.out.stT HRB.out (by decide) _).stT (heap_setCell_same HRB.out) (by decide) _
 ·exact (HE4.out.st (by show w.heap.size ≤ w.heap.size + 2; omega) _).st (by show w.heap.size ≤ w.heap.size + 2; omega) _
end Go.Proofs.YtbpdbikphlhaiaaGreatDoor
namespace Go.Proofs.YtbpdbikphlhaiaaGreatDoor
open Go.RowKit
set_option linter.unusedVariables false
attribute [local go_sem ↓] Go.wp_at_zero Go.wp_at_succ
theorem dig_sum_le (x : Nat) : (digD 64 x).sum ≤ 64 := by
 have h1 := digD_le 64 x
 have h2 := digD_len 64 x
 have key : ∀ l : List Nat, (∀ d ∈ l, d ≤ 1) → l.sum ≤ l.length := by
  intro l
  induction l with
  | nil => intro _; simp
  | cons a l ih => intro h; rw [List.sum_cons, List.length_cons]; have := h a (by simp); have := ih (fun d hd => h d (by simp [hd])); omega
 have := key _ h1
 omega
set_option maxHeartbeats 4000000 in
set_option maxRecDepth 100000 in
theorem countB_calls (N b o c s : Nat) (w : World) (h : w.cell? ⟨b, o, none⟩ = some (.int .u64 (s : Int))) (hc : 1 ≤ c) (hN : 1 ≤ N) (hN2 : N ≤ 63) (hs : s < 2 ^ N) :
  Calls Tryz.prog 109 #[.agg #[.int .i64 (N : Int), .slice (some ⟨b, o, none⟩) 1 c]] w fun e w' => e = .returned (.int .i64 ((digD 64 s).sum : Nat)) ∧ Ext w w' := by
 have HVC := Lib.hid (fun W (hW : Ext w W) => bvalid_calls N b o c s W (hW.cl h) hN hN2 hs)
 have h64 : 2 ^ N ≤ 2 ^ 64 := Nat.pow_le_pow_right (by decide) (by omega)
 have HOC := Lib.hid (fun W => ones_calls s W (by omega))
 have hle := dig_sum_le s
 generalize (digD 64 s).sum = S at *
 have HX0 := Lib.hid (heap_alloc_new w (.cells #[.int .i64 (N : Int), .slice (some ⟨b, o, none⟩) 1 c] 42))
 have HE1 := Lib.hid ((Ext.rf w).al (.cells #[.int .i64 (N : Int), .slice (some ⟨b, o, none⟩) 1 c] 42))
 have HC := Lib.hid h
 clear h hs h64
 go_enter Tryz.func109, Tryz.ntmps109
 go_wp2_with fail
 refine (HVC.out _ HE1.out).mono ?_
 rintro e w2 ⟨rfl, hX2⟩
 have HE2 := Lib.hid (HE1.out.trans' hX2)
 have HY2 := Lib.hid (hX2.hp HX0.out)
 have t1 := cellOf HY2.out 1
 simp only [List.getElem?_toArray, List.getElem?_cons_zero, List.getElem?_cons_succ] at t1
 clear hX2
 go_wp2
 clear t1
 go_loopg [3, 12] 1 (fun g s3 s12 wr => ∃ k : Nat, k ≤ 1 ∧ 1 - k ≤ g ∧ s12 = .int .i64 k ∧ s3 = .int .i64 ((if k = 0 then 0 else S : Nat) : Int) ∧ wr = w2)
 case atStart => exact ⟨0, Nat.zero_le _, by omega, rfl, rfl, rfl⟩
 case round =>
  obtain ⟨k, hk, hg, rfl, rfl, rfl⟩ := hrel
  by_cases hk0 : k = 0
  ·subst hk0
   have hz : (0 : Int) < 1 := by decide
   have q0 := HE2.out.cl HC.out
   go_wp2_with fail
   clear q0
   refine (HOC.out _).mono ?_
   rintro e w6 ⟨rfl, hw6⟩
   subst hw6
   go_wp2
   go_roundg 0
   case measure => omega
   case rel => exact ⟨1, Nat.le_refl _, Nat.le_refl _, by go_num, by go_num, rfl⟩
  ·obtain rfl : k = 1 := by omega
   go_wp2
   go_ret
   exact ⟨rfl, HE2.out⟩
set_option maxHeartbeats 4000000 in
set_option maxRecDepth 100000 in
theorem subset_calls (N b o c s b2 o2 c2 s2 : Nat) (w : World) (h : w.cell? ⟨b, o, none⟩ = some (.int .u64 (s : Int))) (h2 : w.cell? ⟨b2, o2, none⟩ = some (.int .u64 (s2 : Int))) (hc : 1 ≤ c) (hc2 : 1 ≤ c2) (hN : 1 ≤ N) (hN2 : N ≤ 63) (hs : s < 2 ^ N) (hs2 : s2 < 2 ^ N) :
  Calls Tryz.prog 89 #[.agg #[.int .i64 (N : Int), .slice (some ⟨b, o, none⟩) 1 c], .agg #[.int .i64 (N : Int), .slice (some ⟨b2, o2, none⟩) 1 c2]] w fun e w' => e = .returned (.bool (decide (minW s s2 = 0))) ∧ Ext w w' := by
 have HMC := Lib.hid (fun W (hW : Ext w W) => minusC_calls N b o c s b2 o2 c2 s2 W (hW.cl h) (hW.cl h2) hc hc2 hN hN2 hs hs2)
 have h64 : 2 ^ N ≤ 2 ^ 64 := Nat.pow_le_pow_right (by decide) (by omega)
 have hml : minW s s2 < 2 ^ N := Nat.lt_of_le_of_lt Nat.and_le_left hs
 have HOZ := Lib.hid (ones_zero (w := minW s s2) (by omega))
 have HCC := Lib.hid (fun W (b o c : Nat) (hcell : W.cell? ⟨b, o, none⟩ = some (.int .u64 (minW s s2 : Int))) (hc : 1 ≤ c) => countB_calls N b o c _ W hcell hc hN hN2 hml)
 generalize minW s s2 = r at *
 generalize (digD 64 r).sum = S at *
 have HX0 := Lib.hid (((Ext.rf _).al (.cells #[.int .i64 (N : Int), .slice (some ⟨b2, o2, none⟩) 1 c2] 42)).hp (heap_alloc_new w (.cells #[.int .i64 (N : Int), .slice (some ⟨b, o, none⟩) 1 c] 42)))
 have HX1 := Lib.hid (heap_new_eq (w := w.alloc (.cells #[.int .i64 (N : Int), .slice (some ⟨b, o, none⟩) 1 c] 42)) (o := .cells #[.int .i64 (N : Int), .slice (some ⟨b2, o2, none⟩) 1 c2] 42) (b := w.heap.size + 1) (by simp))
 have HE2 := Lib.hid (((Ext.rf w).al (.cells #[.int .i64 (N : Int), .slice (some ⟨b, o, none⟩) 1 c] 42)).al (.cells #[.int .i64 (N : Int), .slice (some ⟨b2, o2, none⟩) 1 c2] 42))
 clear h h2 hs hs2 h64 hml
 go_enter Tryz.func89, Tryz.ntmps89
 go_upto_region 1 with (fail)
 generalize (w.alloc (.cells #[.int .i64 (N : Int), .slice (some ⟨b, o, none⟩) 1 c] 42)).alloc (.cells #[.int .i64 (N : Int), .slice (some ⟨b2, o2, none⟩) 1 c2] 42) = w2 at *
 have a0 := cellOf HX0.out 0
 have a1 := cellOf HX0.out 1
 have c0 := cellOf HX1.out 0
 have c1 := cellOf HX1.out 1
 simp only [List.getElem?_toArray, List.getElem?_cons_zero, List.getElem?_cons_succ] at a0 a1 c0 c1
 go_wp2_with fail
 refine (HMC.out _ HE2.out).mono ?_
 rintro e w4 ⟨u, rfl, hR4, hX4⟩
 obtain ⟨wb, wo, wc, rfl, hwb, hws, hwc⟩ := hR4.shape (by decide)
 have HE4 := Lib.hid (HE2.out.trans' hX4)
 have HC4 := Lib.hid (show w4.cell? ⟨wb, wo, none⟩ = some (.int .u64 (r : Int)) from by simpa using hR4.cell 0 (by omega))
 clear hX4 hR4 a0 a1 c0 c1
 have HE5 := Lib.hid ((Ext.rf w4).al (.cells #[.int .i64 (N : Int), .slice (some ⟨wb, wo, none⟩) 1 wc] 42))
 go_wp2_with fail
 refine (HCC.out _ wb wo wc (HE5.out.cl HC4.out) hwc).mono ?_
 rintro e w6 ⟨rfl, hX6⟩
 have HE6 := Lib.hid ((HE4.out.trans' HE5.out).trans' hX6)
 have HD : Hid (decide (r = 0) = ((S : Int) == 0)) := Lib.hid (by
  rw [Bool.eq_iff_iff]
  simp only [decide_eq_true_eq, beq_iff_eq]
  rw [← HOZ.out]; omega)
 clear hX6
 go_wp2
 go_ret
 exact ⟨by rw [HD.out]; rfl, HE6.out⟩
end Go.Proofs.YtbpdbikphlhaiaaGreatDoor
namespace Go.Proofs.YtbpdbikphlhaiaaGreatDoor
open Go.RowKit
set_option linter.unusedVariables false
attribute [local go_sem ↓] Go.wp_at_zero Go.wp_at_succ
structure PosM (N : Nat) (M : List Nat) : Prop where
 len : M.length = N
 bnd : BndM N M
 tr : ∀ i j k, hasM M i j = true → hasM M j k = true → hasM M i k = true
 irr : ∀ i, hasM M i i = false
theorem PosM.inv {N : Nat} {M : List Nat} (h : PosM N M) (hb : BndM N (invM M N)) : PosM N (invM M N) :=
 ⟨invP_len _ _, hb, fun i j k h1 h2 => by
  rw [invM_has h.len h.bnd] at *
  exact h.tr k j i h2 h1, fun i => by rw [invM_has h.len h.bnd]; exact h.irr i⟩
theorem PosM.sub {N : Nat} {M : List Nat} (h : PosM N M) (hN : N ≤ 60) {i j : Nat} (hj : j ∈ membW M[i]! N) : minW M[j]! M[i]! = 0 := by
 rw [minW_zero (h.bnd.u64 (by omega) j) (h.bnd.u64 (by omega) i)]
 intro k hk
 exact h.tr i j k ((mem_membW (h.bnd i)).1 hj) hk
theorem PosM.ne {N : Nat} {M : List Nat} (h : PosM N M) {i j : Nat} (hj : j ∈ membW M[i]! N) : j ≠ i := by
 rintro rfl
 have h1 : hasM M j j = true := (mem_membW (h.bnd j)).1 hj
 rw [h.irr j] at h1; cases h1
set_option maxHeartbeats 8000000 in
set_option maxRecDepth 100000 in
theorem pvalid_calls (v : Value) (N : Nat) (M : List Nat) (w : World) (h : Sl (RSet N) 2 w v M) (hp : PosM N M) (hN : N ≤ 60) (hT : TabG w) :
  Calls Tryz.prog 71 #[.agg #[v]] w fun e w' => e = .returned (.bool true) ∧ Ext w w' := by
 have HVC := Lib.hid (fun W (hW : Ext w W) => rvalid_calls v N M W (h.ext (rset_lasts N) hW) hp.len (by omega) hp.bnd)
 have HS := Lib.hid h
 have HP := Lib.hid hp
 have HT := Lib.hid hT
 obtain ⟨a, c, rfl, hlc⟩ := h.sh
 have HLN := Lib.hid hp.len
 rw [hp.len] at HVC HS hlc ⊢
 have HX0 := Lib.hid (heap_alloc_new w (.cells #[.slice a N c] 32))
 have HE1 := Lib.hid ((Ext.rf w).al (.cells #[.slice a N c] 32))
 clear h hp hT
 go_enter Tryz.func71, Tryz.ntmps71
 go_wp2_with fail
 refine (HVC.out _ HE1.out).mono ?_
 rintro e w2 ⟨rfl, hX2⟩
 have HE2 := Lib.hid (HE1.out.trans' hX2)
 have HY2 := Lib.hid (hX2.hp HX0.out)
 have t0 := cellOf HY2.out 0
 simp only [List.getElem?_toArray, List.getElem?_cons_zero] at t0
 clear hX2
 go_wp2
 clear t0
 go_loopg [15] N (fun g s15 wr => ∃ i : Nat, i ≤ N ∧ N - i ≤ g ∧ s15 = .int .i64 i ∧ Aside (Ext w2 wr))
 case atStart => exact ⟨0, Nat.zero_le _, by omega, rfl, Ext.rf _⟩
 case round =>
  obtain ⟨i, hi, hg, rfl, HEK⟩ := hrel
  have HEW := Lib.hid (HE2.out.trans' HEK.out)
  by_cases hlt : i < N
  ·have hltz : (i : Int) < (N : Int) := by omega
   have hiz : (0 : Int) ≤ (i : Int) := by omega
   obtain ⟨B, O, C, xb, xo, xc, hve, hlC, hB, k0, k1, xhc, xhb, xh⟩ := rset_at HS.out i (by rw [HLN.out]; omega)
   simp only [Value.slice.injEq] at hve
   obtain ⟨rfl, hzz, rfl⟩ := hve
   clear hzz
   have HSUB := Lib.hid (fun j (hj : j ∈ membW M[i]! N) => HP.out.sub hN hj)
   have HNE := Lib.hid (fun j (hj : j ∈ membW M[i]! N) => HP.out.ne hj)
   have hmb := HP.out.bnd i
   generalize M[i]! = m at *
   have q0 := HEW.out.cl k0
   have q1 := HEW.out.cl k1
   have HEX := Lib.hid (HEW.out.al (.cells #[.int .i64 (N : Int), .slice (some ⟨xb, xo, none⟩) 1 xc] 42))
   have HBX := Lib.hid (heap_alloc_new wr (.cells #[.int .i64 (N : Int), .slice (some ⟨xb, xo, none⟩) 1 xc] 42))
   have HYX := Lib.hid (((Ext.rf wr).al (.cells #[.int .i64 (N : Int), .slice (some ⟨xb, xo, none⟩) 1 xc] 42)).hp (HEK.out.hp HY2.out))
   have HXH := Lib.hid xh
   have HMC := Lib.hid (fun W (hW : Ext w W) => members_calls N xb xo xc m W (hW.cl xh) xhc (by omega) (by omega) hmb (HT.out.ext hW))
   have HEK2 := Lib.hid (HEK.out.al (.cells #[.int .i64 (N : Int), .slice (some ⟨xb, xo, none⟩) 1 xc] 42))
   clear k0 k1 hB hlC
   go_upto_region 6 with (fail)
   generalize hwx : wr.alloc (.cells #[.int .i64 (N : Int), .slice (some ⟨xb, xo, none⟩) 1 xc] 42) = wx at *
   generalize hBB : wr.heap.size = BB at *
   clear hwx hBB q0 q1
   have b0 := cellOf HBX.out 0
   have b1 := cellOf HBX.out 1
   simp only [List.getElem?_toArray, List.getElem?_cons_zero, List.getElem?_cons_succ] at b0 b1
   go_wp2_with fail
   clear b0 b1
   refine (HMC.out _ HEX.out).mono ?_
   rintro e w5 ⟨mv, rfl, hR5, hX5⟩
   obtain ⟨ma, mc, rfl, _, hms⟩ := hR5.any
   have HE5 := Lib.hid (HEX.out.trans' hX5)
   have HEK5 := Lib.hid (HEK2.out.trans' hX5)
   have HB5 := Lib.hid (hX5.hp HBX.out)
   have HY5 := Lib.hid (hX5.hp HYX.out)
   have HI5 := Lib.hid hR5.ints
   have hll := membW_len m N
   have HLT : Hid (∀ j ∈ membW m N, j < N) := Lib.hid (fun j hj => membW_lt hj)
   generalize membW m N = L at *
   generalize hLl : L.length = ll at *
   have HLL := Lib.hid hLl
   clear hX5 hR5 hms hLl
   go_wp2
   obtain ⟨wq, rfl⟩ : ∃ x, x = wr := ⟨_, rfl⟩
   go_loopg [27] ll (fun g s27 wr => ∃ k : Nat, k ≤ ll ∧ ll - k ≤ g ∧ s27 = .int .i64 k ∧ Aside (Ext w5 wr))
   case atStart => exact ⟨0, Nat.zero_le _, by omega, rfl, Ext.rf _⟩
   case round =>
    obtain ⟨k, hk, hgk, rfl, HE6⟩ := hrel
    by_cases hlk : k < ll
    ·have hlkz : (k : Int) < (ll : Int) := by omega
     have hkz : (0 : Int) ≤ (k : Int) := by omega
     obtain ⟨b, o, hmv, hob, hcell⟩ := ints_at HI5.out k (by rw [intsN_len, HLL.out]; exact hlk)
     rw [intsN_at L (by rw [HLL.out]; exact hlk)] at hcell
     subst hmv
     have hjm : L[k]! ∈ L := by rw [getElem!_pos L k (by rw [HLL.out]; exact hlk)]; exact List.getElem_mem _
     have hjN := HLT.out _ hjm
     have hjs := HSUB.out _ hjm
     have hji := HNE.out _ hjm
     have c0 := HE6.out.cl hcell
     generalize L[k]! = j at *
     have hjz : (0 : Int) ≤ (j : Int) := by omega
     have hjNz : (j : Int) < (N : Int) := by omega
     have hne : ((j : Int) == (i : Int)) = false := by rw [beq_eq_false_iff_ne]; omega
     have HEW6 := Lib.hid (HE5.out.trans' HE6.out)
     obtain ⟨B2, O2, C2, yb, yo, yc, hve, _, _, k0, k1, yhc, yhb, yh⟩ := rset_at HS.out j (by rw [HLN.out]; omega)
     simp only [Value.slice.injEq, Option.some.injEq, Addr.mk.injEq, and_true] at hve
     obtain ⟨⟨rfl, rfl⟩, hzz, rfl⟩ := hve
     clear hzz
     have hjb := HP.out.bnd j
     generalize M[j]! = mj at *
     have HSC := Lib.hid (fun W (hW : Ext w W) => subset_calls N yb yo yc mj xb xo xc m W (hW.cl yh) (hW.cl HXH.out) yhc xhc (by omega) (by omega) hjb hmb)
     rw [hjs] at HSC
     have q0 := HEW6.out.cl k0
     have q1 := HEW6.out.cl k1
     have t0 := cellOf (HE6.out.hp HY5.out) 0
     have b0 := cellOf (HE6.out.hp HB5.out) 0
     have b1 := cellOf (HE6.out.hp HB5.out) 1
     simp only [List.getElem?_toArray, List.getElem?_cons_zero, List.getElem?_cons_succ] at t0 b0 b1
     clear k0 k1 hcell hjs hji hjm
     go_wp2
     go_region_with (refine (HSC.out _ (by first | exact HEW6.out | exact HEW6.out.dr | exact HEW6.out.dr.dr)).mono ?_; rintro e w7 ⟨rfl, hX7⟩)
     all_goals
      have HE7 := Lib.hid (show Ext w5 w7 from by first | exact HE6.out.trans' hX7 | exact HE6.out.dr.trans' hX7 | exact HE6.out.dr.dr.trans' hX7)
      clear hX7 q0 q1 t0 b0 b1 c0
      go_wp2
      go_roundg (ll - (k + 1))
     all_goals first
      | omega
      | exact ⟨k + 1, by omega, by omega, by go_num, by first | exact HE7.out | exact HE7.out.dr | exact HE7.out.dr.dr⟩
    ·have hlkz : ¬ (k : Int) < (ll : Int) := by omega
     obtain rfl : ll = k := by omega
     go_wp2
     go_roundg (N - (i + 1))
     case measure => omega
     case rel => exact ⟨i + 1, by omega, by omega, by go_num, HEK5.out.trans' HE6.out⟩
  ·have hltz : ¬ (i : Int) < (N : Int) := by omega
   obtain rfl : N = i := by omega
   go_wp2
   go_ret
   exact ⟨rfl, HEW.out⟩
end Go.Proofs.YtbpdbikphlhaiaaGreatDoor
namespace Go.Proofs.YtbpdbikphlhaiaaGreatDoor
open Go.RowKit
set_option linter.unusedVariables false
open Classical in
noncomputable def laterJ (t : Tr) (k i : Nat) : List Nat := (List.range k).filter fun j => decide (Hb t (ids t)[i]! (ids t)[j]!)
theorem laterJ_yes {t : Tr} {k i : Nat} (h : Hb t (ids t)[i]! (ids t)[k]!) : laterJ t (k + 1) i = laterJ t k i ++ [k] := by
 classical
 unfold laterJ; rw [List.range_succ, List.filter_append, List.filter_cons, List.filter_nil]; split <;> simp_all
theorem laterJ_no {t : Tr} {k i : Nat} (h : ¬ Hb t (ids t)[i]! (ids t)[k]!) : laterJ t (k + 1) i = laterJ t k i := by
 classical
 unfold laterJ; rw [List.range_succ, List.filter_append, List.filter_cons, List.filter_nil]; split <;> simp_all
theorem laterJ_len (t : Tr) (k i : Nat) : (laterJ t k i).length ≤ k := by
 classical
 unfold laterJ; exact Nat.le_trans (List.length_filter_le _ _) (by simp)
theorem laterJ_lt {t : Tr} {k i j : Nat} (h : j ∈ laterJ t k i) : j < k := by
 classical
 unfold laterJ at h; exact List.mem_range.1 (List.mem_filter.1 h).1
theorem laterJ_all (t : Tr) (i : Nat) : laterJ t (ids t).length i = laterI t i := rfl
def updL (Ls : Nat → List Nat) (i : Nat) (l : List Nat) : Nat → List Nat := fun k => if k = i then l else Ls k
theorem updL_at (Ls : Nat → List Nat) (i : Nat) (l : List Nat) : updL Ls i l i = l := if_pos rfl
theorem updL_ne {Ls : Nat → List Nat} {i k : Nat} {l : List Nat} (h : k ≠ i) : updL Ls i l k = Ls k := if_neg h
structure LatO (w : World) (base : Nat) (v : Value) (N : Nat) (Ls : Nat → List Nat) (hd : Nat → Value) : Prop where
 row : Row w base 25 1 v N ((List.range N).map hd)
 rows : ∀ i, i < N → Row w base 3 1 (hd i) (Ls i).length ((intsN (Ls i)).map (Value.int .i64))
 dis : ∀ i k, i < N → k < N → i ≠ k → (hd i).ownBlock = none ∨ (hd i).ownBlock ≠ (hd k).ownBlock
section
variable {w w8 : World} {base N : Nat} {v : Value} {Ls : Nat → List Nat} {hd : Nat → Value}
theorem LatO.ext {w' : World} (h : LatO w base v N Ls hd) (x : Ext w w') : LatO w' base v N Ls hd := ⟨h.row.ext x, fun i hi => (h.rows i hi).ext x, h.dis⟩
theorem LatO.congr {Ls' : Nat → List Nat} (h : LatO w base v N Ls hd) (e : ∀ i, i < N → Ls' i = Ls i) : LatO w base v N Ls' hd := ⟨h.row, fun i hi => by rw [e i hi]; exact h.rows i hi, h.dis⟩
theorem LatO.start (h : Row w base 25 1 v N (List.replicate N (.slice none 0 0))) : LatO w base v N (fun _ => []) (fun _ => .slice none 0 0) := by
 refine ⟨?_, fun i _ => Row.mkNil _ _ _ _, fun i k _ _ _ => .inl rfl⟩
 have e : (List.range N).map (fun _ => Value.slice none 0 0) = List.replicate N (.slice none 0 0) := by
  rw [List.map_const', List.length_range]
 rw [e]; exact h
theorem hd_set {hd : Nat → Value} {N i : Nat} {u : Value} (hi : i < N) : ((List.range N).map hd).set i u = (List.range N).map (updR hd i u) := by
 apply List.ext_getElem
 ·simp
 ·intro j h1 h2
  rw [List.getElem_set]
  by_cases e : i = j
  ·subst e; rw [if_pos rfl]; simp [updR_at]
  ·rw [if_neg e]; simp [updR_ne (fun h => e h.symm)]
theorem hd_at {hd : Nat → Value} {N i : Nat} (hi : i < N) : ((List.range N).map hd)[i]? = some (hd i) := by
 rw [List.getElem?_map, List.getElem?_range hi]; rfl
theorem LatO.app {g o c i j : Nat} {v8 : Value} (h : LatO w base (.slice (some ⟨g, o, none⟩) N c) N Ls hd) (hi : i < N) (h8 : Row w8 base 3 1 v8 ((Ls i).length + 1) ((intsN (Ls i)).map (Value.int .i64) ++ [.int .i64 (j : Int)])) (hg : w.grownBy w8 (hd i).ownBlock) (hb : v8.ownBlock = (hd i).ownBlock ∨ ∃ k, v8.ownBlock = some k ∧ w.heap.size ≤ k) :
  LatO (w8.setCell ⟨g, o + i, none⟩ v8) base (.slice (some ⟨g, o, none⟩) N c) N (updL Ls i (Ls i ++ [j])) (updR hd i v8) := by
 have hr := h.row.grown hg (h.row.apart (h.rows i hi) (by decide))
 obtain ⟨cur, fr, hh⟩ := row_heap hr
 refine ⟨?_, fun k hk => ?_, fun a k ha hk hne => ?_⟩
 ·have := hr.set i v8 (by omega)
  rw [hd_set hi] at this
  exact this
 ·by_cases e : k = i
  ·subst e
   rw [updL_at, updR_at, List.length_append]
   have e2 : (intsN (Ls k ++ [j])).map (Value.int .i64) = (intsN (Ls k)).map (Value.int .i64) ++ [.int .i64 (j : Int)] := by simp [intsN]
   rw [e2]
   exact h8.stT hh (by decide) _
  ·rw [updL_ne e, updR_ne e]
   exact ((h.rows k hk).grown hg (h.dis k i hk hi e)).stT hh (by decide) _
 ·by_cases e1 : a = i
  ·subst e1
   rw [updR_at, updR_ne (fun e => hne e.symm)]
   rcases hb with e | ⟨q, e, hq⟩
   ·rw [e]; exact h.dis a k ha hk hne
   ·refine .inr fun e2 => ?_
    rw [e] at e2
    have := ((h.rows k hk).lt q e2.symm).2
    omega
  ·rw [updR_ne e1]
   by_cases e2 : k = i
   ·subst e2
    rw [updR_at]
    rcases hb with e | ⟨q, e, hq⟩
    ·rw [e]; exact h.dis a k ha hk hne
    ·refine .inr fun e3 => ?_
     rw [e] at e3
     have := ((h.rows a ha).lt q e3).2
     omega
   ·rw [updR_ne e2]; exact h.dis a k ha hk hne
end
theorem ordM_bnd (t : Tr) : BndM (ids t).length (ordM t) := by
 intro i
 by_cases hi : i < (ids t).length
 ·rw [ordM_at hi]
  refine wordOf_lt fun j hj => ?_
  rw [← laterJ_all] at hj
  exact laterJ_lt hj
 ·rw [getElem!_neg _ i (by rw [ordM_len]; exact hi)]; exact Nat.two_pow_pos _
theorem ordM_pos {t : Tr} (hc : ¬ Cyc t) : PosM (ids t).length (ordM t) := ⟨ordM_len t, ordM_bnd t, fun i j k h1 h2 => ordM_trans h1 h2, fun i => ordM_irr hc⟩
theorem ordM_take {t : Tr} {k : Nat} (hk : k < (ids t).length) : (ordM t).take (k + 1) = (ordM t).take k ++ [wordOf (laterI t k)] := by
 have hl : k < (ordM t).length := by rw [ordM_len]; exact hk
 rw [List.take_succ_eq_append_getElem hl, ← getElem!_pos (ordM t) k hl, ordM_at hk]
end Go.Proofs.YtbpdbikphlhaiaaGreatDoor
