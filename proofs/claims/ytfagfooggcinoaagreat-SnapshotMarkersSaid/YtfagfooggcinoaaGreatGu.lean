import Derived.Test.YtfagfooggcinoaaGreatGg
import Derived.Test.YtfagfooggcinoaaGreatJa
import Derived.Test.YtfagfooggcinoaaGreatProg
import Derived.Test.YtfagfooggcinoaaGreatGh
import Derived.Test.YtfagfooggcinoaaGreatGd
import Derived.Test.YtfagfooggcinoaaGreatGc
import Derived.Test.YtfagfooggcinoaaGreatGb
import Derived.Test.YtfagfooggcinoaaGreatGi
import Derived.Test.YtfagfooggcinoaaGreatGr
import Derived.Test.YtfagfooggcinoaaGreatGj
import Derived.BigQuiet
import Derived.Deep.QuietTactic
import Derived.Deep.LoopGhost
import Derived.Shelf.Abstract
import Derived.RegionTactic
import Derived.BigRegion
import Derived.Deep.DeepCutAuto
namespace Go.Proofs.YtfagfooggcinoaaGreat
set_option linter.unusedVariables false
section
variable {P : Program} {ops : Array Oper} {Q : Exit → Act → World → Prop} {md : Region.Mode} {S : World → Prop} {st : Nat}
def undAll : List (Nat × Tmp) → Act → Act
 | [], a => a
 | x :: L, a => undAll L (a.put (some x.2) undef)
def setAll : List (Nat × Tmp) → Array Bool → Array Bool
 | [], l => l
 | x :: L, l => setAll L (l.setIfInBounds x.1 true)
def skipOk (md : Region.Mode) (ops : Array Oper) (st : Nat) : List (Nat × Tmp) → Array Bool → Act → Bool
 | [], _, _ => true
 | x :: L, l, a =>
   (match ops[x.1]? with
    | some o => (match o.dst with
      | some d => d == x.2
      | none => false) && !Region.wanted o (yielded ops a.tmps)
    | none => false) && (Region.noSelect ops && (Region.free md ops l x.1 && ((Region.ready md ops l).contains x.1 && (upOk md ops l st x.1 && skipOk md ops st L (l.setIfInBounds x.1 true) (a.put (some x.2) undef)))))
theorem wpAnyT_skips {w : World} (hQ : ∀ (c : _) (a : Act) (d : Tmp) (w : World), Q (.panic c) (a.put (some d) undef) w → Q (.panic c) a w) (hS : S w) : ∀ (L : List (Nat × Tmp)) (n fuel : Nat) (l : Array Bool) (a : Act), n = fuel + L.length → skipOk md ops st L l a = true →
  wpAnyT P md ops Q S st fuel (setAll L l) (undAll L a) w → wpAnyT P md ops Q S st n l a w := by
 intro L
 induction L with
 | nil => intro n fuel l a hn _ h; subst hn; exact h
 | cons x L ih =>
   intro n fuel l a hn hk h
   obtain ⟨n', rfl⟩ : ∃ m, n = m + 1 := ⟨fuel + L.length, by rw [hn, List.length_cons]; omega⟩
   unfold skipOk at hk
   simp only [Bool.and_eq_true] at hk
   obtain ⟨h1, h2, h3, h4, h5, h6⟩ := hk
   cases ho : ops[x.1]? with
   | none => rw [ho] at h1; cases h1
   | some o =>
     rw [ho] at h1
     simp only [Bool.and_eq_true, Bool.not_eq_true'] at h1
     cases hd : o.dst with
     | none => rw [hd] at h1; cases h1.1
     | some d =>
       rw [hd] at h1
       simp only [beq_iff_eq] at h1
       obtain ⟨rfl, hw⟩ := h1
       refine wpAnyT_take (v := undef) ho hd h2 h3 h4 h5 (fun c a w => hQ c a x.2 w) (Or.inr ⟨hw, rfl⟩) hS ?_
       exact ih n' fuel _ _ (by rw [List.length_cons] at hn; omega) h6 h
end
end Go.Proofs.YtfagfooggcinoaaGreat
namespace Go.Proofs.YtfagfooggcinoaaGreat
open Go.RowKit
set_option linter.unusedVariables false
def blkOf (n : Nat) : Code → Option Code
 | .block id b => if id = n then some b else blkOf n b
 | .seq a b => (blkOf n a).or (blkOf n b)
 | .cond _ a b => (blkOf n a).or (blkOf n b)
 | .loop b => blkOf n b
 | .scope b => blkOf n b
 | _ => none
def regOf (n : Nat) : Code → Option Code
 | .region id ops d => if id = n then some (.region id ops d) else none
 | .block _ b => regOf n b
 | .seq a b => (regOf n a).or (regOf n b)
 | .cond _ a b => (regOf n a).or (regOf n b)
 | .loop b => regOf n b
 | .scope b => regOf n b
 | _ => none
def OnlyN (K : Act → World → Prop) : Exit → Act → World → Prop
 | .normal, a, w => K a w
 | _, _, _ => False
theorem wp_onlyN {P : Program} {c : Code} {K : Act → World → Prop} {Q : Exit → Act → World → Prop} {a : Act} {w : World} (h : c.wp P (OnlyN K) a w) (hq : ∀ a w, K a w → Q .normal a w) : c.wp P Q a w :=
 wp_mono h fun e a w he => by
  cases e with
  | normal => exact hq a w he
  | _ => exact he.elim
end Go.Proofs.YtfagfooggcinoaaGreat
namespace Go.Proofs.YtfagfooggcinoaaGreat
open Go.RowKit
set_option linter.unusedVariables false
theorem OwnM.snoc {w wa w8 : World} {base n k : Nat} {v v8 u y : Value} {l : List Mk} {vc vh : Nat → Value} {vr : Nat → Nat → Value} (h : OwnM w base v n k l vc vh vr) (hk : l.length = k) (hx : Ext w wa) (hb : base ≤ w.heap.size)
  (hu : Row wa w.heap.size 4 1 u n (List.replicate n (.bool false))) (hy : Row wa w.heap.size 39 1 y n (List.replicate n (.slice none 0 0))) (hg : wa.grownBy w8 v.ownBlock)
  (ho : Row w8 base 53 3 v8 (k + 1) (mkCells l vc vh ++ [.int .i64 (-1), u, y])) :
  OwnM w8 base v8 n (k + 1) (l ++ [mk0 n]) (putF vc k u) (putF vh k y) (fun i j => if i = k then .slice none 0 0 else vr i j) := by
 have hrow := h.row.ext hx
 have hgk : ∀ {b : Nat} {e : TypeId} {s : Nat} {x : Value} {m : Nat} {xs : List Value}, Row w b e s x m xs → 53 ≠ e → Row w8 b e s x m xs := fun hr hne => (hr.ext hx).grown hg ((hr.ext hx).apart hrow (Ne.symm hne))
 have hla : ∀ i, i < k → (l ++ [mk0 n])[i]! = l[i]! := fun i hi => by
  rw [getElem!_pos _ i (by simp; omega), getElem!_pos l i (by omega), List.getElem_append_left]
 have hlk : (l ++ [mk0 n])[k]! = mk0 n := by
  rw [getElem!_pos _ k (by simp; omega)]
  simp [← hk]
 refine ⟨?_, by simp; omega, fun i hi => ?_, fun i hi => ?_, fun i hi => ?_, fun i hi j hj => ?_, fun i j hi hj hij => ?_, fun i j hi hj hij => ?_, fun i j a c hi hj ha hc hn => ?_⟩
 ·have e := mkCells_snoc (l := l) (vc := vc) (vh := vh) (mk0 n) u y
  rw [hk] at e
  rw [e, show (l ++ [mk0 n]).length = k + 1 by simp [hk]]
  exact ho
 ·by_cases e : i = k
  ·subst e; rw [hlk]; simp [mk0]
  ·rw [hla i (by omega)]; exact h.shp i (by omega)
 ·by_cases e : i = k
  ·subst e
   rw [putF_same, hlk, show (mk0 n).closed.map Value.bool = List.replicate n (.bool false) by simp [mk0]]
   exact (hu.grown hg (hu.apart hrow (by decide))).mono hb
  ·rw [putF_ne e, hla i (by omega)]; exact hgk (h.clo i (by omega)) (by decide)
 ·by_cases e : i = k
  ·subst e
   rw [putF_same, show ((List.range n).map fun j => if i = i then Value.slice none 0 0 else vr i j) = List.replicate n (.slice none 0 0) from by
    refine List.ext_getElem (by simp) fun j h1 h2 => by simp]
   exact (hy.grown hg (hy.apart hrow (by decide))).mono hb
  ·rw [putF_ne e, show ((List.range n).map fun j => if i = k then Value.slice none 0 0 else vr i j) = (List.range n).map (vr i) from List.map_congr_left fun j _ => if_neg e]
   exact hgk (h.hdr i (by omega)) (by decide)
 ·by_cases e : i = k
  ·subst e
   rw [if_pos rfl, hlk]
   have : (mk0 n).chan[j]! = [] := by
    have hj' : j < (mk0 n).chan.length := by simpa [mk0] using hj
    rw [getElem!_pos _ j hj']; simp [mk0]
   rw [this]; exact Row.mkNil _ _ _ _
  ·rw [if_neg e, hla i (by omega)]; exact hgk (h.cha i (by omega) j hj) (by decide)
 ·by_cases e1 : i = k
  ·subst e1
   rw [putF_same, putF_ne (Ne.symm hij)]
   exact (dis_new (h.clo j (by omega)) hu (Nat.le_refl _)).symm
  ·by_cases e2 : j = k
   ·subst e2
    rw [putF_same, putF_ne e1]
    exact dis_new (h.clo i (by omega)) hu (Nat.le_refl _)
   ·rw [putF_ne e1, putF_ne e2]; exact h.dc i j (by omega) (by omega) hij
 ·by_cases e1 : i = k
  ·subst e1
   rw [putF_same, putF_ne (Ne.symm hij)]
   exact (dis_new (h.hdr j (by omega)) hy (Nat.le_refl _)).symm
  ·by_cases e2 : j = k
   ·subst e2
    rw [putF_same, putF_ne e1]
    exact dis_new (h.hdr i (by omega)) hy (Nat.le_refl _)
   ·rw [putF_ne e1, putF_ne e2]; exact h.dh i j (by omega) (by omega) hij
 ·by_cases e1 : i = k
  ·rw [if_pos e1]; exact Dis.nilL
  ·by_cases e2 : a = k
   ·rw [if_pos e2]; exact Dis.nilR
   ·rw [if_neg e1, if_neg e2]; exact h.dr i j a c (by omega) hj (by omega) hc hn
theorem OwnM.none (w : World) (base n : Nat) : OwnM w base (.slice none 0 0) n 0 [] (fun _ => .slice none 0 0) (fun _ => .slice none 0 0) (fun _ _ => .slice none 0 0) :=
 ⟨Row.mkNil _ _ _ _, Nat.le_refl _, fun i hi => absurd hi (Nat.not_lt_zero _), fun i hi => absurd hi (Nat.not_lt_zero _), fun i hi => absurd hi (Nat.not_lt_zero _), fun i hi => absurd hi (Nat.not_lt_zero _), fun i j hi => absurd hi (Nat.not_lt_zero _), fun i j hi => absurd hi (Nat.not_lt_zero _), fun i j a c hi => absurd hi (Nat.not_lt_zero _)⟩
theorem enters_59 : ∀ args w, (callFunc 59 args).run Tryz.prog w = .ok (.enter 59 args) w := enters_of Tryz.func59 (by kernel_rfl) rfl
set_option maxHeartbeats 8000000 in
set_option maxRecDepth 100000 in
theorem beginR_calls (n p : Nat) (c : Int) (w : World) (hn : n ≤ 1000) (hp : p < n) :
  Calls Tryz.prog 59 #[.int .i64 n, .int .i64 p, .int .i64 c] w fun e w' => MkOut n (recL (begL n) p c) w w' e := by
 obtain ⟨im, him, mz0, mz1, mz2⟩ := info_partsM info_markM
 obtain ⟨ib, hib, bz0, bz1, bz2⟩ := info_partsM info_boolM
 obtain ⟨ir, hir, rz0, rz1, rz2⟩ := info_partsM info_rowsM
 have HMB := Lib.hid (fun W : World => run_make (P := Tryz.prog) W 51 4 ib (.bool false) Tryz.underlying51 hib bz0 .i64 .i64 (n : Int) (n : Int) (by omega) (by omega) (by rw [bz2]; omega) (by omega))
 have HMR := Lib.hid (fun W : World => run_make (P := Tryz.prog) W 25 39 ir (.slice none 0 0) Tryz.underlying25 hir rz0 .i64 .i64 (n : Int) (n : Int) (by omega) (by omega) (by rw [rz2]; omega) (by omega))
 rw [bz1] at HMB
 rw [rz1] at HMR
 simp only [Int.toNat_natCast, Nat.mul_one] at HMB HMR
 have hpz : (p : Int) < (n : Int) := by omega
 have hpz0 : (0 : Int) ≤ (p : Int) := by omega
 go_enter Tryz.func59, Tryz.ntmps59
 go_wp2
 go_loopg [7, 8] n (fun g s7 s8 wr => ∃ (k : Nat) (vc vh : Nat → Value) (vr : Nat → Nat → Value), k ≤ n ∧ n - k ≤ g ∧ s8 = .int .i64 k ∧ Aside (OwnM wr w.heap.size s7 n k (List.replicate k (mk0 n)) vc vh vr) ∧ Aside (Ext w wr))
 case atStart => exact ⟨0, _, _, _, Nat.zero_le _, by omega, rfl, (show OwnM _ _ _ _ _ _ _ _ _ from OwnM.none _ _ _), (show Ext _ _ from Ext.rf _)⟩
 case round =>
  obtain ⟨k, vc, vh, vr, hk, hgk, rfl, HO, HE⟩ := hrel
  obtain ⟨xa, xc, hxe, hxz⟩ := HO.out.row.any
  rw [List.length_replicate] at hxe hxz
  subst hxe
  clear hxz
  by_cases hlt : k < n
  case pos =>
   have hkz : (k : Int) < (n : Int) := by omega
   have hmb := HMB.out
   have hmr := HMR.out
   have HRW : Hid (Row wr w.heap.size 53 3 (.slice xa k xc) k (mkCells (List.replicate k (mk0 n)) vc vh)) := Lib.hid (by have h := HO.out.row; rwa [List.length_replicate] at h)
   have hsz := HE.out.sz
   go_upto_region 5 with (fail)
   refine wp_region_tail (fun W => True) 8 (by kernel_rfl) trivial (fun hHeld => ?_)
   refine tkA 0 14 (v := ?_) rfl rfl (by kernel_rfl) (fun _ _ _ h => h) ?_ (by assumption) ?_
   rotate_left
   ·(intro w hSw; (try dsimp only at hSw); go_simp; try (with_reducible rfl))
   try simp only [Act.put]
   try simp only [List.setIfInBounds_toArray]
   try simp only [List.set_cons_zero, List.set_cons_succ]
   refine tkA 1 15 (v := ?_) rfl rfl (by kernel_rfl) (fun _ _ _ h => h) ?_ (by assumption) ?_
   rotate_left
   ·(intro w hSw; (try dsimp only at hSw); go_simp; try (with_reducible rfl))
   try simp only [Act.put]
   try simp only [List.setIfInBounds_toArray]
   try simp only [List.set_cons_zero, List.set_cons_succ]
   refine tkA 3 17 (v := ?_) rfl rfl (by kernel_rfl) (fun _ _ _ h => h) ?_ (by assumption) ?_
   rotate_left
   ·(intro w hSw; (try dsimp only at hSw); go_simp; try (with_reducible rfl))
   try simp only [Act.put]
   try simp only [List.setIfInBounds_toArray]
   try simp only [List.set_cons_zero, List.set_cons_succ]
   refine wpAnyT_ready (rs := [2, 4]) (by kernel_rfl) (by simp) ?_
   refine AllT.cons (i := 2) rfl (fun K hK => ?_) ?_
   ·go_simp
    refine hK.out _ _ ?_ (fun hHeld => ?_)
    ·(try dsimp only)
     (first | done | trivial)
    clear hK K
    try simp only [Act.put]
    try simp only [List.setIfInBounds_toArray]
    try simp only [List.set_cons_zero, List.set_cons_succ]
    refine wpAnyT_step (i := 4) (by kernel_rfl) rfl (fun K hK => ?_)
    go_simp
    have HXA : Hid (Ext wr ((wr.alloc (.cells (madeCells #[.bool false] n) 4)).alloc (.cells (madeCells #[.slice none 0 0] n) 39)).drew) := Lib.hid (((Ext.rf wr).al _).al _).dr
    have H1 : Hid (((wr.alloc (.cells (madeCells #[.bool false] n) 4)).alloc (.cells (madeCells #[.slice none 0 0] n) 39)).drew.heap[wr.heap.size]? = some (.cells (madeCells #[.bool false] n) 4)) := Lib.hid ((((Ext.rf _).al _).dr).hp (heap_alloc_new wr _))
    have H2 : Hid (((wr.alloc (.cells (madeCells #[.bool false] n) 4)).alloc (.cells (madeCells #[.slice none 0 0] n) 39)).drew.heap[wr.heap.size + 1]? = some (.cells (madeCells #[.slice none 0 0] n) 39)) := Lib.hid ((Ext.rf _).dr.hp (heap_new_eq (by simp)))
    generalize ((wr.alloc (.cells (madeCells #[.bool false] n) 4)).alloc (.cells (madeCells #[.slice none 0 0] n) 39)).drew = wA at *
    have HU := H1
    have HY := H2
    have HRA := Lib.hid (HRW.out.ext HXA.out)
    have HEA := Lib.hid (HE.out.trans' HXA.out)
    refine hK.out _ _ ?_ (fun hHeld => ?_)
    ·(try dsimp only)
     (first | done | trivial)
    clear hK K
    try simp only [Act.put]
    try simp only [List.setIfInBounds_toArray]
    try simp only [List.set_cons_zero, List.set_cons_succ]
    refine tkA 5 19 (v := ?_) rfl rfl (by kernel_rfl) (fun _ _ _ h => h) ?_ (by assumption) ?_
    rotate_left
    ·(intro w hSw; (try dsimp only at hSw); go_simp; try (with_reducible rfl))
    try simp only [Act.put]
    try simp only [List.setIfInBounds_toArray]
    try simp only [List.set_cons_zero, List.set_cons_succ]
    refine wpAnyT_step (i := 6) (by kernel_rfl) rfl (fun K hK => ?_)
    go_simp
    have HXB : Hid (Ext wA (wA.alloc (.cells #[.int .i64 (-1), .slice (some ⟨wr.heap.size, 0, none⟩) n n, .slice (some ⟨wr.heap.size + 1, 0, none⟩) n n] 53))) := Lib.hid ((Ext.rf wA).al _)
    have HNB : Hid ((wA.alloc (.cells #[.int .i64 (-1), .slice (some ⟨wr.heap.size, 0, none⟩) n n, .slice (some ⟨wr.heap.size + 1, 0, none⟩) n n] 53)).heap[wA.heap.size]? = some (.cells #[.int .i64 (-1), .slice (some ⟨wr.heap.size, 0, none⟩) n n, .slice (some ⟨wr.heap.size + 1, 0, none⟩) n n] 53)) := Lib.hid (heap_alloc_new wA _)
    generalize wA.alloc (.cells #[.int .i64 (-1), .slice (some ⟨wr.heap.size, 0, none⟩) n n, .slice (some ⟨wr.heap.size + 1, 0, none⟩) n n] 53) = wB at *
    have HXC := Lib.hid (HXA.out.trans' HXB.out)
    refine hK.out _ _ ?_ (fun hHeld => ?_)
    ·(try dsimp only)
     (first | done | trivial)
    clear hK K
    try simp only [Act.put]
    try simp only [List.setIfInBounds_toArray]
    try simp only [List.set_cons_zero, List.set_cons_succ]
    refine wpAnyT_step (i := 7) (by kernel_rfl) rfl (fun K hK => ?_)
    refine step_append_rowN rfl _ _ 29 rfl w.heap.size 53 im (.agg #[.int .i64 0, .slice none 0 0, .slice none 0 0]) 3 56 Tryz.underlying29 him mz0 mz1 mz2 rfl (by decide) (.slice xa k xc) k (mkCells (List.replicate k (mk0 n)) vc vh) rfl (HRA.out.ext HXB.out) wA.heap.size 1 [.int .i64 (-1), .slice (some ⟨wr.heap.size, 0, none⟩) n n, .slice (some ⟨wr.heap.size + 1, 0, none⟩) n n] rfl rfl ⟨_, HNB.out⟩ (by simp [Value.oneCell']) (by unfold maxLen; omega) (by omega) (HEA.out.trans' HXB.out).sz ?_
    intro v8 w8 hown8 hgrow8 hblk8
    obtain ⟨x8, y8, rfl, _⟩ := hown8.any
    have HN := Lib.hid (HO.out.snoc (by rw [List.length_replicate]) HXC.out HE.out.sz ((row_made HU.out (by omega) (by unfold maxLen; omega)).ext HXB.out) ((row_made HY.out (by omega) (by unfold maxLen; omega)).ext HXB.out) hgrow8 hown8)
    have HX8 := Lib.hid ((HE.out.trans' HXC.out).gr hgrow8 (fun z hz => ((HRA.out.ext HXB.out).lt z hz).1))
    clear hown8 hgrow8 hblk8
    refine hK.out _ _ ?_ (fun hHeld => ?_)
    ·(try dsimp only)
     (first | done | trivial)
    clear hK K
    try simp only [Act.put]
    try simp only [List.setIfInBounds_toArray]
    try simp only [List.set_cons_zero, List.set_cons_succ]
    refine wpAnyT_last (by kernel_rfl) rfl (by kernel_rfl) (fun K hK => ?_)
    go_simp
    refine hK.out _ _ ?_
    go_wp2
    go_roundg (n - (k + 1))
    case measure => omega
    case rel => exact ⟨k + 1, _, _, _, by omega, by omega, by go_num, (show OwnM _ _ _ _ _ (List.replicate (k + 1) (mk0 n)) _ _ _ from by rw [List.replicate_succ']; exact HN.out), (show Ext _ _ from HX8.out)⟩
   refine AllT.cons (i := 4) rfl (fun K hK => ?_) AllT.nil
   go_simp
   refine hK.out _ _ ?_ (fun hHeld => ?_)
   ·(try dsimp only)
    (first | done | trivial)
   clear hK K
   try simp only [Act.put]
   try simp only [List.setIfInBounds_toArray]
   try simp only [List.set_cons_zero, List.set_cons_succ]
   refine wpAnyT_step (i := 2) (by kernel_rfl) rfl (fun K hK => ?_)
   go_simp
   have HXA : Hid (Ext wr ((wr.alloc (.cells (madeCells #[.slice none 0 0] n) 39)).alloc (.cells (madeCells #[.bool false] n) 4)).drew) := Lib.hid (((Ext.rf wr).al _).al _).dr
   have H1 : Hid (((wr.alloc (.cells (madeCells #[.slice none 0 0] n) 39)).alloc (.cells (madeCells #[.bool false] n) 4)).drew.heap[wr.heap.size]? = some (.cells (madeCells #[.slice none 0 0] n) 39)) := Lib.hid ((((Ext.rf _).al _).dr).hp (heap_alloc_new wr _))
   have H2 : Hid (((wr.alloc (.cells (madeCells #[.slice none 0 0] n) 39)).alloc (.cells (madeCells #[.bool false] n) 4)).drew.heap[wr.heap.size + 1]? = some (.cells (madeCells #[.bool false] n) 4)) := Lib.hid ((Ext.rf _).dr.hp (heap_new_eq (by simp)))
   generalize ((wr.alloc (.cells (madeCells #[.slice none 0 0] n) 39)).alloc (.cells (madeCells #[.bool false] n) 4)).drew = wA at *
   have HU := H2
   have HY := H1
   have HRA := Lib.hid (HRW.out.ext HXA.out)
   have HEA := Lib.hid (HE.out.trans' HXA.out)
   refine hK.out _ _ ?_ (fun hHeld => ?_)
   ·(try dsimp only)
    (first | done | trivial)
   clear hK K
   try simp only [Act.put]
   try simp only [List.setIfInBounds_toArray]
   try simp only [List.set_cons_zero, List.set_cons_succ]
   refine tkA 5 19 (v := ?_) rfl rfl (by kernel_rfl) (fun _ _ _ h => h) ?_ (by assumption) ?_
   rotate_left
   ·(intro w hSw; (try dsimp only at hSw); go_simp; try (with_reducible rfl))
   try simp only [Act.put]
   try simp only [List.setIfInBounds_toArray]
   try simp only [List.set_cons_zero, List.set_cons_succ]
   refine wpAnyT_step (i := 6) (by kernel_rfl) rfl (fun K hK => ?_)
   go_simp
   have HXB : Hid (Ext wA (wA.alloc (.cells #[.int .i64 (-1), .slice (some ⟨wr.heap.size + 1, 0, none⟩) n n, .slice (some ⟨wr.heap.size, 0, none⟩) n n] 53))) := Lib.hid ((Ext.rf wA).al _)
   have HNB : Hid ((wA.alloc (.cells #[.int .i64 (-1), .slice (some ⟨wr.heap.size + 1, 0, none⟩) n n, .slice (some ⟨wr.heap.size, 0, none⟩) n n] 53)).heap[wA.heap.size]? = some (.cells #[.int .i64 (-1), .slice (some ⟨wr.heap.size + 1, 0, none⟩) n n, .slice (some ⟨wr.heap.size, 0, none⟩) n n] 53)) := Lib.hid (heap_alloc_new wA _)
   generalize wA.alloc (.cells #[.int .i64 (-1), .slice (some ⟨wr.heap.size + 1, 0, none⟩) n n, .slice (some ⟨wr.heap.size, 0, none⟩) n n] 53) = wB at *
   have HXC := Lib.hid (HXA.out.trans' HXB.out)
   refine hK.out _ _ ?_ (fun hHeld => ?_)
   ·(try dsimp only)
    (first | done | trivial)
   clear hK K
   try simp only [Act.put]
   try simp only [List.setIfInBounds_toArray]
   try simp only [List.set_cons_zero, List.set_cons_succ]
   refine wpAnyT_step (i := 7) (by kernel_rfl) rfl (fun K hK => ?_)
   refine step_append_rowN rfl _ _ 29 rfl w.heap.size 53 im (.agg #[.int .i64 0, .slice none 0 0, .slice none 0 0]) 3 56 Tryz.underlying29 him mz0 mz1 mz2 rfl (by decide) (.slice xa k xc) k (mkCells (List.replicate k (mk0 n)) vc vh) rfl (HRA.out.ext HXB.out) wA.heap.size 1 [.int .i64 (-1), .slice (some ⟨wr.heap.size + 1, 0, none⟩) n n, .slice (some ⟨wr.heap.size, 0, none⟩) n n] rfl rfl ⟨_, HNB.out⟩ (by simp [Value.oneCell']) (by unfold maxLen; omega) (by omega) (HEA.out.trans' HXB.out).sz ?_
   intro v8 w8 hown8 hgrow8 hblk8
   obtain ⟨x8, y8, rfl, _⟩ := hown8.any
   have HN := Lib.hid (HO.out.snoc (by rw [List.length_replicate]) HXC.out HE.out.sz ((row_made HU.out (by omega) (by unfold maxLen; omega)).ext HXB.out) ((row_made HY.out (by omega) (by unfold maxLen; omega)).ext HXB.out) hgrow8 hown8)
   have HX8 := Lib.hid ((HE.out.trans' HXC.out).gr hgrow8 (fun z hz => ((HRA.out.ext HXB.out).lt z hz).1))
   clear hown8 hgrow8 hblk8
   refine hK.out _ _ ?_ (fun hHeld => ?_)
   ·(try dsimp only)
    (first | done | trivial)
   clear hK K
   try simp only [Act.put]
   try simp only [List.setIfInBounds_toArray]
   try simp only [List.set_cons_zero, List.set_cons_succ]
   refine wpAnyT_last (by kernel_rfl) rfl (by kernel_rfl) (fun K hK => ?_)
   go_simp
   refine hK.out _ _ ?_
   go_wp2
   go_roundg (n - (k + 1))
   case measure => omega
   case rel => exact ⟨k + 1, _, _, _, by omega, by omega, by go_num, (show OwnM _ _ _ _ _ (List.replicate (k + 1) (mk0 n)) _ _ _ from by rw [List.replicate_succ']; exact HN.out), (show Ext _ _ from HX8.out)⟩
  case neg =>
   have hkz : ¬ (k : Int) < (n : Int) := by omega
   obtain rfl : n = k := by omega
   have HOB : Hid (OwnM wr w.heap.size (.slice xa n xc) n n (begL n) vc vh vr) := HO
   obtain ⟨g, o, cap, hve, hg, hgw, hcap⟩ := HOB.out.shape (by rw [begL_len]; omega)
   rw [begL_len] at hve hcap
   simp only [Value.slice.injEq] at hve
   obtain ⟨rfl, _, rfl⟩ := hve
   obtain ⟨c0, c1, _, hf⟩ := HOB.out.cellsAt (i := p) (by rw [begL_len]; exact hp)
   obtain ⟨g2, o2, cc2, hv, hb, hg2, hnc, hbc, hf2⟩ := HOB.out.boolAt hp hp
   have hne : g ≠ g2 := by
    have h1 := HOB.out.clo p hp
    rw [hv] at h1
    obtain ⟨cs1, fr1, e1⟩ := row_hp HOB.out.row
    obtain ⟨cs2, fr2, e2⟩ := row_hp h1
    rintro rfl
    rw [e1] at e2
    simp at e2
   have f0 := hf (o + p * 3)
   have f2 := hf2 (o2 + p)
   rw [hv] at c1
   have HRC := Lib.hid (HOB.out.reco hp hp c hv)
   have HEX := Lib.hid ((HE.out.st (p := ⟨g, o + p * 3, none⟩) hg (.int .i64 c)).st (p := ⟨g2, o2 + p, none⟩) hb (.bool true))
   generalize (begL n)[p]!.cnt = z0 at *
   generalize (begL n)[p]!.closed[p]! = z1 at *
   clear hf hf2 hv HO HOB
   go_wp2
   go_ret
   exact ⟨_, vc, vh, vr, rfl, by rw [recL_len, begL_len]; exact HRC.out, HEX.out⟩
end Go.Proofs.YtfagfooggcinoaaGreat
namespace Go.Proofs.YtfagfooggcinoaaGreat
open Go.RowKit
set_option linter.unusedVariables false
theorem step_append_rowM {P : Program} {ops : Array Oper} {o : Oper} {a : Act} {w : World} {K : Act → World → Prop} {Q : Exit → Act → World → Prop} {E : Prop}
  (hgd : o.guard = none) (s x : Operand) (t : TypeId)
  (ho : o.op = .call { callee := .builtin .append, args := #[s, x], argTypes := #[t, t] })
  (base : Nat) (e : TypeId) (i : TypeInfo) (z : Value) (size bytes : Nat) (ht : P.underlying t = some (.slice e)) (hi : P.info? e = some i) (hz : i.zero = some z)
  (hsize : i.size = size) (hby : i.bytes = bytes) (hzs : z.cells.size = size) (hsz : 0 < size)
  (v : Value) (n : Nat) (xs : List Value) (hs : a.eval s = v) (hown : Row w base e size v n xs)
  (ao : Option Addr) (m c : Nat) (news : List Value) (hx : a.eval x = .slice ao m c) (hl : news.length = m * size) (hm0 : 0 < m → ∃ ad, ao = some ad ∧ ∀ j u, news[j]? = some u → w.cell? (ad.add j) = some u) (h1 : ∀ u ∈ news, u.oneCell' = true)
  (h63 : n + m ≤ maxLen) (hbytes : (n + m) * bytes ≤ 140737488355328) (hbase : base ≤ w.heap.size)
  (h : ∀ v' w', Row w' base e size v' (n + m) (xs ++ news) → w.grownBy w' v.ownBlock → (v'.ownBlock = v.ownBlock ∨ ∃ k, v'.ownBlock = some k ∧ w.heap.size ≤ k) → K (a.put o.dst v') w') :
  if Region.wanted o (yielded ops a.tmps) = true then Oper.wp P o a w K Q else E := by
 have hw : Region.wanted o (yielded ops a.tmps) = true := by simp [Region.wanted, hgd]
 rw [if_pos hw]
 obtain ⟨v', w', hr, h2, h3, h4⟩ := run_append_row (P := P) w base t o.type e i z size bytes ht hi hz hsize hby hzs hsz v n xs hown ao m c news hl hm0 h1 h63 hbytes hbase
 unfold Oper.wp execOp
 simp only [ho, resolve, invoke, builtin, Sem.run_bind, Sem.run_pure, Result.andThen_ok, List.map_toArray, List.map_cons, List.map_nil, hs, hx, hr]
 exact h v' w' h2 h3 h4
end Go.Proofs.YtfagfooggcinoaaGreat
namespace Go.Proofs.YtfagfooggcinoaaGreat
open Go.RowKit
set_option linter.unusedVariables false
structure RV where
 g : Nat
 o : Nat
 cap : Nat
 ga : Nat
 oa : Nat
 ca : Nat
 n : Nat
 d : Int
 tv : Value
 rv : Value
 vc : Nat → Value
 vh : Nat → Value
abbrev RV.lv (V : RV) : Value := .slice (some ⟨V.g, V.o, none⟩) V.n V.cap
abbrev RV.av (V : RV) : Value := .slice (some ⟨V.ga, V.oa, none⟩) V.n V.ca
abbrev RV.st (V : RV) : Value := .agg #[V.tv, V.rv, V.lv, V.av, .int .i64 V.d]
structure RefAt (w0 w : World) (V : RV) (A : Sn) (vr : Nat → Nat → Value) : Prop where
 ext : Ext w0 w
 mks : OwnM w w0.heap.size V.lv V.n V.n A.l V.vc V.vh vr
 ll : A.l.length = V.n
 atr : Row w w0.heap.size 3 1 V.av V.n (A.at_.map (Value.int .i64))
 la : A.at_.length = V.n
 ad : ∀ i j, i < V.n → j < V.n → Dis V.av (vr i j)
section
variable {w0 w w' : World} {V : RV} {A : Sn} {vr vr' : Nat → Nat → Value}
theorem RefAt.grow (h : RefAt w0 w V A vr) (x : Ext w w') : RefAt w0 w' V A vr := ⟨h.ext.trans' x, h.mks.ext x, h.ll, h.atr.ext x, h.la, h.ad⟩
theorem RefAt.stK {b o : Nat} {T : TypeId} {cs : Array Value} {fr : Nat × Nat} {u : Value} {l' : List Mk} (h : RefAt w0 w V A vr) (hb : w.heap[b]? = some (.cells cs T fr)) (h0 : w0.heap.size ≤ b) (h1 : T ≠ 3)
  (hm : OwnM (w.setCell ⟨b, o, none⟩ u) w0.heap.size V.lv V.n V.n l' V.vc V.vh vr) (hl : l'.length = V.n) : RefAt w0 (w.setCell ⟨b, o, none⟩ u) V ⟨l', A.at_⟩ vr :=
 ⟨h.ext.st (p := ⟨b, o, none⟩) h0 u, hm, hl, h.atr.stO hb h1 u, h.la, h.ad⟩
theorem RefAt.setN (h : RefAt w0 w V A vr) {p : Nat} (hp : p < V.n) (c : Int) : RefAt w0 (w.setCell ⟨V.g, V.o + p * 3, none⟩ (.int .i64 c)) V ⟨A.l.set p { A.l[p]! with cnt := c }, A.at_⟩ vr := by
 obtain ⟨cur, fr, hg⟩ := row_hp h.mks.row
 exact h.stK hg (h.mks.row.lt V.g rfl).1 (by decide) (h.mks.setN (by rw [h.ll]; exact hp) c) (by rw [List.length_set]; exact h.ll)
theorem RefAt.setB (h : RefAt w0 w V A vr) {q f g2 o2 c2 : Nat} (hq : q < V.n) (hf : f < V.n) (hv : V.vc q = .slice (some ⟨g2, o2, none⟩) V.n c2) : RefAt w0 (w.setCell ⟨g2, o2 + f, none⟩ (.bool true)) V ⟨closeK A.l q f, A.at_⟩ vr := by
 have h1 := h.mks.clo q hq
 rw [hv] at h1
 obtain ⟨cur, fr, hg⟩ := row_hp h1
 exact h.stK hg (h1.lt g2 rfl).1 (by decide) (h.mks.setB hq hf hv) (by rw [closeK_len]; exact h.ll)
theorem RefAt.setA (h : RefAt w0 w V A vr) {q : Nat} (hq : q < V.n) (i : Nat) : RefAt w0 (w.setCell ⟨V.ga, V.oa + q, none⟩ (.int .i64 i)) V ⟨A.l, A.at_.set q i⟩ vr := by
 obtain ⟨cur, fr, hg⟩ := row_hp h.atr
 have hb := (h.atr.lt V.ga rfl).1
 refine ⟨h.ext.st (p := ⟨V.ga, V.oa + q, none⟩) hb _, ⟨h.mks.row.stO hg (by decide) _, h.mks.kle, h.mks.shp, fun i hi => (h.mks.clo i hi).stO hg (by decide) _, fun i hi => (h.mks.hdr i hi).stO hg (by decide) _, fun i hi j hj => ?_, h.mks.dc, h.mks.dh, h.mks.dr⟩, h.ll, ?_, by rw [List.length_set]; exact h.la, h.ad⟩
 ·refine (h.mks.cha i hi j hj).st (p := ⟨V.ga, V.oa + q, none⟩) ?_ _
  intro e
  rcases h.ad i j hi hj with h1 | h1
  ·cases h1
  ·exact h1 e.symm
 ·have h1 := h.atr.set q (.int .i64 i) (by omega)
  rw [← List.map_set] at h1
  exact h1
theorem RefAt.keepN (h : RefAt w0 w V A vr) (o : Nat) (u : Value) : KeepT w (w.setCell ⟨V.g, o, none⟩ u) := by
 obtain ⟨cur, fr, hg⟩ := row_hp h.mks.row
 exact keep_st hg (.inl rfl)
theorem RefAt.keepB (h : RefAt w0 w V A vr) {q g2 o2 c2 : Nat} (hq : q < V.n) (hv : V.vc q = .slice (some ⟨g2, o2, none⟩) V.n c2) (o : Nat) (u : Value) : KeepT w (w.setCell ⟨g2, o, none⟩ u) := by
 have h1 := h.mks.clo q hq
 rw [hv] at h1
 obtain ⟨cur, fr, hg⟩ := row_hp h1
 exact keep_st hg (.inr (.inl rfl))
theorem RefAt.keepA (h : RefAt w0 w V A vr) (o : Nat) (u : Value) : KeepT w (w.setCell ⟨V.ga, o, none⟩ u) := by
 obtain ⟨cur, fr, hg⟩ := row_hp h.atr
 exact keep_st hg (.inr (.inr (.inr (.inr rfl))))
end
def RefE (w0 w : World) (V : RV) (A : Sn) : Prop := ∃ vr, RefAt w0 w V A vr
set_option maxHeartbeats 8000000 in
set_option maxRecDepth 100000 in
theorem recordR50_calls (w0 w : World) (V : RV) (A : Sn) (vr : Nat → Nat → Value) (t : Tr) (b : Nat) (r : List (List Int)) (q i : Nat) (h : RefAt w0 w V A vr) (hA : InvA t A b) (hrv : Sl RInts 1 w0 V.rv r) (hn : V.n = t.length) (hq : q < V.n) (hi : i < r.length) (hri : r[i]!.length = V.n) (hn2 : V.n ≤ 1000) (hrl : r.length ≤ 1000000) :
  Calls Tryz.prog 62 #[V.st, .int .i64 q, .int .i64 i] w fun e w' => e = .returned (.tuple #[]) ∧ KeepT w w' ∧ RefE w0 w' V (aRec? r A q i) := by
 have HX1 := Lib.hid ((Ext.rf w).al (.cells #[V.tv, V.rv, V.lv, V.av, .int .i64 V.d] 96))
 have HB1 := Lib.hid (heap_alloc_new w (.cells #[V.tv, V.rv, V.lv, V.av, .int .i64 V.d] 96))
 obtain ⟨rB, rO, rC, uB, uO, uC, hrve, hrC, _, r0, huC, _, u0⟩ := runAt (Sl.ext rints_lasts hrv (h.ext.trans' HX1.out)) hi (by rw [hri]; exact hq)
 have HRE := Lib.hid hrve
 have HR1 := Lib.hid (h.grow HX1.out)
 obtain ⟨m0, m1, _, mf⟩ := HR1.out.mks.cellsAt (i := q) (by rw [h.ll]; exact hq)
 obtain ⟨g2, o2, c2, hv, hgb2, hgw2, hnc2, k1, hf2⟩ := HR1.out.mks.boolAt (i := q) (j := q) hq hq
 rw [hv] at m1
 have HV2 := Lib.hid hv
 have b0 := cellOf HB1.out 0
 have b1 := cellOf HB1.out 1
 have b2 := cellOf HB1.out 2
 have b3 := cellOf HB1.out 3
 simp only [List.getElem?_toArray, List.getElem?_cons_zero, List.getElem?_cons_succ] at b0 b1 b2 b3
 replace b1 := b1.trans (congrArg some hrve)
 have hcq := hA.cnt q (by omega)
 clear hn
 have HC0 : Hid (∀ _ : A.l[q]!.cnt ≠ -1, aRec? r A q i = A) := Lib.hid (fun hh => by unfold aRec?; rw [if_neg hh])
 have HC1 : Hid (∀ _ : A.l[q]!.cnt = -1, aRec? r A q i = aRec r A q i) := Lib.hid (fun hh => by unfold aRec?; rw [if_pos hh])
 have HBX := Lib.hid hgb2
 have f0 := mf (V.o + q * 3)
 have f2 := hf2 (o2 + q)
 obtain ⟨av0, ha0⟩ : ∃ u, (A.at_.map (Value.int .i64))[q]? = some u := ⟨_, List.getElem?_eq_getElem (by rw [List.length_map, h.la]; exact hq)⟩
 have a0 := HR1.out.atr.cell q (by omega)
 rw [ha0] at a0
 have fa := HR1.out.atr.free (V.oa + q)
 obtain ⟨R, hR⟩ : ∃ R, r.length = R := ⟨_, rfl⟩
 rw [hR] at b1 hi hrC
 generalize A.l[q]!.cnt = cn at *
 generalize A.l[q]!.closed[q]! = z1 at *
 obtain ⟨rx, hrx⟩ : ∃ x, rAt r i q = x := ⟨_, rfl⟩
 rw [hrx] at u0
 have HRX := Lib.hid hrx.symm
 have hqn : (q : Int) < (V.n : Int) := by omega
 have hq0 : (0 : Int) ≤ (q : Int) := by omega
 have hin : (i : Int) < (R : Int) := by omega
 have hi0 : (0 : Int) ≤ (i : Int) := by omega
 have HRL := Lib.hid hri
 rw [hri] at r0
 have HW := Lib.hid (Ext.rf w)
 clear h hA hrv hrve hf2 mf hv hgb2 hgw2 hnc2 ha0 hR hri hrx
 by_cases hc : cn = -1
 case neg =>
  have d0 : decide (0 ≤ cn) = true := decide_eq_true (by omega)
  have HAE := Lib.hid (HC0.out hc)
  clear hc hcq
  go_enter Tryz.func62, Tryz.ntmps62
  go_wp2
  refine bodyPost_ret (v := .tuple #[]) (by simp [results, Tryz.results62, go_sem]) rfl ⟨rfl, KeepT.of HX1.out, vr, ?_⟩
  rw [HAE.out]; exact HR1.out
 case pos =>
  subst hc
  have d0 : decide (0 ≤ (-1 : Int)) = false := by decide
  have HAE := Lib.hid (HC1.out rfl)
  clear hcq
  go_enter Tryz.func62, Tryz.ntmps62
  go_upto_region 2 with (fail)
  generalize hw1 : w.alloc (.cells #[V.tv, V.rv, V.lv, V.av, .int .i64 V.d] 96) = w1 at *
  clear hw1
  refine wp_region_tail (fun W => W.cell? ⟨w.heap.size, 2, none⟩ = some V.lv ∧ W.cell? ⟨w.heap.size, 1, none⟩ = some (.slice (some ⟨rB, rO, none⟩) R rC) ∧ W.cell? ⟨rB, rO + i, none⟩ = some (.slice (some ⟨uB, uO, none⟩) V.n uC) ∧ W.cell? ⟨uB, uO + q, none⟩ = some (.int .i64 rx)) 13 (by kernel_rfl) ⟨b2, b1, r0, u0⟩ (fun hHeld => ?_)
  have HRD := Lib.hid (HR1.out.grow (Ext.rf w1).dr)
  have HKD := Lib.hid (KeepT.of (HX1.out.trans' (Ext.rf w1).dr))
  have HBD := Lib.hid ((Ext.rf w1).dr.hp HB1.out)
  have m0 : w1.drew.cell? ⟨V.g, V.o + q * 3, none⟩ = some (.int .i64 (-1)) := m0
  have f0 : w1.drew.frozen? ⟨V.g, V.o + q * 3, none⟩ = false := f0
  clear m1 k1 f2 a0 fa b0 b3
  generalize w1.drew = wd at *
  refine tkA 0 13 (v := ?_) rfl rfl (by kernel_rfl) (fun _ _ _ h => h) ?_ (by assumption) ?_
  rotate_left
  ·(intro w hSw; (try dsimp only at hSw); go_simp; try (with_reducible rfl))
  try simp only [Act.put]
  try simp only [List.setIfInBounds_toArray]
  try simp only [List.set_cons_zero, List.set_cons_succ]
  refine tkA 1 14 (v := ?_) rfl rfl (by kernel_rfl) (fun _ _ _ h => h) ?_ (by assumption) ?_
  rotate_left
  ·(intro w hSw; (try dsimp only at hSw); go_simp; try (with_reducible rfl))
  try simp only [Act.put]
  try simp only [List.setIfInBounds_toArray]
  try simp only [List.set_cons_zero, List.set_cons_succ]
  refine tkA 2 15 (v := ?_) rfl rfl (by kernel_rfl) (fun _ _ _ h => h) ?_ (by assumption) ?_
  rotate_left
  ·(intro w hSw; (try dsimp only at hSw); go_simp; try (with_reducible rfl))
  try simp only [Act.put]
  try simp only [List.setIfInBounds_toArray]
  try simp only [List.set_cons_zero, List.set_cons_succ]
  refine tkA 3 16 (v := ?_) rfl rfl (by kernel_rfl) (fun _ _ _ h => h) ?_ (by assumption) ?_
  rotate_left
  ·(intro w hSw; (try dsimp only at hSw); go_simp; try (with_reducible rfl))
  try simp only [Act.put]
  try simp only [List.setIfInBounds_toArray]
  try simp only [List.set_cons_zero, List.set_cons_succ]
  refine tkA 4 17 (v := ?_) rfl rfl (by kernel_rfl) (fun _ _ _ h => h) ?_ (by assumption) ?_
  rotate_left
  ·(intro w hSw; (try dsimp only at hSw); go_simp; try (with_reducible rfl))
  try simp only [Act.put]
  try simp only [List.setIfInBounds_toArray]
  try simp only [List.set_cons_zero, List.set_cons_succ]
  refine tkA 5 18 (v := ?_) rfl rfl (by kernel_rfl) (fun _ _ _ h => h) ?_ (by assumption) ?_
  rotate_left
  ·(intro w hSw; (try dsimp only at hSw); go_simp; try (with_reducible rfl))
  try simp only [Act.put]
  try simp only [List.setIfInBounds_toArray]
  try simp only [List.set_cons_zero, List.set_cons_succ]
  refine tkA 6 19 (v := ?_) rfl rfl (by kernel_rfl) (fun _ _ _ h => h) ?_ (by assumption) ?_
  rotate_left
  ·(intro w hSw; (try dsimp only at hSw); go_simp; try (with_reducible rfl))
  try simp only [Act.put]
  try simp only [List.setIfInBounds_toArray]
  try simp only [List.set_cons_zero, List.set_cons_succ]
  refine tkA 7 20 (v := ?_) rfl rfl (by kernel_rfl) (fun _ _ _ h => h) ?_ (by assumption) ?_
  rotate_left
  ·(intro w hSw; (try dsimp only at hSw); go_simp; try (with_reducible rfl))
  try simp only [Act.put]
  try simp only [List.setIfInBounds_toArray]
  try simp only [List.set_cons_zero, List.set_cons_succ]
  refine tkA 8 21 (v := ?_) rfl rfl (by kernel_rfl) (fun _ _ _ h => h) ?_ (by assumption) ?_
  rotate_left
  ·(intro w hSw; (try dsimp only at hSw); go_simp; try (with_reducible rfl))
  try simp only [Act.put]
  try simp only [List.setIfInBounds_toArray]
  try simp only [List.set_cons_zero, List.set_cons_succ]
  refine tkA 9 22 (v := ?_) rfl rfl (by kernel_rfl) (fun _ _ _ h => h) ?_ (by assumption) ?_
  rotate_left
  ·(intro w hSw; (try dsimp only at hSw); go_simp; try (with_reducible rfl))
  try simp only [Act.put]
  try simp only [List.setIfInBounds_toArray]
  try simp only [List.set_cons_zero, List.set_cons_succ]
  refine tkA 10 23 (v := ?_) rfl rfl (by kernel_rfl) (fun _ _ _ h => h) ?_ (by assumption) ?_
  rotate_left
  ·(intro w hSw; (try dsimp only at hSw); go_simp; try (with_reducible rfl))
  try simp only [Act.put]
  try simp only [List.setIfInBounds_toArray]
  try simp only [List.set_cons_zero, List.set_cons_succ]
  refine tkA 11 24 (v := ?_) rfl rfl (by kernel_rfl) (fun _ _ _ h => h) ?_ (by assumption) ?_
  rotate_left
  ·(intro w hSw; (try dsimp only at hSw); go_simp; try (with_reducible rfl))
  try simp only [Act.put]
  try simp only [List.setIfInBounds_toArray]
  try simp only [List.set_cons_zero, List.set_cons_succ]
  refine tkA 12 25 (v := ?_) rfl rfl (by kernel_rfl) (fun _ _ _ h => h) ?_ (by assumption) ?_
  rotate_left
  ·(intro w hSw; (try dsimp only at hSw); go_simp; try (with_reducible rfl))
  try simp only [Act.put]
  try simp only [List.setIfInBounds_toArray]
  try simp only [List.set_cons_zero, List.set_cons_succ]
  refine wpAnyT_last (by kernel_rfl) rfl (by kernel_rfl) (fun K hK => ?_)
  go_simp
  refine hK.out _ _ ?_
  have HR2 := Lib.hid (HRD.out.setN hq rx)
  have HK2 := Lib.hid (HKD.out.tr (HRD.out.keepN (V.o + q * 3) (.int .i64 rx)))
  have HB2 := Lib.hid ((HRD.out.keepN (V.o + q * 3) (.int .i64 rx)).2 _ _ _ _ HBD.out (by decide) (by decide) (by decide) (by decide) (by decide))
  generalize wd.setCell ⟨V.g, V.o + q * 3, none⟩ (.int .i64 rx) = w2 at *
  clear m0 f0 hHeld b1 b2 r0 u0
  obtain ⟨_, m1, _, _⟩ := HR2.out.mks.cellsAt (i := q) (by rw [HR2.out.ll]; exact hq)
  have HCL := Lib.hid (HR2.out.mks.clo q hq)
  rw [HV2.out] at m1 HCL
  have k1 := HCL.out.cell q (by omega)
  have f2 := HCL.out.free (o2 + q)
  obtain ⟨z2, hz2⟩ : ∃ u, ((({ l := A.l.set q { A.l[q]! with cnt := rx }, at_ := A.at_ } : Sn).l[q]!.closed).map Value.bool)[q]? = some u := ⟨_, List.getElem?_eq_getElem (by rw [List.length_map, (HR2.out.mks.shp q hq).1]; exact hq)⟩
  rw [hz2] at k1
  have b2 := cellOf HB2.out 2
  simp only [List.getElem?_toArray, List.getElem?_cons_zero, List.getElem?_cons_succ] at b2
  clear hz2
  go_upto_region 4 with (fail)
  have HR3 := Lib.hid (HR2.out.setB hq hq HV2.out)
  have HK3 := Lib.hid (HK2.out.tr (HR2.out.keepB hq HV2.out (o2 + q) (.bool true)))
  have HB3 := Lib.hid ((HR2.out.keepB hq HV2.out (o2 + q) (.bool true)).2 _ _ _ _ HB2.out (by decide) (by decide) (by decide) (by decide) (by decide))
  generalize w2.setCell ⟨g2, o2 + q, none⟩ (.bool true) = w3 at *
  clear m1 k1 f2 b2
  have b3 := cellOf HB3.out 3
  simp only [List.getElem?_toArray, List.getElem?_cons_zero, List.getElem?_cons_succ] at b3
  obtain ⟨av0, ha0⟩ : ∃ u, (A.at_.map (Value.int .i64))[q]? = some u := ⟨_, List.getElem?_eq_getElem (by rw [List.length_map, HR1.out.la]; exact hq)⟩
  have a0 := HR3.out.atr.cell q (by omega)
  have fa := HR3.out.atr.free (V.oa + q)
  rw [ha0] at a0
  clear ha0
  have HR4 := Lib.hid (HR3.out.setA hq i)
  have HK4 := Lib.hid (HK3.out.tr (HR3.out.keepA (V.oa + q) (.int .i64 i)))
  go_wp2
  go_end0
  refine ⟨rfl, HK4.out, vr, ?_⟩
  rw [HAE.out]
  have h := HR4.out
  have e : closeK (A.l.set q { A.l[q]! with cnt := rx }) q q = recL A.l q rx := by unfold closeK recL; rw [setG_at (by rw [HR1.out.ll]; exact hq), List.set_set]
  simp only [e] at h
  rw [HRX.out] at h
  exact h
end Go.Proofs.YtfagfooggcinoaaGreat
namespace Go.Proofs.YtfagfooggcinoaaGreat
open Go.RowKit
set_option linter.unusedVariables false
attribute [local go_sem ↓] Go.wp_at_zero Go.wp_at_succ
section
variable {t : Tr} {q dg : Int} {P i : Nat}
theorem ah_kind (h : (ev t (P, i)).kind ≠ 2) : aheadB t q dg (P, i) = false := by unfold aheadB; rw [decide_eq_false h]; rfl
theorem ah_peer (h : (ev t (P, i)).peer ≠ q) : aheadB t q dg (P, i) = false := by unfold aheadB; rw [decide_eq_false h]; simp
theorem ah_none (h1 : (ev t (P, i)).kind = 2) (h2 : (ev t (P, i)).peer = q) (h : findE t 3 (ev t (P, i)).msg = none) : aheadB t q dg (P, i) = true := by unfold aheadB; rw [decide_eq_true h1, decide_eq_true h2, h]; rfl
theorem ah_some {r : Eid} (h1 : (ev t (P, i)).kind = 2) (h2 : (ev t (P, i)).peer = q) (h : findE t 3 (ev t (P, i)).msg = some r) : aheadB t q dg (P, i) = decide (dg < (r.2 : Int) + 1) := by unfold aheadB; rw [decide_eq_true h1, decide_eq_true h2, h]; rfl
end
theorem enters_63 : ∀ args w, (callFunc 63 args).run Tryz.prog w = .ok (.enter 63 args) w := enters_of Tryz.func63 (by kernel_rfl) rfl
set_option maxHeartbeats 8000000 in
set_option maxRecDepth 100000 in
theorem aheadR_calls (w0 w : World) (V : RV) (A : Sn) (vr : Nat → Nat → Value) (t : Tr) (P q : Nat) (c : List Int) (vc : Value) (h : RefAt w0 w V A vr) (hA : A.l[P]!.cnt = -1 ∨ 0 ≤ A.l[P]!.cnt ∧ A.l[P]!.cnt ≤ (t[P]!.events.length : Int)) (ht : TrAt w0 V.tv t) (hs : SmallTr t) (hn : V.n = t.length) (hc : Ints w vc c) (hq : q < c.length) (hp : P < t.length) (hcl : c.length ≤ 1000000) :
  Calls Tryz.prog 63 #[V.st, .int .i64 P, .int .i64 q, vc] w fun e w' => IntsOut w w' e (aheadTo t (q : Int) c[q]! P (A.l[P]!.cnt).toNat) := by
 have HT := Lib.hid (ht.ext h.ext)
 have HS := Lib.hid hs
 obtain ⟨ii, hii, iz0, iz1, iz2⟩ := info_parts info_int3
 have HRE := Lib.hid (fun W (hW : Ext w W) m => findR_calls V.tv t 3 m W (HT.out.ext hW) hs)
 obtain ⟨ta, tc, hte, htc⟩ := HT.out.sh
 obtain ⟨ca, cc, rfl, hlc, _⟩ := id hc
 have hsm := hs.1
 obtain ⟨B, O, C, vv, ve, hve, hlC, hB, hn0, hv0, he0, hV, hE0⟩ := proc_at HT.out P hp
 obtain ⟨m0', _, _, _⟩ := h.mks.cellsAt (i := P) (by rw [h.ll, hn]; exact hp)
 have hcn := hA
 have HX0 := Lib.hid (heap_alloc_new w (.cells #[V.tv, V.rv, V.lv, V.av, .int .i64 V.d] 96))
 have HE2 := Lib.hid ((Ext.rf w).al (.cells #[V.tv, V.rv, V.lv, V.av, .int .i64 V.d] 96))
 rw [hve] at HRE HX0 HE2
 have HVE := Lib.hid hve
 have HEV := Lib.hid hE0
 obtain ⟨ea, ec, rfl, hec⟩ := hE0.sh
 obtain ⟨cb, co, rfl, hcb, hcp⟩ := ints_at hc q hq
 have hen := (HS.out.2 P hp).2.1
 obtain ⟨ne, hne⟩ : ∃ x, t[P]!.events.length = x := ⟨_, rfl⟩
 rw [hne] at he0 HEV hen hcn
 have HNE := Lib.hid hne
 obtain ⟨dg, hdg⟩ : ∃ x, c[q]! = x := ⟨_, rfl⟩
 obtain ⟨cn, hcnn⟩ : ∃ x, A.l[P]!.cnt = x := ⟨_, rfl⟩
 obtain ⟨k, hk⟩ : ∃ k, cn.toNat = k := ⟨_, rfl⟩
 rw [hcnn] at m0' hcn
 rw [hdg] at hcp ⊢
 rw [hcnn, hk]
 have hkm : k ≤ 1000000 := by omega
 have HKN := Lib.hid (show k ≤ ne from by omega)
 have HKC := Lib.hid (show ∀ i : Nat, ((i : Int) < cn ↔ i < k) from fun i => by omega)
 obtain ⟨M, hM⟩ : ∃ x, t.length = x := ⟨_, rfl⟩
 rw [hM] at HRE HX0 HE2 hsm hlC
 have HMT := Lib.hid hM
 have HVN := Lib.hid hn
 have hPi : (P : Int) < (M : Int) := by omega
 have hPv : (P : Int) < (V.n : Int) := by omega
 have hPvn : P < V.n := by omega
 have hPz : (0 : Int) ≤ (P : Int) := by omega
 have hqz : (0 : Int) ≤ (q : Int) := by omega
 obtain ⟨L, hL⟩ : ∃ x, c.length = x := ⟨_, rfl⟩
 rw [hL] at hq hcl ⊢
 have hql : (q : Int) < (L : Int) := by omega
 have HE00 := Lib.hid (HE2.out.cl he0)
 have HC00 := Lib.hid (HE2.out.cl hcp)
 have HM00 := Lib.hid (HE2.out.cl m0')
 have HCE : Hid (V.st = .agg #[.slice (some ⟨B, O, none⟩) M C, V.rv, V.lv, V.av, .int .i64 V.d]) := Lib.hid (by rw [← hM]; show Value.agg #[V.tv, _, _, _, _] = _; rw [hve])
 rw [HCE.out]
 clear h hA ht hs hn hc hp hte htc hlc hve hn0 hv0 hV hE0 he0 hne hdg hcnn hcp m0' hM hL hk hcn
 go_enter Tryz.func63, Tryz.ntmps63
 go_wp2
 generalize hw2 : w.alloc (.cells #[.slice (some ⟨B, O, none⟩) M C, V.rv, V.lv, V.av, .int .i64 V.d] 96) = w2 at *
 clear hw2
 go_loopg [9, 10] k (fun g s9 s10 wr => ∃ i : Nat, i ≤ k ∧ k - i ≤ g ∧ s10 = .int .i64 i ∧ Aside (Row wr w2.heap.size 3 1 s9 (aheadTo t (q : Int) dg P i).length ((aheadTo t (q : Int) dg P i).map (Value.int .i64))) ∧ Aside (Ext w2 wr))
 case atStart => exact ⟨0, Nat.zero_le _, by omega, rfl, (show Row _ _ _ _ _ _ _ from Row.mkNil _ _ _ _), Ext.rf _⟩
 case round =>
  obtain ⟨i, hi, hg, rfl, HR, HEK⟩ := hrel
  have HEW := Lib.hid (HE2.out.trans' HEK.out)
  have HY0 := HX0
  have mm := HEK.out.cl HM00.out
  have c1 := HEK.out.cl HC00.out
  have e1 := HEK.out.cl HE00.out
  have HXT0 := Lib.hid (HEK.out.hp HX0.out)
  have t0 := cellOf HXT0.out 0
  have t2 := cellOf HXT0.out 2
  simp only [List.getElem?_toArray, List.getElem?_cons_zero, List.getElem?_cons_succ] at t0 t2
  have l1 : w.heap.size < wr.heap.size := World.block_lt_of_cell? wr _ t0
  have l2 : w.heap.size ≠ wr.heap.size := by omega
  by_cases hli : i < k
  ·have hliz : (i : Int) < cn := (HKC.out i).2 hli
   have hiz : (0 : Int) ≤ (i : Int) := by omega
   have hine : (i : Int) < (ne : Int) := by have := HKN.out; omega
   obtain ⟨EB, EO, EC, va, hee, hlE, hEB, k0, k1, k2, k3, k4, ha⟩ := event_at HEV.out i (by rw [HNE.out]; have := HKN.out; omega)
   simp only [Value.slice.injEq] at hee
   obtain ⟨rfl, hzz, rfl⟩ := hee
   obtain ⟨va1, va2, rfl, _⟩ := ha.sh
   have m0 := HEW.out.cl k0
   have m1 := HEW.out.cl k1
   have m2 := HEW.out.cl k2
   have m3 := HEW.out.cl k3
   have m4 := HEW.out.cl k4
   have HEVE : Hid (ev t (P, i) = t[P]!.events[i]!) := Lib.hid rfl
   generalize t[P]!.events[i]! = y at *
   generalize y.asg.length = nb at *
   have hel := aheadTo_len t (q : Int) dg P i
   have hsz := HEK.out.sz
   clear k0 k1 k2 k3 k4 hzz ha
   have HB6 := Lib.hid (heap_alloc_new wr (e5 (.int .i64 y.kind) (.int .i64 y.peer) (.int .i64 y.msg) (.int .i64 y.time) (.slice va1 nb va2)))
   have HXT := Lib.hid ((Ext.rf wr).al (e5 (.int .i64 y.kind) (.int .i64 y.peer) (.int .i64 y.msg) (.int .i64 y.time) (.slice va1 nb va2)))
   have HT6 := Lib.hid (HXT.out.hp (HEK.out.hp HY0.out))
   obtain ⟨ck, hck⟩ : ∃ b, (y.kind != 2) = b := ⟨_, rfl⟩
   obtain ⟨cp, hcp⟩ : ∃ b, (y.peer != q) = b := ⟨_, rfl⟩
   have HCK := Lib.hid hck
   have HCP := Lib.hid hcp
   cases ck with
   | true =>
     have HUB : Hid (aheadB t (q : Int) dg (P, i) = false) := Lib.hid (ah_kind (by rw [HEVE.out]; have := HCK.out; simpa using this))
     go_wp2
     go_roundg (k - (i + 1))
     case measure => omega
     case rel => exact ⟨i + 1, by omega, by omega, by go_num, (show Row _ _ _ _ _ _ _ from by rw [aheadTo_no HUB.out]; exact HR.out.ext HXT.out), HEK.out.trans' HXT.out⟩
   | false =>
     cases cp with
     | true =>
       have HUB : Hid (aheadB t (q : Int) dg (P, i) = false) := Lib.hid (ah_peer (by rw [HEVE.out]; have := HCP.out; simpa using this))
       go_wp2
       go_roundg (k - (i + 1))
       case measure => omega
       case rel => exact ⟨i + 1, by omega, by omega, by go_num, (show Row _ _ _ _ _ _ _ from by rw [aheadTo_no HUB.out]; exact HR.out.ext HXT.out), HEK.out.trans' HXT.out⟩
     | false =>
       have HU2 : Hid ((ev t (P, i)).kind = 2 ∧ (ev t (P, i)).peer = q) := Lib.hid (by rw [HEVE.out]; exact ⟨by have := HCK.out; simpa using this, by have := HCP.out; simpa using this⟩)
       have HFW := Lib.hid (HRE.out _ (HEW.out.trans' HXT.out) y.msg)
       obtain ⟨fe, hfe⟩ : ∃ f, findE t 3 y.msg = f := ⟨_, rfl⟩
       rw [hfe] at HFW
       have HFE := Lib.hid hfe
       clear hfe
       cases fe with
       | none =>
         have HUB : Hid (aheadB t (q : Int) dg (P, i) = true) := Lib.hid (ah_none HU2.out.1 HU2.out.2 (by rw [HEVE.out]; exact HFE.out))
         simp only [eidA, eidB] at HFW
         go_wp2_with fail
         clear t0 t2 mm l1 l2 m0 m1 m2 m3 m4 c1 e1
         refine HFW.out.mono ?_
         rintro e w7 ⟨rfl, hE7⟩
         have HX8 := Lib.hid ((HXT.out.trans' hE7).al (idO 0 0))
         have HB8 := Lib.hid (((Ext.rf w7).al (idO 0 0)).hp (hE7.hp HB6.out))
         have HR8 := Lib.hid (HR.out.ext HX8.out)
         have HEK8 := Lib.hid (HEK.out.trans' HX8.out)
         clear hE7 HXT
         go_wp2
         go_quiet (fail)
         have HBA := Lib.hid (((Ext.rf _).drN nq).hp HB8.out)
         have HRA := Lib.hid (HR8.out.ext ((Ext.rf _).drN nq))
         have HEA := Lib.hid (HEK8.out.drN nq)
         generalize World.drewN _ nq = wA at *
         have hszA := HEA.out.sz
         have y2 := cellOf HBA.out 2
         simp only [List.getElem?_toArray] at y2
         generalize hell : (aheadTo t (q : Int) dg P i).length = ell at *
         have HELL := Lib.hid hell
         clear hell
         go_wp2_with ((at_builtin; go_loud (refine wpList_append_one rfl _ _ 39 rfl w2.heap.size 3 ii (.int .i64 0) 1 8 Tryz.underlying39 hii iz0 iz1 iz2 rfl (by decide) _ ell _ rfl (HRA.out.al _) wA.heap.size 1 [.int .i64 y.msg] rfl rfl ⟨_, heap_alloc_new _ _⟩ (by simp [Value.oneCell']) (by unfold maxLen; omega) (by omega) (by simp; omega) ?_; intro v8 w8 hown8 hgrow8 hblk8; have HOWN := Lib.hid hown8; have HX9 := Lib.hid ((HEA.out.al _).gr hgrow8 (fun z hz => (HRA.out.lt z hz).1)); clear hown8 hgrow8 hblk8)))
         go_roundg (k - (i + 1))
         case measure => omega
         case rel =>
          refine ⟨i + 1, by omega, by omega, by go_num, (show Row _ _ _ _ _ _ _ from ?_), (show Ext _ _ from HX9.out)⟩
          rw [aheadTo_yes HUB.out, List.length_append, List.map_append, HELL.out, HEVE.out]
          exact HOWN.out
       | some r =>
         simp only [eidA, eidB] at HFW
         go_wp2_with fail
         clear t0 t2 mm l1 l2 m0 m1 m2 m3 m4 c1 e1
         refine HFW.out.mono ?_
         rintro e w7 ⟨rfl, hE7⟩
         have HX8 := Lib.hid ((HXT.out.trans' hE7).al (idO (r.1 : Int) ((r.2 : Int) + 1)))
         have HB8 := Lib.hid (((Ext.rf w7).al (idO (r.1 : Int) ((r.2 : Int) + 1))).hp (hE7.hp HB6.out))
         have HI8 := Lib.hid (heap_alloc_new w7 (idO (r.1 : Int) ((r.2 : Int) + 1)))
         have HR8 := Lib.hid (HR.out.ext HX8.out)
         have HEK8 := Lib.hid (HEK.out.trans' HX8.out)
         have HRN := Lib.hid (findE_some HFE.out).1
         have HUS := Lib.hid (ah_some (dg := dg) HU2.out.1 HU2.out.2 (by rw [HEVE.out]; exact HFE.out))
         clear hE7 HXT
         obtain ⟨r1, r2⟩ := r
         simp only at *
         have dsp := HEK8.out.cl HC00.out
         have s0 := cellOf HI8.out 0
         have s1c := cellOf HI8.out 1
         simp only [List.getElem?_toArray, List.getElem?_cons_zero, List.getElem?_cons_succ] at s0 s1c
         go_wp2
         by_cases hcmp : dg < (r2 : Int) + 1
         ·have d1 : decide (dg < (r2 : Int) + 1) = true := decide_eq_true hcmp
          have HUB : Hid (aheadB t (q : Int) dg (P, i) = true) := Lib.hid (by rw [HUS.out]; exact d1)
          clear hcmp
          go_quiet (fail)
          clear d1 dsp s0 s1c
          have HBA := Lib.hid (((Ext.rf _).drN nq).hp HB8.out)
          have HRA := Lib.hid (HR8.out.ext ((Ext.rf _).drN nq))
          have HEA := Lib.hid (HEK8.out.drN nq)
          generalize World.drewN _ nq = wA at *
          have hszA := HEA.out.sz
          have y2 := cellOf HBA.out 2
          simp only [List.getElem?_toArray] at y2
          generalize hell : (aheadTo t (q : Int) dg P i).length = ell at *
          have HELL := Lib.hid hell
          clear hell
          go_wp2_with ((at_builtin; go_loud (refine wpList_append_one rfl _ _ 39 rfl w2.heap.size 3 ii (.int .i64 0) 1 8 Tryz.underlying39 hii iz0 iz1 iz2 rfl (by decide) _ ell _ rfl (HRA.out.al _) wA.heap.size 1 [.int .i64 y.msg] rfl rfl ⟨_, heap_alloc_new _ _⟩ (by simp [Value.oneCell']) (by unfold maxLen; omega) (by omega) (by simp; omega) ?_; intro v8 w8 hown8 hgrow8 hblk8; have HOWN := Lib.hid hown8; have HX9 := Lib.hid ((HEA.out.al _).gr hgrow8 (fun z hz => (HRA.out.lt z hz).1)); clear hown8 hgrow8 hblk8)))
          go_roundg (k - (i + 1))
          case measure => omega
          case rel =>
           refine ⟨i + 1, by omega, by omega, by go_num, (show Row _ _ _ _ _ _ _ from ?_), (show Ext _ _ from HX9.out)⟩
           rw [aheadTo_yes HUB.out, List.length_append, List.map_append, HELL.out, HEVE.out]
           exact HOWN.out
         ·have d1 : decide (dg < (r2 : Int) + 1) = false := decide_eq_false hcmp
          have HUB : Hid (aheadB t (q : Int) dg (P, i) = false) := Lib.hid (by rw [HUS.out]; exact d1)
          clear hcmp
          go_quiet (fail)
          go_wp2
          go_roundg (k - (i + 1))
          case measure => omega
          case rel => exact ⟨i + 1, by omega, by omega, by go_num, (show Row _ _ _ _ _ _ _ from by rw [aheadTo_no HUB.out]; exact HR8.out.ext ((Ext.rf _).drN _)), HEK8.out.drN _⟩
  ·have hliz : ¬ (i : Int) < cn := fun hh => hli ((HKC.out i).1 hh)
   obtain rfl : k = i := by omega
   go_wp2
   go_ret
   exact ⟨_, rfl, HR.out.mono HE2.out.sz, HEW.out⟩
end Go.Proofs.YtfagfooggcinoaaGreat
namespace Go.Proofs.YtfagfooggcinoaaGreat
open Go.RowKit
set_option linter.unusedVariables false
structure RefG (w0 : World) (V : RV) (t : Tr) (r : List (List Int)) : Prop where
 tr : TrAt w0 V.tv t
 rn : Sl RInts 1 w0 V.rv r
 val : validT t = true
 run : RunIn t r
 len : t.length = V.n
 few : V.n ≤ 1000
 del : 0 ≤ V.d ∧ V.d ≤ 1000000
def RefS (w0 w : World) (V : RV) (t : Tr) (A : Sn) (b : Nat) : Prop := RefE w0 w V A ∧ InvA t A b
theorem RefS.grow {w0 w w' : World} {V : RV} {t : Tr} {A : Sn} {b : Nat} (h : RefS w0 w V t A b) (x : Ext w w') : RefS w0 w' V t A b := ⟨let ⟨vr, k⟩ := h.1; ⟨vr, k.grow x⟩, h.2⟩
theorem RefS.ext {w0 w : World} {V : RV} {t : Tr} {A : Sn} {b : Nat} (h : RefS w0 w V t A b) : Ext w0 w := let ⟨_, k⟩ := h.1; k.ext
def AllR (w0 w1 w : World) (V : RV) (t : Tr) (r : List (List Int)) (A : Sn) (b i : Nat) (B : Sn) (m : Bool) : Prop :=
 RefS w0 w V t B b ∧ aAll' t r V.d i B = aAll' t r V.d i A ∧ (m = false → B = aAll' t r V.d i A) ∧ KeepT w1 w
def PasR (w0 w1 w : World) (V : RV) (t : Tr) (r : List (List Int)) (B : Sn) (b i : Nat) (f k : Nat) (m : Bool) : Prop :=
 RefS w0 w V t (aPassTo t r V.d i B f k).1 b ∧ (aPassTo t r V.d i B f k).2 = m ∧ KeepT w1 w
set_option maxHeartbeats 16000000 in
set_option maxRecDepth 100000 in
theorem arriveR_calls (w0 w : World) (V : RV) (t : Tr) (r : List (List Int)) (A : Sn) (b : Nat) (i : Nat) (hg : RefG w0 V t r) (h : RefS w0 w V t A b) (hi : i < r.length) :
  Calls Tryz.prog 60 #[V.st, .int .i64 i] w fun e w' => e = .returned (.tuple #[]) ∧ KeepT w w' ∧ RefS w0 w' V t (aAll' t r V.d i A) b := by
 have HG := Lib.hid hg
 have HI := Lib.hid hi
 have hn2 := hg.few
 have HX1 := Lib.hid ((Ext.rf w).al (.cells #[V.tv, V.rv, V.lv, V.av, .int .i64 V.d] 96))
 have HB1 := Lib.hid (heap_alloc_new w (.cells #[V.tv, V.rv, V.lv, V.av, .int .i64 V.d] 96))
 have HI0 : Hid (AllR w0 (w.alloc (.cells #[V.tv, V.rv, V.lv, V.av, .int .i64 V.d] 96)) (w.alloc (.cells #[V.tv, V.rv, V.lv, V.av, .int .i64 V.d] 96)) V t r A b i A true) := Lib.hid ⟨h.grow HX1.out, rfl, (fun h => by cases h), KeepT.rf _⟩
 have b2 := cellOf HB1.out 2
 simp only [List.getElem?_toArray, List.getElem?_cons_zero, List.getElem?_cons_succ] at b2
 clear hg h hi
 go_enter Tryz.func60, Tryz.ntmps60
 go_wp2
 generalize w.alloc (.cells #[V.tv, V.rv, V.lv, V.av, .int .i64 V.d] 96) = w1 at *
 clear b2
 go_loopg [5, 6, 7] (opens A + 2) (fun g s5 s6 s7 wr => ∃ (B : Sn) (m : Bool), s5 = .bool m ∧ (if m = true then opens B + 1 else 0) ≤ g ∧ Aside (AllR w0 w1 wr V t r A b i B m))
 case atStart => exact ⟨A, true, rfl, by rw [if_pos rfl]; omega, (show AllR _ _ _ _ _ _ _ _ _ _ _ from HI0.out)⟩
 case round =>
  obtain ⟨B, m, rfl, hg, HAI⟩ := hrel
  clear HI0
  cases m with
  | false =>
    go_wp2
    go_end0
    exact ⟨rfl, (KeepT.of HX1.out).tr HAI.out.2.2.2, by rw [← HAI.out.2.2.1 rfl]; exact HAI.out.1⟩
  | true =>
    have HGO := Lib.hid (show opens B + 1 ≤ gk from by rw [if_pos rfl] at hg; exact hg)
    clear hg
    have HP0 : Hid (PasR w0 w1 wr V t r B b i 0 0 false) := Lib.hid ⟨HAI.out.1, rfl, HAI.out.2.2.2⟩
    have HOB := Lib.hid (fun hm => aAll'_more (d := V.d) HAI.out.1.2 HG.out.run HI.out hm)
    have HOD := Lib.hid (fun hm => aAll'_done (d := V.d) HAI.out.1.2 HG.out.run HI.out hm)
    have HBL := Lib.hid (show B.l.length = V.n from by rw [HAI.out.1.2.ll]; exact HG.out.len)
    have HAE := Lib.hid HAI.out.2.1
    obtain ⟨wo, rfl⟩ : ∃ y, y = wr := ⟨_, rfl⟩
    clear HAI
    go_wp2
    go_loopg [5, 6, 7] V.n (fun g s5 s6 s7 wr => ∃ (f : Nat) (m2 : Bool), f ≤ V.n ∧ V.n - f ≤ g ∧ s5 = .bool m2 ∧ s6 = .int .i64 f ∧ Aside (PasR w0 w1 wr V t r B b i f 0 m2))
    case atStart => exact ⟨0, false, Nat.zero_le _, by omega, rfl, rfl, (show PasR _ _ _ _ _ _ _ _ _ _ _ _ from HP0.out)⟩
    case round =>
     obtain ⟨f, m2, hf, hgf, rfl, rfl, HP⟩ := hrel
     clear HP0
     by_cases hfn : f < V.n
     case neg =>
      have hfz : ¬ (f : Int) < (V.n : Int) := by omega
      have HFE := Lib.hid (show f = V.n by omega)
      have HX2 : Hid ((aPass t r V.d i B).2 = m2) := Lib.hid (by have h := HP.out.2.1; rw [HFE.out] at h; unfold aPass; rw [HBL.out]; exact h)
      have HX3 : Hid (RefS w0 wr V t (aPass t r V.d i B).1 b) := Lib.hid (by have h := HP.out.1; rw [HFE.out] at h; unfold aPass; rw [HBL.out]; exact h)
      go_wp2
      cases m2 with
      | true =>
        go_roundg (opens (aPass t r V.d i B).1 + 1)
        case measure => have h1 := (HOB.out HX2.out).2; have h2 := HGO.out; omega
        case rel => exact ⟨(aPass t r V.d i B).1, true, rfl, by rw [if_pos rfl]; exact Nat.le_refl _, (show AllR _ _ _ _ _ _ _ _ _ _ _ from ⟨HX3.out, (HOB.out HX2.out).1.trans HAE.out, (fun h => by cases h), HP.out.2.2⟩)⟩
      | false =>
        go_roundg 0
        case measure => have h2 := HGO.out; omega
        case rel => exact ⟨(aPass t r V.d i B).1, false, rfl, Nat.le_refl _, (show AllR _ _ _ _ _ _ _ _ _ _ _ from ⟨HX3.out, by rw [(HOD.out HX2.out).2]; exact HAE.out, (fun _ => by rw [(HOD.out HX2.out).2, ← HAE.out, (HOD.out HX2.out).1]), HP.out.2.2⟩)⟩
     case pos =>
      have hfz : (f : Int) < (V.n : Int) := by omega
      have hfz0 : (0 : Int) ≤ (f : Int) := by omega
      go_wp2
      go_loopg [5, 7] V.n (fun g s5 s7 wr => ∃ (k : Nat) (m3 : Bool), k ≤ V.n ∧ V.n - k ≤ g ∧ s5 = .bool m3 ∧ s7 = .int .i64 k ∧ Aside (PasR w0 w1 wr V t r B b i f k m3))
      case atStart => exact ⟨0, m2, Nat.zero_le _, by omega, rfl, rfl, (show PasR _ _ _ _ _ _ _ _ _ _ _ _ from HP.out)⟩
      case round =>
       obtain ⟨k, m3, hk, hgk3, rfl, rfl, HP3⟩ := hrel
       clear HP
       by_cases hkn : k < V.n
       case neg =>
        have hkz : ¬ (k : Int) < (V.n : Int) := by omega
        have HKE := Lib.hid (show k = V.n by omega)
        have HN := Lib.hid (show PasR w0 w1 wr V t r B b i (f + 1) 0 m3 from by
         have h := HP3.out
         unfold PasR at h ⊢
         rw [HKE.out, aPassTo_next HBL.out] at h
         exact h)
        go_wp2
        go_roundg (V.n - (f + 1))
        case measure => omega
        case rel => exact ⟨f + 1, m3, by omega, by omega, rfl, by go_num, (show PasR _ _ _ _ _ _ _ _ _ _ _ _ from HN.out)⟩
       case pos =>
        have hkz : (k : Int) < (V.n : Int) := by omega
        have hkz0 : (0 : Int) ≤ (k : Int) := by omega
        obtain ⟨⟨vr, hR⟩, hIA⟩ := HP3.out.1
        have HR := Lib.hid hR
        have HIA := Lib.hid hIA
        have HBX := Lib.hid (HP3.out.2.2.2 _ _ _ _ HB1.out (by decide) (by decide) (by decide) (by decide) (by decide))
        have HDD : Hid (condA t r V.d (aPassTo t r V.d i B f k).1 i f k = (decide (f ≠ k) && (decide ((aPassTo t r V.d i B f k).1.l[f]!.cnt ≠ -1) && (!(aPassTo t r V.d i B f k).1.l[k]!.closed[f]! && (decide ((aPassTo t r V.d i B f k).1.at_[f]! + V.d ≤ i) && freeB t k (rAt r i k) f (aPassTo t r V.d i B f k).1.l[f]!.cnt.toNat))))) := Lib.hid rfl
        obtain ⟨D, hD⟩ : ∃ D, (aPassTo t r V.d i B f k).1 = D := ⟨_, rfl⟩
        rw [hD] at hR hIA HR HIA HDD
        have HDE := Lib.hid hD
        obtain ⟨m0, _, _, _⟩ := hR.mks.cellsAt (i := f) (by rw [hR.ll]; exact hfn)
        obtain ⟨_, m1, _, _⟩ := hR.mks.cellsAt (i := k) (by rw [hR.ll]; exact hkn)
        obtain ⟨g2, o2, c2, hv, _, _, _, k1, _⟩ := hR.mks.boolAt (i := k) (j := f) hkn hfn
        rw [hv] at m1
        have a0 := hR.atr.cell f (by omega)
        rw [List.getElem?_map, List.getElem?_eq_getElem (by rw [hR.la]; exact hfn), ← getElem!_pos _ f (by rw [hR.la]; exact hfn)] at a0
        simp only [Option.map_some] at a0
        have hcn := hIA.cnt f (by rw [HG.out.len]; exact hfn)
        have hat := hIA.at_ f (by rw [HG.out.len]; exact hfn)
        have hcl64 : (aheadTo t (k : Int) (rAt r i k) f D.l[f]!.cnt.toNat).length ≤ D.l[f]!.cnt.toNat := aheadTo_len ..
        have hri : r[i]!.length = V.n := by rw [(HG.out.run.2 i HI.out).1]; exact HG.out.len
        obtain ⟨rB, rO, rC, uB, uO, uC, hrve, hrC, _, r0, huC, _, u0⟩ := runAt (Sl.ext rints_lasts HG.out.rn hR.ext) HI.out (p := k) (by rw [hri]; exact hkn)
        have hIR : Hid (Ints wr (.slice (some ⟨uB, uO, none⟩) r[i]!.length uC) r[i]!) := Lib.hid (by
         obtain ⟨rB', rO', rC', xa, xc, e1, _, _, h1, h2⟩ := rowAt (Sl.ext rints_lasts HG.out.rn hR.ext) i HI.out
         rw [hrve] at e1
         simp only [Value.slice.injEq, Option.some.injEq, Addr.mk.injEq, and_true] at e1
         obtain ⟨⟨rfl, rfl⟩, _, _⟩ := e1
         rw [r0] at h1
         simp only [Option.some.injEq, Value.slice.injEq] at h1
         obtain ⟨rfl, _, rfl⟩ := h1
         exact h2)
        have HAH := Lib.hid (fun W (hW : Ext wr W) => aheadR_calls w0 W V D vr t f k r[i]! (.slice (some ⟨uB, uO, none⟩) r[i]!.length uC) (HR.out.grow hW) (HIA.out.cnt f (by rw [HG.out.len]; exact hfn)) HG.out.tr (valid_small HG.out.val) HG.out.len.symm (hIR.out.ext hW) (by rw [hri]; exact hkn) (by rw [HG.out.len]; exact hfn) (by rw [hri]; omega))
        have hra : r[i]![k]! = rAt r i k := rfl
        have HSTE : V.st = .agg #[V.tv, .slice (some ⟨rB, rO, none⟩) r.length rC, V.lv, V.av, .int .i64 V.d] := by show Value.agg #[_, V.rv, _, _, _] = _; rw [hrve]
        rw [hra, hri, HSTE] at HAH
        rw [hri] at r0
        rw [freeB_iff] at HDD
        obtain ⟨X, hX⟩ : ∃ X, aheadTo t (k : Int) (rAt r i k) f D.l[f]!.cnt.toNat = X := ⟨_, rfl⟩
        rw [hX] at HAH HDD hcl64
        have HXE : Hid (X.isEmpty = decide (X.length = 0)) := Lib.hid (by cases X <;> simp)
        rw [HXE.out] at HDD
        have b0 := cellOf HBX.out 0
        have b1 := cellOf HBX.out 1
        have b2 := cellOf HBX.out 2
        have b3 := cellOf HBX.out 3
        have b4 := cellOf HBX.out 4
        simp only [List.getElem?_toArray, List.getElem?_cons_zero, List.getElem?_cons_succ] at b0 b1 b2 b3 b4
        replace b1 := b1.trans (congrArg some hrve)
        obtain ⟨R, hRL⟩ : ∃ R, r.length = R := ⟨_, rfl⟩
        have hiR := HI.out
        rw [hRL] at b1 HAH hiR hrC
        generalize D.l[f]!.cnt = cn at *
        generalize D.l[k]!.closed[f]! = cl at *
        generalize D.at_[f]! = av at *
        obtain ⟨cd, hcd⟩ : ∃ cd, condA t r V.d D i f k = cd := ⟨_, rfl⟩
        rw [hcd] at HDD
        have HCDE := Lib.hid hcd
        obtain ⟨xl, hxl⟩ : ∃ x, X.length = x := ⟨_, rfl⟩
        rw [hxl] at HDD hcl64
        have HXL := Lib.hid hxl
        have hdel := HG.out.del
        have hwav : IntKind.i64.wrap (av + V.d) = av + V.d := IntWalk.i64_in _ (by omega)
        have hbi : (i : Int) < (R : Int) := by omega
        have hbi0 : (0 : Int) ≤ (i : Int) := by omega
        clear hR hIA hD hv hri hrve hIR huC u0 hra HSTE hX hcd hxl hdel hRL hrC
        go_upto_region 11 with (fail)
        go_cut [69] (fun s69 wx => s69 = .bool (!cd) ∧ Aside (Ext wr wx))
        case first =>
         refine wp_region_tail (fun W => W.cell? ⟨w.heap.size, 0, none⟩ = some V.tv ∧ W.cell? ⟨w.heap.size, 1, none⟩ = some (.slice (some ⟨rB, rO, none⟩) R rC) ∧ W.cell? ⟨w.heap.size, 2, none⟩ = some V.lv ∧ W.cell? ⟨w.heap.size, 3, none⟩ = some V.av ∧ W.cell? ⟨w.heap.size, 4, none⟩ = some (.int .i64 V.d) ∧ W.cell? ⟨V.g, V.o + f * 3, none⟩ = some (.int .i64 cn) ∧ W.cell? ⟨V.g, V.o + k * 3 + 1, none⟩ = some (.slice (some ⟨g2, o2, none⟩) V.n c2) ∧ W.cell? ⟨g2, o2 + f, none⟩ = some (.bool cl) ∧ W.cell? ⟨V.ga, V.oa + f, none⟩ = some (.int .i64 av) ∧ W.cell? ⟨rB, rO + i, none⟩ = some (.slice (some ⟨uB, uO, none⟩) V.n uC)) 47 (by kernel_rfl) ⟨b0, b1, b2, b3, b4, m0, m1, k1, a0, r0⟩ (fun hHeld => ?_)
         have HXD : Hid (Ext wr wr.drew) := Lib.hid (Ext.rf wr).dr
         have HHE := Lib.hid (show _ ∧ _ from hHeld)
         generalize wr.drew = wd at *
         refine tkA 0 22 (v := ?_) rfl rfl (by kernel_rfl) (fun _ _ _ h => h) ?_ (by assumption) ?_
         rotate_left
         ·(intro w hSw; (try dsimp only at hSw); go_simp; try (with_reducible rfl))
         try simp only [Act.put]
         try simp only [List.setIfInBounds_toArray]
         try simp only [List.set_cons_zero, List.set_cons_succ]
         refine tkA 1 23 (v := ?_) rfl rfl (by kernel_rfl) (fun _ _ _ h => h) ?_ (by assumption) ?_
         rotate_left
         ·(intro w hSw; (try dsimp only at hSw); go_simp; try (with_reducible rfl))
         try simp only [Act.put]
         try simp only [List.setIfInBounds_toArray]
         try simp only [List.set_cons_zero, List.set_cons_succ]
         by_cases hfk : f = k
         case pos =>
          have d1 : ((f : Int) == (k : Int)) = true := by rw [beq_iff_eq]; omega
          have d1n : decide (f = k) = true := decide_eq_true hfk
          have HCV : Hid (cd = false) := Lib.hid (by rw [HDD.out, decide_eq_false (fun h => h hfk)]; rfl)
          clear hfk
          refine tkA 2 24 (v := ?_) rfl rfl (by kernel_rfl) (fun _ _ _ h => h) ?_ (by assumption) ?_
          rotate_left
          ·(intro w hSw; (try dsimp only at hSw); go_simp; try (with_reducible rfl))
          try simp only [Act.put]
          try simp only [List.setIfInBounds_toArray]
          try simp only [List.set_cons_zero, List.set_cons_succ]
          refine tkA 3 25 (v := ?_) rfl rfl (by kernel_rfl) (fun _ _ _ h => h) ?_ (by assumption) ?_
          rotate_left
          ·(intro w hSw; (try dsimp only at hSw); go_simp; try (with_reducible rfl))
          try simp only [Act.put]
          try simp only [List.setIfInBounds_toArray]
          try simp only [List.set_cons_zero, List.set_cons_succ]
          refine wpAnyT_skips (fun _ _ _ _ h => h) (by assumption) [(4, 26), (5, 27), (6, 28), (7, 29), (8, 30), (9, 31), (10, 32)] _ _ _ _ rfl (by kernel_rfl) ?_
          simp only [setAll, undAll]
          try simp only [Act.put]
          try simp only [List.setIfInBounds_toArray]
          try simp only [List.set_cons_zero, List.set_cons_succ]
          refine tkA 11 33 (v := ?_) rfl rfl (by kernel_rfl) (fun _ _ _ h => h) ?_ (by assumption) ?_
          rotate_left
          ·(intro w hSw; (try dsimp only at hSw); go_simp; try (with_reducible rfl))
          try simp only [Act.put]
          try simp only [List.setIfInBounds_toArray]
          try simp only [List.set_cons_zero, List.set_cons_succ]
          refine tkA 12 34 (v := ?_) rfl rfl (by kernel_rfl) (fun _ _ _ h => h) ?_ (by assumption) ?_
          rotate_left
          ·(intro w hSw; (try dsimp only at hSw); go_simp; try (with_reducible rfl))
          try simp only [Act.put]
          try simp only [List.setIfInBounds_toArray]
          try simp only [List.set_cons_zero, List.set_cons_succ]
          refine wpAnyT_skips (fun _ _ _ _ h => h) (by assumption) [(13, 35), (14, 36), (15, 37), (16, 38), (17, 39), (18, 40), (19, 41), (20, 42), (21, 43)] _ _ _ _ rfl (by kernel_rfl) ?_
          simp only [setAll, undAll]
          try simp only [Act.put]
          try simp only [List.setIfInBounds_toArray]
          try simp only [List.set_cons_zero, List.set_cons_succ]
          refine tkA 22 44 (v := ?_) rfl rfl (by kernel_rfl) (fun _ _ _ h => h) ?_ (by assumption) ?_
          rotate_left
          ·(intro w hSw; (try dsimp only at hSw); go_simp; try (with_reducible rfl))
          try simp only [Act.put]
          try simp only [List.setIfInBounds_toArray]
          try simp only [List.set_cons_zero, List.set_cons_succ]
          refine tkA 23 45 (v := ?_) rfl rfl (by kernel_rfl) (fun _ _ _ h => h) ?_ (by assumption) ?_
          rotate_left
          ·(intro w hSw; (try dsimp only at hSw); go_simp; try (with_reducible rfl))
          try simp only [Act.put]
          try simp only [List.setIfInBounds_toArray]
          try simp only [List.set_cons_zero, List.set_cons_succ]
          refine wpAnyT_skips (fun _ _ _ _ h => h) (by assumption) [(24, 46), (25, 47), (26, 48), (27, 49), (28, 50), (29, 51), (30, 52), (31, 53), (32, 54), (33, 55)] _ _ _ _ rfl (by kernel_rfl) ?_
          simp only [setAll, undAll]
          try simp only [Act.put]
          try simp only [List.setIfInBounds_toArray]
          try simp only [List.set_cons_zero, List.set_cons_succ]
          refine tkA 34 56 (v := ?_) rfl rfl (by kernel_rfl) (fun _ _ _ h => h) ?_ (by assumption) ?_
          rotate_left
          ·(intro w hSw; (try dsimp only at hSw); go_simp; try (with_reducible rfl))
          try simp only [Act.put]
          try simp only [List.setIfInBounds_toArray]
          try simp only [List.set_cons_zero, List.set_cons_succ]
          refine tkA 35 57 (v := ?_) rfl rfl (by kernel_rfl) (fun _ _ _ h => h) ?_ (by assumption) ?_
          rotate_left
          ·(intro w hSw; (try dsimp only at hSw); go_simp; try (with_reducible rfl))
          try simp only [Act.put]
          try simp only [List.setIfInBounds_toArray]
          try simp only [List.set_cons_zero, List.set_cons_succ]
          refine wpAnyT_skips (fun _ _ _ _ h => h) (by assumption) [(36, 58), (37, 59), (38, 60), (39, 61), (40, 62), (41, 63), (42, 64), (43, 65), (44, 66), (45, 67), (46, 68)] _ _ _ _ rfl (by kernel_rfl) ?_
          simp only [setAll, undAll]
          try simp only [Act.put]
          try simp only [List.setIfInBounds_toArray]
          try simp only [List.set_cons_zero, List.set_cons_succ]
          refine wpAnyT_last (by kernel_rfl) rfl (by kernel_rfl) (fun K hK => ?_)
          go_simp
          refine hK.out _ _ ?_
          go_wp2
          go_meet
          exact ⟨by rw [HCV.out]; rfl, (show Ext _ _ from HXD.out)⟩
         case neg =>
          have d1 : ((f : Int) == (k : Int)) = false := by rw [beq_eq_false_iff_ne]; omega
          have d1n : decide (f = k) = false := decide_eq_false hfk
          rw [decide_eq_true hfk, Bool.true_and] at HDD
          clear hfk
          refine tkA 2 24 (v := ?_) rfl rfl (by kernel_rfl) (fun _ _ _ h => h) ?_ (by assumption) ?_
          rotate_left
          ·(intro w hSw; (try dsimp only at hSw); go_simp; try (with_reducible rfl))
          try simp only [Act.put]
          try simp only [List.setIfInBounds_toArray]
          try simp only [List.set_cons_zero, List.set_cons_succ]
          refine tkA 3 25 (v := ?_) rfl rfl (by kernel_rfl) (fun _ _ _ h => h) ?_ (by assumption) ?_
          rotate_left
          ·(intro w hSw; (try dsimp only at hSw); go_simp; try (with_reducible rfl))
          try simp only [Act.put]
          try simp only [List.setIfInBounds_toArray]
          try simp only [List.set_cons_zero, List.set_cons_succ]
          refine tkA 4 26 (v := ?_) rfl rfl (by kernel_rfl) (fun _ _ _ h => h) ?_ (by assumption) ?_
          rotate_left
          ·(intro w hSw; (try dsimp only at hSw); go_simp; try (with_reducible rfl))
          try simp only [Act.put]
          try simp only [List.setIfInBounds_toArray]
          try simp only [List.set_cons_zero, List.set_cons_succ]
          refine tkA 5 27 (v := ?_) rfl rfl (by kernel_rfl) (fun _ _ _ h => h) ?_ (by assumption) ?_
          rotate_left
          ·(intro w hSw; (try dsimp only at hSw); go_simp; try (with_reducible rfl))
          try simp only [Act.put]
          try simp only [List.setIfInBounds_toArray]
          try simp only [List.set_cons_zero, List.set_cons_succ]
          refine tkA 6 28 (v := ?_) rfl rfl (by kernel_rfl) (fun _ _ _ h => h) ?_ (by assumption) ?_
          rotate_left
          ·(intro w hSw; (try dsimp only at hSw); go_simp; try (with_reducible rfl))
          try simp only [Act.put]
          try simp only [List.setIfInBounds_toArray]
          try simp only [List.set_cons_zero, List.set_cons_succ]
          refine tkA 7 29 (v := ?_) rfl rfl (by kernel_rfl) (fun _ _ _ h => h) ?_ (by assumption) ?_
          rotate_left
          ·(intro w hSw; (try dsimp only at hSw); go_simp; try (with_reducible rfl))
          try simp only [Act.put]
          try simp only [List.setIfInBounds_toArray]
          try simp only [List.set_cons_zero, List.set_cons_succ]
          refine tkA 8 30 (v := ?_) rfl rfl (by kernel_rfl) (fun _ _ _ h => h) ?_ (by assumption) ?_
          rotate_left
          ·(intro w hSw; (try dsimp only at hSw); go_simp; try (with_reducible rfl))
          try simp only [Act.put]
          try simp only [List.setIfInBounds_toArray]
          try simp only [List.set_cons_zero, List.set_cons_succ]
          refine tkA 9 31 (v := ?_) rfl rfl (by kernel_rfl) (fun _ _ _ h => h) ?_ (by assumption) ?_
          rotate_left
          ·(intro w hSw; (try dsimp only at hSw); go_simp; try (with_reducible rfl))
          try simp only [Act.put]
          try simp only [List.setIfInBounds_toArray]
          try simp only [List.set_cons_zero, List.set_cons_succ]
          by_cases hc1 : cn = -1
          case pos =>
           have d2 : decide (cn < 0) = true := decide_eq_true (by omega)
           have HCV : Hid (cd = false) := Lib.hid (by rw [HDD.out, decide_eq_false (fun h => h hc1)]; rfl)
           clear hc1 hcn
           refine tkA 10 32 (v := ?_) rfl rfl (by kernel_rfl) (fun _ _ _ h => h) ?_ (by assumption) ?_
           rotate_left
           ·(intro w hSw; (try dsimp only at hSw); go_simp; try (with_reducible rfl))
           try simp only [Act.put]
           try simp only [List.setIfInBounds_toArray]
           try simp only [List.set_cons_zero, List.set_cons_succ]
           refine tkA 11 33 (v := ?_) rfl rfl (by kernel_rfl) (fun _ _ _ h => h) ?_ (by assumption) ?_
           rotate_left
           ·(intro w hSw; (try dsimp only at hSw); go_simp; try (with_reducible rfl))
           try simp only [Act.put]
           try simp only [List.setIfInBounds_toArray]
           try simp only [List.set_cons_zero, List.set_cons_succ]
           refine tkA 12 34 (v := ?_) rfl rfl (by kernel_rfl) (fun _ _ _ h => h) ?_ (by assumption) ?_
           rotate_left
           ·(intro w hSw; (try dsimp only at hSw); go_simp; try (with_reducible rfl))
           try simp only [Act.put]
           try simp only [List.setIfInBounds_toArray]
           try simp only [List.set_cons_zero, List.set_cons_succ]
           refine wpAnyT_skips (fun _ _ _ _ h => h) (by assumption) [(13, 35), (14, 36), (15, 37), (16, 38), (17, 39), (18, 40), (19, 41), (20, 42), (21, 43)] _ _ _ _ rfl (by kernel_rfl) ?_
           simp only [setAll, undAll]
           try simp only [Act.put]
           try simp only [List.setIfInBounds_toArray]
           try simp only [List.set_cons_zero, List.set_cons_succ]
           refine tkA 22 44 (v := ?_) rfl rfl (by kernel_rfl) (fun _ _ _ h => h) ?_ (by assumption) ?_
           rotate_left
           ·(intro w hSw; (try dsimp only at hSw); go_simp; try (with_reducible rfl))
           try simp only [Act.put]
           try simp only [List.setIfInBounds_toArray]
           try simp only [List.set_cons_zero, List.set_cons_succ]
           refine tkA 23 45 (v := ?_) rfl rfl (by kernel_rfl) (fun _ _ _ h => h) ?_ (by assumption) ?_
           rotate_left
           ·(intro w hSw; (try dsimp only at hSw); go_simp; try (with_reducible rfl))
           try simp only [Act.put]
           try simp only [List.setIfInBounds_toArray]
           try simp only [List.set_cons_zero, List.set_cons_succ]
           refine wpAnyT_skips (fun _ _ _ _ h => h) (by assumption) [(24, 46), (25, 47), (26, 48), (27, 49), (28, 50), (29, 51), (30, 52), (31, 53), (32, 54), (33, 55)] _ _ _ _ rfl (by kernel_rfl) ?_
           simp only [setAll, undAll]
           try simp only [Act.put]
           try simp only [List.setIfInBounds_toArray]
           try simp only [List.set_cons_zero, List.set_cons_succ]
           refine tkA 34 56 (v := ?_) rfl rfl (by kernel_rfl) (fun _ _ _ h => h) ?_ (by assumption) ?_
           rotate_left
           ·(intro w hSw; (try dsimp only at hSw); go_simp; try (with_reducible rfl))
           try simp only [Act.put]
           try simp only [List.setIfInBounds_toArray]
           try simp only [List.set_cons_zero, List.set_cons_succ]
           refine tkA 35 57 (v := ?_) rfl rfl (by kernel_rfl) (fun _ _ _ h => h) ?_ (by assumption) ?_
           rotate_left
           ·(intro w hSw; (try dsimp only at hSw); go_simp; try (with_reducible rfl))
           try simp only [Act.put]
           try simp only [List.setIfInBounds_toArray]
           try simp only [List.set_cons_zero, List.set_cons_succ]
           refine wpAnyT_skips (fun _ _ _ _ h => h) (by assumption) [(36, 58), (37, 59), (38, 60), (39, 61), (40, 62), (41, 63), (42, 64), (43, 65), (44, 66), (45, 67), (46, 68)] _ _ _ _ rfl (by kernel_rfl) ?_
           simp only [setAll, undAll]
           try simp only [Act.put]
           try simp only [List.setIfInBounds_toArray]
           try simp only [List.set_cons_zero, List.set_cons_succ]
           refine wpAnyT_last (by kernel_rfl) rfl (by kernel_rfl) (fun K hK => ?_)
           go_simp
           refine hK.out _ _ ?_
           go_wp2
           go_meet
           exact ⟨by rw [HCV.out]; rfl, (show Ext _ _ from HXD.out)⟩
          case neg =>
           have d2 : decide (cn < 0) = false := decide_eq_false (by omega)
           rw [decide_eq_true hc1, Bool.true_and] at HDD
           clear hc1 hcn
           refine tkA 10 32 (v := ?_) rfl rfl (by kernel_rfl) (fun _ _ _ h => h) ?_ (by assumption) ?_
           rotate_left
           ·(intro w hSw; (try dsimp only at hSw); go_simp; try (with_reducible rfl))
           try simp only [Act.put]
           try simp only [List.setIfInBounds_toArray]
           try simp only [List.set_cons_zero, List.set_cons_succ]
           refine tkA 11 33 (v := ?_) rfl rfl (by kernel_rfl) (fun _ _ _ h => h) ?_ (by assumption) ?_
           rotate_left
           ·(intro w hSw; (try dsimp only at hSw); go_simp; try (with_reducible rfl))
           try simp only [Act.put]
           try simp only [List.setIfInBounds_toArray]
           try simp only [List.set_cons_zero, List.set_cons_succ]
           refine tkA 12 34 (v := ?_) rfl rfl (by kernel_rfl) (fun _ _ _ h => h) ?_ (by assumption) ?_
           rotate_left
           ·(intro w hSw; (try dsimp only at hSw); go_simp; try (with_reducible rfl))
           try simp only [Act.put]
           try simp only [List.setIfInBounds_toArray]
           try simp only [List.set_cons_zero, List.set_cons_succ]
           refine tkA 13 35 (v := ?_) rfl rfl (by kernel_rfl) (fun _ _ _ h => h) ?_ (by assumption) ?_
           rotate_left
           ·(intro w hSw; (try dsimp only at hSw); go_simp; try (with_reducible rfl))
           try simp only [Act.put]
           try simp only [List.setIfInBounds_toArray]
           try simp only [List.set_cons_zero, List.set_cons_succ]
           refine tkA 14 36 (v := ?_) rfl rfl (by kernel_rfl) (fun _ _ _ h => h) ?_ (by assumption) ?_
           rotate_left
           ·(intro w hSw; (try dsimp only at hSw); go_simp; try (with_reducible rfl))
           try simp only [Act.put]
           try simp only [List.setIfInBounds_toArray]
           try simp only [List.set_cons_zero, List.set_cons_succ]
           refine tkA 15 37 (v := ?_) rfl rfl (by kernel_rfl) (fun _ _ _ h => h) ?_ (by assumption) ?_
           rotate_left
           ·(intro w hSw; (try dsimp only at hSw); go_simp; try (with_reducible rfl))
           try simp only [Act.put]
           try simp only [List.setIfInBounds_toArray]
           try simp only [List.set_cons_zero, List.set_cons_succ]
           refine tkA 16 38 (v := ?_) rfl rfl (by kernel_rfl) (fun _ _ _ h => h) ?_ (by assumption) ?_
           rotate_left
           ·(intro w hSw; (try dsimp only at hSw); go_simp; try (with_reducible rfl))
           try simp only [Act.put]
           try simp only [List.setIfInBounds_toArray]
           try simp only [List.set_cons_zero, List.set_cons_succ]
           refine tkA 17 39 (v := ?_) rfl rfl (by kernel_rfl) (fun _ _ _ h => h) ?_ (by assumption) ?_
           rotate_left
           ·(intro w hSw; (try dsimp only at hSw); go_simp; try (with_reducible rfl))
           try simp only [Act.put]
           try simp only [List.setIfInBounds_toArray]
           try simp only [List.set_cons_zero, List.set_cons_succ]
           refine tkA 18 40 (v := ?_) rfl rfl (by kernel_rfl) (fun _ _ _ h => h) ?_ (by assumption) ?_
           rotate_left
           ·(intro w hSw; (try dsimp only at hSw); go_simp; try (with_reducible rfl))
           try simp only [Act.put]
           try simp only [List.setIfInBounds_toArray]
           try simp only [List.set_cons_zero, List.set_cons_succ]
           refine tkA 19 41 (v := ?_) rfl rfl (by kernel_rfl) (fun _ _ _ h => h) ?_ (by assumption) ?_
           rotate_left
           ·(intro w hSw; (try dsimp only at hSw); go_simp; try (with_reducible rfl))
           try simp only [Act.put]
           try simp only [List.setIfInBounds_toArray]
           try simp only [List.set_cons_zero, List.set_cons_succ]
           refine tkA 20 42 (v := ?_) rfl rfl (by kernel_rfl) (fun _ _ _ h => h) ?_ (by assumption) ?_
           rotate_left
           ·(intro w hSw; (try dsimp only at hSw); go_simp; try (with_reducible rfl))
           try simp only [Act.put]
           try simp only [List.setIfInBounds_toArray]
           try simp only [List.set_cons_zero, List.set_cons_succ]
           refine tkA 21 43 (v := ?_) rfl rfl (by kernel_rfl) (fun _ _ _ h => h) ?_ (by assumption) ?_
           rotate_left
           ·(intro w hSw; (try dsimp only at hSw); go_simp; try (with_reducible rfl))
           try simp only [Act.put]
           try simp only [List.setIfInBounds_toArray]
           try simp only [List.set_cons_zero, List.set_cons_succ]
           cases cl with
           | true =>
             have HCV : Hid (cd = false) := Lib.hid (by rw [HDD.out]; rfl)
             refine tkA 22 44 (v := ?_) rfl rfl (by kernel_rfl) (fun _ _ _ h => h) ?_ (by assumption) ?_
             rotate_left
             ·(intro w hSw; (try dsimp only at hSw); go_simp; try (with_reducible rfl))
             try simp only [Act.put]
             try simp only [List.setIfInBounds_toArray]
             try simp only [List.set_cons_zero, List.set_cons_succ]
             refine tkA 23 45 (v := ?_) rfl rfl (by kernel_rfl) (fun _ _ _ h => h) ?_ (by assumption) ?_
             rotate_left
             ·(intro w hSw; (try dsimp only at hSw); go_simp; try (with_reducible rfl))
             try simp only [Act.put]
             try simp only [List.setIfInBounds_toArray]
             try simp only [List.set_cons_zero, List.set_cons_succ]
             refine wpAnyT_skips (fun _ _ _ _ h => h) (by assumption) [(24, 46), (25, 47), (26, 48), (27, 49), (28, 50), (29, 51), (30, 52), (31, 53), (32, 54), (33, 55)] _ _ _ _ rfl (by kernel_rfl) ?_
             simp only [setAll, undAll]
             try simp only [Act.put]
             try simp only [List.setIfInBounds_toArray]
             try simp only [List.set_cons_zero, List.set_cons_succ]
             refine tkA 34 56 (v := ?_) rfl rfl (by kernel_rfl) (fun _ _ _ h => h) ?_ (by assumption) ?_
             rotate_left
             ·(intro w hSw; (try dsimp only at hSw); go_simp; try (with_reducible rfl))
             try simp only [Act.put]
             try simp only [List.setIfInBounds_toArray]
             try simp only [List.set_cons_zero, List.set_cons_succ]
             refine tkA 35 57 (v := ?_) rfl rfl (by kernel_rfl) (fun _ _ _ h => h) ?_ (by assumption) ?_
             rotate_left
             ·(intro w hSw; (try dsimp only at hSw); go_simp; try (with_reducible rfl))
             try simp only [Act.put]
             try simp only [List.setIfInBounds_toArray]
             try simp only [List.set_cons_zero, List.set_cons_succ]
             refine wpAnyT_skips (fun _ _ _ _ h => h) (by assumption) [(36, 58), (37, 59), (38, 60), (39, 61), (40, 62), (41, 63), (42, 64), (43, 65), (44, 66), (45, 67), (46, 68)] _ _ _ _ rfl (by kernel_rfl) ?_
             simp only [setAll, undAll]
             try simp only [Act.put]
             try simp only [List.setIfInBounds_toArray]
             try simp only [List.set_cons_zero, List.set_cons_succ]
             refine wpAnyT_last (by kernel_rfl) rfl (by kernel_rfl) (fun K hK => ?_)
             go_simp
             refine hK.out _ _ ?_
             go_wp2
             go_meet
             exact ⟨by rw [HCV.out]; rfl, (show Ext _ _ from HXD.out)⟩
           | false =>
             refine tkA 22 44 (v := ?_) rfl rfl (by kernel_rfl) (fun _ _ _ h => h) ?_ (by assumption) ?_
             rotate_left
             ·(intro w hSw; (try dsimp only at hSw); go_simp; try (with_reducible rfl))
             try simp only [Act.put]
             try simp only [List.setIfInBounds_toArray]
             try simp only [List.set_cons_zero, List.set_cons_succ]
             refine tkA 23 45 (v := ?_) rfl rfl (by kernel_rfl) (fun _ _ _ h => h) ?_ (by assumption) ?_
             rotate_left
             ·(intro w hSw; (try dsimp only at hSw); go_simp; try (with_reducible rfl))
             try simp only [Act.put]
             try simp only [List.setIfInBounds_toArray]
             try simp only [List.set_cons_zero, List.set_cons_succ]
             refine tkA 24 46 (v := ?_) rfl rfl (by kernel_rfl) (fun _ _ _ h => h) ?_ (by assumption) ?_
             rotate_left
             ·(intro w hSw; (try dsimp only at hSw); go_simp; try (with_reducible rfl))
             try simp only [Act.put]
             try simp only [List.setIfInBounds_toArray]
             try simp only [List.set_cons_zero, List.set_cons_succ]
             refine tkA 25 47 (v := ?_) rfl rfl (by kernel_rfl) (fun _ _ _ h => h) ?_ (by assumption) ?_
             rotate_left
             ·(intro w hSw; (try dsimp only at hSw); go_simp; try (with_reducible rfl))
             try simp only [Act.put]
             try simp only [List.setIfInBounds_toArray]
             try simp only [List.set_cons_zero, List.set_cons_succ]
             refine tkA 26 48 (v := ?_) rfl rfl (by kernel_rfl) (fun _ _ _ h => h) ?_ (by assumption) ?_
             rotate_left
             ·(intro w hSw; (try dsimp only at hSw); go_simp; try (with_reducible rfl))
             try simp only [Act.put]
             try simp only [List.setIfInBounds_toArray]
             try simp only [List.set_cons_zero, List.set_cons_succ]
             refine tkA 27 49 (v := ?_) rfl rfl (by kernel_rfl) (fun _ _ _ h => h) ?_ (by assumption) ?_
             rotate_left
             ·(intro w hSw; (try dsimp only at hSw); go_simp; try (with_reducible rfl))
             try simp only [Act.put]
             try simp only [List.setIfInBounds_toArray]
             try simp only [List.set_cons_zero, List.set_cons_succ]
             refine tkA 28 50 (v := ?_) rfl rfl (by kernel_rfl) (fun _ _ _ h => h) ?_ (by assumption) ?_
             rotate_left
             ·(intro w hSw; (try dsimp only at hSw); go_simp; try (with_reducible rfl))
             try simp only [Act.put]
             try simp only [List.setIfInBounds_toArray]
             try simp only [List.set_cons_zero, List.set_cons_succ]
             refine tkA 29 51 (v := ?_) rfl rfl (by kernel_rfl) (fun _ _ _ h => h) ?_ (by assumption) ?_
             rotate_left
             ·(intro w hSw; (try dsimp only at hSw); go_simp; try (with_reducible rfl))
             try simp only [Act.put]
             try simp only [List.setIfInBounds_toArray]
             try simp only [List.set_cons_zero, List.set_cons_succ]
             refine tkA 30 52 (v := ?_) rfl rfl (by kernel_rfl) (fun _ _ _ h => h) ?_ (by assumption) ?_
             rotate_left
             ·(intro w hSw; (try dsimp only at hSw); go_simp; try (with_reducible rfl))
             try simp only [Act.put]
             try simp only [List.setIfInBounds_toArray]
             try simp only [List.set_cons_zero, List.set_cons_succ]
             refine tkA 31 53 (v := ?_) rfl rfl (by kernel_rfl) (fun _ _ _ h => h) ?_ (by assumption) ?_
             rotate_left
             ·(intro w hSw; (try dsimp only at hSw); go_simp; try (with_reducible rfl))
             try simp only [Act.put]
             try simp only [List.setIfInBounds_toArray]
             try simp only [List.set_cons_zero, List.set_cons_succ]
             refine tkA 32 54 (v := ?_) rfl rfl (by kernel_rfl) (fun _ _ _ h => h) ?_ (by assumption) ?_
             rotate_left
             ·(intro w hSw; (try dsimp only at hSw); go_simp; try (with_reducible rfl))
             try simp only [Act.put]
             try simp only [List.setIfInBounds_toArray]
             try simp only [List.set_cons_zero, List.set_cons_succ]
             by_cases hc3 : (i : Int) < av + V.d
             case pos =>
              have d3 : decide ((i : Int) < av + V.d) = true := decide_eq_true hc3
              have HCV : Hid (cd = false) := Lib.hid (by rw [HDD.out, decide_eq_false (show ¬ av + V.d ≤ (i : Int) by omega)]; rfl)
              clear hc3
              refine tkA 33 55 (v := ?_) rfl rfl (by kernel_rfl) (fun _ _ _ h => h) ?_ (by assumption) ?_
              rotate_left
              ·(intro w hSw; (try dsimp only at hSw); go_simp; try (with_reducible rfl))
              try simp only [Act.put]
              try simp only [List.setIfInBounds_toArray]
              try simp only [List.set_cons_zero, List.set_cons_succ]
              refine tkA 34 56 (v := ?_) rfl rfl (by kernel_rfl) (fun _ _ _ h => h) ?_ (by assumption) ?_
              rotate_left
              ·(intro w hSw; (try dsimp only at hSw); go_simp; try (with_reducible rfl))
              try simp only [Act.put]
              try simp only [List.setIfInBounds_toArray]
              try simp only [List.set_cons_zero, List.set_cons_succ]
              refine tkA 35 57 (v := ?_) rfl rfl (by kernel_rfl) (fun _ _ _ h => h) ?_ (by assumption) ?_
              rotate_left
              ·(intro w hSw; (try dsimp only at hSw); go_simp; try (with_reducible rfl))
              try simp only [Act.put]
              try simp only [List.setIfInBounds_toArray]
              try simp only [List.set_cons_zero, List.set_cons_succ]
              refine wpAnyT_skips (fun _ _ _ _ h => h) (by assumption) [(36, 58), (37, 59), (38, 60), (39, 61), (40, 62), (41, 63), (42, 64), (43, 65), (44, 66), (45, 67), (46, 68)] _ _ _ _ rfl (by kernel_rfl) ?_
              simp only [setAll, undAll]
              try simp only [Act.put]
              try simp only [List.setIfInBounds_toArray]
              try simp only [List.set_cons_zero, List.set_cons_succ]
              refine wpAnyT_last (by kernel_rfl) rfl (by kernel_rfl) (fun K hK => ?_)
              go_simp
              refine hK.out _ _ ?_
              go_wp2
              go_meet
              exact ⟨by rw [HCV.out]; rfl, (show Ext _ _ from HXD.out)⟩
             case neg =>
              have d3 : decide ((i : Int) < av + V.d) = false := decide_eq_false hc3
              have HCV : Hid (cd = decide (xl = 0)) := Lib.hid (by rw [HDD.out, decide_eq_true (show av + V.d ≤ (i : Int) by omega)]; rfl)
              clear hc3
              refine tkA 33 55 (v := ?_) rfl rfl (by kernel_rfl) (fun _ _ _ h => h) ?_ (by assumption) ?_
              rotate_left
              ·(intro w hSw; (try dsimp only at hSw); go_simp; try (with_reducible rfl))
              try simp only [Act.put]
              try simp only [List.setIfInBounds_toArray]
              try simp only [List.set_cons_zero, List.set_cons_succ]
              refine tkA 34 56 (v := ?_) rfl rfl (by kernel_rfl) (fun _ _ _ h => h) ?_ (by assumption) ?_
              rotate_left
              ·(intro w hSw; (try dsimp only at hSw); go_simp; try (with_reducible rfl))
              try simp only [Act.put]
              try simp only [List.setIfInBounds_toArray]
              try simp only [List.set_cons_zero, List.set_cons_succ]
              refine tkA 35 57 (v := ?_) rfl rfl (by kernel_rfl) (fun _ _ _ h => h) ?_ (by assumption) ?_
              rotate_left
              ·(intro w hSw; (try dsimp only at hSw); go_simp; try (with_reducible rfl))
              try simp only [Act.put]
              try simp only [List.setIfInBounds_toArray]
              try simp only [List.set_cons_zero, List.set_cons_succ]
              refine tkA 36 58 (v := ?_) rfl rfl (by kernel_rfl) (fun _ _ _ h => h) ?_ (by assumption) ?_
              rotate_left
              ·(intro w hSw; (try dsimp only at hSw); go_simp; try (with_reducible rfl))
              try simp only [Act.put]
              try simp only [List.setIfInBounds_toArray]
              try simp only [List.set_cons_zero, List.set_cons_succ]
              refine tkA 37 59 (v := ?_) rfl rfl (by kernel_rfl) (fun _ _ _ h => h) ?_ (by assumption) ?_
              rotate_left
              ·(intro w hSw; (try dsimp only at hSw); go_simp; try (with_reducible rfl))
              try simp only [Act.put]
              try simp only [List.setIfInBounds_toArray]
              try simp only [List.set_cons_zero, List.set_cons_succ]
              refine tkA 38 60 (v := ?_) rfl rfl (by kernel_rfl) (fun _ _ _ h => h) ?_ (by assumption) ?_
              rotate_left
              ·(intro w hSw; (try dsimp only at hSw); go_simp; try (with_reducible rfl))
              try simp only [Act.put]
              try simp only [List.setIfInBounds_toArray]
              try simp only [List.set_cons_zero, List.set_cons_succ]
              refine tkA 39 61 (v := ?_) rfl rfl (by kernel_rfl) (fun _ _ _ h => h) ?_ (by assumption) ?_
              rotate_left
              ·(intro w hSw; (try dsimp only at hSw); go_simp; try (with_reducible rfl))
              try simp only [Act.put]
              try simp only [List.setIfInBounds_toArray]
              try simp only [List.set_cons_zero, List.set_cons_succ]
              refine tkA 40 62 (v := ?_) rfl rfl (by kernel_rfl) (fun _ _ _ h => h) ?_ (by assumption) ?_
              rotate_left
              ·(intro w hSw; (try dsimp only at hSw); go_simp; try (with_reducible rfl))
              try simp only [Act.put]
              try simp only [List.setIfInBounds_toArray]
              try simp only [List.set_cons_zero, List.set_cons_succ]
              refine tkA 41 63 (v := ?_) rfl rfl (by kernel_rfl) (fun _ _ _ h => h) ?_ (by assumption) ?_
              rotate_left
              ·(intro w hSw; (try dsimp only at hSw); go_simp; try (with_reducible rfl))
              try simp only [Act.put]
              try simp only [List.setIfInBounds_toArray]
              try simp only [List.set_cons_zero, List.set_cons_succ]
              refine tkA 42 64 (v := ?_) rfl rfl (by kernel_rfl) (fun _ _ _ h => h) ?_ (by assumption) ?_
              rotate_left
              ·(intro w hSw; (try dsimp only at hSw); go_simp; try (with_reducible rfl))
              try simp only [Act.put]
              try simp only [List.setIfInBounds_toArray]
              try simp only [List.set_cons_zero, List.set_cons_succ]
              refine tkA 43 65 (v := ?_) rfl rfl (by kernel_rfl) (fun _ _ _ h => h) ?_ (by assumption) ?_
              rotate_left
              ·(intro w hSw; (try dsimp only at hSw); go_simp; try (with_reducible rfl))
              try simp only [Act.put]
              try simp only [List.setIfInBounds_toArray]
              try simp only [List.set_cons_zero, List.set_cons_succ]
              refine wpAnyT_step (i := 44) (o := ⟨some 66, _, _, _, _, _⟩) (by kernel_rfl) rfl (fun K hK => ?_)
              refine step_callW (by kernel_rfl) 63 _ _ rfl enters_63 [.agg #[V.tv, .slice (some ⟨rB, rO, none⟩) R rC, V.lv, V.av, .int .i64 V.d], .int .i64 f, .int .i64 k, .slice (some ⟨uB, uO, none⟩) V.n uC] (by first | rfl | kernel_rfl | go_simp) (HAH.out _ HXD.out) ?_
              rintro e y1 ⟨va, rfl, hRa, hXa⟩
              rw [HXL.out] at hRa
              obtain ⟨xa', xc', rfl, hza⟩ := hRa.any
              refine ⟨_, rfl, ?_⟩
              have HXD := Lib.hid (HXD.out.trans' hXa)
              have HXA := Lib.hid hXa
              clear hRa hXa hza
              refine hK.out _ _ ?_ (fun hHeld => ?_)
              ·(try dsimp only)
               exact (let ⟨h0, h1, h2, h3, h4, h5, h6, h7, h8, h9⟩ := HHE.out; ⟨HXA.out.cl h0, HXA.out.cl h1, HXA.out.cl h2, HXA.out.cl h3, HXA.out.cl h4, HXA.out.cl h5, HXA.out.cl h6, HXA.out.cl h7, HXA.out.cl h8, HXA.out.cl h9⟩)
              clear hK K
              try simp only [Act.put]
              try simp only [List.setIfInBounds_toArray]
              try simp only [List.set_cons_zero, List.set_cons_succ]
              by_cases hx0 : xl = 0
              case pos =>
               have d4 : decide ((0 : Int) < (xl : Int)) = false := decide_eq_false (by omega)
               have d4n : decide (0 < xl) = false := decide_eq_false (by omega)
               have HCV : Hid (cd = true) := Lib.hid (by rw [HCV.out, decide_eq_true hx0])
               clear hx0 hcl64
               refine tkA 45 67 (v := ?_) rfl rfl (by kernel_rfl) (fun _ _ _ h => h) ?_ (by assumption) ?_
               rotate_left
               ·(intro w hSw; (try dsimp only at hSw); go_simp; try (with_reducible rfl))
               try simp only [Act.put]
               try simp only [List.setIfInBounds_toArray]
               try simp only [List.set_cons_zero, List.set_cons_succ]
               refine tkA 46 68 (v := ?_) rfl rfl (by kernel_rfl) (fun _ _ _ h => h) ?_ (by assumption) ?_
               rotate_left
               ·(intro w hSw; (try dsimp only at hSw); go_simp; try (with_reducible rfl))
               try simp only [Act.put]
               try simp only [List.setIfInBounds_toArray]
               try simp only [List.set_cons_zero, List.set_cons_succ]
               refine wpAnyT_last (by kernel_rfl) rfl (by kernel_rfl) (fun K hK => ?_)
               go_simp
               refine hK.out _ _ ?_
               go_wp2
               go_meet
               exact ⟨by rw [HCV.out]; rfl, (show Ext _ _ from HXD.out)⟩
              case neg =>
               have d4 : decide ((0 : Int) < (xl : Int)) = true := decide_eq_true (by omega)
               have d4n : decide (0 < xl) = true := decide_eq_true (by omega)
               have HCV : Hid (cd = false) := Lib.hid (by rw [HCV.out, decide_eq_false hx0])
               clear hx0 hcl64
               refine tkA 45 67 (v := ?_) rfl rfl (by kernel_rfl) (fun _ _ _ h => h) ?_ (by assumption) ?_
               rotate_left
               ·(intro w hSw; (try dsimp only at hSw); go_simp; try (with_reducible rfl))
               try simp only [Act.put]
               try simp only [List.setIfInBounds_toArray]
               try simp only [List.set_cons_zero, List.set_cons_succ]
               refine tkA 46 68 (v := ?_) rfl rfl (by kernel_rfl) (fun _ _ _ h => h) ?_ (by assumption) ?_
               rotate_left
               ·(intro w hSw; (try dsimp only at hSw); go_simp; try (with_reducible rfl))
               try simp only [Act.put]
               try simp only [List.setIfInBounds_toArray]
               try simp only [List.set_cons_zero, List.set_cons_succ]
               refine wpAnyT_last (by kernel_rfl) rfl (by kernel_rfl) (fun K hK => ?_)
               go_simp
               refine hK.out _ _ ?_
               go_wp2
               go_meet
               exact ⟨by rw [HCV.out]; rfl, (show Ext _ _ from HXD.out)⟩
        case rest =>
         obtain ⟨rfl, HXC⟩ := hcut
         obtain ⟨wb, rfl⟩ : ∃ x, x = wc := ⟨_, rfl⟩
         clear b0 b1 b2 b3 b4 m0 m1 k1 a0 r0 hcn hat hcl64 hwav
         have HP4 : Hid (PasR w0 w1 wb V t r B b i f k m3) := Lib.hid ⟨HP3.out.1.grow HXC.out, HP3.out.2.1, HP3.out.2.2.tr (KeepT.of HXC.out)⟩
         cases cd with
         | false =>
           have HN : Hid (PasR w0 w1 wb V t r B b i f (k + 1) m3) := Lib.hid (by
            obtain ⟨g1, g2, g3⟩ := HP4.out
            unfold PasR
            rw [aPassTo_succ, aStep, if_neg (by simp only; rw [HDE.out, HCDE.out]; simp)]
            exact ⟨g1, g2, g3⟩)
           go_wp2
           go_roundg (V.n - (k + 1))
           case measure => omega
           case rel => exact ⟨k + 1, m3, by omega, by omega, rfl, by go_num, (show PasR _ _ _ _ _ _ _ _ _ _ _ _ from HN.out)⟩
         | true =>
           have HCP := Lib.hid (condA_parts HCDE.out)
           have HRC := Lib.hid (recordR50_calls w0 wb V D vr t b r k i (HR.out.grow HXC.out) HIA.out HG.out.rn HG.out.len.symm hkn HI.out (by rw [(HG.out.run.2 i HI.out).1]; exact HG.out.len) HG.out.few HG.out.run.1)
           have HB4 := Lib.hid (HXC.out.hp HBX.out)
           have b0 := cellOf HB4.out 0
           have b1 := cellOf HB4.out 1
           have b2 := cellOf HB4.out 2
           have b3 := cellOf HB4.out 3
           have b4 := cellOf HB4.out 4
           simp only [List.getElem?_toArray, List.getElem?_cons_zero, List.getElem?_cons_succ] at b0 b1 b2 b3 b4
           go_wp2_with fail
           refine HRC.out.mono ?_
           rintro e w5 ⟨rfl, hK5, vr5, hR5⟩
           have HR5 := Lib.hid hR5
           have HK5 := Lib.hid hK5
           have HB5 := Lib.hid (hK5.2 _ _ _ _ HB4.out (by decide) (by decide) (by decide) (by decide) (by decide))
           clear b0 b1 b2 b3 b4 hR5 hK5
           have b2 := cellOf HB5.out 2
           simp only [List.getElem?_toArray, List.getElem?_cons_zero, List.getElem?_cons_succ] at b2
           obtain ⟨_, m1, _, _⟩ := HR5.out.mks.cellsAt (i := k) (by rw [HR5.out.ll]; exact hkn)
           obtain ⟨g3, o3, c3, hv3, _, _, _, k1, hf3⟩ := HR5.out.mks.boolAt (i := k) (j := f) hkn hfn
           rw [hv3] at m1
           have f3 := hf3 (o3 + f)
           have HV3 := Lib.hid hv3
           generalize (aRec? r D k i).l[k]!.closed[f]! = z3 at *
           clear hf3 hv3
           have HR6 := Lib.hid (HR5.out.setB hkn hfn HV3.out)
           have HK6 := Lib.hid (HR5.out.keepB hkn HV3.out (o3 + f) (.bool true))
           have HN : Hid (PasR w0 w1 (w5.setCell ⟨g3, o3 + f, none⟩ (.bool true)) V t r B b i f (k + 1) true) := Lib.hid (by
            unfold PasR
            rw [aPassTo_succ, aStep, if_pos (by simp only; rw [HDE.out]; exact HCDE.out)]
            simp only
            rw [HDE.out]
            exact ⟨⟨⟨vr5, HR6.out⟩, HIA.out.arr HG.out.run (by rw [HG.out.len]; exact hfn) (by rw [HG.out.len]; exact hkn) HI.out HCP.out.2.1 HCP.out.1⟩, by first | rfl | trivial, (HP4.out.2.2.tr HK5.out).tr HK6.out⟩)
           go_wp2
           go_roundg (V.n - (k + 1))
           case measure => omega
           case rel => exact ⟨k + 1, true, by omega, by omega, by first | rfl | trivial, by go_num, (show PasR _ _ _ _ _ _ _ _ _ _ _ _ from HN.out)⟩
end Go.Proofs.YtfagfooggcinoaaGreat
namespace Go.Proofs.YtfagfooggcinoaaGreat
open Go.RowKit
set_option linter.unusedVariables false
theorem noteL_chM (l : List Mk) (q f : Nat) (x : Int) : noteL l q f x = chM l q f [x] := rfl
theorem RefAt.notes {w0 w w' : World} {V : RV} {A : Sn} {vr : Nat → Nat → Value} {q f hg ho hk m : Nat} {v' : Value} {x : List Int} (h : RefAt w0 w V A vr) (hq : q < V.n) (hf : f < V.n) (hv : V.vh q = .slice (some ⟨hg, ho, none⟩) V.n hk)
  (hgr : w.grownBy w' (vr q f).ownBlock) (hr : Row w' w0.heap.size 3 1 v' ((A.l[q]!.chan[f]!).length + m) ((A.l[q]!.chan[f]!).map (Value.int .i64) ++ x.map (Value.int .i64))) (hm : x.length = m) (hb : v'.ownBlock = (vr q f).ownBlock ∨ ∃ z, v'.ownBlock = some z ∧ w.heap.size ≤ z) :
  RefAt w0 (w'.setCell ⟨hg, ho + f, none⟩ v') V ⟨chM A.l q f x, A.at_⟩ (put2 vr q f v') ∧ KeepT w (w'.setCell ⟨hg, ho + f, none⟩ v') := by
 have hcha := h.mks.cha q hq f hf
 have hhd := h.mks.hdr q hq
 rw [hv] at hhd
 obtain ⟨cu, fr, hheap⟩ := row_hp hhd
 have hheap' := (grown_heap hcha hgr hheap (by decide)).trans hheap
 refine ⟨⟨(h.ext.gr hgr (fun z hz => (hcha.lt z hz).1)).st (p := ⟨hg, ho + f, none⟩) (hhd.lt hg rfl).1 v', ?_, by rw [chM_len]; exact h.ll, (h.atr.grown hgr (h.ad q f hq hf)).stO hheap' (by decide) v', h.la, fun i j hi hj => ?_⟩, (keep_grown hcha hgr).tr (keep_st hheap' (.inr (.inr (.inr (.inl rfl)))))⟩
 ·refine h.mks.setH hq hf hv (fun a c ha hc hne => (h.mks.cha a ha c hc).grown hgr (h.mks.dr a c q f ha hc hq hf hne)) ?_ (fun a c ha hc hne => ?_) (h.mks.row.grown hgr (h.mks.row.apart hcha (by decide))) (fun a ha => (h.mks.clo a ha).grown hgr ((h.mks.clo a ha).apart hcha (by decide))) (fun a ha => (h.mks.hdr a ha).grown hgr ((h.mks.hdr a ha).apart hcha (by decide)))
  ·rw [RowI, List.length_append, List.map_append, hm]; exact hr
  ·rcases hb with hb | ⟨z, hb, hz⟩
   ·rcases h.mks.dr q f a c hq hf ha hc (fun h => hne ⟨h.1.symm, h.2.symm⟩) with h1 | h1
    ·exact .inl (hb.trans h1)
    ·exact .inr (by rw [hb]; exact h1)
   ·refine .inr fun e => ?_
    rw [hb] at e
    have := ((h.mks.cha a ha c hc).lt z e.symm).2
    omega
 ·by_cases e : i = q ∧ j = f
  ·obtain ⟨rfl, rfl⟩ := e
   rw [put2_same]
   rcases hb with hb | ⟨z, hb, hz⟩
   ·have h1 := h.ad i j hi hj
    unfold Dis at h1 ⊢
    rw [hb]; exact h1
   ·refine .inr fun e => ?_
    rw [hb] at e
    have := (h.atr.lt z e).2
    omega
  ·rw [put2_ne e]; exact h.ad i j hi hj
end Go.Proofs.YtfagfooggcinoaaGreat
