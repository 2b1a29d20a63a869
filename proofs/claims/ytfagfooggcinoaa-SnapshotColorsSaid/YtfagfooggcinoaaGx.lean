import Derived.Test.YtfagfooggcinoaaJa
import Derived.Test.YtfagfooggcinoaaProg
import Derived.Test.YtfagfooggcinoaaGw
import Derived.Test.YtfagfooggcinoaaGk
import Derived.Test.YtfagfooggcinoaaGh
import Derived.Test.YtfagfooggcinoaaGg
import Derived.Test.YtfagfooggcinoaaGi
import Derived.Test.YtfagfooggcinoaaGd
import Derived.Test.YtfagfooggcinoaaGa
import Derived.BigQuiet
import Derived.Deep.QuietTactic
import Derived.Deep.LoopGhost
import Derived.Shelf.Abstract
import Derived.RegionTactic
import Derived.Deep.RegionWith
import Derived.BigRegion
import Derived.Deep.DeepCutAuto
namespace Go.Proofs.Ytfagfooggcinoaa
open Go.RowKit
set_option linter.unusedVariables false
def ofMk (n : Nat) (c : Int) (F : Nat → List Int) (k f : Nat) : Mk := ⟨c, (List.range n).map (fun j => decide (j < f)), (List.range n).map fun j => if j < f ∧ j ≠ k then F j else []⟩
section
variable {n : Nat} {c : Int} {F : Nat → List Int} {k f : Nat}
theorem ofMk_close (hf : f < n) : closeK [ofMk n c F k f] 0 f = [⟨c, (List.range n).map (fun j => decide (j < f + 1)), (ofMk n c F k f).chan⟩] := by
 show [({ ofMk n c F k f with closed := (ofMk n c F k f).closed.set f true } : Mk)] = _
 unfold ofMk
 simp only
 rw [mapR_set (g := fun j => decide (j < f)) (h := fun j => decide (j < f + 1)) (fun _ => by simp) (fun i _ hi => by
  have : (i < f + 1) = (i < f) := by rw [eq_iff_iff]; omega
  simp only [this])]
theorem ofMk_own (hf : f < n) (h : f = k) : closeK [ofMk n c F k f] 0 f = [ofMk n c F k (f + 1)] := by
 rw [ofMk_close hf]
 unfold ofMk
 simp only [List.cons.injEq, Mk.mk.injEq, and_true, true_and]
 refine List.map_congr_left fun j _ => ?_
 have : (j < f + 1 ∧ j ≠ k) = (j < f ∧ j ≠ k) := by rw [eq_iff_iff]; omega
 simp only [this]
theorem ofMk_other (hf : f < n) (h : f ≠ k) : (closeK [ofMk n c F k f] 0 f).set 0 { (closeK [ofMk n c F k f] 0 f)[0]! with chan := (closeK [ofMk n c F k f] 0 f)[0]!.chan.set f (F f) } = [ofMk n c F k (f + 1)] := by
 rw [ofMk_close hf]
 unfold ofMk
 simp only [List.set_cons_zero, List.getElem!_cons_zero, List.cons.injEq, Mk.mk.injEq, and_true, true_and]
 refine mapR_set (fun _ => if_pos ⟨by omega, h⟩) fun i _ hi => ?_
 have : (i < f + 1 ∧ i ≠ k) = (i < f ∧ i ≠ k) := by rw [eq_iff_iff]; omega
 simp only [this]
theorem ofMk_zero_closed : (ofMk n c F k 0).closed = List.replicate n false := by
 unfold ofMk
 exact listG_ext (by simp) fun j hj => by
  have hj : j < n := by simpa using hj
  rw [mapR_at _ hj, rep_get hj]; simp
end
theorem cutM_of {t : Tr} {C : List Int} (hv : validT t = true) (hc : RangeC t C) {q : Nat} (hq : q < t.length) : ofMk t.length C[q]! (fun f => underC t C f (q : Int)) q t.length = (cutM t C)[q]! := by
 rw [cutM_at hq]
 unfold ofMk
 refine mk_ext rfl ?_ ?_
 ·simp only
  exact listG_ext (by simp) fun j hj => by
   have hj : j < t.length := by simpa using hj
   rw [mapR_at _ hj, rep_get hj]; simpa using hj
 ·simp only
  refine List.map_congr_left fun j hj => ?_
  have hj := List.mem_range.1 hj
  by_cases e : j = q
  ·subst e; rw [if_neg (fun h => h.2 rfl), under_self hv hc hj]
  ·rw [if_pos ⟨hj, e⟩]
theorem OwnM.snocG {w wa w8 : World} {base n k : Nat} {v v8 v1 : Value} {l : List Mk} {m : Mk} {vc vh vc1 vh1 : Nat → Value} {vr vr1 : Nat → Nat → Value} (h : OwnM w base v n k l vc vh vr) (hk : l.length = k) (hx : Ext w wa) (hb : base ≤ w.heap.size)
  (h1 : OwnM wa w.heap.size v1 n 1 [m] vc1 vh1 vr1) (hg : wa.grownBy w8 v.ownBlock)
  (ho : Row w8 base 48 3 v8 (k + 1) (mkCells l vc vh ++ [.int .i64 m.cnt, vc1 0, vh1 0])) :
  OwnM w8 base v8 n (k + 1) (l ++ [m]) (putF vc k (vc1 0)) (putF vh k (vh1 0)) (fun i j => if i = k then vr1 0 j else vr i j) := by
 have hrow := h.row.ext hx
 have hu := h1.clo 0 (Nat.lt_succ_self 0)
 have hy := h1.hdr 0 (Nat.lt_succ_self 0)
 have hc0 := fun j (hj : j < n) => h1.cha 0 (Nat.lt_succ_self 0) j hj
 simp only [List.getElem!_cons_zero] at hu hy hc0
 have hgk : ∀ {b : Nat} {e : TypeId} {s : Nat} {x : Value} {m : Nat} {xs : List Value}, Row w b e s x m xs → 48 ≠ e → Row w8 b e s x m xs := fun hr hne => (hr.ext hx).grown hg ((hr.ext hx).apart hrow (Ne.symm hne))
 have hla : ∀ i, i < k → (l ++ [m])[i]! = l[i]! := fun i hi => by
  rw [getElem!_pos _ i (by simp; omega), getElem!_pos l i (by omega), List.getElem_append_left]
 have hlk : (l ++ [m])[k]! = m := by
  rw [getElem!_pos _ k (by simp; omega)]
  simp [← hk]
 refine ⟨?_, by simp; omega, fun i hi => ?_, fun i hi => ?_, fun i hi => ?_, fun i hi j hj => ?_, fun i j hi hj hij => ?_, fun i j hi hj hij => ?_, fun i j a c hi hj ha hc hn => ?_⟩
 ·have e := mkCells_snoc (l := l) (vc := vc) (vh := vh) m (vc1 0) (vh1 0)
  rw [hk] at e
  rw [e, show (l ++ [m]).length = k + 1 by simp [hk]]
  exact ho
 ·by_cases e : i = k
  ·subst e; rw [hlk]; exact h1.shp 0 (Nat.lt_succ_self 0)
  ·rw [hla i (by omega)]; exact h.shp i (by omega)
 ·by_cases e : i = k
  ·subst e
   rw [putF_same, hlk]
   exact (hu.grown hg (hu.apart hrow (by decide))).mono hb
  ·rw [putF_ne e, hla i (by omega)]; exact hgk (h.clo i (by omega)) (by decide)
 ·by_cases e : i = k
  ·subst e
   rw [putF_same, show ((List.range n).map fun j => if i = i then vr1 0 j else vr i j) = (List.range n).map (vr1 0) from List.map_congr_left fun j _ => if_pos rfl]
   exact (hy.grown hg (hy.apart hrow (by decide))).mono hb
  ·rw [putF_ne e, show ((List.range n).map fun j => if i = k then vr1 0 j else vr i j) = (List.range n).map (vr i) from List.map_congr_left fun j _ => if_neg e]
   exact hgk (h.hdr i (by omega)) (by decide)
 ·by_cases e : i = k
  ·subst e
   rw [if_pos rfl, hlk]
   have h2 := hc0 j hj
   exact (h2.grown hg (h2.apart hrow (by decide))).mono hb
  ·rw [if_neg e, hla i (by omega)]; exact hgk (h.cha i (by omega) j hj) (by decide)
 ·by_cases e1 : i = k
  ·subst e1
   rw [putF_same, putF_ne (Ne.symm hij)]
   exact (dis_new (h.clo j (by omega)) hu (Nat.le_refl _)).symm
  ·by_cases e2 : j = k
   ·subst e2
    rw [putF_same, putF_ne e1]
    exact dis_new (h.clo i (by omega)) hu (Nat.le_refl _)
   ·rw [putF_ne e1, putF_ne e2]; exact h.dc i j (by omega) (by omega) hij
 ·by_cases e1 : i = k
  ·subst e1
   rw [putF_same, putF_ne (Ne.symm hij)]
   exact (dis_new (h.hdr j (by omega)) hy (Nat.le_refl _)).symm
  ·by_cases e2 : j = k
   ·subst e2
    rw [putF_same, putF_ne e1]
    exact dis_new (h.hdr i (by omega)) hy (Nat.le_refl _)
   ·rw [putF_ne e1, putF_ne e2]; exact h.dh i j (by omega) (by omega) hij
 ·by_cases e1 : i = k
  ·by_cases e2 : a = k
   ·rw [if_pos e1, if_pos e2]
    exact h1.dr 0 j 0 c (Nat.lt_succ_self 0) hj (Nat.lt_succ_self 0) hc (fun hh => hn ⟨by omega, hh.2⟩)
   ·rw [if_pos e1, if_neg e2]
    exact (dis_new (h.cha a (by omega) c hc) (hc0 j hj) (Nat.le_refl _)).symm
  ·by_cases e2 : a = k
   ·rw [if_neg e1, if_pos e2]
    exact dis_new (h.cha i (by omega) j hj) (hc0 c hc) (Nat.le_refl _)
   ·rw [if_neg e1, if_neg e2]; exact h.dr i j a c (by omega) hj (by omega) hc hn
theorem OwnM.noneG (w : World) (base n : Nat) : OwnM w base (.slice none 0 0) n 0 [] (fun _ => .slice none 0 0) (fun _ => .slice none 0 0) (fun _ _ => .slice none 0 0) :=
 ⟨Row.mkNil _ _ _ _, Nat.le_refl _, fun i hi => absurd hi (Nat.not_lt_zero _), fun i hi => absurd hi (Nat.not_lt_zero _), fun i hi => absurd hi (Nat.not_lt_zero _), fun i hi => absurd hi (Nat.not_lt_zero _), fun i j hi => absurd hi (Nat.not_lt_zero _), fun i j hi => absurd hi (Nat.not_lt_zero _), fun i j a c hi => absurd hi (Nat.not_lt_zero _)⟩
theorem OwnM.box {w : World} {base n M U Y : Nat} {c : Int} {F : Nat → List Int} {k : Nat} (hM : w.heap[M]? = some (.cells #[.int .i64 c, .slice (some ⟨U, 0, none⟩) n n, .slice (some ⟨Y, 0, none⟩) n n] 48))
  (hU : w.heap[U]? = some (.cells (madeCells #[.bool false] n) 4)) (hY : w.heap[Y]? = some (.cells (madeCells #[.slice none 0 0] n) 25)) (bM : base ≤ M) (bU : base ≤ U) (bY : base ≤ Y) (hn : n ≤ 1000) :
  OwnM w base (.slice (some ⟨M, 0, none⟩) 1 1) n 1 [ofMk n c F k 0] (fun _ => .slice (some ⟨U, 0, none⟩) n n) (fun _ => .slice (some ⟨Y, 0, none⟩) n n) (fun _ _ => .slice none 0 0) := by
 have hmk : mkCells [ofMk n c F k 0] (fun _ => Value.slice (some ⟨U, 0, none⟩) n n) (fun _ => Value.slice (some ⟨Y, 0, none⟩) n n) = [.int .i64 c, .slice (some ⟨U, 0, none⟩) n n, .slice (some ⟨Y, 0, none⟩) n n] := by
  have h3 := mkCells_three (l := [ofMk n c F k 0]) (vc := fun _ => Value.slice (some ⟨U, 0, none⟩) n n) (vh := fun _ => Value.slice (some ⟨Y, 0, none⟩) n n) (i := 0) (by simp)
  rw [Nat.zero_mul, List.drop_zero, List.take_of_length_le (by rw [mkCells_len]; simp)] at h3
  exact h3
 refine ⟨⟨by rw [mkCells_len], .inr ⟨M, 0, 1, _, rfl, bM, hM, Nat.le_refl _, by unfold maxLen; omega, by simp, by rw [hmk]; simp⟩⟩, Nat.le_refl _, fun i hi => ?_, fun i hi => ?_, fun i hi => ?_, fun i hi j hj => ?_, fun i j hi hj hij => absurd hij (by omega), fun i j hi hj hij => absurd hij (by omega), fun i j a c hi hj ha hc hn => Dis.nilL⟩
 ·obtain rfl : i = 0 := by omega
  simp [ofMk]
 ·obtain rfl : i = 0 := by omega
  have h := row_made (base := base) hU bU (by unfold maxLen; omega)
  simp only [List.getElem!_cons_zero]
  rw [ofMk_zero_closed, List.map_replicate]
  exact h
 ·have h := row_made (base := base) hY bY (by unfold maxLen; omega)
  rw [show (List.range n).map (fun _ : Nat => Value.slice none 0 0) = List.replicate n (.slice none 0 0) from List.ext_getElem (by simp) fun j h1 h2 => by simp]
  exact h
 ·obtain rfl : i = 0 := by omega
  have e : ([ofMk n c F k 0][0]!).chan[j]! = [] := by
   simp only [List.getElem!_cons_zero]
   unfold ofMk
   simp only
   rw [mapR_at _ hj, if_neg (fun h => absurd h.1 (Nat.not_lt_zero _))]
  rw [e]
  exact Row.mkNil _ _ _ _
theorem mk3_set {w : World} {K : Nat} {z0 z1 z2 : Value} (h : w.heap[K]? = some (.cells #[z0, z1, z2] 48)) (a b c : Value) :
  (((w.setCell ⟨K, 0, none⟩ a).setCell ⟨K, 1, none⟩ b).setCell ⟨K, 2, none⟩ c).heap[K]? = some (.cells #[a, b, c] 48) := by
 have h0 : (w.setCell ⟨K, 0, none⟩ a).heap[K]? = some (.cells #[a, z1, z2] 48) := by rw [heap_setCell_same h]; simp
 have h1 : ((w.setCell ⟨K, 0, none⟩ a).setCell ⟨K, 1, none⟩ b).heap[K]? = some (.cells #[a, b, z2] 48) := by rw [heap_setCell_same h0]; simp
 rw [heap_setCell_same h1]; simp
theorem mk3_other {w : World} {K K' : Nat} (h : K' ≠ K) (a b c : Value) : (((w.setCell ⟨K, 0, none⟩ a).setCell ⟨K, 1, none⟩ b).setCell ⟨K, 2, none⟩ c).heap[K']? = w.heap[K']? := by
 rw [Below.heap_setCell _ _ _ _ h, Below.heap_setCell _ _ _ _ h, Below.heap_setCell _ _ _ _ h]
theorem mk3_ext {w W : World} {K : Nat} (h : Ext w W) (hK : w.heap.size ≤ K) (a b c : Value) : Ext w (((W.setCell ⟨K, 0, none⟩ a).setCell ⟨K, 1, none⟩ b).setCell ⟨K, 2, none⟩ c) :=
 ((h.st (p := ⟨K, 0, none⟩) hK a).st (p := ⟨K, 1, none⟩) hK b).st (p := ⟨K, 2, none⟩) hK c
theorem obj_ne {w : World} {K K' : Nat} {c1 c2 : Array Value} {t1 t2 : TypeId} (h1 : w.heap[K]? = some (.cells c1 t1)) (h2 : w.heap[K']? = some (.cells c2 t2)) (h : t1 ≠ t2) : K ≠ K' := by
 rintro rfl
 rw [h1] at h2
 simp only [Option.some.injEq, Obj.cells.injEq] at h2
 exact h h2.2.1
def OfOut (t : Tr) (C : List Int) (w w' : World) (e : Ending) : Prop := ∃ u, e = .returned u ∧ Ext w w' ∧ Sl RMk 3 w' u (cutM t C)
theorem enters_67 : ∀ args w, (callFunc 67 args).run Try.prog w = .ok (.enter 67 args) w := enters_of Try.func67 (by kernel_rfl) rfl
set_option maxHeartbeats 8000000 in
set_option maxRecDepth 100000 in
theorem ofR_calls (v vc : Value) (t : Tr) (C : List Int) (w : World) (h : TrAt w v t) (hv : validT t = true) (hc : Ints w vc C) (hr : RangeC t C) :
  Calls Try.prog 38 #[.agg #[v], vc] w fun e w' => OfOut t C w w' e := by
 have hn8 := (valid_8 hv)
 have HUW := Lib.hid (fun W (hW : Ext w W) f (q : Nat) (hf : f < t.length) => underWayR_calls v vc t C f (q : Int) W (h.ext hW) (valid_small hv) (hc.ext hW) hr hf)
 have HCO := Lib.hid (fun q (hq : q < t.length) => cutM_of hv hr hq)
 have HCV := Lib.hid hc
 have HML := Lib.hid (cutM_len (t := t) (c := C))
 obtain ⟨ta, tc, rfl, htc⟩ := h.sh
 obtain ⟨ca, cc, rfl, hz1, hz2⟩ := hc
 rw [hr.1] at HCV HUW ⊢
 have HRL := Lib.hid hr.1
 obtain ⟨im, him, mz0, mz1, mz2⟩ := info_partsM info_markM
 obtain ⟨ib, hib, bz0, bz1, bz2⟩ := info_partsM info_boolM
 obtain ⟨ir, hir, rz0, rz1, rz2⟩ := info_partsM info_rowsM
 obtain ⟨n, hn⟩ : ∃ n, t.length = n := ⟨_, rfl⟩
 have HNT := Lib.hid hn
 rw [hn] at hn8 HUW HCO HML HCV HRL ⊢
 have HMB := Lib.hid (fun W : World => run_make (P := Try.prog) W 46 4 ib (.bool false) Try.underlying46 hib bz0 .i64 .i64 (n : Int) (n : Int) (by omega) (by omega) (by rw [bz2]; omega) (by omega))
 have HMR := Lib.hid (fun W : World => run_make (P := Try.prog) W 43 25 ir (.slice none 0 0) Try.underlying43 hir rz0 .i64 .i64 (n : Int) (n : Int) (by omega) (by omega) (by rw [rz2]; omega) (by omega))
 rw [bz1] at HMB
 rw [rz1] at HMR
 simp only [Int.toNat_natCast, Nat.mul_one] at HMB HMR
 have HX1 := Lib.hid ((Ext.rf w).al (.cells #[.slice ta n tc] 24))
 have HB1 := Lib.hid (heap_alloc_new w (.cells #[.slice ta n tc] 24))
 clear h hv hr hz1 hz2 htc hn
 go_enter Try.func38, Try.ntmps38
 go_wp2
 generalize hw1 : w.alloc (.cells #[.slice ta n tc] 24) = w1 at *
 clear hw1
 go_loopg [6, 7, 8, 9] n (fun g s6 s7 s8 s9 wr => ∃ (k : Nat) (vc vh : Nat → Value) (vr : Nat → Nat → Value), k ≤ n ∧ n - k ≤ g ∧ s7 = .int .i64 k ∧ Aside (OwnM wr w1.heap.size s6 n k ((cutM t C).take k) vc vh vr) ∧ Aside (Ext w1 wr))
 case atStart => exact ⟨0, _, _, _, Nat.zero_le _, by omega, rfl, (show OwnM _ _ _ _ _ _ _ _ _ from OwnM.noneG _ _ _), (show Ext _ _ from Ext.rf _)⟩
 case round =>
  obtain ⟨k, vc, vh, vr, hk, hgk, rfl, HO, HE⟩ := hrel
  have HTK : Hid (((cutM t C).take k).length = k) := Lib.hid (by rw [List.length_take, HML.out]; omega)
  obtain ⟨xa, xc, hxe, hxz⟩ := HO.out.row.any
  rw [HTK.out] at hxe hxz
  subst hxe
  clear hxz
  by_cases hlt : k < n
  case neg =>
   have hkz : ¬ (k : Int) < (n : Int) := by omega
   obtain rfl : n = k := by omega
   go_wp2
   go_ret
   refine ⟨_, rfl, HX1.out.trans' HE.out, ?_⟩
   have h := HO.out.sl2 HTK.out
   rwa [List.take_of_length_le (by rw [HML.out]; exact Nat.le_refl _)] at h
  case pos =>
   have hkz : (k : Int) < (n : Int) := by omega
   have hkz0 : (0 : Int) ≤ (k : Int) := by omega
   have hmb := HMB.out
   have hmr := HMR.out
   obtain ⟨cB, cO, cCp, hce, _, _, hcc⟩ := Ints.at1 (HCV.out.ext (HX1.out.trans' HE.out)) k (by rw [HRL.out]; exact hlt)
   simp only [Value.slice.injEq] at hce
   obtain ⟨rfl, hz3, rfl⟩ := hce
   have c0 := hcc
   obtain ⟨z, hz⟩ : ∃ z, C[k]! = z := ⟨_, rfl⟩
   rw [hz] at c0
   have HCK : Hid (ofMk n z (fun f => underC t C f (k : Int)) k n = (cutM t C)[k]!) := Lib.hid (by have h := HCO.out k hlt; rwa [hz] at h)
   have hlc := World.block_lt_of_cell? wr _ c0
   simp only at hlc
   have hne1 : cB ≠ wr.heap.size := Nat.ne_of_lt hlc
   have hne2 : cB ≠ wr.heap.size + 1 := by omega
   have hne3 : cB ≠ wr.heap.size + 2 := by omega
   have hne4 : cB ≠ wr.heap.size + 1 + 1 := by omega
   clear hcc hz hz3
   go_upto_region 6 with (fail)
   go_cut [8] (fun s8 wx => ∃ M U Y : Nat, s8 = .pointer (some ⟨M, 0, none⟩) ∧ Aside (wx.heap[M]? = some (.cells #[.int .i64 z, .slice (some ⟨U, 0, none⟩) n n, .slice (some ⟨Y, 0, none⟩) n n] 48)) ∧ Aside (wx.heap[U]? = some (.cells (madeCells #[.bool false] n) 4)) ∧ Aside (wx.heap[Y]? = some (.cells (madeCells #[.slice none 0 0] n) 25)) ∧ Aside (wr.heap.size ≤ M ∧ wr.heap.size ≤ U ∧ wr.heap.size ≤ Y) ∧ Aside (Ext wr wx))
   case first =>
    have HC0 := Lib.hid c0
    refine wp_region_tail (fun W => W.cell? ⟨cB, cO + k, none⟩ = some (.int .i64 z)) 10 (by kernel_rfl) c0 (fun hHeld => ?_)
    have HX0 : Hid (Ext wr wr.drew) := Lib.hid (Ext.rf wr).dr
    generalize wr.drew = w0 at *
    refine tkA 0 17 (v := ?_) rfl rfl (by kernel_rfl) (fun _ _ _ h => h) ?_ (by assumption) ?_
    rotate_left
    ·(intro w hSw; (try dsimp only at hSw); go_simp; try (with_reducible rfl))
    try simp only [Act.put]
    try simp only [List.setIfInBounds_toArray]
    try simp only [List.set_cons_zero, List.set_cons_succ]
    refine tkA 1 18 (v := ?_) rfl rfl (by kernel_rfl) (fun _ _ _ h => h) ?_ (by assumption) ?_
    rotate_left
    ·(intro w hSw; (try dsimp only at hSw); go_simp; try (with_reducible rfl))
    try simp only [Act.put]
    try simp only [List.setIfInBounds_toArray]
    try simp only [List.set_cons_zero, List.set_cons_succ]
    refine tkA 2 19 (v := ?_) rfl rfl (by kernel_rfl) (fun _ _ _ h => h) ?_ (by assumption) ?_
    rotate_left
    ·(intro w hSw; (try dsimp only at hSw); go_simp; try (with_reducible rfl))
    try simp only [Act.put]
    try simp only [List.setIfInBounds_toArray]
    try simp only [List.set_cons_zero, List.set_cons_succ]
    refine tkA 3 20 (v := ?_) rfl rfl (by kernel_rfl) (fun _ _ _ h => h) ?_ (by assumption) ?_
    rotate_left
    ·(intro w hSw; (try dsimp only at hSw); go_simp; try (with_reducible rfl))
    try simp only [Act.put]
    try simp only [List.setIfInBounds_toArray]
    try simp only [List.set_cons_zero, List.set_cons_succ]
    refine tkA 4 21 (v := ?_) rfl rfl (by kernel_rfl) (fun _ _ _ h => h) ?_ (by assumption) ?_
    rotate_left
    ·(intro w hSw; (try dsimp only at hSw); go_simp; try (with_reducible rfl))
    try simp only [Act.put]
    try simp only [List.setIfInBounds_toArray]
    try simp only [List.set_cons_zero, List.set_cons_succ]
    refine tkA 6 23 (v := ?_) rfl rfl (by kernel_rfl) (fun _ _ _ h => h) ?_ (by assumption) ?_
    rotate_left
    ·(intro w hSw; (try dsimp only at hSw); go_simp; try (with_reducible rfl))
    try simp only [Act.put]
    try simp only [List.setIfInBounds_toArray]
    try simp only [List.set_cons_zero, List.set_cons_succ]
    refine wpAnyT_ready (rs := [5, 7, 9]) (by kernel_rfl) (by simp) ?_
    refine AllT.cons (i := 5) rfl (fun K hK => ?_) ?_
    ·(skip)
     go_simp
     have Hbu : Hid ((w0.alloc (.cells (madeCells #[.bool false] n) 4)).heap[w0.heap.size]? = some (.cells (madeCells #[.bool false] n) 4)) := Lib.hid (heap_alloc_new w0 _)
     have HNbu : Hid (Ext w0 (w0.alloc (.cells (madeCells #[.bool false] n) 4))) := Lib.hid ((Ext.rf w0).al _)
     have HBbu : Hid (wr.heap.size ≤ w0.heap.size) := Lib.hid HX0.out.sz
     generalize w0.heap.size = bu at *
     generalize w0.alloc (.cells (madeCells #[.bool false] n) 4) = wa at *
     have HXa := Lib.hid (HX0.out.trans' HNbu.out)
     refine hK.out _ _ ?_ (fun hHeld => ?_)
     ·(try dsimp only)
      exact HXa.out.cl HC0.out
     clear hK K
     try simp only [Act.put]
     try simp only [List.setIfInBounds_toArray]
     try simp only [List.set_cons_zero, List.set_cons_succ]
     refine wpAnyT_ready (rs := [7, 9]) (by kernel_rfl) (by simp) ?_
     refine AllT.cons (i := 7) rfl (fun K hK => ?_) ?_
     ·(skip)
      go_simp
      have Hby_ : Hid ((wa.alloc (.cells (madeCells #[.slice none 0 0] n) 25)).heap[wa.heap.size]? = some (.cells (madeCells #[.slice none 0 0] n) 25)) := Lib.hid (heap_alloc_new wa _)
      have HNby_ : Hid (Ext wa (wa.alloc (.cells (madeCells #[.slice none 0 0] n) 25))) := Lib.hid ((Ext.rf wa).al _)
      have HBby_ : Hid (wr.heap.size ≤ wa.heap.size) := Lib.hid HXa.out.sz
      generalize wa.heap.size = by_ at *
      generalize wa.alloc (.cells (madeCells #[.slice none 0 0] n) 25) = wb at *
      have HXb := Lib.hid (HXa.out.trans' HNby_.out)
      refine hK.out _ _ ?_ (fun hHeld => ?_)
      ·(try dsimp only)
       exact HXb.out.cl HC0.out
      clear hK K
      try simp only [Act.put]
      try simp only [List.setIfInBounds_toArray]
      try simp only [List.set_cons_zero, List.set_cons_succ]
      refine tkA 8 25 (v := ?_) rfl rfl (by kernel_rfl) (fun _ _ _ h => h) ?_ (by assumption) ?_
      rotate_left
      ·(intro w hSw; (try dsimp only at hSw); go_simp; try (with_reducible rfl))
      try simp only [Act.put]
      try simp only [List.setIfInBounds_toArray]
      try simp only [List.set_cons_zero, List.set_cons_succ]
      refine wpAnyT_step (i := 9) (by kernel_rfl) rfl (fun K hK => ?_)
      go_simp
      have Hbm : Hid ((wb.alloc (.cells #[.int .i64 0, .slice none 0 0, .slice none 0 0] 48)).heap[wb.heap.size]? = some (.cells #[.int .i64 0, .slice none 0 0, .slice none 0 0] 48)) := Lib.hid (heap_alloc_new wb _)
      have HNbm : Hid (Ext wb (wb.alloc (.cells #[.int .i64 0, .slice none 0 0, .slice none 0 0] 48))) := Lib.hid ((Ext.rf wb).al _)
      have HBbm : Hid (wr.heap.size ≤ wb.heap.size) := Lib.hid HXb.out.sz
      generalize wb.heap.size = bm at *
      generalize wb.alloc (.cells #[.int .i64 0, .slice none 0 0, .slice none 0 0] 48) = wd at *
      have HXd := Lib.hid (HXb.out.trans' HNbm.out)
      refine hK.out _ _ ?_ (fun hHeld => ?_)
      ·(try dsimp only)
       exact HXd.out.cl HC0.out
      clear hK K
      try simp only [Act.put]
      try simp only [List.setIfInBounds_toArray]
      try simp only [List.set_cons_zero, List.set_cons_succ]
      have HPM := Lib.hid (Hbm.out)
      have HPU := Lib.hid (HNbm.out.hp (HNby_.out.hp (Hbu.out)))
      have HPY := Lib.hid (HNbm.out.hp (Hby_.out))
      have q0 := cellOf HPM.out 0
      have q1 := cellOf HPM.out 1
      have q2 := cellOf HPM.out 2
      have g0 := freeOf HPM.out 0
      have g1 := freeOf HPM.out 1
      have g2 := freeOf HPM.out 2
      simp only [List.getElem?_toArray, List.getElem?_cons_zero, List.getElem?_cons_succ] at q0 q1 q2
      refine wpAnyT_last (by kernel_rfl) rfl (by kernel_rfl) (fun K hK => ?_)
      go_simp
      refine hK.out _ _ ?_
      go_wp2
      go_meet
      exact ⟨bm, bu, by_, rfl, mk3_set HPM.out _ _ _, (mk3_other (obj_ne HPU.out HPM.out (by decide)) _ _ _).trans HPU.out, (mk3_other (obj_ne HPY.out HPM.out (by decide)) _ _ _).trans HPY.out, ⟨HBbm.out, HBbu.out, HBby_.out⟩, mk3_ext HXd.out HBbm.out _ _ _⟩
     refine AllT.cons (i := 9) rfl (fun K hK => ?_) AllT.nil
     go_simp
     have Hbm : Hid ((wa.alloc (.cells #[.int .i64 0, .slice none 0 0, .slice none 0 0] 48)).heap[wa.heap.size]? = some (.cells #[.int .i64 0, .slice none 0 0, .slice none 0 0] 48)) := Lib.hid (heap_alloc_new wa _)
     have HNbm : Hid (Ext wa (wa.alloc (.cells #[.int .i64 0, .slice none 0 0, .slice none 0 0] 48))) := Lib.hid ((Ext.rf wa).al _)
     have HBbm : Hid (wr.heap.size ≤ wa.heap.size) := Lib.hid HXa.out.sz
     generalize wa.heap.size = bm at *
     generalize wa.alloc (.cells #[.int .i64 0, .slice none 0 0, .slice none 0 0] 48) = wb at *
     have HXb := Lib.hid (HXa.out.trans' HNbm.out)
     refine hK.out _ _ ?_ (fun hHeld => ?_)
     ·(try dsimp only)
      exact HXb.out.cl HC0.out
     clear hK K
     try simp only [Act.put]
     try simp only [List.setIfInBounds_toArray]
     try simp only [List.set_cons_zero, List.set_cons_succ]
     refine wpAnyT_step (i := 7) (by kernel_rfl) rfl (fun K hK => ?_)
     go_simp
     have Hby_ : Hid ((wb.alloc (.cells (madeCells #[.slice none 0 0] n) 25)).heap[wb.heap.size]? = some (.cells (madeCells #[.slice none 0 0] n) 25)) := Lib.hid (heap_alloc_new wb _)
     have HNby_ : Hid (Ext wb (wb.alloc (.cells (madeCells #[.slice none 0 0] n) 25))) := Lib.hid ((Ext.rf wb).al _)
     have HBby_ : Hid (wr.heap.size ≤ wb.heap.size) := Lib.hid HXb.out.sz
     generalize wb.heap.size = by_ at *
     generalize wb.alloc (.cells (madeCells #[.slice none 0 0] n) 25) = wd at *
     have HXd := Lib.hid (HXb.out.trans' HNby_.out)
     refine hK.out _ _ ?_ (fun hHeld => ?_)
     ·(try dsimp only)
      exact HXd.out.cl HC0.out
     clear hK K
     try simp only [Act.put]
     try simp only [List.setIfInBounds_toArray]
     try simp only [List.set_cons_zero, List.set_cons_succ]
     refine tkA 8 25 (v := ?_) rfl rfl (by kernel_rfl) (fun _ _ _ h => h) ?_ (by assumption) ?_
     rotate_left
     ·(intro w hSw; (try dsimp only at hSw); go_simp; try (with_reducible rfl))
     try simp only [Act.put]
     try simp only [List.setIfInBounds_toArray]
     try simp only [List.set_cons_zero, List.set_cons_succ]
     have HPM := Lib.hid (HNby_.out.hp (Hbm.out))
     have HPU := Lib.hid (HNby_.out.hp (HNbm.out.hp (Hbu.out)))
     have HPY := Lib.hid (Hby_.out)
     have q0 := cellOf HPM.out 0
     have q1 := cellOf HPM.out 1
     have q2 := cellOf HPM.out 2
     have g0 := freeOf HPM.out 0
     have g1 := freeOf HPM.out 1
     have g2 := freeOf HPM.out 2
     simp only [List.getElem?_toArray, List.getElem?_cons_zero, List.getElem?_cons_succ] at q0 q1 q2
     refine wpAnyT_last (by kernel_rfl) rfl (by kernel_rfl) (fun K hK => ?_)
     go_simp
     refine hK.out _ _ ?_
     go_wp2
     go_meet
     exact ⟨bm, bu, by_, rfl, mk3_set HPM.out _ _ _, (mk3_other (obj_ne HPU.out HPM.out (by decide)) _ _ _).trans HPU.out, (mk3_other (obj_ne HPY.out HPM.out (by decide)) _ _ _).trans HPY.out, ⟨HBbm.out, HBbu.out, HBby_.out⟩, mk3_ext HXd.out HBbm.out _ _ _⟩
    refine AllT.cons (i := 7) rfl (fun K hK => ?_) ?_
    ·(skip)
     go_simp
     have Hby_ : Hid ((w0.alloc (.cells (madeCells #[.slice none 0 0] n) 25)).heap[w0.heap.size]? = some (.cells (madeCells #[.slice none 0 0] n) 25)) := Lib.hid (heap_alloc_new w0 _)
     have HNby_ : Hid (Ext w0 (w0.alloc (.cells (madeCells #[.slice none 0 0] n) 25))) := Lib.hid ((Ext.rf w0).al _)
     have HBby_ : Hid (wr.heap.size ≤ w0.heap.size) := Lib.hid HX0.out.sz
     generalize w0.heap.size = by_ at *
     generalize w0.alloc (.cells (madeCells #[.slice none 0 0] n) 25) = wa at *
     have HXa := Lib.hid (HX0.out.trans' HNby_.out)
     refine hK.out _ _ ?_ (fun hHeld => ?_)
     ·(try dsimp only)
      exact HXa.out.cl HC0.out
     clear hK K
     try simp only [Act.put]
     try simp only [List.setIfInBounds_toArray]
     try simp only [List.set_cons_zero, List.set_cons_succ]
     refine wpAnyT_ready (rs := [5, 9]) (by kernel_rfl) (by simp) ?_
     refine AllT.cons (i := 5) rfl (fun K hK => ?_) ?_
     ·(skip)
      go_simp
      have Hbu : Hid ((wa.alloc (.cells (madeCells #[.bool false] n) 4)).heap[wa.heap.size]? = some (.cells (madeCells #[.bool false] n) 4)) := Lib.hid (heap_alloc_new wa _)
      have HNbu : Hid (Ext wa (wa.alloc (.cells (madeCells #[.bool false] n) 4))) := Lib.hid ((Ext.rf wa).al _)
      have HBbu : Hid (wr.heap.size ≤ wa.heap.size) := Lib.hid HXa.out.sz
      generalize wa.heap.size = bu at *
      generalize wa.alloc (.cells (madeCells #[.bool false] n) 4) = wb at *
      have HXb := Lib.hid (HXa.out.trans' HNbu.out)
      refine hK.out _ _ ?_ (fun hHeld => ?_)
      ·(try dsimp only)
       exact HXb.out.cl HC0.out
      clear hK K
      try simp only [Act.put]
      try simp only [List.setIfInBounds_toArray]
      try simp only [List.set_cons_zero, List.set_cons_succ]
      refine tkA 8 25 (v := ?_) rfl rfl (by kernel_rfl) (fun _ _ _ h => h) ?_ (by assumption) ?_
      rotate_left
      ·(intro w hSw; (try dsimp only at hSw); go_simp; try (with_reducible rfl))
      try simp only [Act.put]
      try simp only [List.setIfInBounds_toArray]
      try simp only [List.set_cons_zero, List.set_cons_succ]
      refine wpAnyT_step (i := 9) (by kernel_rfl) rfl (fun K hK => ?_)
      go_simp
      have Hbm : Hid ((wb.alloc (.cells #[.int .i64 0, .slice none 0 0, .slice none 0 0] 48)).heap[wb.heap.size]? = some (.cells #[.int .i64 0, .slice none 0 0, .slice none 0 0] 48)) := Lib.hid (heap_alloc_new wb _)
      have HNbm : Hid (Ext wb (wb.alloc (.cells #[.int .i64 0, .slice none 0 0, .slice none 0 0] 48))) := Lib.hid ((Ext.rf wb).al _)
      have HBbm : Hid (wr.heap.size ≤ wb.heap.size) := Lib.hid HXb.out.sz
      generalize wb.heap.size = bm at *
      generalize wb.alloc (.cells #[.int .i64 0, .slice none 0 0, .slice none 0 0] 48) = wd at *
      have HXd := Lib.hid (HXb.out.trans' HNbm.out)
      refine hK.out _ _ ?_ (fun hHeld => ?_)
      ·(try dsimp only)
       exact HXd.out.cl HC0.out
      clear hK K
      try simp only [Act.put]
      try simp only [List.setIfInBounds_toArray]
      try simp only [List.set_cons_zero, List.set_cons_succ]
      have HPM := Lib.hid (Hbm.out)
      have HPU := Lib.hid (HNbm.out.hp (Hbu.out))
      have HPY := Lib.hid (HNbm.out.hp (HNbu.out.hp (Hby_.out)))
      have q0 := cellOf HPM.out 0
      have q1 := cellOf HPM.out 1
      have q2 := cellOf HPM.out 2
      have g0 := freeOf HPM.out 0
      have g1 := freeOf HPM.out 1
      have g2 := freeOf HPM.out 2
      simp only [List.getElem?_toArray, List.getElem?_cons_zero, List.getElem?_cons_succ] at q0 q1 q2
      refine wpAnyT_last (by kernel_rfl) rfl (by kernel_rfl) (fun K hK => ?_)
      go_simp
      refine hK.out _ _ ?_
      go_wp2
      go_meet
      exact ⟨bm, bu, by_, rfl, mk3_set HPM.out _ _ _, (mk3_other (obj_ne HPU.out HPM.out (by decide)) _ _ _).trans HPU.out, (mk3_other (obj_ne HPY.out HPM.out (by decide)) _ _ _).trans HPY.out, ⟨HBbm.out, HBbu.out, HBby_.out⟩, mk3_ext HXd.out HBbm.out _ _ _⟩
     refine AllT.cons (i := 9) rfl (fun K hK => ?_) AllT.nil
     go_simp
     have Hbm : Hid ((wa.alloc (.cells #[.int .i64 0, .slice none 0 0, .slice none 0 0] 48)).heap[wa.heap.size]? = some (.cells #[.int .i64 0, .slice none 0 0, .slice none 0 0] 48)) := Lib.hid (heap_alloc_new wa _)
     have HNbm : Hid (Ext wa (wa.alloc (.cells #[.int .i64 0, .slice none 0 0, .slice none 0 0] 48))) := Lib.hid ((Ext.rf wa).al _)
     have HBbm : Hid (wr.heap.size ≤ wa.heap.size) := Lib.hid HXa.out.sz
     generalize wa.heap.size = bm at *
     generalize wa.alloc (.cells #[.int .i64 0, .slice none 0 0, .slice none 0 0] 48) = wb at *
     have HXb := Lib.hid (HXa.out.trans' HNbm.out)
     refine hK.out _ _ ?_ (fun hHeld => ?_)
     ·(try dsimp only)
      exact HXb.out.cl HC0.out
     clear hK K
     try simp only [Act.put]
     try simp only [List.setIfInBounds_toArray]
     try simp only [List.set_cons_zero, List.set_cons_succ]
     refine wpAnyT_step (i := 5) (by kernel_rfl) rfl (fun K hK => ?_)
     go_simp
     have Hbu : Hid ((wb.alloc (.cells (madeCells #[.bool false] n) 4)).heap[wb.heap.size]? = some (.cells (madeCells #[.bool false] n) 4)) := Lib.hid (heap_alloc_new wb _)
     have HNbu : Hid (Ext wb (wb.alloc (.cells (madeCells #[.bool false] n) 4))) := Lib.hid ((Ext.rf wb).al _)
     have HBbu : Hid (wr.heap.size ≤ wb.heap.size) := Lib.hid HXb.out.sz
     generalize wb.heap.size = bu at *
     generalize wb.alloc (.cells (madeCells #[.bool false] n) 4) = wd at *
     have HXd := Lib.hid (HXb.out.trans' HNbu.out)
     refine hK.out _ _ ?_ (fun hHeld => ?_)
     ·(try dsimp only)
      exact HXd.out.cl HC0.out
     clear hK K
     try simp only [Act.put]
     try simp only [List.setIfInBounds_toArray]
     try simp only [List.set_cons_zero, List.set_cons_succ]
     refine tkA 8 25 (v := ?_) rfl rfl (by kernel_rfl) (fun _ _ _ h => h) ?_ (by assumption) ?_
     rotate_left
     ·(intro w hSw; (try dsimp only at hSw); go_simp; try (with_reducible rfl))
     try simp only [Act.put]
     try simp only [List.setIfInBounds_toArray]
     try simp only [List.set_cons_zero, List.set_cons_succ]
     have HPM := Lib.hid (HNbu.out.hp (Hbm.out))
     have HPU := Lib.hid (Hbu.out)
     have HPY := Lib.hid (HNbu.out.hp (HNbm.out.hp (Hby_.out)))
     have q0 := cellOf HPM.out 0
     have q1 := cellOf HPM.out 1
     have q2 := cellOf HPM.out 2
     have g0 := freeOf HPM.out 0
     have g1 := freeOf HPM.out 1
     have g2 := freeOf HPM.out 2
     simp only [List.getElem?_toArray, List.getElem?_cons_zero, List.getElem?_cons_succ] at q0 q1 q2
     refine wpAnyT_last (by kernel_rfl) rfl (by kernel_rfl) (fun K hK => ?_)
     go_simp
     refine hK.out _ _ ?_
     go_wp2
     go_meet
     exact ⟨bm, bu, by_, rfl, mk3_set HPM.out _ _ _, (mk3_other (obj_ne HPU.out HPM.out (by decide)) _ _ _).trans HPU.out, (mk3_other (obj_ne HPY.out HPM.out (by decide)) _ _ _).trans HPY.out, ⟨HBbm.out, HBbu.out, HBby_.out⟩, mk3_ext HXd.out HBbm.out _ _ _⟩
    refine AllT.cons (i := 9) rfl (fun K hK => ?_) AllT.nil
    go_simp
    have Hbm : Hid ((w0.alloc (.cells #[.int .i64 0, .slice none 0 0, .slice none 0 0] 48)).heap[w0.heap.size]? = some (.cells #[.int .i64 0, .slice none 0 0, .slice none 0 0] 48)) := Lib.hid (heap_alloc_new w0 _)
    have HNbm : Hid (Ext w0 (w0.alloc (.cells #[.int .i64 0, .slice none 0 0, .slice none 0 0] 48))) := Lib.hid ((Ext.rf w0).al _)
    have HBbm : Hid (wr.heap.size ≤ w0.heap.size) := Lib.hid HX0.out.sz
    generalize w0.heap.size = bm at *
    generalize w0.alloc (.cells #[.int .i64 0, .slice none 0 0, .slice none 0 0] 48) = wa at *
    have HXa := Lib.hid (HX0.out.trans' HNbm.out)
    refine hK.out _ _ ?_ (fun hHeld => ?_)
    ·(try dsimp only)
     exact HXa.out.cl HC0.out
    clear hK K
    try simp only [Act.put]
    try simp only [List.setIfInBounds_toArray]
    try simp only [List.set_cons_zero, List.set_cons_succ]
    refine wpAnyT_ready (rs := [5, 7]) (by kernel_rfl) (by simp) ?_
    refine AllT.cons (i := 5) rfl (fun K hK => ?_) ?_
    ·(skip)
     go_simp
     have Hbu : Hid ((wa.alloc (.cells (madeCells #[.bool false] n) 4)).heap[wa.heap.size]? = some (.cells (madeCells #[.bool false] n) 4)) := Lib.hid (heap_alloc_new wa _)
     have HNbu : Hid (Ext wa (wa.alloc (.cells (madeCells #[.bool false] n) 4))) := Lib.hid ((Ext.rf wa).al _)
     have HBbu : Hid (wr.heap.size ≤ wa.heap.size) := Lib.hid HXa.out.sz
     generalize wa.heap.size = bu at *
     generalize wa.alloc (.cells (madeCells #[.bool false] n) 4) = wb at *
     have HXb := Lib.hid (HXa.out.trans' HNbu.out)
     refine hK.out _ _ ?_ (fun hHeld => ?_)
     ·(try dsimp only)
      exact HXb.out.cl HC0.out
     clear hK K
     try simp only [Act.put]
     try simp only [List.setIfInBounds_toArray]
     try simp only [List.set_cons_zero, List.set_cons_succ]
     refine wpAnyT_step (i := 7) (by kernel_rfl) rfl (fun K hK => ?_)
     go_simp
     have Hby_ : Hid ((wb.alloc (.cells (madeCells #[.slice none 0 0] n) 25)).heap[wb.heap.size]? = some (.cells (madeCells #[.slice none 0 0] n) 25)) := Lib.hid (heap_alloc_new wb _)
     have HNby_ : Hid (Ext wb (wb.alloc (.cells (madeCells #[.slice none 0 0] n) 25))) := Lib.hid ((Ext.rf wb).al _)
     have HBby_ : Hid (wr.heap.size ≤ wb.heap.size) := Lib.hid HXb.out.sz
     generalize wb.heap.size = by_ at *
     generalize wb.alloc (.cells (madeCells #[.slice none 0 0] n) 25) = wd at *
     have HXd := Lib.hid (HXb.out.trans' HNby_.out)
     refine hK.out _ _ ?_ (fun hHeld => ?_)
     ·(try dsimp only)
      exact HXd.out.cl HC0.out
     clear hK K
     try simp only [Act.put]
     try simp only [List.setIfInBounds_toArray]
     try simp only [List.set_cons_zero, List.set_cons_succ]
     refine tkA 8 25 (v := ?_) rfl rfl (by kernel_rfl) (fun _ _ _ h => h) ?_ (by assumption) ?_
     rotate_left
     ·(intro w hSw; (try dsimp only at hSw); go_simp; try (with_reducible rfl))
     try simp only [Act.put]
     try simp only [List.setIfInBounds_toArray]
     try simp only [List.set_cons_zero, List.set_cons_succ]
     have HPM := Lib.hid (HNby_.out.hp (HNbu.out.hp (Hbm.out)))
     have HPU := Lib.hid (HNby_.out.hp (Hbu.out))
     have HPY := Lib.hid (Hby_.out)
     have q0 := cellOf HPM.out 0
     have q1 := cellOf HPM.out 1
     have q2 := cellOf HPM.out 2
     have g0 := freeOf HPM.out 0
     have g1 := freeOf HPM.out 1
     have g2 := freeOf HPM.out 2
     simp only [List.getElem?_toArray, List.getElem?_cons_zero, List.getElem?_cons_succ] at q0 q1 q2
     refine wpAnyT_last (by kernel_rfl) rfl (by kernel_rfl) (fun K hK => ?_)
     go_simp
     refine hK.out _ _ ?_
     go_wp2
     go_meet
     exact ⟨bm, bu, by_, rfl, mk3_set HPM.out _ _ _, (mk3_other (obj_ne HPU.out HPM.out (by decide)) _ _ _).trans HPU.out, (mk3_other (obj_ne HPY.out HPM.out (by decide)) _ _ _).trans HPY.out, ⟨HBbm.out, HBbu.out, HBby_.out⟩, mk3_ext HXd.out HBbm.out _ _ _⟩
    refine AllT.cons (i := 7) rfl (fun K hK => ?_) AllT.nil
    go_simp
    have Hby_ : Hid ((wa.alloc (.cells (madeCells #[.slice none 0 0] n) 25)).heap[wa.heap.size]? = some (.cells (madeCells #[.slice none 0 0] n) 25)) := Lib.hid (heap_alloc_new wa _)
    have HNby_ : Hid (Ext wa (wa.alloc (.cells (madeCells #[.slice none 0 0] n) 25))) := Lib.hid ((Ext.rf wa).al _)
    have HBby_ : Hid (wr.heap.size ≤ wa.heap.size) := Lib.hid HXa.out.sz
    generalize wa.heap.size = by_ at *
    generalize wa.alloc (.cells (madeCells #[.slice none 0 0] n) 25) = wb at *
    have HXb := Lib.hid (HXa.out.trans' HNby_.out)
    refine hK.out _ _ ?_ (fun hHeld => ?_)
    ·(try dsimp only)
     exact HXb.out.cl HC0.out
    clear hK K
    try simp only [Act.put]
    try simp only [List.setIfInBounds_toArray]
    try simp only [List.set_cons_zero, List.set_cons_succ]
    refine wpAnyT_step (i := 5) (by kernel_rfl) rfl (fun K hK => ?_)
    go_simp
    have Hbu : Hid ((wb.alloc (.cells (madeCells #[.bool false] n) 4)).heap[wb.heap.size]? = some (.cells (madeCells #[.bool false] n) 4)) := Lib.hid (heap_alloc_new wb _)
    have HNbu : Hid (Ext wb (wb.alloc (.cells (madeCells #[.bool false] n) 4))) := Lib.hid ((Ext.rf wb).al _)
    have HBbu : Hid (wr.heap.size ≤ wb.heap.size) := Lib.hid HXb.out.sz
    generalize wb.heap.size = bu at *
    generalize wb.alloc (.cells (madeCells #[.bool false] n) 4) = wd at *
    have HXd := Lib.hid (HXb.out.trans' HNbu.out)
    refine hK.out _ _ ?_ (fun hHeld => ?_)
    ·(try dsimp only)
     exact HXd.out.cl HC0.out
    clear hK K
    try simp only [Act.put]
    try simp only [List.setIfInBounds_toArray]
    try simp only [List.set_cons_zero, List.set_cons_succ]
    refine tkA 8 25 (v := ?_) rfl rfl (by kernel_rfl) (fun _ _ _ h => h) ?_ (by assumption) ?_
    rotate_left
    ·(intro w hSw; (try dsimp only at hSw); go_simp; try (with_reducible rfl))
    try simp only [Act.put]
    try simp only [List.setIfInBounds_toArray]
    try simp only [List.set_cons_zero, List.set_cons_succ]
    have HPM := Lib.hid (HNbu.out.hp (HNby_.out.hp (Hbm.out)))
    have HPU := Lib.hid (Hbu.out)
    have HPY := Lib.hid (HNbu.out.hp (Hby_.out))
    have q0 := cellOf HPM.out 0
    have q1 := cellOf HPM.out 1
    have q2 := cellOf HPM.out 2
    have g0 := freeOf HPM.out 0
    have g1 := freeOf HPM.out 1
    have g2 := freeOf HPM.out 2
    simp only [List.getElem?_toArray, List.getElem?_cons_zero, List.getElem?_cons_succ] at q0 q1 q2
    refine wpAnyT_last (by kernel_rfl) rfl (by kernel_rfl) (fun K hK => ?_)
    go_simp
    refine hK.out _ _ ?_
    go_wp2
    go_meet
    exact ⟨bm, bu, by_, rfl, mk3_set HPM.out _ _ _, (mk3_other (obj_ne HPU.out HPM.out (by decide)) _ _ _).trans HPU.out, (mk3_other (obj_ne HPY.out HPM.out (by decide)) _ _ _).trans HPY.out, ⟨HBbm.out, HBbu.out, HBby_.out⟩, mk3_ext HXd.out HBbm.out _ _ _⟩
   case rest =>
    obtain ⟨M, U, Y, rfl, HM, HU, HY, HBD, HXC⟩ := hcut
    obtain ⟨wb, rfl⟩ : ∃ x, x = wc := ⟨_, rfl⟩
    obtain ⟨wo, rfl⟩ : ∃ x, x = wr := ⟨_, rfl⟩
    clear c0 hlc hne1 hne2 hne3 hne4 hmb hmr
    have HO1 := Lib.hid (OwnM.box (c := z) (F := fun f => underC t C f (k : Int)) (k := k) HM.out HU.out HY.out HBD.out.1 HBD.out.2.1 HBD.out.2.2 (by omega))
    obtain ⟨F, hF⟩ : ∃ F : Nat → List Int, F = fun f => underC t C f (k : Int) := ⟨_, rfl⟩
    have HUK : Hid (∀ W, Ext w W → ∀ f, f < n → Calls Try.prog 67 #[.agg #[.slice ta n tc], .slice (some ⟨cB, cO, none⟩) n cc, .int .i64 f, .int .i64 k] W fun e w' => IntsOut W w' e (F f)) := Lib.hid (fun W hW f hf => by
     have h := HUW.out W hW f k hf
     rw [hF]; exact h)
    rw [← hF] at HO1 HCK
    have HCT : Hid ((cutM t C).take (k + 1) = (cutM t C).take k ++ [ofMk n z F k n]) := Lib.hid (by
     rw [HCK.out, getElem!_pos _ k (by rw [HML.out]; exact hlt)]
     exact List.take_succ_eq_append_getElem (by rw [HML.out]; exact hlt))
    clear hF
    have HEB := Lib.hid (HE.out.trans' HXC.out)
    go_wp2
    go_loopg [9] n (fun g s9 wr => ∃ (f : Nat) (vr1 : Nat → Nat → Value), f ≤ n ∧ n - f ≤ g ∧ s9 = .int .i64 f ∧ Aside (OwnM wr wo.heap.size (.slice (some ⟨M, 0, none⟩) 1 1) n 1 [ofMk n z F k f] (fun _ => .slice (some ⟨U, 0, none⟩) n n) (fun _ => .slice (some ⟨Y, 0, none⟩) n n) vr1) ∧ Aside (Ext wo wr))
    case atStart => exact ⟨0, _, Nat.zero_le _, by omega, rfl, (show OwnM _ _ _ _ _ _ _ _ _ from HO1.out), (show Ext _ _ from HXC.out)⟩
    case round =>
     clear HO1 HXC HM HU HY HBD HEB
     obtain ⟨f, vr1, hf, hgf, rfl, HP, HQ⟩ := hrel
     have HEW := Lib.hid (HX1.out.trans' (HE.out.trans' HQ.out))
     obtain ⟨m0, m1, m2, _⟩ := HP.out.cellsAt (i := 0) (by simp)
     simp only [Nat.zero_mul, Nat.zero_add, List.getElem!_cons_zero] at m0 m1 m2
     have m0 : wr.cell? ⟨M, 0, none⟩ = some (.int .i64 z) := m0
     by_cases hfn : f < n
     case neg =>
      have hfz : ¬ (f : Int) < (n : Int) := by omega
      obtain rfl : n = f := by omega
      have HRW : Hid (Row wr w1.heap.size 48 3 (.slice xa k xc) k (mkCells ((cutM t C).take k) vc vh)) := Lib.hid (by have h := HO.out.row.ext HQ.out; rwa [HTK.out] at h)
      have hszq := (HE.out.trans' HQ.out).sz
      go_wp2_with ((at_builtin; go_loud (refine wpList_append_one rfl _ _ 28 rfl w1.heap.size 48 im (.agg #[.int .i64 0, .slice none 0 0, .slice none 0 0]) 3 56 Try.underlying28 him mz0 mz1 mz2 rfl (by decide) _ k _ rfl (HRW.out.al _) wr.heap.size 1 [.int .i64 z, .slice (some ⟨U, 0, none⟩) n n, .slice (some ⟨Y, 0, none⟩) n n] rfl rfl ⟨_, heap_alloc_new _ _⟩ (by simp [Value.oneCell']) (by unfold maxLen; omega) (by omega) (by simp; omega) ?_; intro v8 w8 hown8 hgrow8 hblk8; have HOWN := Lib.hid hown8; have HGR := Lib.hid hgrow8; obtain ⟨x8, y8, rfl, _⟩ := HOWN.out.any; have HX8 := Lib.hid (((HE.out.trans' HQ.out).al _).gr hgrow8 (fun q hq => (HRW.out.lt q hq).1)); clear hown8 hgrow8 hblk8)))
      have HN := Lib.hid (OwnM.snocG HO.out HTK.out (HQ.out.al _) HE.out.sz (HP.out.ext ((Ext.rf wr).al _)) HGR.out HOWN.out)
      go_roundg (n - (k + 1))
      case measure => omega
      case rel => exact ⟨k + 1, _, _, _, by omega, by omega, by go_num, (show OwnM _ _ _ _ _ ((cutM t C).take (k + 1)) _ _ _ from by rw [HCT.out]; exact HN.out), (show Ext _ _ from HX8.out)⟩
     case pos =>
      have hfz : (f : Int) < (n : Int) := by omega
      have hfz0 : (0 : Int) ≤ (f : Int) := by omega
      obtain ⟨g2, o2, cc2, hvb, _, _, _, hbc, hf2⟩ := HP.out.boolAt (i := 0) (j := f) (by omega) hfn
      simp only [Value.slice.injEq, Option.some.injEq, Addr.mk.injEq, and_true, true_and] at hvb
      obtain ⟨⟨hv1, hv2⟩, hv5⟩ := hvb
      subst hv1 hv2 hv5
      have hf2f := hf2 (0 + f)
      obtain ⟨old, hold⟩ : ∃ u, Value.bool ([ofMk n z F k f][0]!.closed[f]!) = u := ⟨_, rfl⟩
      rw [hold] at hbc
      have HPB := Lib.hid (HP.out.setB (i := 0) (j := f) (by omega) hfn rfl)
      have HQB := Lib.hid (HQ.out.st (p := ⟨U, 0 + f, none⟩) (by have := (HP.out.clo 0 (by omega)).lt U rfl; exact this.1) (.bool true))
      rw [Nat.zero_add] at hbc hf2f HPB HQB
      clear hold
      by_cases hfk : f = k
      case pos =>
       have hq1 : ((f : Int) != (k : Int)) = false := by rw [bne_eq_false_iff_eq]; omega
       have HSE := Lib.hid (ofMk_own (c := z) (F := F) hfn hfk)
       rw [HSE.out] at HPB
       clear hfk
       go_wp2
       go_roundg (n - (f + 1))
       case measure => omega
       case rel => exact ⟨f + 1, _, by omega, by omega, by go_num, (show OwnM _ _ _ _ _ _ _ _ _ from HPB.out), (show Ext _ _ from HQB.out)⟩
      case neg =>
       have hq1 : ((f : Int) != (k : Int)) = true := by rw [bne_iff_ne]; omega
       have HSE := Lib.hid (ofMk_other (c := z) (F := F) hfn hfk)
       clear hfk
       go_upto_region 12 with (fail)
       generalize hw2 : wr.setCell ⟨U, f, none⟩ (.bool true) = w2 at *
       have HEW2 := Lib.hid (HX1.out.trans' (HE.out.trans' HQB.out))
       have HT2 := Lib.hid ((HE.out.trans' HQB.out).hp HB1.out)
       have t2 := cellOf HT2.out 0
       simp only [List.getElem?_toArray, List.getElem?_cons_zero] at t2
       obtain ⟨_, _, k2, _⟩ := HPB.out.cellsAt (i := 0) (by rw [closeK_len]; simp)
       simp only [Nat.zero_mul, Nat.zero_add] at k2
       clear m0 m1 m2 hbc hf2f hf2 hw2
       refine wp_region_tail (fun W => W.cell? ⟨M, 2, none⟩ = some (.slice (some ⟨Y, 0, none⟩) n n) ∧ W.cell? ⟨w.heap.size, 0, none⟩ = some (.slice ta n tc)) 9 (by kernel_rfl) ⟨k2, t2⟩ (fun hHeld => ?_)
       refine tkA 0 38 (v := ?_) rfl rfl (by kernel_rfl) (fun _ _ _ h => h) ?_ (by assumption) ?_
       rotate_left
       ·(intro w hSw; (try dsimp only at hSw); go_simp; try (with_reducible rfl))
       try simp only [Act.put]
       try simp only [List.setIfInBounds_toArray]
       try simp only [List.set_cons_zero, List.set_cons_succ]
       refine tkA 1 39 (v := ?_) rfl rfl (by kernel_rfl) (fun _ _ _ h => h) ?_ (by assumption) ?_
       rotate_left
       ·(intro w hSw; (try dsimp only at hSw); go_simp; try (with_reducible rfl))
       try simp only [Act.put]
       try simp only [List.setIfInBounds_toArray]
       try simp only [List.set_cons_zero, List.set_cons_succ]
       refine tkA 2 40 (v := ?_) rfl rfl (by kernel_rfl) (fun _ _ _ h => h) ?_ (by assumption) ?_
       rotate_left
       ·(intro w hSw; (try dsimp only at hSw); go_simp; try (with_reducible rfl))
       try simp only [Act.put]
       try simp only [List.setIfInBounds_toArray]
       try simp only [List.set_cons_zero, List.set_cons_succ]
       refine tkA 3 41 (v := ?_) rfl rfl (by kernel_rfl) (fun _ _ _ h => h) ?_ (by assumption) ?_
       rotate_left
       ·(intro w hSw; (try dsimp only at hSw); go_simp; try (with_reducible rfl))
       try simp only [Act.put]
       try simp only [List.setIfInBounds_toArray]
       try simp only [List.set_cons_zero, List.set_cons_succ]
       refine tkA 4 42 (v := ?_) rfl rfl (by kernel_rfl) (fun _ _ _ h => h) ?_ (by assumption) ?_
       rotate_left
       ·(intro w hSw; (try dsimp only at hSw); go_simp; try (with_reducible rfl))
       try simp only [Act.put]
       try simp only [List.setIfInBounds_toArray]
       try simp only [List.set_cons_zero, List.set_cons_succ]
       refine tkA 5 43 (v := ?_) rfl rfl (by kernel_rfl) (fun _ _ _ h => h) ?_ (by assumption) ?_
       rotate_left
       ·(intro w hSw; (try dsimp only at hSw); go_simp; try (with_reducible rfl))
       try simp only [Act.put]
       try simp only [List.setIfInBounds_toArray]
       try simp only [List.set_cons_zero, List.set_cons_succ]
       refine tkA 6 44 (v := ?_) rfl rfl (by kernel_rfl) (fun _ _ _ h => h) ?_ (by assumption) ?_
       rotate_left
       ·(intro w hSw; (try dsimp only at hSw); go_simp; try (with_reducible rfl))
       try simp only [Act.put]
       try simp only [List.setIfInBounds_toArray]
       try simp only [List.set_cons_zero, List.set_cons_succ]
       refine wpAnyT_step (i := 7) (o := ⟨some 45, _, _, _, _, _⟩) (by kernel_rfl) rfl (fun K hK => ?_)
       refine step_callW (by kernel_rfl) 67 _ _ rfl enters_67 [.agg #[.slice ta n tc], .slice (some ⟨cB, cO, none⟩) n cc, .int .i64 f, .int .i64 k] (by first | rfl | kernel_rfl | go_simp) (HUK.out _ (HEW2.out.trans' (Ext.rf w2).dr) f hfn) ?_
       rintro e y1 ⟨vu, rfl, hRu, hXu⟩
       refine ⟨_, rfl, ?_⟩
       have HXU := Lib.hid ((Ext.rf w2).dr.trans' hXu)
       have HRU := Lib.hid hRu
       have HNR := Lib.hid (HPB.out.newR (i := 0) (j := f) (by omega) hfn rfl HXU.out hRu (Nat.le_refl _) HQB.out.sz)
       obtain ⟨g3, o3, cc3, hvh, _, _, _, hhc, hf3⟩ := (HPB.out.ext HXU.out).hdrAt (i := 0) (j := f) (by omega) hfn
       simp only [Value.slice.injEq, Option.some.injEq, Addr.mk.injEq, and_true, true_and] at hvh
       obtain ⟨⟨hv3, hv4⟩, hv6⟩ := hvh
       subst hv3 hv4 hv6
       rw [HSE.out] at HNR
       have HQN := Lib.hid ((HQB.out.trans' HXU.out).st (p := ⟨Y, 0 + f, none⟩) (by have := (HP.out.hdr 0 (by omega)).lt Y rfl; exact this.1) vu)
       have hf3f := hf3 (0 + f)
       rw [Nat.zero_add] at hhc hf3f HNR HQN
       obtain ⟨da, dc, rfl, hzd⟩ := HRU.out.any
       clear hRu hXu hzd
       refine hK.out _ _ ?_ (fun hHeld => ?_)
       ·(try dsimp only)
        exact ⟨HXU.out.cl k2, HXU.out.cl t2⟩
       clear hK K
       try simp only [Act.put]
       try simp only [List.setIfInBounds_toArray]
       try simp only [List.set_cons_zero, List.set_cons_succ]
       refine tkA 8 46 (v := ?_) rfl rfl (by kernel_rfl) (fun _ _ _ h => h) ?_ (by assumption) ?_
       rotate_left
       ·(intro w hSw; (try dsimp only at hSw); go_simp; try (with_reducible rfl))
       try simp only [Act.put]
       try simp only [List.setIfInBounds_toArray]
       try simp only [List.set_cons_zero, List.set_cons_succ]
       refine wpAnyT_last (by kernel_rfl) rfl (by kernel_rfl) (fun K hK => ?_)
       go_simp
       refine hK.out _ _ ?_
       go_wp2
       go_roundg (n - (f + 1))
       case measure => omega
       case rel => exact ⟨f + 1, _, by omega, by omega, by go_num, (show OwnM _ _ _ _ _ _ _ _ _ from HNR.out), (show Ext _ _ from HQN.out)⟩
end Go.Proofs.Ytfagfooggcinoaa
namespace Go.Proofs.Ytfagfooggcinoaa
open Go.RowKit
set_option linter.unusedVariables false
theorem turns_no {t : Tr} {red : List Int} {p : Nat} (hp : p < red.length) (h : ¬ (-1 ≤ red[p]! ∧ red[p]! ≤ (t[p]!.events.length : Int))) : turnsB t red = false := by
 cases hb : turnsB t red with
 | false => rfl
 | true => exact absurd (turns_at hb hp) h
theorem turns_yes {t : Tr} {red : List Int} (h : ∀ p, p < red.length → -1 ≤ red[p]! ∧ red[p]! ≤ (t[p]!.events.length : Int)) : turnsB t red = true := by
 unfold turnsB
 rw [List.all_eq_true]
 intro p hp
 have := h p (List.mem_range.1 hp)
 rw [Bool.and_eq_true, decide_eq_true_eq, decide_eq_true_eq]; exact this
set_option maxHeartbeats 4000000 in
set_option maxRecDepth 100000 in
theorem turnsR_calls (v rv : Value) (t : Tr) (red : List Int) (w : World) (h : TrAt w v t) (hr : Ints w rv red) (hl : red.length = t.length) (hn : t.length ≤ 1000000) :
  Calls Try.prog 9 #[.agg #[v], rv] w fun e w' => e = .returned (.bool (turnsB t red)) ∧ Ext w w' := by
 have HT := Lib.hid h
 have HRV := Lib.hid hr
 obtain ⟨ta, tc, rfl, htc⟩ := h.sh
 obtain ⟨ra, rc, rfl, hz1, hz2⟩ := hr
 clear hz1 hz2
 have HX1 := Lib.hid ((Ext.rf w).al (.cells #[.slice ta t.length tc] 24))
 have HB1 := Lib.hid (heap_alloc_new w (.cells #[.slice ta t.length tc] 24))
 have HTN := Lib.hid (fun p => turns_no (t := t) (red := red) (p := p))
 have HTY := Lib.hid (turns_yes (t := t) (red := red))
 rw [← hl] at HX1 HB1 hn htc HT ⊢
 obtain ⟨N, hN⟩ : ∃ N, red.length = N := ⟨_, rfl⟩
 have HNT := Lib.hid (hl.symm.trans hN)
 have HNR := Lib.hid hN
 rw [hN] at HX1 HB1 hn htc HT HTN HTY ⊢
 generalize turnsB t red = ans at *
 clear h hl hN
 go_enter Try.func9, Try.ntmps9
 go_wp2
 generalize hw1 : w.alloc (.cells #[.slice ta N tc] 24) = w1 at *
 clear hw1
 go_loopg [5] N (fun g s5 wr => ∃ k : Nat, k ≤ N ∧ N - k ≤ g ∧ s5 = .int .i64 k ∧ Aside (Ext w1 wr) ∧ Aside (∀ p, p < k → -1 ≤ red[p]! ∧ red[p]! ≤ (t[p]!.events.length : Int)))
 case atStart => exact ⟨0, Nat.zero_le _, by omega, rfl, (show Ext _ _ from Ext.rf _), (fun p hp => absurd hp (Nat.not_lt_zero _))⟩
 case round =>
  obtain ⟨k, hk, hg, rfl, HE, A⟩ := hrel
  by_cases hlt : k < N
  case neg =>
   have hkz : ¬ (k : Int) < (N : Int) := by omega
   have HA := Lib.hid (HTY.out (fun p hp => A.out p (by omega)))
   go_wp2
   go_ret
   exact ⟨by rw [HA.out]; rfl, HX1.out.trans' HE.out⟩
  case pos =>
   have hkz : (k : Int) < (N : Int) := by omega
   have hkz0 : (0 : Int) ≤ (k : Int) := by omega
   have HEW := Lib.hid (HX1.out.trans' HE.out)
   obtain ⟨rb, ro, rfl, _, hrc⟩ := ints_at HRV.out k (by rw [HNR.out]; exact hlt)
   obtain ⟨tB, tO, tC, vv, ve, hve, hlC, htB, hn0, hv0, he0, hV, hE0⟩ := proc_at HT.out k (by rw [HNT.out]; exact hlt)
   simp only [Value.slice.injEq] at hve
   obtain ⟨rfl, hzz1, rfl⟩ := hve
   obtain ⟨ea, ec, rfl, hec⟩ := hE0.sh
   have r0 := HEW.out.cl hrc
   have e0 := HEW.out.cl he0
   have t0 := cellOf (HE.out.hp HB1.out) 0
   simp only [List.getElem?_toArray, List.getElem?_cons_zero] at t0
   have HNO := Lib.hid (HTN.out k hlt)
   have HST : Hid ((-1 ≤ red[k]! ∧ red[k]! ≤ (t[k]!.events.length : Int)) → ∀ p, p < k + 1 → -1 ≤ red[p]! ∧ red[p]! ≤ (t[p]!.events.length : Int)) := Lib.hid (fun h p hp => by
    by_cases e : p = k
    ·subst e; exact h
    ·exact A.out p (by omega))
   generalize t[k]!.events.length = ne at *
   generalize red[k]! = x at *
   clear hrc hzz1 hn0 hv0 he0 hV hE0
   by_cases h1 : -1 ≤ x
   case neg =>
    have d1 : decide (x < -1) = true := decide_eq_true (by omega)
    have HA := Lib.hid (HNO.out (fun h => h1 h.1))
    clear h1
    go_wp2
    go_region
    all_goals
     go_wp2
     go_ret
     exact ⟨by rw [HA.out]; rfl, HEW.out.dr⟩
   case pos =>
    have d1 : decide (x < -1) = false := decide_eq_false (by omega)
    by_cases h2 : x ≤ (ne : Int)
    case neg =>
     have d2 : decide ((ne : Int) < x) = true := decide_eq_true (by omega)
     have HA := Lib.hid (HNO.out (fun h => h2 h.2))
     clear h1 h2
     go_wp2
     go_region
     all_goals
      go_wp2
      go_ret
      exact ⟨by rw [HA.out]; rfl, HEW.out.dr⟩
    case pos =>
     have d2 : decide ((ne : Int) < x) = false := decide_eq_false (by omega)
     have HS2 := Lib.hid (HST.out ⟨h1, h2⟩)
     clear h1 h2
     go_wp2
     go_region
     all_goals
      go_wp2
      go_roundg (N - (k + 1))
      case measure => omega
      case rel => exact ⟨k + 1, by omega, by omega, by go_num, (show Ext _ _ from HE.out.dr), (show Aside _ from HS2.out)⟩
end Go.Proofs.Ytfagfooggcinoaa
