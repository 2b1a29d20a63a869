/-
  The copy of a checker, of the program's text.
-/
import Derived.Test.YtggofkaakccoeaaBase
import Derived.Test.YtggofkaakccoeaaProg
import Derived.BigQuiet
import Derived.Deep.QuietTactic
import Derived.Deep.LoopGhost
import Derived.Shelf.Abstract
import Derived.Test.YtggofkaakccoeaaCkG
import Derived.Test.YtggofkaakccoeaaOwnR
namespace Go.Proofs.Ytggofkaakccoeaa
open Go.RowKit
set_option linter.unusedVariables false
attribute [local go_sem ↓] Go.wp_at_zero Go.wp_at_succ

theorem info_ints : (Try.prog.info? 3).map (fun i => (i.zero, i.size, i.bytes)) = some (some (.int .i64 0), 1, 8) := by kernel_rfl

set_option maxHeartbeats 400000 in
theorem clone_ints (v : Value) (n : Nat) (xs : List Value) (w : World) (hv : CellsAt w v 1 n xs) (h1 : ∀ u ∈ xs, u.oneCell' = true) (hn : n ≤ 1000000) :
    Calls Try.prog 75 #[v] w fun e w' => ∃ v', e = .returned v' ∧ Row w' w.heap.size 3 1 v' n xs ∧ Ext w w' := by
  obtain ⟨i0, hi, hz0, hz1, hz2⟩ := info_parts info_ints
  obtain ⟨hl, a, c, rfl, hlc, hv⟩ := hv
  have HLC := Lib.hid hlc; clear hlc
  cases a with
  | none =>
    have hn0 : n = 0 := by
      rcases Nat.eq_zero_or_pos n with h | h
      · exact h
      · obtain ⟨_, _, h, _⟩ := hv h; simp at h
    subst hn0
    obtain rfl : xs = [] := List.eq_nil_of_length_eq_zero (by omega)
    clear hv h1 hn hl
    have heq := fun wx => Lib.run_eql_slice_nil (P := Try.prog) wx 38 3 none 0 c 0 0 Try.underlying38
    go_enter Try.func75, Try.ntmps75
    go_wp2
    go_ret
    exact ⟨_, rfl, Row.mkNil _ _ _ _, Ext.rf _⟩
  | some ad =>
    have heq := fun wx => Lib.run_eql_slice_nil (P := Try.prog) wx 38 3 (some ad) n c 0 0 Try.underlying38
    have HV := Lib.hid hv; clear hv
    have H1 := Lib.hid h1; clear h1
    have HL := Lib.hid hl; clear hl
    have hrow : Row (w.alloc (.cells #[] 3)) w.heap.size 3 1 (.slice (some ⟨w.heap.size, 0, none⟩) 0 0) 0 [] :=
      ⟨by simp, .inr ⟨w.heap.size, 0, 0, #[], rfl, Nat.le_refl _, heap_alloc_new w _, Nat.le_refl _, Nat.zero_le _, by simp, by simp⟩⟩
    have HR := Lib.hid hrow; clear hrow
    have hcs : 0 < n → ∃ ad', some ad = some ad' ∧ ∀ j u, xs[j]? = some u → (w.alloc (.cells #[] 3)).cell? (ad'.add j) = some u := by
      intro hp
      obtain ⟨b, off, hab, hb, hc⟩ := HV.out hp
      refine ⟨ad, rfl, fun j u hj => ?_⟩
      simp only [Option.some.injEq] at hab
      subst hab
      have hjl : j < n * 1 := by have := (List.getElem?_eq_some_iff.1 hj).1; rw [HL.out] at this; exact this
      rw [Addr.add_lit]
      exact ((Ext.rf w).al _).cl ((hc j hjl).trans hj)
    have HC := Lib.hid hcs; clear hcs
    go_enter Try.func75, Try.ntmps75
    go_wp2_with ((at_builtin; refine wpList_append_row rfl _ _ 38 rfl w.heap.size 3 i0 (.int .i64 0) 1 8 Try.underlying38 hi hz0 hz1 hz2 rfl (by decide) _ 0 [] rfl HR.out _ n c xs rfl HL.out HC.out H1.out (by unfold maxLen; omega) (by omega) (by simp) ?_; intro v' w1 hown1 hgrow1 hblk))
    go_ret
    exact ⟨_, rfl, by simpa using hown1, ((Ext.rf w).al _).gr hgrow1 (fun k hk => by have e : some w.heap.size = some k := hk; simp at e; omega)⟩

theorem info_bools : (Try.prog.info? 4).map (fun i => (i.zero, i.size, i.bytes)) = some (some (.bool false), 1, 1) := by kernel_rfl

set_option maxHeartbeats 400000 in
theorem clone_bools (v : Value) (n : Nat) (xs : List Value) (w : World) (hv : CellsAt w v 1 n xs) (h1 : ∀ u ∈ xs, u.oneCell' = true) (hn : n ≤ 1000000) :
    Calls Try.prog 86 #[v] w fun e w' => ∃ v', e = .returned v' ∧ Row w' w.heap.size 4 1 v' n xs ∧ Ext w w' := by
  obtain ⟨i0, hi, hz0, hz1, hz2⟩ := info_parts info_bools
  obtain ⟨hl, a, c, rfl, hlc, hv⟩ := hv
  have HLC := Lib.hid hlc; clear hlc
  cases a with
  | none =>
    have hn0 : n = 0 := by
      rcases Nat.eq_zero_or_pos n with h | h
      · exact h
      · obtain ⟨_, _, h, _⟩ := hv h; simp at h
    subst hn0
    obtain rfl : xs = [] := List.eq_nil_of_length_eq_zero (by omega)
    clear hv h1 hn hl
    have heq := fun wx => Lib.run_eql_slice_nil (P := Try.prog) wx 60 4 none 0 c 0 0 Try.underlying60
    go_enter Try.func86, Try.ntmps86
    go_wp2
    go_ret
    exact ⟨_, rfl, Row.mkNil _ _ _ _, Ext.rf _⟩
  | some ad =>
    have heq := fun wx => Lib.run_eql_slice_nil (P := Try.prog) wx 60 4 (some ad) n c 0 0 Try.underlying60
    have HV := Lib.hid hv; clear hv
    have H1 := Lib.hid h1; clear h1
    have HL := Lib.hid hl; clear hl
    have hrow : Row (w.alloc (.cells #[] 4)) w.heap.size 4 1 (.slice (some ⟨w.heap.size, 0, none⟩) 0 0) 0 [] :=
      ⟨by simp, .inr ⟨w.heap.size, 0, 0, #[], rfl, Nat.le_refl _, heap_alloc_new w _, Nat.le_refl _, Nat.zero_le _, by simp, by simp⟩⟩
    have HR := Lib.hid hrow; clear hrow
    have hcs : 0 < n → ∃ ad', some ad = some ad' ∧ ∀ j u, xs[j]? = some u → (w.alloc (.cells #[] 4)).cell? (ad'.add j) = some u := by
      intro hp
      obtain ⟨b, off, hab, hb, hc⟩ := HV.out hp
      refine ⟨ad, rfl, fun j u hj => ?_⟩
      simp only [Option.some.injEq] at hab
      subst hab
      have hjl : j < n * 1 := by have := (List.getElem?_eq_some_iff.1 hj).1; rw [HL.out] at this; exact this
      rw [Addr.add_lit]
      exact ((Ext.rf w).al _).cl ((hc j hjl).trans hj)
    have HC := Lib.hid hcs; clear hcs
    go_enter Try.func86, Try.ntmps86
    go_wp2_with ((at_builtin; refine wpList_append_row rfl _ _ 60 rfl w.heap.size 4 i0 (.bool false) 1 1 Try.underlying60 hi hz0 hz1 hz2 rfl (by decide) _ 0 [] rfl HR.out _ n c xs rfl HL.out HC.out H1.out (by unfold maxLen; omega) (by omega) (by simp) ?_; intro v' w1 hown1 hgrow1 hblk))
    go_ret
    exact ⟨_, rfl, by simpa using hown1, ((Ext.rf w).al _).gr hgrow1 (fun k hk => by have e : some w.heap.size = some k := hk; simp at e; omega)⟩

theorem bool_one (l : List Bool) : ∀ u ∈ l.map Value.bool, u.oneCell' = true := by
  intro u hu
  obtain ⟨x, _, rfl⟩ := List.mem_map.1 hu
  rfl
theorem int_one (l : List Int) : ∀ u ∈ l.map (Value.int .i64), u.oneCell' = true := by
  intro u hu
  obtain ⟨x, _, rfl⟩ := List.mem_map.1 hu
  rfl

/-- A checker of the call's own. -/
def OwnCk (w : World) (base : Nat) (vq ve vc : Value) (s : Ck) : Prop :=
  OwnQs w base 109 38 3 vq s.qs ∧ Row w base 4 1 ve s.ended.length (s.ended.map Value.bool) ∧ Row w base 3 1 vc s.cut.length (s.cut.map (Value.int .i64))
theorem OwnCk.read {w : World} {base : Nat} {vq ve vc : Value} {s : Ck} (h : OwnCk w base vq ve vc s) : CkAt w vq ve vc s := ⟨h.1.read, h.2.1.bools, h.2.2.ints⟩
theorem OwnCk.ext {w w' : World} {base : Nat} {vq ve vc : Value} {s : Ck} (h : OwnCk w base vq ve vc s) (x : Ext w w') : OwnCk w' base vq ve vc s := ⟨h.1.ext x, h.2.1.ext x, h.2.2.ext x⟩
theorem OwnCk.mono {w : World} {base base' : Nat} {vq ve vc : Value} {s : Ck} (h : OwnCk w base vq ve vc s) (hb : base' ≤ base) : OwnCk w base' vq ve vc s := ⟨h.1.mono hb, h.2.1.mono hb, h.2.2.mono hb⟩
def CkOwnOut (w w' : World) (e : Ending) (s : Ck) : Prop := ∃ vq ve vc, e = .returned (.agg #[vq, ve, .bool s.done, vc]) ∧ OwnCk w' w.heap.size vq ve vc s ∧ Ext w w'

theorem box_stored {w : World} {K : Nat} {z0 z1 z2 z3 : Value} (h : w.heap[K]? = some (ckT z0 z1 z2 z3)) (a b c d : Value) :
    ((((w.setCell ⟨K, 0, none⟩ a).setCell ⟨K, 1, none⟩ b).setCell ⟨K, 2, none⟩ c).setCell ⟨K, 3, none⟩ d).heap[K]? = some (ckT a b c d) ∧
    (∀ {base : Nat} {e : TypeId} {size : Nat} {v : Value} {n : Nat} {xs : List Value}, Row w base e size v n xs → 62 ≠ e → Row ((((w.setCell ⟨K, 0, none⟩ a).setCell ⟨K, 1, none⟩ b).setCell ⟨K, 2, none⟩ c).setCell ⟨K, 3, none⟩ d) base e size v n xs) ∧
    (∀ {base : Nat} {e : TypeId} {size : Nat} {v : Value} {n : Nat} {xs : List Value}, Row w base e size v n xs → 62 ≠ e → Row ((((w.setCell ⟨K, 0, none⟩ a).setCell ⟨K, 1, none⟩ b).setCell ⟨K, 2, none⟩ c).setCell ⟨K, 3, none⟩ d) base e size v n xs) := by
  have key : ∀ {base : Nat} {e : TypeId} {size : Nat} {v : Value} {n : Nat} {xs : List Value}, Row w base e size v n xs → 62 ≠ e → Row ((((w.setCell ⟨K, 0, none⟩ a).setCell ⟨K, 1, none⟩ b).setCell ⟨K, 2, none⟩ c).setCell ⟨K, 3, none⟩ d) base e size v n xs := by
    intro base e size v n xs hr hne
    exact (((hr.stO h hne a).stO (ck_set0 h) hne b).stO (ck_set1 (ck_set0 h)) hne c).stO (ck_set2 (ck_set1 (ck_set0 h))) hne d
  exact ⟨ck_set3 (ck_set2 (ck_set1 (ck_set0 h))), key, key⟩
theorem box_ext {w W : World} {K : Nat} (h : Ext w W) (hK : w.heap.size ≤ K) (a b c d : Value) : Ext w ((((W.setCell ⟨K, 0, none⟩ a).setCell ⟨K, 1, none⟩ b).setCell ⟨K, 2, none⟩ c).setCell ⟨K, 3, none⟩ d) :=
  (((h.st (p := ⟨K, 0, none⟩) hK a).st (p := ⟨K, 1, none⟩) hK b).st (p := ⟨K, 2, none⟩) hK c).st (p := ⟨K, 3, none⟩) hK d

theorem info_rows1 : (Try.prog.info? 38).map (fun i => (i.zero, i.size, i.bytes)) = some (some (.slice none 0 0), 1, 24) := by kernel_rfl
theorem info_rows2 : (Try.prog.info? 109).map (fun i => (i.zero, i.size, i.bytes)) = some (some (.slice none 0 0), 1, 24) := by kernel_rfl
set_option maxHeartbeats 16000000 in
set_option maxRecDepth 100000 in
theorem copied_calls (uq ue uc : Value) (s : Ck) (w : World) (h : CkAt w uq ue uc s) (hs : SmallC s) :
    Calls Try.prog 70 #[.agg #[uq, ue, .bool s.done, uc]] w fun e w' => CkOwnOut w w' e s := by
  obtain ⟨i2, hi2, hz0, hz1, hz2⟩ := info_parts info_rows1
  obtain ⟨i3, hi3, hy0, hy1, hy2⟩ := info_parts info_rows2
  have HQ := Lib.hid h.1
  have HEN := Lib.hid h.2.1
  have HC := Lib.hid h.2.2
  have hs1 := hs.1
  have hs2 := hs.2.1
  have hs3 := hs.2.2.1
  have HSM := Lib.hid hs.2.2.2
  obtain ⟨a, c, rfl, hlc⟩ := h.1.shape
  obtain ⟨ea, ec, rfl, hec⟩ := h.2.1.shape
  obtain ⟨ca, cc, hce, hcc, _⟩ := h.2.2
  subst hce
  clear h hs
  generalize hd : s.done = d at *
  have HD := Lib.hid hd
  clear hd
  have HCE := Lib.hid HEN.out.boolCells
  have HCC := Lib.hid HC.out.cells
  generalize hn : s.qs.length = n at *
  generalize hl : s.ended.length = l at *
  generalize hcl : s.cut.length = cl at *
  have HN := Lib.hid hn
  have HL := Lib.hid hl
  have HCL := Lib.hid hcl
  clear hn hl hcl
  have HX0 := Lib.hid (((Ext.rf (w.alloc (ckT (.slice a n c) (.slice ea l ec) (.bool d) (.slice ca cl cc)))).al (ckT (.slice none 0 0) (.slice none 0 0) (.bool false) (.slice none 0 0))).hp (heap_alloc_new w (ckT (.slice a n c) (.slice ea l ec) (.bool d) (.slice ca cl cc))))
  have HX1 := Lib.hid (heap_new_eq (w := w.alloc (ckT (.slice a n c) (.slice ea l ec) (.bool d) (.slice ca cl cc))) (o := ckT (.slice none 0 0) (.slice none 0 0) (.bool false) (.slice none 0 0)) (b := w.heap.size + 1) (by simp))
  have HE0 : Hid (Ext w ((w.alloc (ckT (.slice a n c) (.slice ea l ec) (.bool d) (.slice ca cl cc))).alloc (ckT (.slice none 0 0) (.slice none 0 0) (.bool false) (.slice none 0 0)))) := Lib.hid (((Ext.rf w).al _).al _)
  have hsz0 : ((w.alloc (ckT (.slice a n c) (.slice ea l ec) (.bool d) (.slice ca cl cc))).alloc (ckT (.slice none 0 0) (.slice none 0 0) (.bool false) (.slice none 0 0))).heap.size = w.heap.size + 2 := by simp
  go_enter Try.func70, Try.ntmps70
  go_wp2
  generalize hw0 : (w.alloc (ckT (.slice a n c) (.slice ea l ec) (.bool d) (.slice ca cl cc))).alloc (ckT (.slice none 0 0) (.slice none 0 0) (.bool false) (.slice none 0 0)) = w0 at *
  clear hw0
  have hlt0 : w.heap.size + 2 ≤ w0.heap.size := by omega
  have hne0 : w.heap.size ≠ w0.heap.size := by omega
  have hne1 : w0.heap.size ≠ w.heap.size := by omega
  have HSZ0 := Lib.hid hsz0
  clear hsz0
  have x0 := cellOf HX0.out 0
  have x1 := cellOf HX0.out 1
  have x2 := cellOf HX0.out 2
  have x3 := cellOf HX0.out 3
  simp only [List.getElem?_toArray, List.getElem?_cons_zero, List.getElem?_cons_succ] at x0 x1 x2 x3
  go_upto_region 1 with (fail)
  go_cut [3] (fun s3 wx => ∃ (B3 : Nat) (ve vc : Value), s3 = .pointer (some ⟨B3, 0, none⟩) ∧ Aside (wx.heap[B3]? = some (ckT (.slice none 0 0) ve (.bool d) vc)) ∧ Aside (Row wx (w.heap.size + 2) 4 1 ve l (s.ended.map Value.bool)) ∧ Aside (Row wx (w.heap.size + 2) 3 1 vc cl (s.cut.map (Value.int .i64))) ∧ Aside (Ext w0 wx ∧ w.heap.size + 2 ≤ B3))
  case first =>
    go_region_held3 (fun w' => w'.cell? ⟨w.heap.size, 1, none⟩ = some (.slice ea l ec) ∧ w'.cell? ⟨w.heap.size, 2, none⟩ = some (.bool d) ∧ w'.cell? ⟨w.heap.size, 3, none⟩ = some (.slice ca cl cc)) (go_keep)
      (first
        | (go_at_call 86
           refine (clone_bools _ l _ _ (HCE.out.ext (HE0.out.trans' (by repeat (first | refine Ext.st ?_ (by first | exact Nat.le_refl _ | exact Nat.le_succ _ | assumption | omega) _ | refine Ext.al ?_ _ | refine Ext.dr ?_ | refine Ext.drN ?_ _ | exact Ext.rf _)))) (bool_one _) hs2).mono ?_
           rintro e wA ⟨vA, rfl, hRA, hEA⟩
           obtain ⟨fa, fc, rfl, hle5, hsh5⟩ := hRA.any
           clear hsh5
           have hxA : Ext w0 wA := Ext.trans' (by repeat (first | refine Ext.st ?_ (by first | exact Nat.le_refl _ | exact Nat.le_succ _ | assumption | omega) _ | refine Ext.al ?_ _ | refine Ext.dr ?_ | refine Ext.drN ?_ _ | exact Ext.rf _)) hEA
           have HRA := Lib.hid hRA
           have HXA := Lib.hid hxA
           have kA1 := hxA.cl x1
           have kA2 := hxA.cl x2
           have kA3 := hxA.cl x3
           have nA3 := HXA.out.sz
           have nA4 := hEA.size
           try simp at nA4
           have fA1 := fun (k j : Nat) (h1 : k < _) => hEA.cell (p := ⟨k, j, none⟩) h1
           have fA2 := fun (k j : Nat) (h1 : k < _) => hEA.frozen (p := ⟨k, j, none⟩) h1
           have nA1 : w.heap.size ≠ wA.heap.size := by have := HXA.out.sz; omega
           have nA2 : wA.heap.size ≠ w.heap.size := by have := HXA.out.sz; omega
           clear hRA hxA)
        | (go_at_call 75
           refine (clone_ints _ cl _ _ (HCC.out.ext (HE0.out.trans' (by repeat (first | refine Ext.st ?_ (by first | exact Nat.le_refl _ | exact Nat.le_succ _ | assumption | omega) _ | refine Ext.al ?_ _ | refine Ext.dr ?_ | refine Ext.drN ?_ _ | exact HXA.out)))) (int_one _) hs3).mono ?_
           rintro e wB ⟨vB, rfl, hRB, hEB⟩
           obtain ⟨ga, gc, rfl, hle6, hsh6⟩ := hRB.any
           clear hsh6
           have hxB : Ext w0 wB := Ext.trans' (by repeat (first | refine Ext.st ?_ (by first | exact Nat.le_refl _ | exact Nat.le_succ _ | assumption | omega) _ | refine Ext.al ?_ _ | refine Ext.dr ?_ | refine Ext.drN ?_ _ | exact HXA.out)) hEB
           have HRB := Lib.hid hRB
           have HXB := Lib.hid hxB
           have kB1 := hxB.cl x1
           have kB2 := hxB.cl x2
           have kB3 := hxB.cl x3
           have nB3 := HXB.out.sz
           have nB4 := hEB.size
           try simp at nB4
           have fB1 := fun (k j : Nat) (h1 : k < _) => hEB.cell (p := ⟨k, j, none⟩) h1
           have fB2 := fun (k j : Nat) (h1 : k < _) => hEB.frozen (p := ⟨k, j, none⟩) h1
           try (have z := hEB.hp (hEA.hp (heap_alloc_new w0 (ckT (.slice none 0 0) (.slice none 0 0) (.bool false) (.slice none 0 0))))
                have z0 := cellOf z 0
                have z1 := cellOf z 1
                have z2 := cellOf z 2
                have z3 := cellOf z 3
                have y0 := freeOf z 0
                have y1 := freeOf z 1
                have y2 := freeOf z 2
                have y3 := freeOf z 3
                simp only [List.getElem?_toArray, List.getElem?_cons_zero, List.getElem?_cons_succ] at z0 z1 z2 z3)
           clear hRB hxB))
    all_goals (go_wp2_with fail; go_meet)
    · have r1 : Row wB (w.heap.size + 2) 4 1 (.slice fa l fc) l (s.ended.map Value.bool) := (HRA.out.mono (by first | omega | (simp; omega))).ext hEB
      have r2 : Row wB (w.heap.size + 2) 3 1 (.slice ga cl gc) cl (s.cut.map (Value.int .i64)) := HRB.out.mono (by first | omega | (simp; omega))
      exact ⟨_, _, _, rfl, heap_new_eq rfl, r1.al _, r2.al _, HXB.out.al _, by omega⟩
    · have hb := hEB.hp (heap_alloc_new wA (ckT (.slice none 0 0) (.slice none 0 0) (.bool false) (.slice none 0 0)))
      have r1 : Row wB (w.heap.size + 2) 4 1 (.slice fa l fc) l (s.ended.map Value.bool) := (HRA.out.mono (by first | omega | (simp; omega))).ext (Ext.trans' ((Ext.rf _).al _) hEB)
      have r2 : Row wB (w.heap.size + 2) 3 1 (.slice ga cl gc) cl (s.cut.map (Value.int .i64)) := HRB.out.mono (by first | omega | (simp; omega))
      obtain ⟨h1, h2, h3⟩ := box_stored hb (.slice none 0 0) (.slice fa l fc) (.bool d) (.slice ga cl gc)
      exact ⟨_, _, _, rfl, h1, h2 r1 (by decide), h3 r2 (by decide), (box_ext HXB.out (by omega) _ _ _ _), by omega⟩
    · have hb := hEB.hp (hEA.hp (heap_alloc_new w0 (ckT (.slice none 0 0) (.slice none 0 0) (.bool false) (.slice none 0 0))))
      have r1 : Row wB (w.heap.size + 2) 4 1 (.slice fa l fc) l (s.ended.map Value.bool) := (HRA.out.mono (by first | omega | (simp; omega))).ext hEB
      have r2 : Row wB (w.heap.size + 2) 3 1 (.slice ga cl gc) cl (s.cut.map (Value.int .i64)) := HRB.out.mono (by first | omega | (simp; omega))
      obtain ⟨h1, h2, h3⟩ := box_stored hb (.slice none 0 0) (.slice fa l fc) (.bool d) (.slice ga cl gc)
      exact ⟨_, _, _, rfl, h1, h2 r1 (by decide), h3 r2 (by decide), (box_ext HXB.out (by omega) _ _ _ _), by omega⟩
  case rest =>
    obtain ⟨B3, ve, vc, rfl, HB3, HRE, HRC, HEX⟩ := hcut
    obtain ⟨va, vb, rfl, hve, hsh⟩ := HRE.out.any
    clear hsh
    obtain ⟨ua, ub, rfl, hvc, hsh⟩ := HRC.out.any
    clear hsh x0 x1 x2 x3
    have HXW := Lib.hid (HEX.out.1.hp HX0.out)
    have hB3 := HEX.out.2
    have hB3x := (Array.getElem?_eq_some_iff.1 HB3.out).1
    have x0 := cellOf HXW.out 0
    have x1 := cellOf HXW.out 1
    have x2 := cellOf HXW.out 2
    have x3 := cellOf HXW.out 3
    simp only [List.getElem?_toArray, List.getElem?_cons_zero, List.getElem?_cons_succ] at x0 x1 x2 x3
    go_wp2
    clear x0 x1 x2 x3
    go_loopg [21] n (fun g s21 wr => ∃ (k : Nat) (vq : Value), k ≤ n ∧ n - k ≤ g ∧ s21 = .int .i64 k ∧ Aside (wr.heap[B3]? = some (ckT vq (.slice va l vb) (.bool d) (.slice ua cl ub))) ∧ Aside (OwnQs wr (w.heap.size + 2) 109 38 3 vq (s.qs.take k)) ∧ Aside (Row wr (w.heap.size + 2) 4 1 (.slice va l vb) l (s.ended.map Value.bool)) ∧ Aside (Row wr (w.heap.size + 2) 3 1 (.slice ua cl ub) cl (s.cut.map (Value.int .i64))) ∧ Aside (Ext w0 wr ∧ B3 < wr.heap.size))
    case atStart => exact ⟨0, _, Nat.zero_le _, by omega, rfl, HB3.out, OwnQs.mkNil _ _ _ _ _, HRE.out, HRC.out, (show _ ∧ _ from ⟨HEX.out.1, hB3x⟩)⟩
    case round =>
      obtain ⟨k, vq, hk, hg, rfl, HBK, HOQ, HREK, HRCK, HEXK⟩ := hrel
      have HEW := Lib.hid (HE0.out.trans' HEXK.out.1)
      have hBw := HEXK.out.2
      by_cases hlt : k < n
      · have hltz : (k : Int) < (n : Int) := by omega
        have hkz : (0 : Int) ≤ (k : Int) := by omega
        have hkq : k < s.qs.length := by rw [HN.out]; exact hlt
        obtain ⟨B, O, C, a1, m1, c1, hue0, hcp0, M1, hmc1, HS1⟩ := queue_at HQ.out k hkq
        simp only [Value.slice.injEq] at hue0
        obtain ⟨rfl, hnn, rfl⟩ := hue0
        have hcp := HEW.out.cl hcp0
        have HM1 := Lib.hid M1
        have hm1 := (HSM.out k hlt).1
        rw [← M1] at hm1
        have HS := Lib.hid HS1
        have hkl : (s.qs.take k).length = k := by rw [List.length_take, HN.out]; omega
        obtain ⟨hs, hrow, hqh⟩ := HOQ.out
        rw [hkl] at hrow
        have HKL := Lib.hid hkl
        obtain ⟨qa, qc, rfl, hqc, hsh⟩ := hrow.any
        have HROW := Lib.hid hrow
        have HQH := Lib.hid hqh
        clear M1 HS1 hnn hcp0 hkl hrow hqh hsh
        go_wp2
        clear hcp
        obtain ⟨wo, rfl⟩ : ∃ x, x = wr := ⟨_, rfl⟩
        go_loopg [6, 27] m1 (fun g s6 s27 wr => ∃ i : Nat, i ≤ m1 ∧ m1 - i ≤ g ∧ s27 = .int .i64 i ∧ Aside (RowRows wr wo.heap.size 38 3 (Value.int .i64) s6 (s.qs[k]!.take i)) ∧ Aside (Ext wo wr))
        case atStart => exact ⟨0, Nat.zero_le _, by omega, rfl, RowRows.mkNil _ _ _ _ _, Ext.rf _⟩
        case round =>
          obtain ⟨i, hi, hg2, rfl, HRR, HEI⟩ := hrel
          have HEWI := Lib.hid (HEW.out.trans' HEI.out)
          have hszi := HEI.out.sz
          by_cases hlt2 : i < m1
          · have hltz2 : (i : Int) < (m1 : Int) := by omega
            have hiz : (0 : Int) ≤ (i : Int) := by omega
            have hiq : i < s.qs[k]!.length := by rw [← HM1.out]; exact hlt2
            obtain ⟨b, o, sv, rfl, hci0, hsv⟩ := stamp_at HS.out i hiq
            have hci := HEWI.out.cl hci0
            have hsl := (HSM.out k hlt).2 i hiq
            have hil : (s.qs[k]!.take i).length = i := by rw [List.length_take]; omega
            obtain ⟨ivs, hir, hie⟩ := HRR.out
            rw [hil] at hir
            have HIL := Lib.hid hil
            obtain ⟨ia, ic, rfl, hic, hsh⟩ := hir.any
            have HIR := Lib.hid hir
            have HIE := Lib.hid (fun j (hj : j < (s.qs[k]!.take i).length) => hie j hj)
            have HTS := Lib.hid (take_snoc' s.qs[k]! i hiq)
            have HSV := Lib.hid hsv
            clear hci0 hil hir hie hsh hsv
            go_wp2_with fail
            refine (clone_ints sv s.qs[k]![i]!.length _ wr ((HSV.out.ext HEWI.out).cells) (int_one _) hsl).mono ?_
            rintro e w2 ⟨v2, rfl, hR2, hE2⟩
            obtain ⟨sa, sc, rfl, hsc, hsh⟩ := hR2.any
            have hsz2 := hE2.sz
            have HR2 := Lib.hid (hR2.mono (show wo.heap.size ≤ wr.heap.size from hszi))
            have HE2 := Lib.hid hE2
            have HIR2 := Lib.hid (HIR.out.ext hE2)
            have HIE2 := Lib.hid (fun j hj => (HIE.out j hj).ext hE2)
            clear hR2 hE2 hsh
            generalize hSL : s.qs[k]![i]!.length = SL at *
            have HSL := Lib.hid hSL
            clear hSL
            go_wp2_with ((at_builtin; go_loud (refine wpList_append_one rfl _ _ 109 rfl wo.heap.size 38 i2 (.slice none 0 0) 1 24 Try.underlying109 hi2 hz0 hz1 hz2 rfl (by decide) _ i _ rfl (HIR2.out.al _) w2.heap.size 1 [.slice sa SL sc] rfl rfl ⟨_, heap_alloc_new _ _⟩ (by simp [Value.oneCell']) (by unfold maxLen; omega) (by omega) (by simp; omega) ?_; intro v5 w5 hown5 hgrow5 hblk5; have hG5 : (w2.alloc (.cells #[.slice sa SL sc] 38)).grownBy w5 (Value.slice ia i ic).ownBlock := hgrow5; have HP5 := Lib.hid (rowRows_push (l := s.qs[k]!.take i) (x := s.qs[k]![i]!) (by rw [HIL.out]; exact HIR2.out.al _) (fun j hj => (HIE2.out j hj).al _) (by rw [HSL.out]; exact HR2.out.al _) (by decide) hG5 (by rw [HIL.out]; exact hown5)); have HE5 := Lib.hid (((HEI.out.trans' HE2.out).al (.cells #[.slice sa SL sc] 38)).gr hG5 (fun q hq => (HIR2.out.lt q hq).1)); clear hG5 hown5 hgrow5 hblk5)))
            go_roundg (m1 - (i + 1))
            case measure => omega
            case rel => exact ⟨i + 1, by omega, by omega, by go_num, (show RowRows _ _ _ _ _ _ _ from by rw [HTS.out]; exact HP5.out), (show Ext _ _ from HE5.out)⟩
          · have hltz2 : ¬ (i : Int) < (m1 : Int) := by omega
            obtain rfl : m1 = i := by omega
            have hil : (s.qs[k]!.take m1).length = m1 := by rw [List.length_take, ← HM1.out]; omega
            have hrq := HRR.out
            rw [List.take_of_length_le (show s.qs[k]!.length ≤ m1 from by rw [← HM1.out]; omega)] at hrq
            have hsh := hrq.rints.shape
            rw [← HM1.out] at hsh
            obtain ⟨ia, ic, rfl, hic⟩ := hsh
            have HRQ := Lib.hid hrq
            have HTQ := Lib.hid (take_snoc' s.qs k hkq)
            have HBI := Lib.hid (HEI.out.hp HBK.out)
            have hszo := HEXK.out.1.sz
            have hBwi : B3 < wr.heap.size := by omega
            have hBne : B3 ≠ wr.heap.size := by omega
            clear hil hrq
            have x0 := cellOf HBI.out 0
            have x1 := cellOf HBI.out 1
            have x2 := cellOf HBI.out 2
            have x3 := cellOf HBI.out 3
            simp only [List.getElem?_toArray, List.getElem?_cons_zero, List.getElem?_cons_succ] at x0 x1 x2 x3
            go_wp2_with ((at_builtin; go_loud (refine wpList_append_one rfl _ _ 59 rfl (w.heap.size + 2) 109 i3 (.slice none 0 0) 1 24 Try.underlying59 hi3 hy0 hy1 hy2 rfl (by decide) _ k _ rfl ((HROW.out.ext HEI.out).al _) wr.heap.size 1 [.slice ia m1 ic] rfl rfl ⟨_, heap_alloc_new _ _⟩ (by simp [Value.oneCell']) (by unfold maxLen; omega) (by omega) (by simp; omega) ?_; intro v5 w5 hown5 hgrow5 hblk5; obtain ⟨va5, vc5, rfl, hvc5, hsh5⟩ := hown5.any; have hG5 : (wr.alloc (.cells #[.slice ia m1 ic] 109)).grownBy w5 (Value.slice qa k qc).ownBlock := hgrow5; have HQ5 := Lib.hid (QHs.push (w0 := wo) HQH.out (HEI.out.al (.cells #[.slice ia m1 ic] 109)) (RowRows.ext HRQ.out ((Ext.rf wr).al (.cells #[.slice ia m1 ic] 109))) (by omega) ((HROW.out.ext HEI.out).al (.cells #[.slice ia m1 ic] 109)) hG5 (by decide) (by decide)); have hB5 := grownKeep hG5 ((HROW.out.ext HEI.out).notBox HBI.out (by decide)) (((Ext.rf wr).al (.cells #[.slice ia m1 ic] 109)).hp HBI.out); have HR5 := Lib.hid (((HREK.out.ext HEI.out).al (.cells #[.slice ia m1 ic] 109)).grown hG5 (Row.apart HREK.out HROW.out (by decide))); have HC5 := Lib.hid (((HRCK.out.ext HEI.out).al (.cells #[.slice ia m1 ic] 109)).grown hG5 (Row.apart HRCK.out HROW.out (by decide))); have HE5 := Lib.hid (((HEXK.out.1.trans' HEI.out).al (.cells #[.slice ia m1 ic] 109)).gr hG5 (fun q hq => by have := (HROW.out.lt q hq).1; have := HSZ0.out; omega)); have HOWN := Lib.hid hown5; have HB5 := Lib.hid hB5; have hs5 := hG5.size; simp at hs5; clear hG5 hown5 hgrow5 hblk5 hB5 hsh5 x0 x1 x2 x3; have x0 := cellOf HB5.out 0; have x1 := cellOf HB5.out 1; have x2 := cellOf HB5.out 2; have x3 := cellOf HB5.out 3; have f0 := freeOf HB5.out 0; simp only [List.getElem?_toArray, List.getElem?_cons_zero, List.getElem?_cons_succ] at x0 x1 x2 x3)))
            go_roundg (n - (k + 1))
            case measure => omega
            case rel =>
              refine ⟨k + 1, .slice va5 (k + 1) vc5, by omega, by omega, by go_num, (show _ = _ from ck_set0 HB5.out), (show OwnQs _ _ _ _ _ _ _ from ?_), (show Row _ _ _ _ _ _ _ from HR5.out.stO HB5.out (by decide) _), (show Row _ _ _ _ _ _ _ from HC5.out.stO HB5.out (by decide) _), (show _ ∧ _ from ⟨HE5.out.st (by have := HSZ0.out; simp only; omega) _, by rw [size_setCell]; omega⟩)⟩
              rw [HTQ.out]
              exact OwnQs.stO ⟨_, by rw [List.length_append, HKL.out]; exact HOWN.out, HQ5.out⟩ HB5.out (by decide) (by decide) (by decide) _
      · have hltz : ¬ (k : Int) < (n : Int) := by omega
        obtain rfl : n = k := by omega
        have HXR := Lib.hid (HEXK.out.1.hp HX1.out)
        have hqk := HOQ.out
        rw [List.take_of_length_le (by rw [HN.out]; omega)] at hqk
        have HQK := Lib.hid hqk
        have hsh := hqk.read.shape
        rw [HN.out] at hsh
        obtain ⟨qa, qc, rfl, hqc⟩ := hsh
        clear hqk
        have x0 := cellOf HBK.out 0
        have x1 := cellOf HBK.out 1
        have x2 := cellOf HBK.out 2
        have x3 := cellOf HBK.out 3
        simp only [List.getElem?_toArray, List.getElem?_cons_zero, List.getElem?_cons_succ] at x0 x1 x2 x3
        have r0 := cellOf HXR.out 0
        have r1 := cellOf HXR.out 1
        have r2 := cellOf HXR.out 2
        have r3 := cellOf HXR.out 3
        simp only [List.getElem?_toArray, List.getElem?_cons_zero, List.getElem?_cons_succ] at r0 r1 r2 r3
        have f0 := freeOf HXR.out 0
        have f1 := freeOf HXR.out 1
        have f2 := freeOf HXR.out 2
        have f3 := freeOf HXR.out 3
        go_wp2
        refine bodyPost_ret (v := .agg #[.slice qa n qc, .slice va l vb, .bool d, .slice ua cl ub]) (by simp [results, Try.results70, go_sem, r0, r1, r2, r3]) rfl ⟨_, _, _, by rw [HD.out], ?_, box_ext HEW.out (by omega) _ _ _ _⟩
        obtain ⟨h1, h2, h3⟩ := box_stored HXR.out (.slice qa n qc) (.slice va l vb) (.bool d) (.slice ua cl ub)
        refine ⟨?_, ?_, ?_⟩
        · exact (((HQK.out.stO HXR.out (by decide) (by decide) (by decide) _).stO (ck_set0 HXR.out) (by decide) (by decide) (by decide) _).stO (ck_set1 (ck_set0 HXR.out)) (by decide) (by decide) (by decide) _).stO (ck_set2 (ck_set1 (ck_set0 HXR.out))) (by decide) (by decide) (by decide) _ |>.mono (by omega)
        · rw [HL.out]; exact (h2 HREK.out (by decide)).mono (by omega)
        · rw [HCL.out]; exact (h2 HRCK.out (by decide)).mono (by omega)

end Go.Proofs.Ytggofkaakccoeaa
