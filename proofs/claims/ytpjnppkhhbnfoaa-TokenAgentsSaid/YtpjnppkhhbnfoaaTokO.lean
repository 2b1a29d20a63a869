/-
  A token with its own lists.
-/
import Derived.Test.YtpjnppkhhbnfoaaBase
import Derived.Test.YtpjnppkhhbnfoaaProg
import Derived.BigQuiet
import Derived.Deep.QuietTactic
import Derived.Deep.LoopGhost
import Derived.Shelf.Abstract
import Derived.Test.YtpjnppkhhbnfoaaTokM
import Derived.Test.YtpjnppkhhbnfoaaTails
namespace Go.Proofs.Ytpjnppkhhbnfoaa
open Go.RowKit
set_option linter.unusedVariables false
attribute [local go_sem ↓] Go.wp_at_zero Go.wp_at_succ

theorem enters_40 : ∀ args w, (callFunc 40 args).run Try.prog w = .ok (.enter 40 args) w := enters_of Try.func40 (by kernel_rfl) rfl

theorem info_bools : (Try.prog.info? 4).map (fun i => (i.zero, i.size, i.bytes)) = some (some (.bool false), 1, 1) := by kernel_rfl

set_option maxHeartbeats 400000 in
theorem clone_bools (v : Value) (n : Nat) (xs : List Value) (w : World) (hv : CellsAt w v 1 n xs) (h1 : ∀ u ∈ xs, u.oneCell' = true) (hn : n ≤ 1000000) :
    Calls Try.prog 40 #[v] w fun e w' => ∃ v', e = .returned v' ∧ Row w' w.heap.size 4 1 v' n xs ∧ Ext w w' := by
  obtain ⟨i0, hi, hz0, hz1, hz2⟩ := info_parts info_bools
  obtain ⟨hl, a, c, rfl, hlc, hv⟩ := hv
  have HLC := Lib.hid hlc; clear hlc
  cases a with
  | none =>
    have hn0 : n = 0 := by
      rcases Nat.eq_zero_or_pos n with h | h
      · exact h
      · obtain ⟨_, _, h, _⟩ := hv h; simp at h
    subst hn0
    obtain rfl : xs = [] := List.eq_nil_of_length_eq_zero (by omega)
    clear hv h1 hn hl
    have heq := fun wx => Lib.run_eql_slice_nil (P := Try.prog) wx 23 4 none 0 c 0 0 Try.underlying23
    go_enter Try.func40, Try.ntmps40
    go_wp2
    go_ret
    exact ⟨_, rfl, Row.mkNil _ _ _ _, Ext.rf _⟩
  | some ad =>
    have heq := fun wx => Lib.run_eql_slice_nil (P := Try.prog) wx 23 4 (some ad) n c 0 0 Try.underlying23
    have HV := Lib.hid hv; clear hv
    have H1 := Lib.hid h1; clear h1
    have HL := Lib.hid hl; clear hl
    have hrow : Row (w.alloc (.cells #[] 4)) w.heap.size 4 1 (.slice (some ⟨w.heap.size, 0, none⟩) 0 0) 0 [] :=
      ⟨by simp, .inr ⟨w.heap.size, 0, 0, #[], rfl, Nat.le_refl _, heap_alloc_new w _, Nat.le_refl _, Nat.zero_le _, by simp, by simp⟩⟩
    have HR := Lib.hid hrow; clear hrow
    have hcs : 0 < n → ∃ ad', some ad = some ad' ∧ ∀ j u, xs[j]? = some u → (w.alloc (.cells #[] 4)).cell? (ad'.add j) = some u := by
      intro hp
      obtain ⟨b, off, hab, hb, hc⟩ := HV.out hp
      refine ⟨ad, rfl, fun j u hj => ?_⟩
      simp only [Option.some.injEq] at hab
      subst hab
      have hjl : j < n * 1 := by have := (List.getElem?_eq_some_iff.1 hj).1; rw [HL.out] at this; exact this
      rw [Addr.add_lit]
      exact ((Ext.rf w).al _).cl ((hc j hjl).trans hj)
    have HC := Lib.hid hcs; clear hcs
    go_enter Try.func40, Try.ntmps40
    go_wp2_with ((at_builtin; refine wpList_append_row rfl _ _ 23 rfl w.heap.size 4 i0 (.bool false) 1 1 Try.underlying23 hi hz0 hz1 hz2 rfl (by decide) _ 0 [] rfl HR.out _ n c xs rfl HL.out HC.out H1.out (by unfold maxLen; omega) (by omega) (by simp) ?_; intro v' w1 hown1 hgrow1 hblk))
    go_ret
    exact ⟨_, rfl, by simpa using hown1, ((Ext.rf w).al _).gr hgrow1 (fun k hk => by have e : some w.heap.size = some k := hk; simp at e; omega)⟩

theorem bool_one (l : List Bool) : ∀ u ∈ l.map Value.bool, u.oneCell' = true := by
  intro u hu
  obtain ⟨x, _, rfl⟩ := List.mem_map.1 hu
  rfl

/-- The box of a token. -/
abbrev baT (a b c d : Value) : Obj := .cells #[a, b, c, d] 25
theorem ba_set0 {w : World} {K : Nat} {a b c d : Value} (h : w.heap[K]? = some (baT a b c d)) (u : Value) : (w.setCell ⟨K, 0, none⟩ u).heap[K]? = some (baT u b c d) := by
  rw [baT] at h; rw [heap_setCell_same h]; rfl
theorem ba_set1 {w : World} {K : Nat} {a b c d : Value} (h : w.heap[K]? = some (baT a b c d)) (u : Value) : (w.setCell ⟨K, 1, none⟩ u).heap[K]? = some (baT a u c d) := by
  rw [baT] at h; rw [heap_setCell_same h]; rfl
theorem ba_set2 {w : World} {K : Nat} {a b c d : Value} (h : w.heap[K]? = some (baT a b c d)) (u : Value) : (w.setCell ⟨K, 2, none⟩ u).heap[K]? = some (baT a b u d) := by
  rw [baT] at h; rw [heap_setCell_same h]; rfl
theorem ba_set3 {w : World} {K : Nat} {a b c d : Value} (h : w.heap[K]? = some (baT a b c d)) (u : Value) : (w.setCell ⟨K, 3, none⟩ u).heap[K]? = some (baT a b c u) := by
  rw [baT] at h; rw [heap_setCell_same h]; rfl

def OwnTOut (w w' : World) (e : Ending) (b : Ba) : Prop := ∃ vc vg, e = .returned (.agg #[.int .i64 b.at_, vc, vg, .int .i64 b.state]) ∧ OwnBa w' w.heap.size vc vg b ∧ Ext w w'

set_option maxHeartbeats 8000000 in
set_option maxRecDepth 100000 in
theorem ownT_calls (uc ug : Value) (b : Ba) (w : World) (hc : Ints w uc b.cut) (hg : Sl RBool 1 w ug b.good) (hcl : b.cut.length ≤ 1000000) (hgl : b.good.length ≤ 1000000) :
    Calls Try.prog 34 #[.agg #[.int .i64 b.at_, uc, ug, .int .i64 b.state]] w fun e w' => OwnTOut w w' e b := by
  have HCC := Lib.hid hc.cells
  have HCG := Lib.hid hg.boolCells
  obtain ⟨ga, gc, rfl, hgc⟩ := hg.shape
  obtain ⟨ca, cc, rfl, hcc, _⟩ := hc
  clear hg
  generalize hx : b.at_ = x at *
  generalize hy : b.state = y at *
  generalize hn : b.cut.length = n at *
  generalize hm : b.good.length = m at *
  have HX := Lib.hid hx
  have HY := Lib.hid hy
  have HN := Lib.hid hn
  have HM := Lib.hid hm
  clear hx hy hn hm
  have HX0 := Lib.hid (((Ext.rf (w.alloc (baT (.int .i64 x) (.slice ca n cc) (.slice ga m gc) (.int .i64 y)))).al (baT (.int .i64 0) (.slice none 0 0) (.slice none 0 0) (.int .i64 0))).hp (heap_alloc_new w (baT (.int .i64 x) (.slice ca n cc) (.slice ga m gc) (.int .i64 y))))
  have HX1 := Lib.hid (heap_new_eq (w := w.alloc (baT (.int .i64 x) (.slice ca n cc) (.slice ga m gc) (.int .i64 y))) (o := baT (.int .i64 0) (.slice none 0 0) (.slice none 0 0) (.int .i64 0)) (b := w.heap.size + 1) (by simp))
  have HE0 : Hid (Ext w ((w.alloc (baT (.int .i64 x) (.slice ca n cc) (.slice ga m gc) (.int .i64 y))).alloc (baT (.int .i64 0) (.slice none 0 0) (.slice none 0 0) (.int .i64 0)))) := Lib.hid (((Ext.rf w).al _).al _)
  have hsz0 : ((w.alloc (baT (.int .i64 x) (.slice ca n cc) (.slice ga m gc) (.int .i64 y))).alloc (baT (.int .i64 0) (.slice none 0 0) (.slice none 0 0) (.int .i64 0))).heap.size = w.heap.size + 2 := by simp
  go_enter Try.func34, Try.ntmps34
  go_wp2
  generalize hw0 : (w.alloc (baT (.int .i64 x) (.slice ca n cc) (.slice ga m gc) (.int .i64 y))).alloc (baT (.int .i64 0) (.slice none 0 0) (.slice none 0 0) (.int .i64 0)) = w0 at *
  clear hw0
  have hlt0 : w.heap.size + 2 ≤ w0.heap.size := by omega
  have HSZ0 := Lib.hid hsz0
  clear hsz0
  have x0 := cellOf HX0.out 0
  have x1 := cellOf HX0.out 1
  have x2 := cellOf HX0.out 2
  have x3 := cellOf HX0.out 3
  simp only [List.getElem?_toArray, List.getElem?_cons_zero, List.getElem?_cons_succ] at x0 x1 x2 x3
  go_upto_region 1 with (fail)
  go_cut [] (fun wx => ∃ (vc vg : Value), Aside (wx.heap[w.heap.size]? = some (baT (.int .i64 x) vc vg (.int .i64 y))) ∧ Aside (wx.heap[w.heap.size + 1]? = some (baT (.int .i64 0) (.slice none 0 0) (.slice none 0 0) (.int .i64 0))) ∧ Aside (Row wx w.heap.size 3 1 vc n (b.cut.map (Value.int .i64))) ∧ Aside (Row wx w.heap.size 4 1 vg m (b.good.map Value.bool)) ∧ Aside (Ext w wx))
  case first =>
    have HCI := Lib.hid (fun W (hW : Ext w0 W) => clone_ints (.slice ca n cc) n (b.cut.map (Value.int .i64)) W (HCC.out.ext (HE0.out.trans' hW)) (int_one _) hcl)
    have HCB := Lib.hid (fun W (hW : Ext w0 W) => clone_bools (.slice ga m gc) m (b.good.map Value.bool) W (HCG.out.ext (HE0.out.trans' hW)) (bool_one _) hgl)
    refine wp_region_tails (fun w' => w'.cell? ⟨w.heap.size, 1, none⟩ = some (.slice ca n cc) ∧ w'.cell? ⟨w.heap.size, 2, none⟩ = some (.slice ga m gc)) [7, 8, 9] (by kernel_rfl) ?_ (fun hHeld => ?_)
    · exact ⟨x1, x2⟩
    refine wpAnyU_take (i := 0) (d := some 3) (v := ?_) rfl rfl (by kernel_rfl) (by kernel_rfl) (by kernel_rfl) (by kernel_rfl) (fun _ _ _ h => h) (Or.inl ⟨by rfl, ?_⟩) (by assumption) ?_
    rotate_left
    · (intro w hSw; (try dsimp only at hSw); go_simp; try (with_reducible rfl))
    try simp only [Act.put]
    try simp only [List.setIfInBounds_toArray]
    try simp only [List.set_cons_zero, List.set_cons_succ]
    refine wpAnyU_take (i := 1) (d := some 4) (v := ?_) rfl rfl (by kernel_rfl) (by kernel_rfl) (by kernel_rfl) (by kernel_rfl) (fun _ _ _ h => h) (Or.inl ⟨by rfl, ?_⟩) (by assumption) ?_
    rotate_left
    · (intro w hSw; (try dsimp only at hSw); go_simp; try (with_reducible rfl))
    try simp only [Act.put]
    try simp only [List.setIfInBounds_toArray]
    try simp only [List.set_cons_zero, List.set_cons_succ]
    refine wpAnyU_take (i := 3) (d := some 6) (v := ?_) rfl rfl (by kernel_rfl) (by kernel_rfl) (by kernel_rfl) (by kernel_rfl) (fun _ _ _ h => h) (Or.inl ⟨by rfl, ?_⟩) (by assumption) ?_
    rotate_left
    · (intro w hSw; (try dsimp only at hSw); go_simp; try (with_reducible rfl))
    try simp only [Act.put]
    try simp only [List.setIfInBounds_toArray]
    try simp only [List.set_cons_zero, List.set_cons_succ]
    refine wpAnyU_take (i := 4) (d := some 7) (v := ?_) rfl rfl (by kernel_rfl) (by kernel_rfl) (by kernel_rfl) (by kernel_rfl) (fun _ _ _ h => h) (Or.inl ⟨by rfl, ?_⟩) (by assumption) ?_
    rotate_left
    · (intro w hSw; (try dsimp only at hSw); go_simp; try (with_reducible rfl))
    try simp only [Act.put]
    try simp only [List.setIfInBounds_toArray]
    try simp only [List.set_cons_zero, List.set_cons_succ]
    refine wpAnyU_step (i := 2) (by kernel_rfl) rfl (fun K hK => ?_)
    refine step_call rfl 27 _ _ rfl enters_27 [.slice ca n cc] (by first | rfl | kernel_rfl | go_simp) (HCI.out _ (by repeat (first | refine Ext.st ?_ (by first | exact Nat.le_refl _ | exact Nat.le_succ _ | assumption | omega) _ | refine Ext.al ?_ _ | refine Ext.dr ?_ | refine Ext.drN ?_ _ | exact Ext.rf _))) ?_
    rintro e wA ⟨vA, rfl, hRA, hEA⟩
    obtain ⟨fa, fc, rfl, hle5, hsh5⟩ := hRA.any
    have HXA := Lib.hid (show Ext w0 wA from Ext.trans' (by repeat (first | refine Ext.st ?_ (by first | exact Nat.le_refl _ | exact Nat.le_succ _ | assumption | omega) _ | refine Ext.al ?_ _ | refine Ext.dr ?_ | refine Ext.drN ?_ _ | exact Ext.rf _)) hEA)
    have HRA := Lib.hid (hRA.mono (show w.heap.size ≤ _ from by first | omega | (simp; omega)))
    have hs5 := HXA.out.sz
    clear hRA hEA hsh5
    refine ⟨_, rfl, ?_⟩
    refine hK.out _ _ ?_ (fun hHeld => ?_)
    · (try dsimp only)
      exact ⟨HXA.out.cl x1, HXA.out.cl x2⟩
    clear hK K
    try simp only [Act.put]
    try simp only [List.setIfInBounds_toArray]
    try simp only [List.set_cons_zero, List.set_cons_succ]
    refine wpAnyU_take (i := 6) (d := some 9) (v := ?_) rfl rfl (by kernel_rfl) (by kernel_rfl) (by kernel_rfl) (by kernel_rfl) (fun _ _ _ h => h) (Or.inl ⟨by rfl, ?_⟩) (by assumption) ?_
    rotate_left
    · (intro w hSw; (try dsimp only at hSw); go_simp; try (with_reducible rfl))
    try simp only [Act.put]
    try simp only [List.setIfInBounds_toArray]
    try simp only [List.set_cons_zero, List.set_cons_succ]
    refine wpAnyU_step (i := 5) (by kernel_rfl) rfl (fun K hK => ?_)
    refine step_call rfl 40 _ _ rfl enters_40 [.slice ga m gc] (by first | rfl | kernel_rfl | go_simp) (HCB.out _ (HXA.out.trans' (by repeat (first | refine Ext.st ?_ (by first | exact Nat.le_refl _ | exact Nat.le_succ _ | assumption | omega) _ | refine Ext.al ?_ _ | refine Ext.dr ?_ | refine Ext.drN ?_ _ | exact Ext.rf _)))) ?_
    rintro e wB ⟨vB, rfl, hRB, hEB⟩
    obtain ⟨ha, hc, rfl, hle6, hsh6⟩ := hRB.any
    have HXB := Lib.hid (show Ext w0 wB from HXA.out.trans' (Ext.trans' (by repeat (first | refine Ext.st ?_ (by first | exact Nat.le_refl _ | exact Nat.le_succ _ | assumption | omega) _ | refine Ext.al ?_ _ | refine Ext.dr ?_ | refine Ext.drN ?_ _ | exact Ext.rf _)) hEB))
    have HRB := Lib.hid (hRB.mono (show w.heap.size ≤ _ from by first | omega | (simp; omega)))
    have HRA := Lib.hid (HRA.out.ext (Ext.trans' (by repeat (first | refine Ext.st ?_ (by first | exact Nat.le_refl _ | exact Nat.le_succ _ | assumption | omega) _ | refine Ext.al ?_ _ | refine Ext.dr ?_ | refine Ext.drN ?_ _ | exact Ext.rf _)) hEB))
    have HBX := Lib.hid (HXB.out.hp HX0.out)
    have HBY := Lib.hid (HXB.out.hp HX1.out)
    clear hRB hEB hsh6
    refine ⟨_, rfl, ?_⟩
    refine hK.out _ _ ?_ (fun hHeld => ?_)
    · (try dsimp only)
      exact ⟨HXB.out.cl x1, HXB.out.cl x2⟩
    clear hK K
    try simp only [Act.put]
    try simp only [List.setIfInBounds_toArray]
    try simp only [List.set_cons_zero, List.set_cons_succ]
    have y0 := freeOf HBX.out 0
    have y1 := freeOf HBX.out 1
    have y2 := freeOf HBX.out 2
    have y3 := freeOf HBX.out 3
    have z1 := cellOf HBX.out 1
    have z2 := cellOf HBX.out 2
    simp only [List.getElem?_toArray, List.getElem?_cons_zero, List.getElem?_cons_succ] at z1 z2
    refine wpAnyU_store (i := 7) (by kernel_rfl) rfl (by decide) (fun K hK => ?_)
    go_simp
    refine hK.out _ _ ?_
    clear hK K
    try simp only [Act.put]
    try simp only [List.setIfInBounds_toArray]
    try simp only [List.set_cons_zero, List.set_cons_succ]
    refine wpAnyU_store (i := 8) (by kernel_rfl) rfl (by decide) (fun K hK => ?_)
    go_simp
    refine hK.out _ _ ?_
    clear hK K
    try simp only [Act.put]
    try simp only [List.setIfInBounds_toArray]
    try simp only [List.set_cons_zero, List.set_cons_succ]
    refine wpAnyU_store (i := 9) (by kernel_rfl) rfl (by decide) (fun K hK => ?_)
    go_simp
    refine hK.out _ _ ?_
    clear hK K
    try simp only [Act.put]
    try simp only [List.setIfInBounds_toArray]
    try simp only [List.set_cons_zero, List.set_cons_succ]
    refine wpAnyU_done (by kernel_rfl) ?_
    go_wp2_with fail
    go_meet
    have hb2 : ((wB.setCell ⟨w.heap.size, 1, none⟩ (.slice fa n fc)).setCell ⟨w.heap.size, 2, none⟩ (.slice ha m hc)).heap[w.heap.size + 1]? = some (baT (.int .i64 0) (.slice none 0 0) (.slice none 0 0) (.int .i64 0)) := by
      rw [Below.heap_setCell _ _ _ _ (by simp only; omega), Below.heap_setCell _ _ _ _ (by simp only; omega)]; exact HBY.out
    exact ⟨_, _, (show _ = _ from ba_set2 (ba_set1 HBX.out _) _), (show _ = _ from hb2), (show Row _ _ _ _ _ _ _ from (HRA.out.stO HBX.out (by decide) _).stO (ba_set1 HBX.out _) (by decide) _), (show Row _ _ _ _ _ _ _ from (HRB.out.stO HBX.out (by decide) _).stO (ba_set1 HBX.out _) (by decide) _), (show Ext _ _ from ((HE0.out.trans' HXB.out).st (p := ⟨w.heap.size, 1, none⟩) (Nat.le_refl _) _).st (p := ⟨w.heap.size, 2, none⟩) (Nat.le_refl _) _)⟩
  case rest =>
    obtain ⟨vc, vg, HBX, HBY, HRC, HRG, HE⟩ := hcut
    obtain ⟨fa, fc, rfl, hfc, hsh⟩ := HRC.out.any
    clear hsh
    obtain ⟨ha, hc, rfl, hhc, hsh⟩ := HRG.out.any
    clear hsh x0 x1 x2 x3
    have x0 := cellOf HBX.out 0
    have x1 := cellOf HBX.out 1
    have x2 := cellOf HBX.out 2
    have x3 := cellOf HBX.out 3
    simp only [List.getElem?_toArray, List.getElem?_cons_zero, List.getElem?_cons_succ] at x0 x1 x2 x3
    have r0 := cellOf HBY.out 0
    have r1 := cellOf HBY.out 1
    have r2 := cellOf HBY.out 2
    have r3 := cellOf HBY.out 3
    simp only [List.getElem?_toArray, List.getElem?_cons_zero, List.getElem?_cons_succ] at r0 r1 r2 r3
    have f0 := freeOf HBY.out 0
    have f1 := freeOf HBY.out 1
    have f2 := freeOf HBY.out 2
    have f3 := freeOf HBY.out 3
    go_wp2
    refine bodyPost_ret (v := .agg #[.int .i64 x, .slice fa n fc, .slice ha m hc, .int .i64 y]) (by simp [results, Try.results34, go_sem, r0, r1, r2, r3]) rfl ⟨_, _, by rw [HX.out, HY.out], ⟨?_, ?_⟩, ?_⟩
    · rw [HN.out]
      exact (((HRC.out.stO HBY.out (by decide) _).stO (ba_set0 HBY.out _) (by decide) _).stO (ba_set1 (ba_set0 HBY.out _) _) (by decide) _).stO (ba_set2 (ba_set1 (ba_set0 HBY.out _) _) _) (by decide) _
    · rw [HM.out]
      exact (((HRG.out.stO HBY.out (by decide) _).stO (ba_set0 HBY.out _) (by decide) _).stO (ba_set1 (ba_set0 HBY.out _) _) (by decide) _).stO (ba_set2 (ba_set1 (ba_set0 HBY.out _) _) _) (by decide) _
    · exact (((HE.out.st (p := ⟨w.heap.size + 1, 0, none⟩) (by simp only; omega) _).st (p := ⟨w.heap.size + 1, 1, none⟩) (by simp only; omega) _).st (p := ⟨w.heap.size + 1, 2, none⟩) (by simp only; omega) _).st (p := ⟨w.heap.size + 1, 3, none⟩) (by simp only; omega) _

end Go.Proofs.Ytpjnppkhhbnfoaa
