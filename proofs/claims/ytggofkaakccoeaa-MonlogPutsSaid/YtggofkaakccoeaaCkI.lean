/-
  The copy of a checker, of the reference's text.
-/
import Derived.Test.YtggofkaakccoeaaBase
import Derived.Test.YtggofkaakccoeaaProg
import Derived.BigQuiet
import Derived.Deep.QuietTactic
import Derived.Deep.LoopGhost
import Derived.Shelf.Abstract
import Derived.Test.YtggofkaakccoeaaCkH
import Derived.Test.YtggofkaakccoeaaStep2
import Derived.Test.YtggofkaakccoeaaTail
namespace Go.Proofs.Ytggofkaakccoeaa
open Go.RowKit
set_option linter.unusedVariables false
attribute [local go_sem ↓] Go.wp_at_zero Go.wp_at_succ

theorem ckRow_empty {W : World} {base k size : Nat} {e : TypeId} (h : W.heap[k]? = some (.cells #[] e (0, 0))) (hb : base ≤ k) : Row W base e size (.slice (some ⟨k, 0, none⟩) 0 0) 0 [] :=
  ⟨by simp, .inr ⟨k, 0, 0, #[], rfl, hb, h, Nat.le_refl _, by decide, by simp, by simp⟩⟩
theorem CellsAt.news {w : World} {a : Option Addr} {n c : Nat} {xs : List Value} (h : CellsAt w (.slice a n c) 1 n xs) : 0 < n → ∃ ad, a = some ad ∧ ∀ j u, xs[j]? = some u → w.cell? (ad.add j) = some u := by
  intro hn
  obtain ⟨hl, a', c', he, hlc, h⟩ := h
  simp only [Value.slice.injEq] at he
  obtain ⟨rfl, _, rfl⟩ := he
  obtain ⟨b, off, rfl, hb, hc⟩ := h hn
  refine ⟨_, rfl, fun j u hj => ?_⟩
  have hjl : j < n * 1 := by have := (List.getElem?_eq_some_iff.1 hj).1; omega
  rw [Addr.add_lit, hc j hjl]
  exact hj

set_option maxHeartbeats 16000000 in
set_option maxRecDepth 100000 in
theorem copyR_calls (uq ue uc : Value) (s : Ck) (w : World) (h : CkAt w uq ue uc s) (hs : SmallC s) :
    Calls Try.prog 77 #[.agg #[uq, ue, .bool s.done, uc]] w fun e w' => CkOwnOut w w' e s := by
  obtain ⟨i2, hi2, hz0, hz1, hz2⟩ := info_parts info_rows1
  obtain ⟨i3, hi3, hy0, hy1, hy2⟩ := info_parts info_rows2
  obtain ⟨ib, hib, hb0, hb1, hb2⟩ := info_parts info_bools
  obtain ⟨ii, hii, hj0, hj1, hj2⟩ := info_parts info_ints
  have HQ := Lib.hid h.1
  have HEN := Lib.hid h.2.1
  have HC := Lib.hid h.2.2
  have hs1 := hs.1
  have hs2 := hs.2.1
  have hs3 := hs.2.2.1
  have HSM := Lib.hid hs.2.2.2
  obtain ⟨a, c, rfl, hlc⟩ := h.1.shape
  obtain ⟨ea, ec, rfl, hec⟩ := h.2.1.shape
  obtain ⟨ca, cc, hce, hcc, _⟩ := h.2.2
  subst hce
  clear h hs
  generalize hd : s.done = d at *
  have HD := Lib.hid hd
  clear hd
  have HCE := Lib.hid HEN.out.boolCells
  have HCC := Lib.hid HC.out.cells
  generalize hn : s.qs.length = n at *
  generalize hl : s.ended.length = l at *
  generalize hcl : s.cut.length = cl at *
  have HN := Lib.hid hn
  have HL := Lib.hid hl
  have HCL := Lib.hid hcl
  clear hn hl hcl
  have HX0 := Lib.hid (((Ext.rf (w.alloc (ckT (.slice a n c) (.slice ea l ec) (.bool d) (.slice ca cl cc)))).al (ckT (.slice none 0 0) (.slice none 0 0) (.bool false) (.slice none 0 0))).hp (heap_alloc_new w (ckT (.slice a n c) (.slice ea l ec) (.bool d) (.slice ca cl cc))))
  have HX1 := Lib.hid (heap_new_eq (w := w.alloc (ckT (.slice a n c) (.slice ea l ec) (.bool d) (.slice ca cl cc))) (o := ckT (.slice none 0 0) (.slice none 0 0) (.bool false) (.slice none 0 0)) (b := w.heap.size + 1) (by simp))
  have HE0 : Hid (Ext w ((w.alloc (ckT (.slice a n c) (.slice ea l ec) (.bool d) (.slice ca cl cc))).alloc (ckT (.slice none 0 0) (.slice none 0 0) (.bool false) (.slice none 0 0)))) := Lib.hid (((Ext.rf w).al _).al _)
  have hsz0 : ((w.alloc (ckT (.slice a n c) (.slice ea l ec) (.bool d) (.slice ca cl cc))).alloc (ckT (.slice none 0 0) (.slice none 0 0) (.bool false) (.slice none 0 0))).heap.size = w.heap.size + 2 := by simp
  go_enter Try.func77, Try.ntmps77
  go_wp2
  generalize hw0 : (w.alloc (ckT (.slice a n c) (.slice ea l ec) (.bool d) (.slice ca cl cc))).alloc (ckT (.slice none 0 0) (.slice none 0 0) (.bool false) (.slice none 0 0)) = w0 at *
  clear hw0
  have hlt0 : w.heap.size + 2 ≤ w0.heap.size := by omega
  have hne0 : w.heap.size ≠ w0.heap.size := by omega
  have hne1 : w0.heap.size ≠ w.heap.size := by omega
  have HSZ0 := Lib.hid hsz0
  clear hsz0
  have x0 := cellOf HX0.out 0
  have x1 := cellOf HX0.out 1
  have x2 := cellOf HX0.out 2
  have x3 := cellOf HX0.out 3
  simp only [List.getElem?_toArray, List.getElem?_cons_zero, List.getElem?_cons_succ] at x0 x1 x2 x3
  go_upto_region 1 with (fail)
  have hgeE : (s.ended.map Value.bool).length = l * 1 := by rw [List.length_map, HL.out, Nat.mul_one]
  have hgeC : (s.cut.map (Value.int .i64)).length = cl * 1 := by rw [List.length_map, HCL.out, Nat.mul_one]
  have HGE := Lib.hid hgeE
  have HGC := Lib.hid hgeC
  clear hgeE hgeC
  go_cut [3] (fun s3 wx => ∃ (B3 : Nat) (ve vc : Value), s3 = .pointer (some ⟨B3, 0, none⟩) ∧ Aside (wx.heap[B3]? = some (ckT (.slice none 0 0) ve (.bool d) vc)) ∧ Aside (Row wx (w.heap.size + 2) 4 1 ve l (s.ended.map Value.bool)) ∧ Aside (Row wx (w.heap.size + 2) 3 1 vc cl (s.cut.map (Value.int .i64))) ∧ Aside (Ext w0 wx ∧ w.heap.size + 2 ≤ B3))
  case first =>
    have HET := Lib.hid (show Ext w0 w0.drew from (Ext.rf w0).dr)
    refine wp_region_tail (fun w' => w'.cell? ⟨w.heap.size, 1, none⟩ = some (.slice ea l ec) ∧ w'.cell? ⟨w.heap.size, 2, none⟩ = some (.bool d) ∧ w'.cell? ⟨w.heap.size, 3, none⟩ = some (.slice ca cl cc)) 12 (by kernel_rfl) ?_ (fun hHeld => ?_)
    · exact ⟨HET.out.cl x1, HET.out.cl x2, HET.out.cl x3⟩
    generalize w0.drew = wT0 at *
    refine wpAnyT_take (i := 1) (d := some 8) (v := ?_) rfl rfl (by kernel_rfl) (by kernel_rfl) (by kernel_rfl) (by kernel_rfl) (fun _ _ _ h => h) (Or.inl ⟨by rfl, ?_⟩) (by assumption) ?_
    rotate_left
    · (intro w hSw; (try dsimp only at hSw); go_simp; try (with_reducible rfl))
    try simp only [Act.put]
    try simp only [List.setIfInBounds_toArray]
    try simp only [List.set_cons_zero, List.set_cons_succ]
    refine wpAnyT_take (i := 2) (d := some 9) (v := ?_) rfl rfl (by kernel_rfl) (by kernel_rfl) (by kernel_rfl) (by kernel_rfl) (fun _ _ _ h => h) (Or.inl ⟨by rfl, ?_⟩) (by assumption) ?_
    rotate_left
    · (intro w hSw; (try dsimp only at hSw); go_simp; try (with_reducible rfl))
    try simp only [Act.put]
    try simp only [List.setIfInBounds_toArray]
    try simp only [List.set_cons_zero, List.set_cons_succ]
    refine wpAnyT_take (i := 4) (d := some 11) (v := ?_) rfl rfl (by kernel_rfl) (by kernel_rfl) (by kernel_rfl) (by kernel_rfl) (fun _ _ _ h => h) (Or.inl ⟨by rfl, ?_⟩) (by assumption) ?_
    rotate_left
    · (intro w hSw; (try dsimp only at hSw); go_simp; try (with_reducible rfl))
    try simp only [Act.put]
    try simp only [List.setIfInBounds_toArray]
    try simp only [List.set_cons_zero, List.set_cons_succ]
    refine wpAnyT_take (i := 5) (d := some 12) (v := ?_) rfl rfl (by kernel_rfl) (by kernel_rfl) (by kernel_rfl) (by kernel_rfl) (fun _ _ _ h => h) (Or.inl ⟨by rfl, ?_⟩) (by assumption) ?_
    rotate_left
    · (intro w hSw; (try dsimp only at hSw); go_simp; try (with_reducible rfl))
    try simp only [Act.put]
    try simp only [List.setIfInBounds_toArray]
    try simp only [List.set_cons_zero, List.set_cons_succ]
    refine wpAnyT_take (i := 7) (d := some 14) (v := ?_) rfl rfl (by kernel_rfl) (by kernel_rfl) (by kernel_rfl) (by kernel_rfl) (fun _ _ _ h => h) (Or.inl ⟨by rfl, ?_⟩) (by assumption) ?_
    rotate_left
    · (intro w hSw; (try dsimp only at hSw); go_simp; try (with_reducible rfl))
    try simp only [Act.put]
    try simp only [List.setIfInBounds_toArray]
    try simp only [List.set_cons_zero, List.set_cons_succ]
    refine wpAnyT_take (i := 8) (d := some 15) (v := ?_) rfl rfl (by kernel_rfl) (by kernel_rfl) (by kernel_rfl) (by kernel_rfl) (fun _ _ _ h => h) (Or.inl ⟨by rfl, ?_⟩) (by assumption) ?_
    rotate_left
    · (intro w hSw; (try dsimp only at hSw); go_simp; try (with_reducible rfl))
    try simp only [Act.put]
    try simp only [List.setIfInBounds_toArray]
    try simp only [List.set_cons_zero, List.set_cons_succ]
    refine wpAnyT_ready (rs := [0, 6, 11]) (by kernel_rfl) (by simp) ?_
    refine AllT.cons (i := 0) rfl (fun K hK => ?_) ?_
    · go_simp
      have hE2 := HET.out.al (.cells #[] 4)
      have hsz2 := HET.out.sz
      have hRA := ckRow_empty (base := w.heap.size + 2) (size := 1) (heap_alloc_new wT0 (.cells #[] 4)) (by omega)
      generalize wT0.alloc (.cells #[] 4) = wT1 at *
      have HET := Lib.hid hE2
      clear hE2 hsz2
      have RA := Lib.hid hRA
      clear hRA
      refine hK.out _ _ ?_ (fun hHeld => ?_)
      · exact ⟨HET.out.cl x1, HET.out.cl x2, HET.out.cl x3⟩
      clear hK K
      try simp only [Act.put]
      try simp only [List.setIfInBounds_toArray]
      try simp only [List.set_cons_zero, List.set_cons_succ]
      refine wpAnyT_ready (rs := [3, 6, 11]) (by kernel_rfl) (by simp) ?_
      refine AllT.cons (i := 3) rfl (fun K hK => ?_) ?_
      · refine step_append_rowM rfl _ _ 60 rfl (w.heap.size + 2) 4 ib (.bool false) 1 1 Try.underlying60 hib hb0 hb1 hb2 rfl (by decide) _ 0 [] rfl RA.out ea l ec (s.ended.map Value.bool) rfl HGE.out (HCE.out.ext (HE0.out.trans' HET.out)).news (bool_one _) (by unfold maxLen; omega) (by omega) (by have := HET.out.sz; omega) ?_
        intro vA wT2 hown hgrow hblk
        rw [Nat.zero_add, List.nil_append] at hown
        obtain ⟨fa, fc, rfl, hle5, hsh⟩ := hown.any
        clear hsh hblk
        have hE2 := HET.out.gr hgrow (fun k hk => Nat.le_trans (Nat.le_of_eq HSZ0.out) (RA.out.lt k hk).1)
        have HET := Lib.hid hE2
        have RA := Lib.hid hown
        clear hE2 hown hgrow
        refine hK.out _ _ ?_ (fun hHeld => ?_)
        · exact ⟨HET.out.cl x1, HET.out.cl x2, HET.out.cl x3⟩
        clear hK K
        try simp only [Act.put]
        try simp only [List.setIfInBounds_toArray]
        try simp only [List.set_cons_zero, List.set_cons_succ]
        refine wpAnyT_ready (rs := [6, 11]) (by kernel_rfl) (by simp) ?_
        refine AllT.cons (i := 6) rfl (fun K hK => ?_) ?_
        · go_simp
          have hE2 := HET.out.al (.cells #[] 3)
          have hsz2 := HET.out.sz
          have hRA := RA.out.al (.cells #[] 3)
          have hRB := ckRow_empty (base := w.heap.size + 2) (size := 1) (heap_alloc_new wT2 (.cells #[] 3)) (by omega)
          generalize wT2.alloc (.cells #[] 3) = wT3 at *
          have HET := Lib.hid hE2
          clear hE2 hsz2
          have RA := Lib.hid hRA
          clear hRA
          have RB := Lib.hid hRB
          clear hRB
          refine hK.out _ _ ?_ (fun hHeld => ?_)
          · exact ⟨HET.out.cl x1, HET.out.cl x2, HET.out.cl x3⟩
          clear hK K
          try simp only [Act.put]
          try simp only [List.setIfInBounds_toArray]
          try simp only [List.set_cons_zero, List.set_cons_succ]
          refine wpAnyT_ready (rs := [9, 11]) (by kernel_rfl) (by simp) ?_
          refine AllT.cons (i := 9) rfl (fun K hK => ?_) ?_
          · refine step_append_rowM rfl _ _ 38 rfl (w.heap.size + 2) 3 ii (.int .i64 0) 1 8 Try.underlying38 hii hj0 hj1 hj2 rfl (by decide) _ 0 [] rfl RB.out ca cl cc (s.cut.map (Value.int .i64)) rfl HGC.out (HCC.out.ext (HE0.out.trans' HET.out)).news (int_one _) (by unfold maxLen; omega) (by omega) (by have := HET.out.sz; omega) ?_
            intro vB wT4 hown hgrow hblk
            rw [Nat.zero_add, List.nil_append] at hown
            obtain ⟨ga, gc, rfl, hle6, hsh⟩ := hown.any
            clear hsh hblk
            have hE2 := HET.out.gr hgrow (fun k hk => Nat.le_trans (Nat.le_of_eq HSZ0.out) (RB.out.lt k hk).1)
            have hRA := RA.out.grown hgrow (Row.apart RA.out RB.out (by decide))
            have HET := Lib.hid hE2
            have RB := Lib.hid hown
            clear hE2 hown hgrow
            have RA := Lib.hid hRA
            clear hRA
            refine hK.out _ _ ?_ (fun hHeld => ?_)
            · exact ⟨HET.out.cl x1, HET.out.cl x2, HET.out.cl x3⟩
            clear hK K
            try simp only [Act.put]
            try simp only [List.setIfInBounds_toArray]
            try simp only [List.set_cons_zero, List.set_cons_succ]
            refine wpAnyT_take (i := 10) (d := some 17) (v := ?_) rfl rfl (by kernel_rfl) (by kernel_rfl) (by kernel_rfl) (by kernel_rfl) (fun _ _ _ h => h) (Or.inl ⟨by rfl, ?_⟩) (by assumption) ?_
            rotate_left
            · (intro w hSw; (try dsimp only at hSw); go_simp; try (with_reducible rfl))
            try simp only [Act.put]
            try simp only [List.setIfInBounds_toArray]
            try simp only [List.set_cons_zero, List.set_cons_succ]
            refine wpAnyT_step (i := 11) (by kernel_rfl) rfl (fun K hK => ?_)
            go_simp
            have hE2 := HET.out.al (ckT (.slice none 0 0) (.slice none 0 0) (.bool false) (.slice none 0 0))
            have hsz2 := HET.out.sz
            have hRA := RA.out.al (ckT (.slice none 0 0) (.slice none 0 0) (.bool false) (.slice none 0 0))
            have hRB := RB.out.al (ckT (.slice none 0 0) (.slice none 0 0) (.bool false) (.slice none 0 0))
            have hXB := heap_alloc_new wT4 (ckT (.slice none 0 0) (.slice none 0 0) (.bool false) (.slice none 0 0))
            have hXb : w.heap.size + 2 ≤ wT4.heap.size := by omega
            generalize wT4.alloc (ckT (.slice none 0 0) (.slice none 0 0) (.bool false) (.slice none 0 0)) = wT5 at *
            have HET := Lib.hid hE2
            clear hE2 hsz2
            have RA := Lib.hid hRA
            clear hRA
            have RB := Lib.hid hRB
            clear hRB
            have XB := Lib.hid hXB
            clear hXB
            refine hK.out _ _ ?_ (fun hHeld => ?_)
            · exact ⟨HET.out.cl x1, HET.out.cl x2, HET.out.cl x3⟩
            clear hK K
            try simp only [Act.put]
            try simp only [List.setIfInBounds_toArray]
            try simp only [List.set_cons_zero, List.set_cons_succ]
            have z0 := cellOf XB.out 0
            have z1 := cellOf XB.out 1
            have z2 := cellOf XB.out 2
            have z3 := cellOf XB.out 3
            simp only [List.getElem?_toArray, List.getElem?_cons_zero, List.getElem?_cons_succ] at z0 z1 z2 z3
            have y0 := freeOf XB.out 0
            have y1 := freeOf XB.out 1
            have y2 := freeOf XB.out 2
            have y3 := freeOf XB.out 3
            refine wpAnyT_last (by kernel_rfl) rfl (by kernel_rfl) (fun K hK => ?_)
            go_simp
            refine hK.out _ _ ?_
            go_wp2_with fail
            go_meet
            obtain ⟨h1, h2, h3⟩ := box_stored XB.out (.slice none 0 0) (.slice fa l fc) (.bool d) (.slice ga cl gc)
            exact ⟨_, _, _, rfl, h1, h2 RA.out (by decide), h3 RB.out (by decide), box_ext HET.out (by have := HSZ0.out; omega) _ _ _ _, by omega⟩
          refine AllT.cons (i := 11) rfl (fun K hK => ?_) ?_
          · go_simp
            have hE2 := HET.out.al (ckT (.slice none 0 0) (.slice none 0 0) (.bool false) (.slice none 0 0))
            have hsz2 := HET.out.sz
            have hRA := RA.out.al (ckT (.slice none 0 0) (.slice none 0 0) (.bool false) (.slice none 0 0))
            have hRB := RB.out.al (ckT (.slice none 0 0) (.slice none 0 0) (.bool false) (.slice none 0 0))
            have hXB := heap_alloc_new wT3 (ckT (.slice none 0 0) (.slice none 0 0) (.bool false) (.slice none 0 0))
            have hXb : w.heap.size + 2 ≤ wT3.heap.size := by omega
            generalize wT3.alloc (ckT (.slice none 0 0) (.slice none 0 0) (.bool false) (.slice none 0 0)) = wT6 at *
            have HET := Lib.hid hE2
            clear hE2 hsz2
            have RA := Lib.hid hRA
            clear hRA
            have RB := Lib.hid hRB
            clear hRB
            have XB := Lib.hid hXB
            clear hXB
            refine hK.out _ _ ?_ (fun hHeld => ?_)
            · exact ⟨HET.out.cl x1, HET.out.cl x2, HET.out.cl x3⟩
            clear hK K
            try simp only [Act.put]
            try simp only [List.setIfInBounds_toArray]
            try simp only [List.set_cons_zero, List.set_cons_succ]
            refine wpAnyT_step (i := 9) (by kernel_rfl) rfl (fun K hK => ?_)
            refine step_append_rowM rfl _ _ 38 rfl (w.heap.size + 2) 3 ii (.int .i64 0) 1 8 Try.underlying38 hii hj0 hj1 hj2 rfl (by decide) _ 0 [] rfl RB.out ca cl cc (s.cut.map (Value.int .i64)) rfl HGC.out (HCC.out.ext (HE0.out.trans' HET.out)).news (int_one _) (by unfold maxLen; omega) (by omega) (by have := HET.out.sz; omega) ?_
            intro vB wT7 hown hgrow hblk
            rw [Nat.zero_add, List.nil_append] at hown
            obtain ⟨ga, gc, rfl, hle6, hsh⟩ := hown.any
            clear hsh hblk
            have hE2 := HET.out.gr hgrow (fun k hk => Nat.le_trans (Nat.le_of_eq HSZ0.out) (RB.out.lt k hk).1)
            have hRA := RA.out.grown hgrow (Row.apart RA.out RB.out (by decide))
            have hXB := grownKeep hgrow (RB.out.notBox XB.out (by decide)) XB.out
            have HET := Lib.hid hE2
            have RB := Lib.hid hown
            clear hE2 hown hgrow
            have RA := Lib.hid hRA
            clear hRA
            have XB := Lib.hid hXB
            clear hXB
            refine hK.out _ _ ?_ (fun hHeld => ?_)
            · exact ⟨HET.out.cl x1, HET.out.cl x2, HET.out.cl x3⟩
            clear hK K
            try simp only [Act.put]
            try simp only [List.setIfInBounds_toArray]
            try simp only [List.set_cons_zero, List.set_cons_succ]
            refine wpAnyT_take (i := 10) (d := some 17) (v := ?_) rfl rfl (by kernel_rfl) (by kernel_rfl) (by kernel_rfl) (by kernel_rfl) (fun _ _ _ h => h) (Or.inl ⟨by rfl, ?_⟩) (by assumption) ?_
            rotate_left
            · (intro w hSw; (try dsimp only at hSw); go_simp; try (with_reducible rfl))
            try simp only [Act.put]
            try simp only [List.setIfInBounds_toArray]
            try simp only [List.set_cons_zero, List.set_cons_succ]
            have z0 := cellOf XB.out 0
            have z1 := cellOf XB.out 1
            have z2 := cellOf XB.out 2
            have z3 := cellOf XB.out 3
            simp only [List.getElem?_toArray, List.getElem?_cons_zero, List.getElem?_cons_succ] at z0 z1 z2 z3
            have y0 := freeOf XB.out 0
            have y1 := freeOf XB.out 1
            have y2 := freeOf XB.out 2
            have y3 := freeOf XB.out 3
            refine wpAnyT_last (by kernel_rfl) rfl (by kernel_rfl) (fun K hK => ?_)
            go_simp
            refine hK.out _ _ ?_
            go_wp2_with fail
            go_meet
            obtain ⟨h1, h2, h3⟩ := box_stored XB.out (.slice none 0 0) (.slice fa l fc) (.bool d) (.slice ga cl gc)
            exact ⟨_, _, _, rfl, h1, h2 RA.out (by decide), h3 RB.out (by decide), box_ext HET.out (by have := HSZ0.out; omega) _ _ _ _, by omega⟩
          exact AllT.nil
        refine AllT.cons (i := 11) rfl (fun K hK => ?_) ?_
        · go_simp
          have hE2 := HET.out.al (ckT (.slice none 0 0) (.slice none 0 0) (.bool false) (.slice none 0 0))
          have hsz2 := HET.out.sz
          have hRA := RA.out.al (ckT (.slice none 0 0) (.slice none 0 0) (.bool false) (.slice none 0 0))
          have hXB := heap_alloc_new wT2 (ckT (.slice none 0 0) (.slice none 0 0) (.bool false) (.slice none 0 0))
          have hXb : w.heap.size + 2 ≤ wT2.heap.size := by omega
          generalize wT2.alloc (ckT (.slice none 0 0) (.slice none 0 0) (.bool false) (.slice none 0 0)) = wT8 at *
          have HET := Lib.hid hE2
          clear hE2 hsz2
          have RA := Lib.hid hRA
          clear hRA
          have XB := Lib.hid hXB
          clear hXB
          refine hK.out _ _ ?_ (fun hHeld => ?_)
          · exact ⟨HET.out.cl x1, HET.out.cl x2, HET.out.cl x3⟩
          clear hK K
          try simp only [Act.put]
          try simp only [List.setIfInBounds_toArray]
          try simp only [List.set_cons_zero, List.set_cons_succ]
          refine wpAnyT_step (i := 6) (by kernel_rfl) rfl (fun K hK => ?_)
          go_simp
          have hE2 := HET.out.al (.cells #[] 3)
          have hsz2 := HET.out.sz
          have hRA := RA.out.al (.cells #[] 3)
          have hXB := ((Ext.rf wT8).al (.cells #[] 3)).hp XB.out
          have hRB := ckRow_empty (base := w.heap.size + 2) (size := 1) (heap_alloc_new wT8 (.cells #[] 3)) (by omega)
          generalize wT8.alloc (.cells #[] 3) = wT9 at *
          have HET := Lib.hid hE2
          clear hE2 hsz2
          have RA := Lib.hid hRA
          clear hRA
          have XB := Lib.hid hXB
          clear hXB
          have RB := Lib.hid hRB
          clear hRB
          refine hK.out _ _ ?_ (fun hHeld => ?_)
          · exact ⟨HET.out.cl x1, HET.out.cl x2, HET.out.cl x3⟩
          clear hK K
          try simp only [Act.put]
          try simp only [List.setIfInBounds_toArray]
          try simp only [List.set_cons_zero, List.set_cons_succ]
          refine wpAnyT_step (i := 9) (by kernel_rfl) rfl (fun K hK => ?_)
          refine step_append_rowM rfl _ _ 38 rfl (w.heap.size + 2) 3 ii (.int .i64 0) 1 8 Try.underlying38 hii hj0 hj1 hj2 rfl (by decide) _ 0 [] rfl RB.out ca cl cc (s.cut.map (Value.int .i64)) rfl HGC.out (HCC.out.ext (HE0.out.trans' HET.out)).news (int_one _) (by unfold maxLen; omega) (by omega) (by have := HET.out.sz; omega) ?_
          intro vB wT10 hown hgrow hblk
          rw [Nat.zero_add, List.nil_append] at hown
          obtain ⟨ga, gc, rfl, hle6, hsh⟩ := hown.any
          clear hsh hblk
          have hE2 := HET.out.gr hgrow (fun k hk => Nat.le_trans (Nat.le_of_eq HSZ0.out) (RB.out.lt k hk).1)
          have hRA := RA.out.grown hgrow (Row.apart RA.out RB.out (by decide))
          have hXB := grownKeep hgrow (RB.out.notBox XB.out (by decide)) XB.out
          have HET := Lib.hid hE2
          have RB := Lib.hid hown
          clear hE2 hown hgrow
          have RA := Lib.hid hRA
          clear hRA
          have XB := Lib.hid hXB
          clear hXB
          refine hK.out _ _ ?_ (fun hHeld => ?_)
          · exact ⟨HET.out.cl x1, HET.out.cl x2, HET.out.cl x3⟩
          clear hK K
          try simp only [Act.put]
          try simp only [List.setIfInBounds_toArray]
          try simp only [List.set_cons_zero, List.set_cons_succ]
          refine wpAnyT_take (i := 10) (d := some 17) (v := ?_) rfl rfl (by kernel_rfl) (by kernel_rfl) (by kernel_rfl) (by kernel_rfl) (fun _ _ _ h => h) (Or.inl ⟨by rfl, ?_⟩) (by assumption) ?_
          rotate_left
          · (intro w hSw; (try dsimp only at hSw); go_simp; try (with_reducible rfl))
          try simp only [Act.put]
          try simp only [List.setIfInBounds_toArray]
          try simp only [List.set_cons_zero, List.set_cons_succ]
          have z0 := cellOf XB.out 0
          have z1 := cellOf XB.out 1
          have z2 := cellOf XB.out 2
          have z3 := cellOf XB.out 3
          simp only [List.getElem?_toArray, List.getElem?_cons_zero, List.getElem?_cons_succ] at z0 z1 z2 z3
          have y0 := freeOf XB.out 0
          have y1 := freeOf XB.out 1
          have y2 := freeOf XB.out 2
          have y3 := freeOf XB.out 3
          refine wpAnyT_last (by kernel_rfl) rfl (by kernel_rfl) (fun K hK => ?_)
          go_simp
          refine hK.out _ _ ?_
          go_wp2_with fail
          go_meet
          obtain ⟨h1, h2, h3⟩ := box_stored XB.out (.slice none 0 0) (.slice fa l fc) (.bool d) (.slice ga cl gc)
          exact ⟨_, _, _, rfl, h1, h2 RA.out (by decide), h3 RB.out (by decide), box_ext HET.out (by have := HSZ0.out; omega) _ _ _ _, by omega⟩
        exact AllT.nil
      refine AllT.cons (i := 6) rfl (fun K hK => ?_) ?_
      · go_simp
        have hE2 := HET.out.al (.cells #[] 3)
        have hsz2 := HET.out.sz
        have hRA := RA.out.al (.cells #[] 3)
        have hRB := ckRow_empty (base := w.heap.size + 2) (size := 1) (heap_alloc_new wT1 (.cells #[] 3)) (by omega)
        generalize wT1.alloc (.cells #[] 3) = wT11 at *
        have HET := Lib.hid hE2
        clear hE2 hsz2
        have RA := Lib.hid hRA
        clear hRA
        have RB := Lib.hid hRB
        clear hRB
        refine hK.out _ _ ?_ (fun hHeld => ?_)
        · exact ⟨HET.out.cl x1, HET.out.cl x2, HET.out.cl x3⟩
        clear hK K
        try simp only [Act.put]
        try simp only [List.setIfInBounds_toArray]
        try simp only [List.set_cons_zero, List.set_cons_succ]
        refine wpAnyT_ready (rs := [3, 11]) (by kernel_rfl) (by simp) ?_
        refine AllT.cons (i := 3) rfl (fun K hK => ?_) ?_
        · refine step_append_rowM rfl _ _ 60 rfl (w.heap.size + 2) 4 ib (.bool false) 1 1 Try.underlying60 hib hb0 hb1 hb2 rfl (by decide) _ 0 [] rfl RA.out ea l ec (s.ended.map Value.bool) rfl HGE.out (HCE.out.ext (HE0.out.trans' HET.out)).news (bool_one _) (by unfold maxLen; omega) (by omega) (by have := HET.out.sz; omega) ?_
          intro vA wT12 hown hgrow hblk
          rw [Nat.zero_add, List.nil_append] at hown
          obtain ⟨fa, fc, rfl, hle5, hsh⟩ := hown.any
          clear hsh hblk
          have hE2 := HET.out.gr hgrow (fun k hk => Nat.le_trans (Nat.le_of_eq HSZ0.out) (RA.out.lt k hk).1)
          have hRB := RB.out.grown hgrow (Row.apart RB.out RA.out (by decide))
          have HET := Lib.hid hE2
          have RA := Lib.hid hown
          clear hE2 hown hgrow
          have RB := Lib.hid hRB
          clear hRB
          refine hK.out _ _ ?_ (fun hHeld => ?_)
          · exact ⟨HET.out.cl x1, HET.out.cl x2, HET.out.cl x3⟩
          clear hK K
          try simp only [Act.put]
          try simp only [List.setIfInBounds_toArray]
          try simp only [List.set_cons_zero, List.set_cons_succ]
          refine wpAnyT_ready (rs := [9, 11]) (by kernel_rfl) (by simp) ?_
          refine AllT.cons (i := 9) rfl (fun K hK => ?_) ?_
          · refine step_append_rowM rfl _ _ 38 rfl (w.heap.size + 2) 3 ii (.int .i64 0) 1 8 Try.underlying38 hii hj0 hj1 hj2 rfl (by decide) _ 0 [] rfl RB.out ca cl cc (s.cut.map (Value.int .i64)) rfl HGC.out (HCC.out.ext (HE0.out.trans' HET.out)).news (int_one _) (by unfold maxLen; omega) (by omega) (by have := HET.out.sz; omega) ?_
            intro vB wT13 hown hgrow hblk
            rw [Nat.zero_add, List.nil_append] at hown
            obtain ⟨ga, gc, rfl, hle6, hsh⟩ := hown.any
            clear hsh hblk
            have hE2 := HET.out.gr hgrow (fun k hk => Nat.le_trans (Nat.le_of_eq HSZ0.out) (RB.out.lt k hk).1)
            have hRA := RA.out.grown hgrow (Row.apart RA.out RB.out (by decide))
            have HET := Lib.hid hE2
            have RB := Lib.hid hown
            clear hE2 hown hgrow
            have RA := Lib.hid hRA
            clear hRA
            refine hK.out _ _ ?_ (fun hHeld => ?_)
            · exact ⟨HET.out.cl x1, HET.out.cl x2, HET.out.cl x3⟩
            clear hK K
            try simp only [Act.put]
            try simp only [List.setIfInBounds_toArray]
            try simp only [List.set_cons_zero, List.set_cons_succ]
            refine wpAnyT_take (i := 10) (d := some 17) (v := ?_) rfl rfl (by kernel_rfl) (by kernel_rfl) (by kernel_rfl) (by kernel_rfl) (fun _ _ _ h => h) (Or.inl ⟨by rfl, ?_⟩) (by assumption) ?_
            rotate_left
            · (intro w hSw; (try dsimp only at hSw); go_simp; try (with_reducible rfl))
            try simp only [Act.put]
            try simp only [List.setIfInBounds_toArray]
            try simp only [List.set_cons_zero, List.set_cons_succ]
            refine wpAnyT_step (i := 11) (by kernel_rfl) rfl (fun K hK => ?_)
            go_simp
            have hE2 := HET.out.al (ckT (.slice none 0 0) (.slice none 0 0) (.bool false) (.slice none 0 0))
            have hsz2 := HET.out.sz
            have hRA := RA.out.al (ckT (.slice none 0 0) (.slice none 0 0) (.bool false) (.slice none 0 0))
            have hRB := RB.out.al (ckT (.slice none 0 0) (.slice none 0 0) (.bool false) (.slice none 0 0))
            have hXB := heap_alloc_new wT13 (ckT (.slice none 0 0) (.slice none 0 0) (.bool false) (.slice none 0 0))
            have hXb : w.heap.size + 2 ≤ wT13.heap.size := by omega
            generalize wT13.alloc (ckT (.slice none 0 0) (.slice none 0 0) (.bool false) (.slice none 0 0)) = wT14 at *
            have HET := Lib.hid hE2
            clear hE2 hsz2
            have RA := Lib.hid hRA
            clear hRA
            have RB := Lib.hid hRB
            clear hRB
            have XB := Lib.hid hXB
            clear hXB
            refine hK.out _ _ ?_ (fun hHeld => ?_)
            · exact ⟨HET.out.cl x1, HET.out.cl x2, HET.out.cl x3⟩
            clear hK K
            try simp only [Act.put]
            try simp only [List.setIfInBounds_toArray]
            try simp only [List.set_cons_zero, List.set_cons_succ]
            have z0 := cellOf XB.out 0
            have z1 := cellOf XB.out 1
            have z2 := cellOf XB.out 2
            have z3 := cellOf XB.out 3
            simp only [List.getElem?_toArray, List.getElem?_cons_zero, List.getElem?_cons_succ] at z0 z1 z2 z3
            have y0 := freeOf XB.out 0
            have y1 := freeOf XB.out 1
            have y2 := freeOf XB.out 2
            have y3 := freeOf XB.out 3
            refine wpAnyT_last (by kernel_rfl) rfl (by kernel_rfl) (fun K hK => ?_)
            go_simp
            refine hK.out _ _ ?_
            go_wp2_with fail
            go_meet
            obtain ⟨h1, h2, h3⟩ := box_stored XB.out (.slice none 0 0) (.slice fa l fc) (.bool d) (.slice ga cl gc)
            exact ⟨_, _, _, rfl, h1, h2 RA.out (by decide), h3 RB.out (by decide), box_ext HET.out (by have := HSZ0.out; omega) _ _ _ _, by omega⟩
          refine AllT.cons (i := 11) rfl (fun K hK => ?_) ?_
          · go_simp
            have hE2 := HET.out.al (ckT (.slice none 0 0) (.slice none 0 0) (.bool false) (.slice none 0 0))
            have hsz2 := HET.out.sz
            have hRA := RA.out.al (ckT (.slice none 0 0) (.slice none 0 0) (.bool false) (.slice none 0 0))
            have hRB := RB.out.al (ckT (.slice none 0 0) (.slice none 0 0) (.bool false) (.slice none 0 0))
            have hXB := heap_alloc_new wT12 (ckT (.slice none 0 0) (.slice none 0 0) (.bool false) (.slice none 0 0))
            have hXb : w.heap.size + 2 ≤ wT12.heap.size := by omega
            generalize wT12.alloc (ckT (.slice none 0 0) (.slice none 0 0) (.bool false) (.slice none 0 0)) = wT15 at *
            have HET := Lib.hid hE2
            clear hE2 hsz2
            have RA := Lib.hid hRA
            clear hRA
            have RB := Lib.hid hRB
            clear hRB
            have XB := Lib.hid hXB
            clear hXB
            refine hK.out _ _ ?_ (fun hHeld => ?_)
            · exact ⟨HET.out.cl x1, HET.out.cl x2, HET.out.cl x3⟩
            clear hK K
            try simp only [Act.put]
            try simp only [List.setIfInBounds_toArray]
            try simp only [List.set_cons_zero, List.set_cons_succ]
            refine wpAnyT_step (i := 9) (by kernel_rfl) rfl (fun K hK => ?_)
            refine step_append_rowM rfl _ _ 38 rfl (w.heap.size + 2) 3 ii (.int .i64 0) 1 8 Try.underlying38 hii hj0 hj1 hj2 rfl (by decide) _ 0 [] rfl RB.out ca cl cc (s.cut.map (Value.int .i64)) rfl HGC.out (HCC.out.ext (HE0.out.trans' HET.out)).news (int_one _) (by unfold maxLen; omega) (by omega) (by have := HET.out.sz; omega) ?_
            intro vB wT16 hown hgrow hblk
            rw [Nat.zero_add, List.nil_append] at hown
            obtain ⟨ga, gc, rfl, hle6, hsh⟩ := hown.any
            clear hsh hblk
            have hE2 := HET.out.gr hgrow (fun k hk => Nat.le_trans (Nat.le_of_eq HSZ0.out) (RB.out.lt k hk).1)
            have hRA := RA.out.grown hgrow (Row.apart RA.out RB.out (by decide))
            have hXB := grownKeep hgrow (RB.out.notBox XB.out (by decide)) XB.out
            have HET := Lib.hid hE2
            have RB := Lib.hid hown
            clear hE2 hown hgrow
            have RA := Lib.hid hRA
            clear hRA
            have XB := Lib.hid hXB
            clear hXB
            refine hK.out _ _ ?_ (fun hHeld => ?_)
            · exact ⟨HET.out.cl x1, HET.out.cl x2, HET.out.cl x3⟩
            clear hK K
            try simp only [Act.put]
            try simp only [List.setIfInBounds_toArray]
            try simp only [List.set_cons_zero, List.set_cons_succ]
            refine wpAnyT_take (i := 10) (d := some 17) (v := ?_) rfl rfl (by kernel_rfl) (by kernel_rfl) (by kernel_rfl) (by kernel_rfl) (fun _ _ _ h => h) (Or.inl ⟨by rfl, ?_⟩) (by assumption) ?_
            rotate_left
            · (intro w hSw; (try dsimp only at hSw); go_simp; try (with_reducible rfl))
            try simp only [Act.put]
            try simp only [List.setIfInBounds_toArray]
            try simp only [List.set_cons_zero, List.set_cons_succ]
            have z0 := cellOf XB.out 0
            have z1 := cellOf XB.out 1
            have z2 := cellOf XB.out 2
            have z3 := cellOf XB.out 3
            simp only [List.getElem?_toArray, List.getElem?_cons_zero, List.getElem?_cons_succ] at z0 z1 z2 z3
            have y0 := freeOf XB.out 0
            have y1 := freeOf XB.out 1
            have y2 := freeOf XB.out 2
            have y3 := freeOf XB.out 3
            refine wpAnyT_last (by kernel_rfl) rfl (by kernel_rfl) (fun K hK => ?_)
            go_simp
            refine hK.out _ _ ?_
            go_wp2_with fail
            go_meet
            obtain ⟨h1, h2, h3⟩ := box_stored XB.out (.slice none 0 0) (.slice fa l fc) (.bool d) (.slice ga cl gc)
            exact ⟨_, _, _, rfl, h1, h2 RA.out (by decide), h3 RB.out (by decide), box_ext HET.out (by have := HSZ0.out; omega) _ _ _ _, by omega⟩
          exact AllT.nil
        refine AllT.cons (i := 11) rfl (fun K hK => ?_) ?_
        · go_simp
          have hE2 := HET.out.al (ckT (.slice none 0 0) (.slice none 0 0) (.bool false) (.slice none 0 0))
          have hsz2 := HET.out.sz
          have hRA := RA.out.al (ckT (.slice none 0 0) (.slice none 0 0) (.bool false) (.slice none 0 0))
          have hRB := RB.out.al (ckT (.slice none 0 0) (.slice none 0 0) (.bool false) (.slice none 0 0))
          have hXB := heap_alloc_new wT11 (ckT (.slice none 0 0) (.slice none 0 0) (.bool false) (.slice none 0 0))
          have hXb : w.heap.size + 2 ≤ wT11.heap.size := by omega
          generalize wT11.alloc (ckT (.slice none 0 0) (.slice none 0 0) (.bool false) (.slice none 0 0)) = wT17 at *
          have HET := Lib.hid hE2
          clear hE2 hsz2
          have RA := Lib.hid hRA
          clear hRA
          have RB := Lib.hid hRB
          clear hRB
          have XB := Lib.hid hXB
          clear hXB
          refine hK.out _ _ ?_ (fun hHeld => ?_)
          · exact ⟨HET.out.cl x1, HET.out.cl x2, HET.out.cl x3⟩
          clear hK K
          try simp only [Act.put]
          try simp only [List.setIfInBounds_toArray]
          try simp only [List.set_cons_zero, List.set_cons_succ]
          refine wpAnyT_step (i := 3) (by kernel_rfl) rfl (fun K hK => ?_)
          refine step_append_rowM rfl _ _ 60 rfl (w.heap.size + 2) 4 ib (.bool false) 1 1 Try.underlying60 hib hb0 hb1 hb2 rfl (by decide) _ 0 [] rfl RA.out ea l ec (s.ended.map Value.bool) rfl HGE.out (HCE.out.ext (HE0.out.trans' HET.out)).news (bool_one _) (by unfold maxLen; omega) (by omega) (by have := HET.out.sz; omega) ?_
          intro vA wT18 hown hgrow hblk
          rw [Nat.zero_add, List.nil_append] at hown
          obtain ⟨fa, fc, rfl, hle5, hsh⟩ := hown.any
          clear hsh hblk
          have hE2 := HET.out.gr hgrow (fun k hk => Nat.le_trans (Nat.le_of_eq HSZ0.out) (RA.out.lt k hk).1)
          have hRB := RB.out.grown hgrow (Row.apart RB.out RA.out (by decide))
          have hXB := grownKeep hgrow (RA.out.notBox XB.out (by decide)) XB.out
          have HET := Lib.hid hE2
          have RA := Lib.hid hown
          clear hE2 hown hgrow
          have RB := Lib.hid hRB
          clear hRB
          have XB := Lib.hid hXB
          clear hXB
          refine hK.out _ _ ?_ (fun hHeld => ?_)
          · exact ⟨HET.out.cl x1, HET.out.cl x2, HET.out.cl x3⟩
          clear hK K
          try simp only [Act.put]
          try simp only [List.setIfInBounds_toArray]
          try simp only [List.set_cons_zero, List.set_cons_succ]
          refine wpAnyT_step (i := 9) (by kernel_rfl) rfl (fun K hK => ?_)
          refine step_append_rowM rfl _ _ 38 rfl (w.heap.size + 2) 3 ii (.int .i64 0) 1 8 Try.underlying38 hii hj0 hj1 hj2 rfl (by decide) _ 0 [] rfl RB.out ca cl cc (s.cut.map (Value.int .i64)) rfl HGC.out (HCC.out.ext (HE0.out.trans' HET.out)).news (int_one _) (by unfold maxLen; omega) (by omega) (by have := HET.out.sz; omega) ?_
          intro vB wT19 hown hgrow hblk
          rw [Nat.zero_add, List.nil_append] at hown
          obtain ⟨ga, gc, rfl, hle6, hsh⟩ := hown.any
          clear hsh hblk
          have hE2 := HET.out.gr hgrow (fun k hk => Nat.le_trans (Nat.le_of_eq HSZ0.out) (RB.out.lt k hk).1)
          have hRA := RA.out.grown hgrow (Row.apart RA.out RB.out (by decide))
          have hXB := grownKeep hgrow (RB.out.notBox XB.out (by decide)) XB.out
          have HET := Lib.hid hE2
          have RB := Lib.hid hown
          clear hE2 hown hgrow
          have RA := Lib.hid hRA
          clear hRA
          have XB := Lib.hid hXB
          clear hXB
          refine hK.out _ _ ?_ (fun hHeld => ?_)
          · exact ⟨HET.out.cl x1, HET.out.cl x2, HET.out.cl x3⟩
          clear hK K
          try simp only [Act.put]
          try simp only [List.setIfInBounds_toArray]
          try simp only [List.set_cons_zero, List.set_cons_succ]
          refine wpAnyT_take (i := 10) (d := some 17) (v := ?_) rfl rfl (by kernel_rfl) (by kernel_rfl) (by kernel_rfl) (by kernel_rfl) (fun _ _ _ h => h) (Or.inl ⟨by rfl, ?_⟩) (by assumption) ?_
          rotate_left
          · (intro w hSw; (try dsimp only at hSw); go_simp; try (with_reducible rfl))
          try simp only [Act.put]
          try simp only [List.setIfInBounds_toArray]
          try simp only [List.set_cons_zero, List.set_cons_succ]
          have z0 := cellOf XB.out 0
          have z1 := cellOf XB.out 1
          have z2 := cellOf XB.out 2
          have z3 := cellOf XB.out 3
          simp only [List.getElem?_toArray, List.getElem?_cons_zero, List.getElem?_cons_succ] at z0 z1 z2 z3
          have y0 := freeOf XB.out 0
          have y1 := freeOf XB.out 1
          have y2 := freeOf XB.out 2
          have y3 := freeOf XB.out 3
          refine wpAnyT_last (by kernel_rfl) rfl (by kernel_rfl) (fun K hK => ?_)
          go_simp
          refine hK.out _ _ ?_
          go_wp2_with fail
          go_meet
          obtain ⟨h1, h2, h3⟩ := box_stored XB.out (.slice none 0 0) (.slice fa l fc) (.bool d) (.slice ga cl gc)
          exact ⟨_, _, _, rfl, h1, h2 RA.out (by decide), h3 RB.out (by decide), box_ext HET.out (by have := HSZ0.out; omega) _ _ _ _, by omega⟩
        exact AllT.nil
      refine AllT.cons (i := 11) rfl (fun K hK => ?_) ?_
      · go_simp
        have hE2 := HET.out.al (ckT (.slice none 0 0) (.slice none 0 0) (.bool false) (.slice none 0 0))
        have hsz2 := HET.out.sz
        have hRA := RA.out.al (ckT (.slice none 0 0) (.slice none 0 0) (.bool false) (.slice none 0 0))
        have hXB := heap_alloc_new wT1 (ckT (.slice none 0 0) (.slice none 0 0) (.bool false) (.slice none 0 0))
        have hXb : w.heap.size + 2 ≤ wT1.heap.size := by omega
        generalize wT1.alloc (ckT (.slice none 0 0) (.slice none 0 0) (.bool false) (.slice none 0 0)) = wT20 at *
        have HET := Lib.hid hE2
        clear hE2 hsz2
        have RA := Lib.hid hRA
        clear hRA
        have XB := Lib.hid hXB
        clear hXB
        refine hK.out _ _ ?_ (fun hHeld => ?_)
        · exact ⟨HET.out.cl x1, HET.out.cl x2, HET.out.cl x3⟩
        clear hK K
        try simp only [Act.put]
        try simp only [List.setIfInBounds_toArray]
        try simp only [List.set_cons_zero, List.set_cons_succ]
        refine wpAnyT_ready (rs := [3, 6]) (by kernel_rfl) (by simp) ?_
        refine AllT.cons (i := 3) rfl (fun K hK => ?_) ?_
        · refine step_append_rowM rfl _ _ 60 rfl (w.heap.size + 2) 4 ib (.bool false) 1 1 Try.underlying60 hib hb0 hb1 hb2 rfl (by decide) _ 0 [] rfl RA.out ea l ec (s.ended.map Value.bool) rfl HGE.out (HCE.out.ext (HE0.out.trans' HET.out)).news (bool_one _) (by unfold maxLen; omega) (by omega) (by have := HET.out.sz; omega) ?_
          intro vA wT21 hown hgrow hblk
          rw [Nat.zero_add, List.nil_append] at hown
          obtain ⟨fa, fc, rfl, hle5, hsh⟩ := hown.any
          clear hsh hblk
          have hE2 := HET.out.gr hgrow (fun k hk => Nat.le_trans (Nat.le_of_eq HSZ0.out) (RA.out.lt k hk).1)
          have hXB := grownKeep hgrow (RA.out.notBox XB.out (by decide)) XB.out
          have HET := Lib.hid hE2
          have RA := Lib.hid hown
          clear hE2 hown hgrow
          have XB := Lib.hid hXB
          clear hXB
          refine hK.out _ _ ?_ (fun hHeld => ?_)
          · exact ⟨HET.out.cl x1, HET.out.cl x2, HET.out.cl x3⟩
          clear hK K
          try simp only [Act.put]
          try simp only [List.setIfInBounds_toArray]
          try simp only [List.set_cons_zero, List.set_cons_succ]
          refine wpAnyT_step (i := 6) (by kernel_rfl) rfl (fun K hK => ?_)
          go_simp
          have hE2 := HET.out.al (.cells #[] 3)
          have hsz2 := HET.out.sz
          have hRA := RA.out.al (.cells #[] 3)
          have hXB := ((Ext.rf wT21).al (.cells #[] 3)).hp XB.out
          have hRB := ckRow_empty (base := w.heap.size + 2) (size := 1) (heap_alloc_new wT21 (.cells #[] 3)) (by omega)
          generalize wT21.alloc (.cells #[] 3) = wT22 at *
          have HET := Lib.hid hE2
          clear hE2 hsz2
          have RA := Lib.hid hRA
          clear hRA
          have XB := Lib.hid hXB
          clear hXB
          have RB := Lib.hid hRB
          clear hRB
          refine hK.out _ _ ?_ (fun hHeld => ?_)
          · exact ⟨HET.out.cl x1, HET.out.cl x2, HET.out.cl x3⟩
          clear hK K
          try simp only [Act.put]
          try simp only [List.setIfInBounds_toArray]
          try simp only [List.set_cons_zero, List.set_cons_succ]
          refine wpAnyT_step (i := 9) (by kernel_rfl) rfl (fun K hK => ?_)
          refine step_append_rowM rfl _ _ 38 rfl (w.heap.size + 2) 3 ii (.int .i64 0) 1 8 Try.underlying38 hii hj0 hj1 hj2 rfl (by decide) _ 0 [] rfl RB.out ca cl cc (s.cut.map (Value.int .i64)) rfl HGC.out (HCC.out.ext (HE0.out.trans' HET.out)).news (int_one _) (by unfold maxLen; omega) (by omega) (by have := HET.out.sz; omega) ?_
          intro vB wT23 hown hgrow hblk
          rw [Nat.zero_add, List.nil_append] at hown
          obtain ⟨ga, gc, rfl, hle6, hsh⟩ := hown.any
          clear hsh hblk
          have hE2 := HET.out.gr hgrow (fun k hk => Nat.le_trans (Nat.le_of_eq HSZ0.out) (RB.out.lt k hk).1)
          have hRA := RA.out.grown hgrow (Row.apart RA.out RB.out (by decide))
          have hXB := grownKeep hgrow (RB.out.notBox XB.out (by decide)) XB.out
          have HET := Lib.hid hE2
          have RB := Lib.hid hown
          clear hE2 hown hgrow
          have RA := Lib.hid hRA
          clear hRA
          have XB := Lib.hid hXB
          clear hXB
          refine hK.out _ _ ?_ (fun hHeld => ?_)
          · exact ⟨HET.out.cl x1, HET.out.cl x2, HET.out.cl x3⟩
          clear hK K
          try simp only [Act.put]
          try simp only [List.setIfInBounds_toArray]
          try simp only [List.set_cons_zero, List.set_cons_succ]
          refine wpAnyT_take (i := 10) (d := some 17) (v := ?_) rfl rfl (by kernel_rfl) (by kernel_rfl) (by kernel_rfl) (by kernel_rfl) (fun _ _ _ h => h) (Or.inl ⟨by rfl, ?_⟩) (by assumption) ?_
          rotate_left
          · (intro w hSw; (try dsimp only at hSw); go_simp; try (with_reducible rfl))
          try simp only [Act.put]
          try simp only [List.setIfInBounds_toArray]
          try simp only [List.set_cons_zero, List.set_cons_succ]
          have z0 := cellOf XB.out 0
          have z1 := cellOf XB.out 1
          have z2 := cellOf XB.out 2
          have z3 := cellOf XB.out 3
          simp only [List.getElem?_toArray, List.getElem?_cons_zero, List.getElem?_cons_succ] at z0 z1 z2 z3
          have y0 := freeOf XB.out 0
          have y1 := freeOf XB.out 1
          have y2 := freeOf XB.out 2
          have y3 := freeOf XB.out 3
          refine wpAnyT_last (by kernel_rfl) rfl (by kernel_rfl) (fun K hK => ?_)
          go_simp
          refine hK.out _ _ ?_
          go_wp2_with fail
          go_meet
          obtain ⟨h1, h2, h3⟩ := box_stored XB.out (.slice none 0 0) (.slice fa l fc) (.bool d) (.slice ga cl gc)
          exact ⟨_, _, _, rfl, h1, h2 RA.out (by decide), h3 RB.out (by decide), box_ext HET.out (by have := HSZ0.out; omega) _ _ _ _, by omega⟩
        refine AllT.cons (i := 6) rfl (fun K hK => ?_) ?_
        · go_simp
          have hE2 := HET.out.al (.cells #[] 3)
          have hsz2 := HET.out.sz
          have hRA := RA.out.al (.cells #[] 3)
          have hXB := ((Ext.rf wT20).al (.cells #[] 3)).hp XB.out
          have hRB := ckRow_empty (base := w.heap.size + 2) (size := 1) (heap_alloc_new wT20 (.cells #[] 3)) (by omega)
          generalize wT20.alloc (.cells #[] 3) = wT24 at *
          have HET := Lib.hid hE2
          clear hE2 hsz2
          have RA := Lib.hid hRA
          clear hRA
          have XB := Lib.hid hXB
          clear hXB
          have RB := Lib.hid hRB
          clear hRB
          refine hK.out _ _ ?_ (fun hHeld => ?_)
          · exact ⟨HET.out.cl x1, HET.out.cl x2, HET.out.cl x3⟩
          clear hK K
          try simp only [Act.put]
          try simp only [List.setIfInBounds_toArray]
          try simp only [List.set_cons_zero, List.set_cons_succ]
          refine wpAnyT_step (i := 3) (by kernel_rfl) rfl (fun K hK => ?_)
          refine step_append_rowM rfl _ _ 60 rfl (w.heap.size + 2) 4 ib (.bool false) 1 1 Try.underlying60 hib hb0 hb1 hb2 rfl (by decide) _ 0 [] rfl RA.out ea l ec (s.ended.map Value.bool) rfl HGE.out (HCE.out.ext (HE0.out.trans' HET.out)).news (bool_one _) (by unfold maxLen; omega) (by omega) (by have := HET.out.sz; omega) ?_
          intro vA wT25 hown hgrow hblk
          rw [Nat.zero_add, List.nil_append] at hown
          obtain ⟨fa, fc, rfl, hle5, hsh⟩ := hown.any
          clear hsh hblk
          have hE2 := HET.out.gr hgrow (fun k hk => Nat.le_trans (Nat.le_of_eq HSZ0.out) (RA.out.lt k hk).1)
          have hRB := RB.out.grown hgrow (Row.apart RB.out RA.out (by decide))
          have hXB := grownKeep hgrow (RA.out.notBox XB.out (by decide)) XB.out
          have HET := Lib.hid hE2
          have RA := Lib.hid hown
          clear hE2 hown hgrow
          have RB := Lib.hid hRB
          clear hRB
          have XB := Lib.hid hXB
          clear hXB
          refine hK.out _ _ ?_ (fun hHeld => ?_)
          · exact ⟨HET.out.cl x1, HET.out.cl x2, HET.out.cl x3⟩
          clear hK K
          try simp only [Act.put]
          try simp only [List.setIfInBounds_toArray]
          try simp only [List.set_cons_zero, List.set_cons_succ]
          refine wpAnyT_step (i := 9) (by kernel_rfl) rfl (fun K hK => ?_)
          refine step_append_rowM rfl _ _ 38 rfl (w.heap.size + 2) 3 ii (.int .i64 0) 1 8 Try.underlying38 hii hj0 hj1 hj2 rfl (by decide) _ 0 [] rfl RB.out ca cl cc (s.cut.map (Value.int .i64)) rfl HGC.out (HCC.out.ext (HE0.out.trans' HET.out)).news (int_one _) (by unfold maxLen; omega) (by omega) (by have := HET.out.sz; omega) ?_
          intro vB wT26 hown hgrow hblk
          rw [Nat.zero_add, List.nil_append] at hown
          obtain ⟨ga, gc, rfl, hle6, hsh⟩ := hown.any
          clear hsh hblk
          have hE2 := HET.out.gr hgrow (fun k hk => Nat.le_trans (Nat.le_of_eq HSZ0.out) (RB.out.lt k hk).1)
          have hRA := RA.out.grown hgrow (Row.apart RA.out RB.out (by decide))
          have hXB := grownKeep hgrow (RB.out.notBox XB.out (by decide)) XB.out
          have HET := Lib.hid hE2
          have RB := Lib.hid hown
          clear hE2 hown hgrow
          have RA := Lib.hid hRA
          clear hRA
          have XB := Lib.hid hXB
          clear hXB
          refine hK.out _ _ ?_ (fun hHeld => ?_)
          · exact ⟨HET.out.cl x1, HET.out.cl x2, HET.out.cl x3⟩
          clear hK K
          try simp only [Act.put]
          try simp only [List.setIfInBounds_toArray]
          try simp only [List.set_cons_zero, List.set_cons_succ]
          refine wpAnyT_take (i := 10) (d := some 17) (v := ?_) rfl rfl (by kernel_rfl) (by kernel_rfl) (by kernel_rfl) (by kernel_rfl) (fun _ _ _ h => h) (Or.inl ⟨by rfl, ?_⟩) (by assumption) ?_
          rotate_left
          · (intro w hSw; (try dsimp only at hSw); go_simp; try (with_reducible rfl))
          try simp only [Act.put]
          try simp only [List.setIfInBounds_toArray]
          try simp only [List.set_cons_zero, List.set_cons_succ]
          have z0 := cellOf XB.out 0
          have z1 := cellOf XB.out 1
          have z2 := cellOf XB.out 2
          have z3 := cellOf XB.out 3
          simp only [List.getElem?_toArray, List.getElem?_cons_zero, List.getElem?_cons_succ] at z0 z1 z2 z3
          have y0 := freeOf XB.out 0
          have y1 := freeOf XB.out 1
          have y2 := freeOf XB.out 2
          have y3 := freeOf XB.out 3
          refine wpAnyT_last (by kernel_rfl) rfl (by kernel_rfl) (fun K hK => ?_)
          go_simp
          refine hK.out _ _ ?_
          go_wp2_with fail
          go_meet
          obtain ⟨h1, h2, h3⟩ := box_stored XB.out (.slice none 0 0) (.slice fa l fc) (.bool d) (.slice ga cl gc)
          exact ⟨_, _, _, rfl, h1, h2 RA.out (by decide), h3 RB.out (by decide), box_ext HET.out (by have := HSZ0.out; omega) _ _ _ _, by omega⟩
        exact AllT.nil
      exact AllT.nil
    refine AllT.cons (i := 6) rfl (fun K hK => ?_) ?_
    · go_simp
      have hE2 := HET.out.al (.cells #[] 3)
      have hsz2 := HET.out.sz
      have hRB := ckRow_empty (base := w.heap.size + 2) (size := 1) (heap_alloc_new wT0 (.cells #[] 3)) (by omega)
      generalize wT0.alloc (.cells #[] 3) = wT27 at *
      have HET := Lib.hid hE2
      clear hE2 hsz2
      have RB := Lib.hid hRB
      clear hRB
      refine hK.out _ _ ?_ (fun hHeld => ?_)
      · exact ⟨HET.out.cl x1, HET.out.cl x2, HET.out.cl x3⟩
      clear hK K
      try simp only [Act.put]
      try simp only [List.setIfInBounds_toArray]
      try simp only [List.set_cons_zero, List.set_cons_succ]
      refine wpAnyT_ready (rs := [0, 11]) (by kernel_rfl) (by simp) ?_
      refine AllT.cons (i := 0) rfl (fun K hK => ?_) ?_
      · go_simp
        have hE2 := HET.out.al (.cells #[] 4)
        have hsz2 := HET.out.sz
        have hRB := RB.out.al (.cells #[] 4)
        have hRA := ckRow_empty (base := w.heap.size + 2) (size := 1) (heap_alloc_new wT27 (.cells #[] 4)) (by omega)
        generalize wT27.alloc (.cells #[] 4) = wT28 at *
        have HET := Lib.hid hE2
        clear hE2 hsz2
        have RB := Lib.hid hRB
        clear hRB
        have RA := Lib.hid hRA
        clear hRA
        refine hK.out _ _ ?_ (fun hHeld => ?_)
        · exact ⟨HET.out.cl x1, HET.out.cl x2, HET.out.cl x3⟩
        clear hK K
        try simp only [Act.put]
        try simp only [List.setIfInBounds_toArray]
        try simp only [List.set_cons_zero, List.set_cons_succ]
        refine wpAnyT_ready (rs := [3, 11]) (by kernel_rfl) (by simp) ?_
        refine AllT.cons (i := 3) rfl (fun K hK => ?_) ?_
        · refine step_append_rowM rfl _ _ 60 rfl (w.heap.size + 2) 4 ib (.bool false) 1 1 Try.underlying60 hib hb0 hb1 hb2 rfl (by decide) _ 0 [] rfl RA.out ea l ec (s.ended.map Value.bool) rfl HGE.out (HCE.out.ext (HE0.out.trans' HET.out)).news (bool_one _) (by unfold maxLen; omega) (by omega) (by have := HET.out.sz; omega) ?_
          intro vA wT29 hown hgrow hblk
          rw [Nat.zero_add, List.nil_append] at hown
          obtain ⟨fa, fc, rfl, hle5, hsh⟩ := hown.any
          clear hsh hblk
          have hE2 := HET.out.gr hgrow (fun k hk => Nat.le_trans (Nat.le_of_eq HSZ0.out) (RA.out.lt k hk).1)
          have hRB := RB.out.grown hgrow (Row.apart RB.out RA.out (by decide))
          have HET := Lib.hid hE2
          have RA := Lib.hid hown
          clear hE2 hown hgrow
          have RB := Lib.hid hRB
          clear hRB
          refine hK.out _ _ ?_ (fun hHeld => ?_)
          · exact ⟨HET.out.cl x1, HET.out.cl x2, HET.out.cl x3⟩
          clear hK K
          try simp only [Act.put]
          try simp only [List.setIfInBounds_toArray]
          try simp only [List.set_cons_zero, List.set_cons_succ]
          refine wpAnyT_ready (rs := [9, 11]) (by kernel_rfl) (by simp) ?_
          refine AllT.cons (i := 9) rfl (fun K hK => ?_) ?_
          · refine step_append_rowM rfl _ _ 38 rfl (w.heap.size + 2) 3 ii (.int .i64 0) 1 8 Try.underlying38 hii hj0 hj1 hj2 rfl (by decide) _ 0 [] rfl RB.out ca cl cc (s.cut.map (Value.int .i64)) rfl HGC.out (HCC.out.ext (HE0.out.trans' HET.out)).news (int_one _) (by unfold maxLen; omega) (by omega) (by have := HET.out.sz; omega) ?_
            intro vB wT30 hown hgrow hblk
            rw [Nat.zero_add, List.nil_append] at hown
            obtain ⟨ga, gc, rfl, hle6, hsh⟩ := hown.any
            clear hsh hblk
            have hE2 := HET.out.gr hgrow (fun k hk => Nat.le_trans (Nat.le_of_eq HSZ0.out) (RB.out.lt k hk).1)
            have hRA := RA.out.grown hgrow (Row.apart RA.out RB.out (by decide))
            have HET := Lib.hid hE2
            have RB := Lib.hid hown
            clear hE2 hown hgrow
            have RA := Lib.hid hRA
            clear hRA
            refine hK.out _ _ ?_ (fun hHeld => ?_)
            · exact ⟨HET.out.cl x1, HET.out.cl x2, HET.out.cl x3⟩
            clear hK K
            try simp only [Act.put]
            try simp only [List.setIfInBounds_toArray]
            try simp only [List.set_cons_zero, List.set_cons_succ]
            refine wpAnyT_take (i := 10) (d := some 17) (v := ?_) rfl rfl (by kernel_rfl) (by kernel_rfl) (by kernel_rfl) (by kernel_rfl) (fun _ _ _ h => h) (Or.inl ⟨by rfl, ?_⟩) (by assumption) ?_
            rotate_left
            · (intro w hSw; (try dsimp only at hSw); go_simp; try (with_reducible rfl))
            try simp only [Act.put]
            try simp only [List.setIfInBounds_toArray]
            try simp only [List.set_cons_zero, List.set_cons_succ]
            refine wpAnyT_step (i := 11) (by kernel_rfl) rfl (fun K hK => ?_)
            go_simp
            have hE2 := HET.out.al (ckT (.slice none 0 0) (.slice none 0 0) (.bool false) (.slice none 0 0))
            have hsz2 := HET.out.sz
            have hRA := RA.out.al (ckT (.slice none 0 0) (.slice none 0 0) (.bool false) (.slice none 0 0))
            have hRB := RB.out.al (ckT (.slice none 0 0) (.slice none 0 0) (.bool false) (.slice none 0 0))
            have hXB := heap_alloc_new wT30 (ckT (.slice none 0 0) (.slice none 0 0) (.bool false) (.slice none 0 0))
            have hXb : w.heap.size + 2 ≤ wT30.heap.size := by omega
            generalize wT30.alloc (ckT (.slice none 0 0) (.slice none 0 0) (.bool false) (.slice none 0 0)) = wT31 at *
            have HET := Lib.hid hE2
            clear hE2 hsz2
            have RA := Lib.hid hRA
            clear hRA
            have RB := Lib.hid hRB
            clear hRB
            have XB := Lib.hid hXB
            clear hXB
            refine hK.out _ _ ?_ (fun hHeld => ?_)
            · exact ⟨HET.out.cl x1, HET.out.cl x2, HET.out.cl x3⟩
            clear hK K
            try simp only [Act.put]
            try simp only [List.setIfInBounds_toArray]
            try simp only [List.set_cons_zero, List.set_cons_succ]
            have z0 := cellOf XB.out 0
            have z1 := cellOf XB.out 1
            have z2 := cellOf XB.out 2
            have z3 := cellOf XB.out 3
            simp only [List.getElem?_toArray, List.getElem?_cons_zero, List.getElem?_cons_succ] at z0 z1 z2 z3
            have y0 := freeOf XB.out 0
            have y1 := freeOf XB.out 1
            have y2 := freeOf XB.out 2
            have y3 := freeOf XB.out 3
            refine wpAnyT_last (by kernel_rfl) rfl (by kernel_rfl) (fun K hK => ?_)
            go_simp
            refine hK.out _ _ ?_
            go_wp2_with fail
            go_meet
            obtain ⟨h1, h2, h3⟩ := box_stored XB.out (.slice none 0 0) (.slice fa l fc) (.bool d) (.slice ga cl gc)
            exact ⟨_, _, _, rfl, h1, h2 RA.out (by decide), h3 RB.out (by decide), box_ext HET.out (by have := HSZ0.out; omega) _ _ _ _, by omega⟩
          refine AllT.cons (i := 11) rfl (fun K hK => ?_) ?_
          · go_simp
            have hE2 := HET.out.al (ckT (.slice none 0 0) (.slice none 0 0) (.bool false) (.slice none 0 0))
            have hsz2 := HET.out.sz
            have hRA := RA.out.al (ckT (.slice none 0 0) (.slice none 0 0) (.bool false) (.slice none 0 0))
            have hRB := RB.out.al (ckT (.slice none 0 0) (.slice none 0 0) (.bool false) (.slice none 0 0))
            have hXB := heap_alloc_new wT29 (ckT (.slice none 0 0) (.slice none 0 0) (.bool false) (.slice none 0 0))
            have hXb : w.heap.size + 2 ≤ wT29.heap.size := by omega
            generalize wT29.alloc (ckT (.slice none 0 0) (.slice none 0 0) (.bool false) (.slice none 0 0)) = wT32 at *
            have HET := Lib.hid hE2
            clear hE2 hsz2
            have RA := Lib.hid hRA
            clear hRA
            have RB := Lib.hid hRB
            clear hRB
            have XB := Lib.hid hXB
            clear hXB
            refine hK.out _ _ ?_ (fun hHeld => ?_)
            · exact ⟨HET.out.cl x1, HET.out.cl x2, HET.out.cl x3⟩
            clear hK K
            try simp only [Act.put]
            try simp only [List.setIfInBounds_toArray]
            try simp only [List.set_cons_zero, List.set_cons_succ]
            refine wpAnyT_step (i := 9) (by kernel_rfl) rfl (fun K hK => ?_)
            refine step_append_rowM rfl _ _ 38 rfl (w.heap.size + 2) 3 ii (.int .i64 0) 1 8 Try.underlying38 hii hj0 hj1 hj2 rfl (by decide) _ 0 [] rfl RB.out ca cl cc (s.cut.map (Value.int .i64)) rfl HGC.out (HCC.out.ext (HE0.out.trans' HET.out)).news (int_one _) (by unfold maxLen; omega) (by omega) (by have := HET.out.sz; omega) ?_
            intro vB wT33 hown hgrow hblk
            rw [Nat.zero_add, List.nil_append] at hown
            obtain ⟨ga, gc, rfl, hle6, hsh⟩ := hown.any
            clear hsh hblk
            have hE2 := HET.out.gr hgrow (fun k hk => Nat.le_trans (Nat.le_of_eq HSZ0.out) (RB.out.lt k hk).1)
            have hRA := RA.out.grown hgrow (Row.apart RA.out RB.out (by decide))
            have hXB := grownKeep hgrow (RB.out.notBox XB.out (by decide)) XB.out
            have HET := Lib.hid hE2
            have RB := Lib.hid hown
            clear hE2 hown hgrow
            have RA := Lib.hid hRA
            clear hRA
            have XB := Lib.hid hXB
            clear hXB
            refine hK.out _ _ ?_ (fun hHeld => ?_)
            · exact ⟨HET.out.cl x1, HET.out.cl x2, HET.out.cl x3⟩
            clear hK K
            try simp only [Act.put]
            try simp only [List.setIfInBounds_toArray]
            try simp only [List.set_cons_zero, List.set_cons_succ]
            refine wpAnyT_take (i := 10) (d := some 17) (v := ?_) rfl rfl (by kernel_rfl) (by kernel_rfl) (by kernel_rfl) (by kernel_rfl) (fun _ _ _ h => h) (Or.inl ⟨by rfl, ?_⟩) (by assumption) ?_
            rotate_left
            · (intro w hSw; (try dsimp only at hSw); go_simp; try (with_reducible rfl))
            try simp only [Act.put]
            try simp only [List.setIfInBounds_toArray]
            try simp only [List.set_cons_zero, List.set_cons_succ]
            have z0 := cellOf XB.out 0
            have z1 := cellOf XB.out 1
            have z2 := cellOf XB.out 2
            have z3 := cellOf XB.out 3
            simp only [List.getElem?_toArray, List.getElem?_cons_zero, List.getElem?_cons_succ] at z0 z1 z2 z3
            have y0 := freeOf XB.out 0
            have y1 := freeOf XB.out 1
            have y2 := freeOf XB.out 2
            have y3 := freeOf XB.out 3
            refine wpAnyT_last (by kernel_rfl) rfl (by kernel_rfl) (fun K hK => ?_)
            go_simp
            refine hK.out _ _ ?_
            go_wp2_with fail
            go_meet
            obtain ⟨h1, h2, h3⟩ := box_stored XB.out (.slice none 0 0) (.slice fa l fc) (.bool d) (.slice ga cl gc)
            exact ⟨_, _, _, rfl, h1, h2 RA.out (by decide), h3 RB.out (by decide), box_ext HET.out (by have := HSZ0.out; omega) _ _ _ _, by omega⟩
          exact AllT.nil
        refine AllT.cons (i := 11) rfl (fun K hK => ?_) ?_
        · go_simp
          have hE2 := HET.out.al (ckT (.slice none 0 0) (.slice none 0 0) (.bool false) (.slice none 0 0))
          have hsz2 := HET.out.sz
          have hRA := RA.out.al (ckT (.slice none 0 0) (.slice none 0 0) (.bool false) (.slice none 0 0))
          have hRB := RB.out.al (ckT (.slice none 0 0) (.slice none 0 0) (.bool false) (.slice none 0 0))
          have hXB := heap_alloc_new wT28 (ckT (.slice none 0 0) (.slice none 0 0) (.bool false) (.slice none 0 0))
          have hXb : w.heap.size + 2 ≤ wT28.heap.size := by omega
          generalize wT28.alloc (ckT (.slice none 0 0) (.slice none 0 0) (.bool false) (.slice none 0 0)) = wT34 at *
          have HET := Lib.hid hE2
          clear hE2 hsz2
          have RA := Lib.hid hRA
          clear hRA
          have RB := Lib.hid hRB
          clear hRB
          have XB := Lib.hid hXB
          clear hXB
          refine hK.out _ _ ?_ (fun hHeld => ?_)
          · exact ⟨HET.out.cl x1, HET.out.cl x2, HET.out.cl x3⟩
          clear hK K
          try simp only [Act.put]
          try simp only [List.setIfInBounds_toArray]
          try simp only [List.set_cons_zero, List.set_cons_succ]
          refine wpAnyT_step (i := 3) (by kernel_rfl) rfl (fun K hK => ?_)
          refine step_append_rowM rfl _ _ 60 rfl (w.heap.size + 2) 4 ib (.bool false) 1 1 Try.underlying60 hib hb0 hb1 hb2 rfl (by decide) _ 0 [] rfl RA.out ea l ec (s.ended.map Value.bool) rfl HGE.out (HCE.out.ext (HE0.out.trans' HET.out)).news (bool_one _) (by unfold maxLen; omega) (by omega) (by have := HET.out.sz; omega) ?_
          intro vA wT35 hown hgrow hblk
          rw [Nat.zero_add, List.nil_append] at hown
          obtain ⟨fa, fc, rfl, hle5, hsh⟩ := hown.any
          clear hsh hblk
          have hE2 := HET.out.gr hgrow (fun k hk => Nat.le_trans (Nat.le_of_eq HSZ0.out) (RA.out.lt k hk).1)
          have hRB := RB.out.grown hgrow (Row.apart RB.out RA.out (by decide))
          have hXB := grownKeep hgrow (RA.out.notBox XB.out (by decide)) XB.out
          have HET := Lib.hid hE2
          have RA := Lib.hid hown
          clear hE2 hown hgrow
          have RB := Lib.hid hRB
          clear hRB
          have XB := Lib.hid hXB
          clear hXB
          refine hK.out _ _ ?_ (fun hHeld => ?_)
          · exact ⟨HET.out.cl x1, HET.out.cl x2, HET.out.cl x3⟩
          clear hK K
          try simp only [Act.put]
          try simp only [List.setIfInBounds_toArray]
          try simp only [List.set_cons_zero, List.set_cons_succ]
          refine wpAnyT_step (i := 9) (by kernel_rfl) rfl (fun K hK => ?_)
          refine step_append_rowM rfl _ _ 38 rfl (w.heap.size + 2) 3 ii (.int .i64 0) 1 8 Try.underlying38 hii hj0 hj1 hj2 rfl (by decide) _ 0 [] rfl RB.out ca cl cc (s.cut.map (Value.int .i64)) rfl HGC.out (HCC.out.ext (HE0.out.trans' HET.out)).news (int_one _) (by unfold maxLen; omega) (by omega) (by have := HET.out.sz; omega) ?_
          intro vB wT36 hown hgrow hblk
          rw [Nat.zero_add, List.nil_append] at hown
          obtain ⟨ga, gc, rfl, hle6, hsh⟩ := hown.any
          clear hsh hblk
          have hE2 := HET.out.gr hgrow (fun k hk => Nat.le_trans (Nat.le_of_eq HSZ0.out) (RB.out.lt k hk).1)
          have hRA := RA.out.grown hgrow (Row.apart RA.out RB.out (by decide))
          have hXB := grownKeep hgrow (RB.out.notBox XB.out (by decide)) XB.out
          have HET := Lib.hid hE2
          have RB := Lib.hid hown
          clear hE2 hown hgrow
          have RA := Lib.hid hRA
          clear hRA
          have XB := Lib.hid hXB
          clear hXB
          refine hK.out _ _ ?_ (fun hHeld => ?_)
          · exact ⟨HET.out.cl x1, HET.out.cl x2, HET.out.cl x3⟩
          clear hK K
          try simp only [Act.put]
          try simp only [List.setIfInBounds_toArray]
          try simp only [List.set_cons_zero, List.set_cons_succ]
          refine wpAnyT_take (i := 10) (d := some 17) (v := ?_) rfl rfl (by kernel_rfl) (by kernel_rfl) (by kernel_rfl) (by kernel_rfl) (fun _ _ _ h => h) (Or.inl ⟨by rfl, ?_⟩) (by assumption) ?_
          rotate_left
          · (intro w hSw; (try dsimp only at hSw); go_simp; try (with_reducible rfl))
          try simp only [Act.put]
          try simp only [List.setIfInBounds_toArray]
          try simp only [List.set_cons_zero, List.set_cons_succ]
          have z0 := cellOf XB.out 0
          have z1 := cellOf XB.out 1
          have z2 := cellOf XB.out 2
          have z3 := cellOf XB.out 3
          simp only [List.getElem?_toArray, List.getElem?_cons_zero, List.getElem?_cons_succ] at z0 z1 z2 z3
          have y0 := freeOf XB.out 0
          have y1 := freeOf XB.out 1
          have y2 := freeOf XB.out 2
          have y3 := freeOf XB.out 3
          refine wpAnyT_last (by kernel_rfl) rfl (by kernel_rfl) (fun K hK => ?_)
          go_simp
          refine hK.out _ _ ?_
          go_wp2_with fail
          go_meet
          obtain ⟨h1, h2, h3⟩ := box_stored XB.out (.slice none 0 0) (.slice fa l fc) (.bool d) (.slice ga cl gc)
          exact ⟨_, _, _, rfl, h1, h2 RA.out (by decide), h3 RB.out (by decide), box_ext HET.out (by have := HSZ0.out; omega) _ _ _ _, by omega⟩
        exact AllT.nil
      refine AllT.cons (i := 11) rfl (fun K hK => ?_) ?_
      · go_simp
        have hE2 := HET.out.al (ckT (.slice none 0 0) (.slice none 0 0) (.bool false) (.slice none 0 0))
        have hsz2 := HET.out.sz
        have hRB := RB.out.al (ckT (.slice none 0 0) (.slice none 0 0) (.bool false) (.slice none 0 0))
        have hXB := heap_alloc_new wT27 (ckT (.slice none 0 0) (.slice none 0 0) (.bool false) (.slice none 0 0))
        have hXb : w.heap.size + 2 ≤ wT27.heap.size := by omega
        generalize wT27.alloc (ckT (.slice none 0 0) (.slice none 0 0) (.bool false) (.slice none 0 0)) = wT37 at *
        have HET := Lib.hid hE2
        clear hE2 hsz2
        have RB := Lib.hid hRB
        clear hRB
        have XB := Lib.hid hXB
        clear hXB
        refine hK.out _ _ ?_ (fun hHeld => ?_)
        · exact ⟨HET.out.cl x1, HET.out.cl x2, HET.out.cl x3⟩
        clear hK K
        try simp only [Act.put]
        try simp only [List.setIfInBounds_toArray]
        try simp only [List.set_cons_zero, List.set_cons_succ]
        refine wpAnyT_step (i := 0) (by kernel_rfl) rfl (fun K hK => ?_)
        go_simp
        have hE2 := HET.out.al (.cells #[] 4)
        have hsz2 := HET.out.sz
        have hRB := RB.out.al (.cells #[] 4)
        have hXB := ((Ext.rf wT37).al (.cells #[] 4)).hp XB.out
        have hRA := ckRow_empty (base := w.heap.size + 2) (size := 1) (heap_alloc_new wT37 (.cells #[] 4)) (by omega)
        generalize wT37.alloc (.cells #[] 4) = wT38 at *
        have HET := Lib.hid hE2
        clear hE2 hsz2
        have RB := Lib.hid hRB
        clear hRB
        have XB := Lib.hid hXB
        clear hXB
        have RA := Lib.hid hRA
        clear hRA
        refine hK.out _ _ ?_ (fun hHeld => ?_)
        · exact ⟨HET.out.cl x1, HET.out.cl x2, HET.out.cl x3⟩
        clear hK K
        try simp only [Act.put]
        try simp only [List.setIfInBounds_toArray]
        try simp only [List.set_cons_zero, List.set_cons_succ]
        refine wpAnyT_step (i := 3) (by kernel_rfl) rfl (fun K hK => ?_)
        refine step_append_rowM rfl _ _ 60 rfl (w.heap.size + 2) 4 ib (.bool false) 1 1 Try.underlying60 hib hb0 hb1 hb2 rfl (by decide) _ 0 [] rfl RA.out ea l ec (s.ended.map Value.bool) rfl HGE.out (HCE.out.ext (HE0.out.trans' HET.out)).news (bool_one _) (by unfold maxLen; omega) (by omega) (by have := HET.out.sz; omega) ?_
        intro vA wT39 hown hgrow hblk
        rw [Nat.zero_add, List.nil_append] at hown
        obtain ⟨fa, fc, rfl, hle5, hsh⟩ := hown.any
        clear hsh hblk
        have hE2 := HET.out.gr hgrow (fun k hk => Nat.le_trans (Nat.le_of_eq HSZ0.out) (RA.out.lt k hk).1)
        have hRB := RB.out.grown hgrow (Row.apart RB.out RA.out (by decide))
        have hXB := grownKeep hgrow (RA.out.notBox XB.out (by decide)) XB.out
        have HET := Lib.hid hE2
        have RA := Lib.hid hown
        clear hE2 hown hgrow
        have RB := Lib.hid hRB
        clear hRB
        have XB := Lib.hid hXB
        clear hXB
        refine hK.out _ _ ?_ (fun hHeld => ?_)
        · exact ⟨HET.out.cl x1, HET.out.cl x2, HET.out.cl x3⟩
        clear hK K
        try simp only [Act.put]
        try simp only [List.setIfInBounds_toArray]
        try simp only [List.set_cons_zero, List.set_cons_succ]
        refine wpAnyT_step (i := 9) (by kernel_rfl) rfl (fun K hK => ?_)
        refine step_append_rowM rfl _ _ 38 rfl (w.heap.size + 2) 3 ii (.int .i64 0) 1 8 Try.underlying38 hii hj0 hj1 hj2 rfl (by decide) _ 0 [] rfl RB.out ca cl cc (s.cut.map (Value.int .i64)) rfl HGC.out (HCC.out.ext (HE0.out.trans' HET.out)).news (int_one _) (by unfold maxLen; omega) (by omega) (by have := HET.out.sz; omega) ?_
        intro vB wT40 hown hgrow hblk
        rw [Nat.zero_add, List.nil_append] at hown
        obtain ⟨ga, gc, rfl, hle6, hsh⟩ := hown.any
        clear hsh hblk
        have hE2 := HET.out.gr hgrow (fun k hk => Nat.le_trans (Nat.le_of_eq HSZ0.out) (RB.out.lt k hk).1)
        have hRA := RA.out.grown hgrow (Row.apart RA.out RB.out (by decide))
        have hXB := grownKeep hgrow (RB.out.notBox XB.out (by decide)) XB.out
        have HET := Lib.hid hE2
        have RB := Lib.hid hown
        clear hE2 hown hgrow
        have RA := Lib.hid hRA
        clear hRA
        have XB := Lib.hid hXB
        clear hXB
        refine hK.out _ _ ?_ (fun hHeld => ?_)
        · exact ⟨HET.out.cl x1, HET.out.cl x2, HET.out.cl x3⟩
        clear hK K
        try simp only [Act.put]
        try simp only [List.setIfInBounds_toArray]
        try simp only [List.set_cons_zero, List.set_cons_succ]
        refine wpAnyT_take (i := 10) (d := some 17) (v := ?_) rfl rfl (by kernel_rfl) (by kernel_rfl) (by kernel_rfl) (by kernel_rfl) (fun _ _ _ h => h) (Or.inl ⟨by rfl, ?_⟩) (by assumption) ?_
        rotate_left
        · (intro w hSw; (try dsimp only at hSw); go_simp; try (with_reducible rfl))
        try simp only [Act.put]
        try simp only [List.setIfInBounds_toArray]
        try simp only [List.set_cons_zero, List.set_cons_succ]
        have z0 := cellOf XB.out 0
        have z1 := cellOf XB.out 1
        have z2 := cellOf XB.out 2
        have z3 := cellOf XB.out 3
        simp only [List.getElem?_toArray, List.getElem?_cons_zero, List.getElem?_cons_succ] at z0 z1 z2 z3
        have y0 := freeOf XB.out 0
        have y1 := freeOf XB.out 1
        have y2 := freeOf XB.out 2
        have y3 := freeOf XB.out 3
        refine wpAnyT_last (by kernel_rfl) rfl (by kernel_rfl) (fun K hK => ?_)
        go_simp
        refine hK.out _ _ ?_
        go_wp2_with fail
        go_meet
        obtain ⟨h1, h2, h3⟩ := box_stored XB.out (.slice none 0 0) (.slice fa l fc) (.bool d) (.slice ga cl gc)
        exact ⟨_, _, _, rfl, h1, h2 RA.out (by decide), h3 RB.out (by decide), box_ext HET.out (by have := HSZ0.out; omega) _ _ _ _, by omega⟩
      exact AllT.nil
    refine AllT.cons (i := 11) rfl (fun K hK => ?_) ?_
    · go_simp
      have hE2 := HET.out.al (ckT (.slice none 0 0) (.slice none 0 0) (.bool false) (.slice none 0 0))
      have hsz2 := HET.out.sz
      have hXB := heap_alloc_new wT0 (ckT (.slice none 0 0) (.slice none 0 0) (.bool false) (.slice none 0 0))
      have hXb : w.heap.size + 2 ≤ wT0.heap.size := by omega
      generalize wT0.alloc (ckT (.slice none 0 0) (.slice none 0 0) (.bool false) (.slice none 0 0)) = wT41 at *
      have HET := Lib.hid hE2
      clear hE2 hsz2
      have XB := Lib.hid hXB
      clear hXB
      refine hK.out _ _ ?_ (fun hHeld => ?_)
      · exact ⟨HET.out.cl x1, HET.out.cl x2, HET.out.cl x3⟩
      clear hK K
      try simp only [Act.put]
      try simp only [List.setIfInBounds_toArray]
      try simp only [List.set_cons_zero, List.set_cons_succ]
      refine wpAnyT_ready (rs := [0, 6]) (by kernel_rfl) (by simp) ?_
      refine AllT.cons (i := 0) rfl (fun K hK => ?_) ?_
      · go_simp
        have hE2 := HET.out.al (.cells #[] 4)
        have hsz2 := HET.out.sz
        have hXB := ((Ext.rf wT41).al (.cells #[] 4)).hp XB.out
        have hRA := ckRow_empty (base := w.heap.size + 2) (size := 1) (heap_alloc_new wT41 (.cells #[] 4)) (by omega)
        generalize wT41.alloc (.cells #[] 4) = wT42 at *
        have HET := Lib.hid hE2
        clear hE2 hsz2
        have XB := Lib.hid hXB
        clear hXB
        have RA := Lib.hid hRA
        clear hRA
        refine hK.out _ _ ?_ (fun hHeld => ?_)
        · exact ⟨HET.out.cl x1, HET.out.cl x2, HET.out.cl x3⟩
        clear hK K
        try simp only [Act.put]
        try simp only [List.setIfInBounds_toArray]
        try simp only [List.set_cons_zero, List.set_cons_succ]
        refine wpAnyT_ready (rs := [3, 6]) (by kernel_rfl) (by simp) ?_
        refine AllT.cons (i := 3) rfl (fun K hK => ?_) ?_
        · refine step_append_rowM rfl _ _ 60 rfl (w.heap.size + 2) 4 ib (.bool false) 1 1 Try.underlying60 hib hb0 hb1 hb2 rfl (by decide) _ 0 [] rfl RA.out ea l ec (s.ended.map Value.bool) rfl HGE.out (HCE.out.ext (HE0.out.trans' HET.out)).news (bool_one _) (by unfold maxLen; omega) (by omega) (by have := HET.out.sz; omega) ?_
          intro vA wT43 hown hgrow hblk
          rw [Nat.zero_add, List.nil_append] at hown
          obtain ⟨fa, fc, rfl, hle5, hsh⟩ := hown.any
          clear hsh hblk
          have hE2 := HET.out.gr hgrow (fun k hk => Nat.le_trans (Nat.le_of_eq HSZ0.out) (RA.out.lt k hk).1)
          have hXB := grownKeep hgrow (RA.out.notBox XB.out (by decide)) XB.out
          have HET := Lib.hid hE2
          have RA := Lib.hid hown
          clear hE2 hown hgrow
          have XB := Lib.hid hXB
          clear hXB
          refine hK.out _ _ ?_ (fun hHeld => ?_)
          · exact ⟨HET.out.cl x1, HET.out.cl x2, HET.out.cl x3⟩
          clear hK K
          try simp only [Act.put]
          try simp only [List.setIfInBounds_toArray]
          try simp only [List.set_cons_zero, List.set_cons_succ]
          refine wpAnyT_step (i := 6) (by kernel_rfl) rfl (fun K hK => ?_)
          go_simp
          have hE2 := HET.out.al (.cells #[] 3)
          have hsz2 := HET.out.sz
          have hRA := RA.out.al (.cells #[] 3)
          have hXB := ((Ext.rf wT43).al (.cells #[] 3)).hp XB.out
          have hRB := ckRow_empty (base := w.heap.size + 2) (size := 1) (heap_alloc_new wT43 (.cells #[] 3)) (by omega)
          generalize wT43.alloc (.cells #[] 3) = wT44 at *
          have HET := Lib.hid hE2
          clear hE2 hsz2
          have RA := Lib.hid hRA
          clear hRA
          have XB := Lib.hid hXB
          clear hXB
          have RB := Lib.hid hRB
          clear hRB
          refine hK.out _ _ ?_ (fun hHeld => ?_)
          · exact ⟨HET.out.cl x1, HET.out.cl x2, HET.out.cl x3⟩
          clear hK K
          try simp only [Act.put]
          try simp only [List.setIfInBounds_toArray]
          try simp only [List.set_cons_zero, List.set_cons_succ]
          refine wpAnyT_step (i := 9) (by kernel_rfl) rfl (fun K hK => ?_)
          refine step_append_rowM rfl _ _ 38 rfl (w.heap.size + 2) 3 ii (.int .i64 0) 1 8 Try.underlying38 hii hj0 hj1 hj2 rfl (by decide) _ 0 [] rfl RB.out ca cl cc (s.cut.map (Value.int .i64)) rfl HGC.out (HCC.out.ext (HE0.out.trans' HET.out)).news (int_one _) (by unfold maxLen; omega) (by omega) (by have := HET.out.sz; omega) ?_
          intro vB wT45 hown hgrow hblk
          rw [Nat.zero_add, List.nil_append] at hown
          obtain ⟨ga, gc, rfl, hle6, hsh⟩ := hown.any
          clear hsh hblk
          have hE2 := HET.out.gr hgrow (fun k hk => Nat.le_trans (Nat.le_of_eq HSZ0.out) (RB.out.lt k hk).1)
          have hRA := RA.out.grown hgrow (Row.apart RA.out RB.out (by decide))
          have hXB := grownKeep hgrow (RB.out.notBox XB.out (by decide)) XB.out
          have HET := Lib.hid hE2
          have RB := Lib.hid hown
          clear hE2 hown hgrow
          have RA := Lib.hid hRA
          clear hRA
          have XB := Lib.hid hXB
          clear hXB
          refine hK.out _ _ ?_ (fun hHeld => ?_)
          · exact ⟨HET.out.cl x1, HET.out.cl x2, HET.out.cl x3⟩
          clear hK K
          try simp only [Act.put]
          try simp only [List.setIfInBounds_toArray]
          try simp only [List.set_cons_zero, List.set_cons_succ]
          refine wpAnyT_take (i := 10) (d := some 17) (v := ?_) rfl rfl (by kernel_rfl) (by kernel_rfl) (by kernel_rfl) (by kernel_rfl) (fun _ _ _ h => h) (Or.inl ⟨by rfl, ?_⟩) (by assumption) ?_
          rotate_left
          · (intro w hSw; (try dsimp only at hSw); go_simp; try (with_reducible rfl))
          try simp only [Act.put]
          try simp only [List.setIfInBounds_toArray]
          try simp only [List.set_cons_zero, List.set_cons_succ]
          have z0 := cellOf XB.out 0
          have z1 := cellOf XB.out 1
          have z2 := cellOf XB.out 2
          have z3 := cellOf XB.out 3
          simp only [List.getElem?_toArray, List.getElem?_cons_zero, List.getElem?_cons_succ] at z0 z1 z2 z3
          have y0 := freeOf XB.out 0
          have y1 := freeOf XB.out 1
          have y2 := freeOf XB.out 2
          have y3 := freeOf XB.out 3
          refine wpAnyT_last (by kernel_rfl) rfl (by kernel_rfl) (fun K hK => ?_)
          go_simp
          refine hK.out _ _ ?_
          go_wp2_with fail
          go_meet
          obtain ⟨h1, h2, h3⟩ := box_stored XB.out (.slice none 0 0) (.slice fa l fc) (.bool d) (.slice ga cl gc)
          exact ⟨_, _, _, rfl, h1, h2 RA.out (by decide), h3 RB.out (by decide), box_ext HET.out (by have := HSZ0.out; omega) _ _ _ _, by omega⟩
        refine AllT.cons (i := 6) rfl (fun K hK => ?_) ?_
        · go_simp
          have hE2 := HET.out.al (.cells #[] 3)
          have hsz2 := HET.out.sz
          have hRA := RA.out.al (.cells #[] 3)
          have hXB := ((Ext.rf wT42).al (.cells #[] 3)).hp XB.out
          have hRB := ckRow_empty (base := w.heap.size + 2) (size := 1) (heap_alloc_new wT42 (.cells #[] 3)) (by omega)
          generalize wT42.alloc (.cells #[] 3) = wT46 at *
          have HET := Lib.hid hE2
          clear hE2 hsz2
          have RA := Lib.hid hRA
          clear hRA
          have XB := Lib.hid hXB
          clear hXB
          have RB := Lib.hid hRB
          clear hRB
          refine hK.out _ _ ?_ (fun hHeld => ?_)
          · exact ⟨HET.out.cl x1, HET.out.cl x2, HET.out.cl x3⟩
          clear hK K
          try simp only [Act.put]
          try simp only [List.setIfInBounds_toArray]
          try simp only [List.set_cons_zero, List.set_cons_succ]
          refine wpAnyT_step (i := 3) (by kernel_rfl) rfl (fun K hK => ?_)
          refine step_append_rowM rfl _ _ 60 rfl (w.heap.size + 2) 4 ib (.bool false) 1 1 Try.underlying60 hib hb0 hb1 hb2 rfl (by decide) _ 0 [] rfl RA.out ea l ec (s.ended.map Value.bool) rfl HGE.out (HCE.out.ext (HE0.out.trans' HET.out)).news (bool_one _) (by unfold maxLen; omega) (by omega) (by have := HET.out.sz; omega) ?_
          intro vA wT47 hown hgrow hblk
          rw [Nat.zero_add, List.nil_append] at hown
          obtain ⟨fa, fc, rfl, hle5, hsh⟩ := hown.any
          clear hsh hblk
          have hE2 := HET.out.gr hgrow (fun k hk => Nat.le_trans (Nat.le_of_eq HSZ0.out) (RA.out.lt k hk).1)
          have hRB := RB.out.grown hgrow (Row.apart RB.out RA.out (by decide))
          have hXB := grownKeep hgrow (RA.out.notBox XB.out (by decide)) XB.out
          have HET := Lib.hid hE2
          have RA := Lib.hid hown
          clear hE2 hown hgrow
          have RB := Lib.hid hRB
          clear hRB
          have XB := Lib.hid hXB
          clear hXB
          refine hK.out _ _ ?_ (fun hHeld => ?_)
          · exact ⟨HET.out.cl x1, HET.out.cl x2, HET.out.cl x3⟩
          clear hK K
          try simp only [Act.put]
          try simp only [List.setIfInBounds_toArray]
          try simp only [List.set_cons_zero, List.set_cons_succ]
          refine wpAnyT_step (i := 9) (by kernel_rfl) rfl (fun K hK => ?_)
          refine step_append_rowM rfl _ _ 38 rfl (w.heap.size + 2) 3 ii (.int .i64 0) 1 8 Try.underlying38 hii hj0 hj1 hj2 rfl (by decide) _ 0 [] rfl RB.out ca cl cc (s.cut.map (Value.int .i64)) rfl HGC.out (HCC.out.ext (HE0.out.trans' HET.out)).news (int_one _) (by unfold maxLen; omega) (by omega) (by have := HET.out.sz; omega) ?_
          intro vB wT48 hown hgrow hblk
          rw [Nat.zero_add, List.nil_append] at hown
          obtain ⟨ga, gc, rfl, hle6, hsh⟩ := hown.any
          clear hsh hblk
          have hE2 := HET.out.gr hgrow (fun k hk => Nat.le_trans (Nat.le_of_eq HSZ0.out) (RB.out.lt k hk).1)
          have hRA := RA.out.grown hgrow (Row.apart RA.out RB.out (by decide))
          have hXB := grownKeep hgrow (RB.out.notBox XB.out (by decide)) XB.out
          have HET := Lib.hid hE2
          have RB := Lib.hid hown
          clear hE2 hown hgrow
          have RA := Lib.hid hRA
          clear hRA
          have XB := Lib.hid hXB
          clear hXB
          refine hK.out _ _ ?_ (fun hHeld => ?_)
          · exact ⟨HET.out.cl x1, HET.out.cl x2, HET.out.cl x3⟩
          clear hK K
          try simp only [Act.put]
          try simp only [List.setIfInBounds_toArray]
          try simp only [List.set_cons_zero, List.set_cons_succ]
          refine wpAnyT_take (i := 10) (d := some 17) (v := ?_) rfl rfl (by kernel_rfl) (by kernel_rfl) (by kernel_rfl) (by kernel_rfl) (fun _ _ _ h => h) (Or.inl ⟨by rfl, ?_⟩) (by assumption) ?_
          rotate_left
          · (intro w hSw; (try dsimp only at hSw); go_simp; try (with_reducible rfl))
          try simp only [Act.put]
          try simp only [List.setIfInBounds_toArray]
          try simp only [List.set_cons_zero, List.set_cons_succ]
          have z0 := cellOf XB.out 0
          have z1 := cellOf XB.out 1
          have z2 := cellOf XB.out 2
          have z3 := cellOf XB.out 3
          simp only [List.getElem?_toArray, List.getElem?_cons_zero, List.getElem?_cons_succ] at z0 z1 z2 z3
          have y0 := freeOf XB.out 0
          have y1 := freeOf XB.out 1
          have y2 := freeOf XB.out 2
          have y3 := freeOf XB.out 3
          refine wpAnyT_last (by kernel_rfl) rfl (by kernel_rfl) (fun K hK => ?_)
          go_simp
          refine hK.out _ _ ?_
          go_wp2_with fail
          go_meet
          obtain ⟨h1, h2, h3⟩ := box_stored XB.out (.slice none 0 0) (.slice fa l fc) (.bool d) (.slice ga cl gc)
          exact ⟨_, _, _, rfl, h1, h2 RA.out (by decide), h3 RB.out (by decide), box_ext HET.out (by have := HSZ0.out; omega) _ _ _ _, by omega⟩
        exact AllT.nil
      refine AllT.cons (i := 6) rfl (fun K hK => ?_) ?_
      · go_simp
        have hE2 := HET.out.al (.cells #[] 3)
        have hsz2 := HET.out.sz
        have hXB := ((Ext.rf wT41).al (.cells #[] 3)).hp XB.out
        have hRB := ckRow_empty (base := w.heap.size + 2) (size := 1) (heap_alloc_new wT41 (.cells #[] 3)) (by omega)
        generalize wT41.alloc (.cells #[] 3) = wT49 at *
        have HET := Lib.hid hE2
        clear hE2 hsz2
        have XB := Lib.hid hXB
        clear hXB
        have RB := Lib.hid hRB
        clear hRB
        refine hK.out _ _ ?_ (fun hHeld => ?_)
        · exact ⟨HET.out.cl x1, HET.out.cl x2, HET.out.cl x3⟩
        clear hK K
        try simp only [Act.put]
        try simp only [List.setIfInBounds_toArray]
        try simp only [List.set_cons_zero, List.set_cons_succ]
        refine wpAnyT_step (i := 0) (by kernel_rfl) rfl (fun K hK => ?_)
        go_simp
        have hE2 := HET.out.al (.cells #[] 4)
        have hsz2 := HET.out.sz
        have hRB := RB.out.al (.cells #[] 4)
        have hXB := ((Ext.rf wT49).al (.cells #[] 4)).hp XB.out
        have hRA := ckRow_empty (base := w.heap.size + 2) (size := 1) (heap_alloc_new wT49 (.cells #[] 4)) (by omega)
        generalize wT49.alloc (.cells #[] 4) = wT50 at *
        have HET := Lib.hid hE2
        clear hE2 hsz2
        have RB := Lib.hid hRB
        clear hRB
        have XB := Lib.hid hXB
        clear hXB
        have RA := Lib.hid hRA
        clear hRA
        refine hK.out _ _ ?_ (fun hHeld => ?_)
        · exact ⟨HET.out.cl x1, HET.out.cl x2, HET.out.cl x3⟩
        clear hK K
        try simp only [Act.put]
        try simp only [List.setIfInBounds_toArray]
        try simp only [List.set_cons_zero, List.set_cons_succ]
        refine wpAnyT_step (i := 3) (by kernel_rfl) rfl (fun K hK => ?_)
        refine step_append_rowM rfl _ _ 60 rfl (w.heap.size + 2) 4 ib (.bool false) 1 1 Try.underlying60 hib hb0 hb1 hb2 rfl (by decide) _ 0 [] rfl RA.out ea l ec (s.ended.map Value.bool) rfl HGE.out (HCE.out.ext (HE0.out.trans' HET.out)).news (bool_one _) (by unfold maxLen; omega) (by omega) (by have := HET.out.sz; omega) ?_
        intro vA wT51 hown hgrow hblk
        rw [Nat.zero_add, List.nil_append] at hown
        obtain ⟨fa, fc, rfl, hle5, hsh⟩ := hown.any
        clear hsh hblk
        have hE2 := HET.out.gr hgrow (fun k hk => Nat.le_trans (Nat.le_of_eq HSZ0.out) (RA.out.lt k hk).1)
        have hRB := RB.out.grown hgrow (Row.apart RB.out RA.out (by decide))
        have hXB := grownKeep hgrow (RA.out.notBox XB.out (by decide)) XB.out
        have HET := Lib.hid hE2
        have RA := Lib.hid hown
        clear hE2 hown hgrow
        have RB := Lib.hid hRB
        clear hRB
        have XB := Lib.hid hXB
        clear hXB
        refine hK.out _ _ ?_ (fun hHeld => ?_)
        · exact ⟨HET.out.cl x1, HET.out.cl x2, HET.out.cl x3⟩
        clear hK K
        try simp only [Act.put]
        try simp only [List.setIfInBounds_toArray]
        try simp only [List.set_cons_zero, List.set_cons_succ]
        refine wpAnyT_step (i := 9) (by kernel_rfl) rfl (fun K hK => ?_)
        refine step_append_rowM rfl _ _ 38 rfl (w.heap.size + 2) 3 ii (.int .i64 0) 1 8 Try.underlying38 hii hj0 hj1 hj2 rfl (by decide) _ 0 [] rfl RB.out ca cl cc (s.cut.map (Value.int .i64)) rfl HGC.out (HCC.out.ext (HE0.out.trans' HET.out)).news (int_one _) (by unfold maxLen; omega) (by omega) (by have := HET.out.sz; omega) ?_
        intro vB wT52 hown hgrow hblk
        rw [Nat.zero_add, List.nil_append] at hown
        obtain ⟨ga, gc, rfl, hle6, hsh⟩ := hown.any
        clear hsh hblk
        have hE2 := HET.out.gr hgrow (fun k hk => Nat.le_trans (Nat.le_of_eq HSZ0.out) (RB.out.lt k hk).1)
        have hRA := RA.out.grown hgrow (Row.apart RA.out RB.out (by decide))
        have hXB := grownKeep hgrow (RB.out.notBox XB.out (by decide)) XB.out
        have HET := Lib.hid hE2
        have RB := Lib.hid hown
        clear hE2 hown hgrow
        have RA := Lib.hid hRA
        clear hRA
        have XB := Lib.hid hXB
        clear hXB
        refine hK.out _ _ ?_ (fun hHeld => ?_)
        · exact ⟨HET.out.cl x1, HET.out.cl x2, HET.out.cl x3⟩
        clear hK K
        try simp only [Act.put]
        try simp only [List.setIfInBounds_toArray]
        try simp only [List.set_cons_zero, List.set_cons_succ]
        refine wpAnyT_take (i := 10) (d := some 17) (v := ?_) rfl rfl (by kernel_rfl) (by kernel_rfl) (by kernel_rfl) (by kernel_rfl) (fun _ _ _ h => h) (Or.inl ⟨by rfl, ?_⟩) (by assumption) ?_
        rotate_left
        · (intro w hSw; (try dsimp only at hSw); go_simp; try (with_reducible rfl))
        try simp only [Act.put]
        try simp only [List.setIfInBounds_toArray]
        try simp only [List.set_cons_zero, List.set_cons_succ]
        have z0 := cellOf XB.out 0
        have z1 := cellOf XB.out 1
        have z2 := cellOf XB.out 2
        have z3 := cellOf XB.out 3
        simp only [List.getElem?_toArray, List.getElem?_cons_zero, List.getElem?_cons_succ] at z0 z1 z2 z3
        have y0 := freeOf XB.out 0
        have y1 := freeOf XB.out 1
        have y2 := freeOf XB.out 2
        have y3 := freeOf XB.out 3
        refine wpAnyT_last (by kernel_rfl) rfl (by kernel_rfl) (fun K hK => ?_)
        go_simp
        refine hK.out _ _ ?_
        go_wp2_with fail
        go_meet
        obtain ⟨h1, h2, h3⟩ := box_stored XB.out (.slice none 0 0) (.slice fa l fc) (.bool d) (.slice ga cl gc)
        exact ⟨_, _, _, rfl, h1, h2 RA.out (by decide), h3 RB.out (by decide), box_ext HET.out (by have := HSZ0.out; omega) _ _ _ _, by omega⟩
      exact AllT.nil
    exact AllT.nil
  case rest =>
    obtain ⟨B3, ve, vc, rfl, HB3, HRE, HRC, HEX⟩ := hcut
    obtain ⟨va, vb, rfl, hve, hsh⟩ := HRE.out.any
    clear hsh
    obtain ⟨ua, ub, rfl, hvc, hsh⟩ := HRC.out.any
    clear hsh x0 x1 x2 x3
    have hB3 := HEX.out.2
    have hB3x := (Array.getElem?_eq_some_iff.1 HB3.out).1
    go_wp2
    go_loopg [4, 5, 6] n (fun g s4 _ _ wr => ∃ (k : Nat) (vq : Value), k ≤ n ∧ n - k ≤ g ∧ s4 = .int .i64 k ∧ Aside (wr.heap[B3]? = some (ckT vq (.slice va l vb) (.bool d) (.slice ua cl ub))) ∧ Aside (OwnQs wr (w.heap.size + 2) 109 38 3 vq (s.qs.take k)) ∧ Aside (Row wr (w.heap.size + 2) 4 1 (.slice va l vb) l (s.ended.map Value.bool)) ∧ Aside (Row wr (w.heap.size + 2) 3 1 (.slice ua cl ub) cl (s.cut.map (Value.int .i64))) ∧ Aside (Ext w0 wr ∧ B3 < wr.heap.size))
    case atStart => exact ⟨0, _, Nat.zero_le _, by omega, rfl, HB3.out, OwnQs.mkNil _ _ _ _ _, HRE.out, HRC.out, (show _ ∧ _ from ⟨HEX.out.1, hB3x⟩)⟩
    case round =>
      obtain ⟨k, vq, hk, hg, rfl, HBK, HOQ, HREK, HRCK, HEXK⟩ := hrel
      have HEW := Lib.hid (HE0.out.trans' HEXK.out.1)
      have hBw := HEXK.out.2
      have HXWK := Lib.hid (HEXK.out.1.hp HX0.out)
      have x0 := cellOf HXWK.out 0
      have x1 := cellOf HXWK.out 1
      have x2 := cellOf HXWK.out 2
      have x3 := cellOf HXWK.out 3
      simp only [List.getElem?_toArray, List.getElem?_cons_zero, List.getElem?_cons_succ] at x0 x1 x2 x3
      by_cases hlt : k < n
      · have hltz : (k : Int) < (n : Int) := by omega
        have hkz : (0 : Int) ≤ (k : Int) := by omega
        have hkq : k < s.qs.length := by rw [HN.out]; exact hlt
        obtain ⟨B, O, C, a1, m1, c1, hue0, hcp0, M1, hmc1, HS1⟩ := queue_at HQ.out k hkq
        simp only [Value.slice.injEq] at hue0
        obtain ⟨rfl, hnn, rfl⟩ := hue0
        have HM1 := Lib.hid M1
        have hm1 := (HSM.out k hlt).1
        rw [← M1] at hm1
        have HS := Lib.hid HS1
        have hkl : (s.qs.take k).length = k := by rw [List.length_take, HN.out]; omega
        obtain ⟨hs, hrow, hqh⟩ := HOQ.out
        rw [hkl] at hrow
        have HKL := Lib.hid hkl
        obtain ⟨qa, qc, rfl, hqc, hsh⟩ := hrow.any
        have HROW := Lib.hid hrow
        have HQH := Lib.hid hqh
        have HCP := Lib.hid hcp0
        clear M1 HS1 hnn hcp0 hkl hrow hqh hsh
        go_wp2
        clear x0 x1 x2 x3
        obtain ⟨wo, rfl⟩ : ∃ x, x = wr := ⟨_, rfl⟩
        go_loopg [5, 6] m1 (fun g s5 s6 wr => ∃ i : Nat, i ≤ m1 ∧ m1 - i ≤ g ∧ s6 = .int .i64 i ∧ Aside (RowRows wr wo.heap.size 38 3 (Value.int .i64) s5 (s.qs[k]!.take i)) ∧ Aside (Ext wo wr))
        case atStart => exact ⟨0, Nat.zero_le _, by omega, rfl, RowRows.mkNil _ _ _ _ _, Ext.rf _⟩
        case round =>
          obtain ⟨i, hi, hg2, rfl, HRR, HEI⟩ := hrel
          have HEWI := Lib.hid (HEW.out.trans' HEI.out)
          have hszi := HEI.out.sz
          have HXWI := Lib.hid (HEI.out.hp HXWK.out)
          have x0 := cellOf HXWI.out 0
          simp only [List.getElem?_toArray, List.getElem?_cons_zero] at x0
          have hcp := HEWI.out.cl HCP.out
          by_cases hlt2 : i < m1
          · have hltz2 : (i : Int) < (m1 : Int) := by omega
            have hiz : (0 : Int) ≤ (i : Int) := by omega
            have hiq : i < s.qs[k]!.length := by rw [← HM1.out]; exact hlt2
            obtain ⟨b, o, sv, rfl, hci0, hsv⟩ := stamp_at HS.out i hiq
            have hci := HEWI.out.cl hci0
            have hsl := (HSM.out k hlt).2 i hiq
            have hil : (s.qs[k]!.take i).length = i := by rw [List.length_take]; omega
            obtain ⟨ivs, hir, hie⟩ := HRR.out
            rw [hil] at hir
            have HIL := Lib.hid hil
            obtain ⟨ia, ic, rfl, hic, hsh⟩ := hir.any
            have HIR := Lib.hid hir
            have HIE := Lib.hid (fun j (hj : j < (s.qs[k]!.take i).length) => hie j hj)
            have HTS := Lib.hid (take_snoc' s.qs[k]! i hiq)
            have hscl := hsv.cells
            obtain ⟨sx, sy, rfl, hslc, _⟩ := hsv
            have HSC := Lib.hid hscl
            have nl1 := (Array.getElem?_eq_some_iff.1 HXWI.out).1
            have nl2 : B < wr.heap.size := World.block_lt_of_cell? wr _ hcp
            have nl3 : b < wr.heap.size := World.block_lt_of_cell? wr _ hci
            have nw1 : w.heap.size ≠ wr.heap.size := Nat.ne_of_lt (Array.getElem?_eq_some_iff.1 HXWI.out).1
            have nw2 : B ≠ wr.heap.size := Nat.ne_of_lt (World.block_lt_of_cell? wr _ hcp)
            have nw3 : b ≠ wr.heap.size := Nat.ne_of_lt (World.block_lt_of_cell? wr _ hci)
            clear hci0 hil hir hie hsh hscl
            generalize hSL : s.qs[k]![i]!.length = SL at *
            have HSL := Lib.hid hSL
            clear hSL
            go_wp2_with (first
              | (at_builtin; (refine wpList_append_row (o := ⟨some 45, _, _, _, _, _⟩) rfl _ _ 38 rfl wr.heap.size 3 ii (.int .i64 0) 1 8 Try.underlying38 hii hj0 hj1 hj2 rfl (by decide) _ 0 [] rfl (ckRow_empty (heap_alloc_new wr (.cells #[] 3)) (Nat.le_refl _)) sx SL sy (s.qs[k]![i]!.map (Value.int .i64)) rfl (by rw [List.length_map, HSL.out, Nat.mul_one]) (HSC.out.ext (HEWI.out.al (.cells #[] 3))).news (int_one _) (by unfold maxLen; omega) (by omega) (by simp) ?_; intro v2 w2 hown2 hgrow2 hblk2; rw [Nat.zero_add, List.nil_append] at hown2; obtain ⟨sa, sc, rfl, hsac, hsh2⟩ := hown2.any; clear hsh2 hblk2; have hE2 : Ext wr w2 := ((Ext.rf wr).al (.cells #[] 3)).gr hgrow2 (fun q hq => by have e : some wr.heap.size = some q := hq; simp at e; omega); have hsz2 := hE2.sz; have HR2 := Lib.hid (hown2.mono (show wo.heap.size ≤ wr.heap.size from hszi)); have HE2 := Lib.hid hE2; have HIR2 := Lib.hid (HIR.out.ext hE2); have HIE2 := Lib.hid (fun j hj => (HIE.out j hj).ext hE2); clear hown2 hE2 hgrow2))
              | (at_builtin; (refine wpList_append_one (o := ⟨some 47, _, _, _, _, _⟩) rfl _ _ 109 rfl wo.heap.size 38 i2 (.slice none 0 0) 1 24 Try.underlying109 hi2 hz0 hz1 hz2 rfl (by decide) _ i _ rfl (HIR2.out.al _) w2.heap.size 1 [.slice sa SL sc] rfl rfl ⟨_, heap_alloc_new _ _⟩ (by simp [Value.oneCell']) (by unfold maxLen; omega) (by omega) (by simp; omega) ?_; intro v5 w5 hown5 hgrow5 hblk5; have hG5 : (w2.alloc (.cells #[.slice sa SL sc] 38)).grownBy w5 (Value.slice ia i ic).ownBlock := hgrow5; have HP5 := Lib.hid (rowRows_push (l := s.qs[k]!.take i) (x := s.qs[k]![i]!) (by rw [HIL.out]; exact HIR2.out.al _) (fun j hj => (HIE2.out j hj).al _) (by rw [HSL.out]; exact HR2.out.al _) (by decide) hG5 (by rw [HIL.out]; exact hown5)); have HE5 := Lib.hid (((HEI.out.trans' HE2.out).al (.cells #[.slice sa SL sc] 38)).gr hG5 (fun q hq => (HIR2.out.lt q hq).1)); clear hG5 hown5 hgrow5 hblk5)))
            go_roundg (m1 - (i + 1))
            case measure => omega
            case rel => exact ⟨i + 1, by omega, by omega, by go_num, (show RowRows _ _ _ _ _ _ _ from by rw [HTS.out]; exact HP5.out), (show Ext _ _ from HE5.out)⟩
          · have hltz2 : ¬ (i : Int) < (m1 : Int) := by omega
            obtain rfl : m1 = i := by omega
            have hil : (s.qs[k]!.take m1).length = m1 := by rw [List.length_take, ← HM1.out]; omega
            have hrq := HRR.out
            rw [List.take_of_length_le (show s.qs[k]!.length ≤ m1 from by rw [← HM1.out]; omega)] at hrq
            have hsh := hrq.rints.shape
            rw [← HM1.out] at hsh
            obtain ⟨ia, ic, rfl, hic⟩ := hsh
            have HRQ := Lib.hid hrq
            have HTQ := Lib.hid (take_snoc' s.qs k hkq)
            have HBI := Lib.hid (HEI.out.hp HBK.out)
            have hszo := HEXK.out.1.sz
            have hBwi : B3 < wr.heap.size := by omega
            have hBne : B3 ≠ wr.heap.size := by omega
            clear hil hrq
            have z0 := cellOf HBI.out 0
            simp only [List.getElem?_toArray, List.getElem?_cons_zero] at z0
            have x1 := True.intro
            have x2 := True.intro
            have x3 := True.intro
            go_wp2_with ((at_builtin; go_loud (refine wpList_append_one rfl _ _ 59 rfl (w.heap.size + 2) 109 i3 (.slice none 0 0) 1 24 Try.underlying59 hi3 hy0 hy1 hy2 rfl (by decide) _ k _ rfl ((HROW.out.ext HEI.out).al _) wr.heap.size 1 [.slice ia m1 ic] rfl rfl ⟨_, heap_alloc_new _ _⟩ (by simp [Value.oneCell']) (by unfold maxLen; omega) (by omega) (by simp; omega) ?_; intro v5 w5 hown5 hgrow5 hblk5; obtain ⟨va5, vc5, rfl, hvc5, hsh5⟩ := hown5.any; have hG5 : (wr.alloc (.cells #[.slice ia m1 ic] 109)).grownBy w5 (Value.slice qa k qc).ownBlock := hgrow5; have HQ5 := Lib.hid (QHs.push (w0 := wo) HQH.out (HEI.out.al (.cells #[.slice ia m1 ic] 109)) (RowRows.ext HRQ.out ((Ext.rf wr).al (.cells #[.slice ia m1 ic] 109))) (by omega) ((HROW.out.ext HEI.out).al (.cells #[.slice ia m1 ic] 109)) hG5 (by decide) (by decide)); have hB5 := grownKeep hG5 ((HROW.out.ext HEI.out).notBox HBI.out (by decide)) (((Ext.rf wr).al (.cells #[.slice ia m1 ic] 109)).hp HBI.out); have HR5 := Lib.hid (((HREK.out.ext HEI.out).al (.cells #[.slice ia m1 ic] 109)).grown hG5 (Row.apart HREK.out HROW.out (by decide))); have HC5 := Lib.hid (((HRCK.out.ext HEI.out).al (.cells #[.slice ia m1 ic] 109)).grown hG5 (Row.apart HRCK.out HROW.out (by decide))); have HE5 := Lib.hid (((HEXK.out.1.trans' HEI.out).al (.cells #[.slice ia m1 ic] 109)).gr hG5 (fun q hq => by have := (HROW.out.lt q hq).1; have := HSZ0.out; omega)); have HOWN := Lib.hid hown5; have HB5 := Lib.hid hB5; have hs5 := hG5.size; simp at hs5; clear hG5 hown5 hgrow5 hblk5 hB5 hsh5 x0 x1 x2 x3; have x0 := cellOf HB5.out 0; have x1 := cellOf HB5.out 1; have x2 := cellOf HB5.out 2; have x3 := cellOf HB5.out 3; have f0 := freeOf HB5.out 0; simp only [List.getElem?_toArray, List.getElem?_cons_zero, List.getElem?_cons_succ] at x0 x1 x2 x3)))
            go_roundg (n - (k + 1))
            case measure => omega
            case rel =>
              refine ⟨k + 1, .slice va5 (k + 1) vc5, by omega, by omega, by go_num, (show _ = _ from ck_set0 HB5.out), (show OwnQs _ _ _ _ _ _ _ from ?_), (show Row _ _ _ _ _ _ _ from HR5.out.stO HB5.out (by decide) _), (show Row _ _ _ _ _ _ _ from HC5.out.stO HB5.out (by decide) _), (show _ ∧ _ from ⟨HE5.out.st (by have := HSZ0.out; simp only; omega) _, by rw [size_setCell]; omega⟩)⟩
              rw [HTQ.out]
              exact OwnQs.stO ⟨_, by rw [List.length_append, HKL.out]; exact HOWN.out, HQ5.out⟩ HB5.out (by decide) (by decide) (by decide) _
      · have hltz : ¬ (k : Int) < (n : Int) := by omega
        obtain rfl : n = k := by omega
        have HXR := Lib.hid (HEXK.out.1.hp HX1.out)
        have hqk := HOQ.out
        rw [List.take_of_length_le (by rw [HN.out]; omega)] at hqk
        have HQK := Lib.hid hqk
        have hsh := hqk.read.shape
        rw [HN.out] at hsh
        obtain ⟨qa, qc, rfl, hqc⟩ := hsh
        clear hqk
        have z0 := cellOf HBK.out 0
        have z1 := cellOf HBK.out 1
        have z2 := cellOf HBK.out 2
        have z3 := cellOf HBK.out 3
        simp only [List.getElem?_toArray, List.getElem?_cons_zero, List.getElem?_cons_succ] at z0 z1 z2 z3
        have r0 := cellOf HXR.out 0
        have r1 := cellOf HXR.out 1
        have r2 := cellOf HXR.out 2
        have r3 := cellOf HXR.out 3
        simp only [List.getElem?_toArray, List.getElem?_cons_zero, List.getElem?_cons_succ] at r0 r1 r2 r3
        have f0 := freeOf HXR.out 0
        have f1 := freeOf HXR.out 1
        have f2 := freeOf HXR.out 2
        have f3 := freeOf HXR.out 3
        go_wp2
        refine bodyPost_ret (v := .agg #[.slice qa n qc, .slice va l vb, .bool d, .slice ua cl ub]) (by simp [results, Try.results77, go_sem, r0, r1, r2, r3]) rfl ⟨_, _, _, by rw [HD.out], ?_, box_ext HEW.out (by omega) _ _ _ _⟩
        obtain ⟨h1, h2, h3⟩ := box_stored HXR.out (.slice qa n qc) (.slice va l vb) (.bool d) (.slice ua cl ub)
        refine ⟨?_, ?_, ?_⟩
        · exact (((HQK.out.stO HXR.out (by decide) (by decide) (by decide) _).stO (ck_set0 HXR.out) (by decide) (by decide) (by decide) _).stO (ck_set1 (ck_set0 HXR.out)) (by decide) (by decide) (by decide) _).stO (ck_set2 (ck_set1 (ck_set0 HXR.out))) (by decide) (by decide) (by decide) _ |>.mono (by omega)
        · rw [HL.out]; exact (h2 HREK.out (by decide)).mono (by omega)
        · rw [HCL.out]; exact (h2 HRCK.out (by decide)).mono (by omega)

end Go.Proofs.Ytggofkaakccoeaa
