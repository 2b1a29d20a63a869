/-
  Put of the program's text: where nothing is wrong.
-/
import Derived.Test.YtggofkaakccoeaaBase
import Derived.Test.YtggofkaakccoeaaProg
import Derived.BigQuiet
import Derived.Deep.QuietTactic
import Derived.Deep.LoopGhost
import Derived.Shelf.Abstract
import Derived.Test.YtggofkaakccoeaaCkK
import Derived.Test.YtggofkaakccoeaaTail
namespace Go.Proofs.Ytggofkaakccoeaa
open Go.RowKit
set_option linter.unusedVariables false
attribute [local go_sem ↓] Go.wp_at_zero Go.wp_at_succ

theorem enters_75 : ∀ args w, (callFunc 75 args).run Try.prog w = .ok (.enter 75 args) w := enters_of Try.func75 (by kernel_rfl) rfl


theorem row_some {w : World} {base : Nat} {e : TypeId} {size g off n cap : Nat} {xs : List Value} (h : Row w base e size (.slice (some ⟨g, off, none⟩) n cap) n xs) (j : Nat) (hj : j < n * size) : ∃ u, w.cell? ⟨g, off + j, none⟩ = some u := by
  rw [h.cell j hj]
  have : j < xs.length := by rw [h.1]; exact hj
  exact ⟨xs[j], List.getElem?_eq_getElem this⟩

/-- A checker of the call's own and an error of 0, handed back. -/
def PutOut (w w' : World) (e : Ending) (s : Ck) : Prop := ∃ vq ve vc, e = .returned (.tuple #[.agg #[vq, ve, .bool s.done, vc], .int .i64 0]) ∧ OwnCk w' w.heap.size vq ve vc s ∧ Ext w w'

theorem fit_put {s : Ck} {P : Nat} {v : List Int} (h : putErr s P v = 0) : FitQ (putQs s P v) := by
  obtain ⟨hval, _, hp2, hst, _, _, _, h65⟩ := put_parts h
  rw [Int.toNat_natCast] at h65
  have hf := form_fit (valid_parts.1 hval).1
  have hp : P < s.qs.length := by omega
  refine ⟨by rw [putQs, List.length_set]; exact hf.1, fun q hq => ?_⟩
  rw [putQs, List.length_set] at hq
  unfold putQs
  rw [set_at _ _ _ _ hp, List.length_set]
  split
  · rename_i e
    subst e
    obtain ⟨h1, h2⟩ := hf.2 q hq
    refine ⟨by rw [List.length_append, List.length_singleton]; omega, fun i hi => ?_⟩
    rw [List.length_append, List.length_singleton] at hi
    rw [snoc_at _ _ _ (by omega)]
    split
    · exact stamp_len hst
    · exact h2 i (by omega)
  · exact hf.2 q hq


set_option maxHeartbeats 8000000 in
set_option maxRecDepth 100000 in
theorem putP_ok (uq ue uc v : Value) (s : Ck) (P : Nat) (lv : List Int) (w : World) (h : CkAt w uq ue uc s) (hs : SmallC s) (hv : Ints w v lv) (hvn : lv.length ≤ 1000000) (hE : putErr s P lv = 0) :
    Calls Try.prog 59 #[.agg #[uq, ue, .bool s.done, uc], .int .i64 P, v] w fun e w' => PutOut w w' e (putC s P lv) := by
  obtain ⟨i2, hi2, iz0, iz1, iz2⟩ := info_parts info_rows1
  obtain ⟨hval, _, hp2, hst, hdn, hen, haf, h65⟩ := put_parts hE
  rw [Int.toNat_natCast] at hen haf h65
  have HPE := Lib.hid hE
  have HVAL := Lib.hid hval
  obtain ⟨g1, g2, g3, g4⟩ := form_parts.1 (valid_parts.1 hval).1
  have HG4 := Lib.hid g4
  have HG3 := Lib.hid g3
  have hPn : P < s.qs.length := by omega
  have hPe : P < s.ended.length := by omega
  have HSTB := Lib.hid hst
  have HSB := Lib.hid (fun W (hW : Ext w W) => stampP_calls v lv s.qs.length W (hv.ext hW) hvn)
  rw [hst] at HSB
  have HDN := Lib.hid hdn
  have HEN := Lib.hid hen
  have HAFT := Lib.hid haf
  have b1 : decide ((P : Int) < 0) = false := by simp
  have b2 : decide ((s.qs.length : Int) ≤ (P : Int)) = false := by simp; omega
  have b2n : decide (s.qs.length ≤ P) = false := by simp; omega
  clear hval g3 g4 hE hst hdn hen haf
  have HS := Lib.hid h
  have HSM := Lib.hid hs
  have HVI := Lib.hid hv
  have hs1 := hs.1
  have hs2 := hs.2.1
  obtain ⟨a, c, rfl, hlc⟩ := h.1.shape
  obtain ⟨ea, ec, rfl, hec⟩ := h.2.1.shape
  obtain ⟨ca, cc, hce, hcc, _⟩ := h.2.2
  subst hce
  obtain ⟨va, vc, rfl, hvc, _⟩ := hv
  clear h hs
  generalize hd : s.done = d at *
  have HD := Lib.hid hd
  clear hd
  generalize hn : s.qs.length = n at *
  generalize hl : s.ended.length = l at *
  generalize hcl : s.cut.length = cl at *
  have HN := Lib.hid hn
  have HL := Lib.hid hl
  have HCL := Lib.hid hcl
  clear hn hl hcl
  have HX0 := Lib.hid (((Ext.rf (w.alloc (ckT (.slice a n c) (.slice ea l ec) (.bool d) (.slice ca cl cc)))).al (ckT (.slice none 0 0) (.slice none 0 0) (.bool false) (.slice none 0 0))).hp (heap_alloc_new w (ckT (.slice a n c) (.slice ea l ec) (.bool d) (.slice ca cl cc))))
  have HX1 := Lib.hid (heap_new_eq (w := w.alloc (ckT (.slice a n c) (.slice ea l ec) (.bool d) (.slice ca cl cc))) (o := ckT (.slice none 0 0) (.slice none 0 0) (.bool false) (.slice none 0 0)) (b := w.heap.size + 1) (by simp))
  have HE0 : Hid (Ext w ((w.alloc (ckT (.slice a n c) (.slice ea l ec) (.bool d) (.slice ca cl cc))).alloc (ckT (.slice none 0 0) (.slice none 0 0) (.bool false) (.slice none 0 0)))) := Lib.hid (((Ext.rf w).al _).al _)
  have hsz0 : w.heap.size + 2 ≤ ((w.alloc (ckT (.slice a n c) (.slice ea l ec) (.bool d) (.slice ca cl cc))).alloc (ckT (.slice none 0 0) (.slice none 0 0) (.bool false) (.slice none 0 0))).heap.size := by simp
  obtain rfl : d = false := HDN.out
  go_enter Try.func59, Try.ntmps59
  go_wp2_with fail
  generalize hw0 : (w.alloc (ckT (.slice a n c) (.slice ea l ec) (.bool false) (.slice ca cl cc))).alloc (ckT (.slice none 0 0) (.slice none 0 0) (.bool false) (.slice none 0 0)) = w0 at *
  clear hw0
  have hvc := validP_calls (.slice a n c) (.slice ea l ec) (.slice ca cl cc) s w0 (HS.out.ext HE0.out) HSM.out
  rw [HD.out, HVAL.out] at hvc
  have HVC := Lib.hid hvc
  clear hvc
  refine HVC.out.mono ?_
  rintro e w1 ⟨rfl, hE1⟩
  have HXA := Lib.hid (hE1.hp HX0.out)
  have HXB := Lib.hid (hE1.hp HX1.out)
  have HEW := Lib.hid (HE0.out.trans' hE1)
  have hsz1 := hE1.sz
  clear hE1
  have x0 := cellOf HXA.out 0
  have x1 := cellOf HXA.out 1
  have x2 := cellOf HXA.out 2
  have x3 := cellOf HXA.out 3
  simp only [List.getElem?_toArray, List.getElem?_cons_zero, List.getElem?_cons_succ] at x0 x1 x2 x3
  go_wp2_with fail
  refine (HSB.out w1 HEW.out).mono ?_
  rintro e w2 ⟨rfl, hD2⟩
  have HXA := Lib.hid (hD2.ext.hp HXA.out)
  have HXB := Lib.hid (hD2.ext.hp HXB.out)
  have HEW := Lib.hid (HEW.out.trans' hD2.ext)
  have hsz2 := hD2.ext.sz
  clear hD2 x0 x1 x2 x3
  have x0 := cellOf HXA.out 0
  have x1 := cellOf HXA.out 1
  have x2 := cellOf HXA.out 2
  have x3 := cellOf HXA.out 3
  simp only [List.getElem?_toArray, List.getElem?_cons_zero, List.getElem?_cons_succ] at x0 x1 x2 x3
  obtain ⟨EB, EO, EC, ev, hee, _, _, hec0, hev⟩ := HS.out.2.1.at1 P (by rw [HL.out]; omega)
  simp only [Value.slice.injEq] at hee
  obtain ⟨rfl, hnn2, rfl⟩ := hee
  obtain rfl : ev = .bool s.ended[P]! := by simpa [RBool] using hev
  rw [HEN.out] at hec0
  have ce := HEW.out.cl hec0
  have hPz : (0 : Int) ≤ (P : Int) := by omega
  have hPl : (P : Int) < (l : Int) := by omega
  clear hnn2 hev hec0
  obtain ⟨B, O, C, a1, m1, c1, hue0, hcp0, M1, hmc1, HS1⟩ := queue_at HS.out.1 P (by rw [HN.out]; omega)
  simp only [Value.slice.injEq] at hue0
  obtain ⟨rfl, hnn, rfl⟩ := hue0
  have HCP := Lib.hid hcp0
  have hcp := HEW.out.cl hcp0
  have HM1 := Lib.hid M1
  have HQS := Lib.hid HS1
  have hPn1 : (P : Int) < (n : Int) := by omega
  have hm1b := (HSM.out.2.2.2 P (by rw [HN.out]; omega)).1
  rw [← M1] at hm1b
  clear M1 HS1 hnn hcp0
  go_upto_region 10 with (fail)
  go_cut [59] (fun s59 wx => s59 = .bool false ∧ Aside (Ext w wx) ∧ Aside (wx.heap[w.heap.size]? = some (ckT (.slice (some ⟨B, O, none⟩) n c) (.slice (some ⟨EB, EO, none⟩) l ec) (.bool false) (.slice ca cl cc))) ∧ Aside (wx.heap[w.heap.size + 1]? = some (ckT (.slice none 0 0) (.slice none 0 0) (.bool false) (.slice none 0 0))) ∧ w2.heap.size ≤ wx.heap.size)
  case first =>
    rcases Nat.eq_zero_or_pos m1 with h0 | hm1p
    · have c1' : decide (0 < (m1 : Int)) = false := by simp; omega
      have c1n : decide (0 < m1) = false := by simp; omega
      go_wp2_with fail
      go_meet
      exact ⟨rfl, HEW.out, HXA.out, HXB.out, Nat.le_refl _⟩
    · have HAF := Lib.hid (show afterB s.qs[P]![s.qs[P]!.length - 1]! lv P = true from HAFT.out.resolve_left (by have := HM1.out; omega))
      have hql : 0 < s.qs[P]!.length := by rw [← HM1.out]; exact hm1p
      have hm1p : 0 < m1 := by rw [HM1.out]; exact hql
      have c1' : decide (0 < (m1 : Int)) = true := by simp; omega
      have c1n : decide (0 < m1) = true := by simp; omega
      have hz1 : (0 : Int) ≤ (m1 : Int) - 1 := by omega
      have hz2 : (m1 : Int) - 1 < (m1 : Int) := by omega
      have hz3 : ((m1 : Int) - 1).toNat = m1 - 1 := by omega
      have hz4 : (1 : Int) ≤ (m1 : Int) := by omega
      obtain ⟨b', o', pv, rfl, hcj0, hpv⟩ := stamp_at HQS.out (m1 - 1) (by rw [← HM1.out]; omega)
      have hcj := HEW.out.cl hcj0
      have HPV := Lib.hid hpv
      have hplen := stamp_len ((queue_parts.1 (HG4.out P (by omega))).2 (m1 - 1) (by rw [← HM1.out]; omega)).1
      clear hcj0 hpv
      have haf := afterP_calls pv (.slice va lv.length vc) s.qs[P]![m1 - 1]! lv n P w2 (HPV.out.ext HEW.out) (HVI.out.ext HEW.out) hplen (by have := stamp_len HSTB.out; omega) (by omega) (by omega)
      rw [show m1 - 1 = s.qs[P]!.length - 1 from by rw [HM1.out], HAF.out] at haf
      have HAC := Lib.hid haf
      clear haf hplen
      go_wp2_with fail
      refine HAC.out.mono ?_
      rintro e w3 ⟨rfl, hD3⟩
      have HXA := Lib.hid (hD3.ext.hp HXA.out)
      have HXB := Lib.hid (hD3.ext.hp HXB.out)
      have HEW := Lib.hid (HEW.out.trans' hD3.ext)
      have hsz3 := hD3.ext.sz
      clear hD3 x0 x1 x2 x3
      have x0 := cellOf HXA.out 0
      have x1 := cellOf HXA.out 1
      have x2 := cellOf HXA.out 2
      have x3 := cellOf HXA.out 3
      simp only [List.getElem?_toArray, List.getElem?_cons_zero, List.getElem?_cons_succ] at x0 x1 x2 x3
      go_wp2_with fail
      go_meet
      exact ⟨rfl, HEW.out, HXA.out, HXB.out, by omega⟩
  case rest =>
    obtain ⟨rfl, HEW3, HXA3, HXB3, hsz3⟩ := hcut
    obtain ⟨w3, rfl⟩ : ∃ x, x = wc := ⟨_, rfl⟩
    clear x0 x1 x2 x3 hcp ce
    have c65 : decide (65 ≤ (m1 : Int)) = false := by have := HM1.out; simp; omega
    have c65n : decide (65 ≤ m1) = false := by have := HM1.out; simp; omega
    have x0 := cellOf HXA3.out 0
    have x1 := cellOf HXA3.out 1
    have x2 := cellOf HXA3.out 2
    have x3 := cellOf HXA3.out 3
    simp only [List.getElem?_toArray, List.getElem?_cons_zero, List.getElem?_cons_succ] at x0 x1 x2 x3
    go_wp2_with fail
    have hcop := copied_calls (.slice (some ⟨B, O, none⟩) n c) (.slice (some ⟨EB, EO, none⟩) l ec) (.slice ca cl cc) s w3 (HS.out.ext HEW3.out) HSM.out
    rw [HD.out] at hcop
    have HCOP := Lib.hid hcop
    clear hcop
    refine HCOP.out.mono ?_
    rintro e w4 ⟨vq, ve2, vc2, rfl, hOC, hE4⟩
    rw [HD.out]
    obtain ⟨hoq, hoe, hoc⟩ := hOC
    obtain ⟨G, O2, C2, hh, rfl, hhc, hhf, hGb, hrow, hqh⟩ := hoq.at P (by rw [HN.out]; omega)
    obtain ⟨ya, yb, rfl, hyb, hsh⟩ := hoe.any
    clear hsh
    obtain ⟨ta, tb, rfl, htb, hsh⟩ := hoc.any
    clear hsh
    have HXB4 := Lib.hid (hE4.hp HXB3.out)
    have hsz4 := hE4.sz
    have HEW4 := Lib.hid (HEW3.out.trans' hE4)
    have hbase : w.heap.size + 2 ≤ w3.heap.size := by omega
    obtain ⟨vs, hv, hel⟩ := hqh.2.1 P (by rw [HN.out]; omega)
    obtain ⟨qa, qc, hqe, hqc, hsh⟩ := hv.any
    clear hsh
    have HHE := Lib.hid hqe
    rw [hqe] at hhc hv
    rw [← HM1.out] at hqc hhc hv
    have HQV := Lib.hid hv
    have HEL := Lib.hid (fun i (hi : i < s.qs[P]!.length) => hel i hi)
    rw [HN.out] at hrow
    rw [HL.out] at hoe
    rw [HCL.out] at hoc
    have HROW := Lib.hid hrow
    have HQH := Lib.hid hqh
    have HOE := Lib.hid hoe
    have hGs : G < w4.heap.size := World.block_lt_of_cell? w4 _ hhc
    rw [HN.out, HL.out, HCL.out]
    have HE4 := Lib.hid hE4
    clear hoq hoe hoc hrow hqh hqe hv hel hE4 x0 x1 x2 x3
    go_wp2
    have HXO := Lib.hid (heap_alloc_new w4 (ckT (.slice (some ⟨G, O2, none⟩) n C2) (.slice ya l yb) (.bool false) (.slice ta cl tb)))
    have HE45 := Lib.hid ((Ext.rf w4).al (ckT (.slice (some ⟨G, O2, none⟩) n C2) (.slice ya l yb) (.bool false) (.slice ta cl tb)))
    have hh0 := HE45.out.cl hhc
    have ff0 := (HE45.out.frozen (p := ⟨G, O2 + P, none⟩) hGs).trans hhf
    have hsz5 : w4.heap.size < (w4.alloc (ckT (.slice (some ⟨G, O2, none⟩) n C2) (.slice ya l yb) (.bool false) (.slice ta cl tb))).heap.size := by simp
    have hGn : G ≠ w4.heap.size := by omega
    generalize hw5 : w4.alloc (ckT (.slice (some ⟨G, O2, none⟩) n C2) (.slice ya l yb) (.bool false) (.slice ta cl tb)) = w5 at *
    clear hw5 hhc hhf
    have o0 := cellOf HXO.out 0
    simp only [List.getElem?_toArray, List.getElem?_cons_zero] at o0
    have HCLN := Lib.hid (fun W (hW : Ext w W) => clone_ints (.slice va lv.length vc) lv.length (lv.map (Value.int .i64)) W ((HVI.out.ext hW).cells) (int_one _) hvn)
    have hGs5 : G < w5.heap.size := by omega
    have hPm : P < n * 1 := by omega
    have HEW5 := Lib.hid (HEW4.out.trans' HE45.out)
    have hw5s : w4.heap.size ≤ w5.heap.size := by omega
    have hbs : w3.heap.size ≤ w5.heap.size := by omega
    have hPz : (0 : Int) ≤ (P : Int) := by omega
    have HFQ := Lib.hid (fit_put HPE.out)
    go_cut [] (fun wy => Aside (OwnQs wy w3.heap.size 109 38 3 (.slice (some ⟨G, O2, none⟩) n C2) (putQs s P lv)) ∧ Aside (wy.heap[w4.heap.size]? = some (ckT (.slice (some ⟨G, O2, none⟩) n C2) (.slice ya l yb) (.bool false) (.slice ta cl tb))) ∧ Aside (Row wy w3.heap.size 4 1 (.slice ya l yb) l (s.ended.map Value.bool)) ∧ Aside (Ext w3 wy) ∧ w5.heap.size ≤ wy.heap.size)
    case first =>
      have hPi : (P : Int) < (n : Int) := by omega
      refine wp_region_tail (fun w' => w'.cell? ⟨w4.heap.size, 0, none⟩ = some (.slice (some ⟨G, O2, none⟩) n C2) ∧ w'.cell? ⟨G, O2 + P, none⟩ = some (.slice qa m1 qc)) 13 (by kernel_rfl) ?_ (fun hHeld => ?_)
      · exact ⟨o0, hh0⟩
      refine wpAnyT_take (i := 0) (d := some 89) (v := ?_) rfl rfl (by kernel_rfl) (by kernel_rfl) (by kernel_rfl) (by kernel_rfl) (fun _ _ _ h => h) (Or.inl ⟨by rfl, ?_⟩) (by assumption) ?_
      rotate_left
      · (intro w hSw; (try dsimp only at hSw); go_simp; try (with_reducible rfl))
      try simp only [Act.put]
      try simp only [List.setIfInBounds_toArray]
      try simp only [List.set_cons_zero, List.set_cons_succ]
      refine wpAnyT_take (i := 1) (d := some 90) (v := ?_) rfl rfl (by kernel_rfl) (by kernel_rfl) (by kernel_rfl) (by kernel_rfl) (fun _ _ _ h => h) (Or.inl ⟨by rfl, ?_⟩) (by assumption) ?_
      rotate_left
      · (intro w hSw; (try dsimp only at hSw); go_simp; try (with_reducible rfl))
      try simp only [Act.put]
      try simp only [List.setIfInBounds_toArray]
      try simp only [List.set_cons_zero, List.set_cons_succ]
      refine wpAnyT_take (i := 2) (d := some 91) (v := ?_) rfl rfl (by kernel_rfl) (by kernel_rfl) (by kernel_rfl) (by kernel_rfl) (fun _ _ _ h => h) (Or.inl ⟨by rfl, ?_⟩) (by assumption) ?_
      rotate_left
      · (intro w hSw; (try dsimp only at hSw); go_simp; try (with_reducible rfl))
      try simp only [Act.put]
      try simp only [List.setIfInBounds_toArray]
      try simp only [List.set_cons_zero, List.set_cons_succ]
      refine wpAnyT_take (i := 3) (d := some 92) (v := ?_) rfl rfl (by kernel_rfl) (by kernel_rfl) (by kernel_rfl) (by kernel_rfl) (fun _ _ _ h => h) (Or.inl ⟨by rfl, ?_⟩) (by assumption) ?_
      rotate_left
      · (intro w hSw; (try dsimp only at hSw); go_simp; try (with_reducible rfl))
      try simp only [Act.put]
      try simp only [List.setIfInBounds_toArray]
      try simp only [List.set_cons_zero, List.set_cons_succ]
      refine wpAnyT_take (i := 4) (d := some 93) (v := ?_) rfl rfl (by kernel_rfl) (by kernel_rfl) (by kernel_rfl) (by kernel_rfl) (fun _ _ _ h => h) (Or.inl ⟨by rfl, ?_⟩) (by assumption) ?_
      rotate_left
      · (intro w hSw; (try dsimp only at hSw); go_simp; try (with_reducible rfl))
      try simp only [Act.put]
      try simp only [List.setIfInBounds_toArray]
      try simp only [List.set_cons_zero, List.set_cons_succ]
      refine wpAnyT_take (i := 5) (d := some 94) (v := ?_) rfl rfl (by kernel_rfl) (by kernel_rfl) (by kernel_rfl) (by kernel_rfl) (fun _ _ _ h => h) (Or.inl ⟨by rfl, ?_⟩) (by assumption) ?_
      rotate_left
      · (intro w hSw; (try dsimp only at hSw); go_simp; try (with_reducible rfl))
      try simp only [Act.put]
      try simp only [List.setIfInBounds_toArray]
      try simp only [List.set_cons_zero, List.set_cons_succ]
      refine wpAnyT_take (i := 6) (d := some 95) (v := ?_) rfl rfl (by kernel_rfl) (by kernel_rfl) (by kernel_rfl) (by kernel_rfl) (fun _ _ _ h => h) (Or.inl ⟨by rfl, ?_⟩) (by assumption) ?_
      rotate_left
      · (intro w hSw; (try dsimp only at hSw); go_simp; try (with_reducible rfl))
      try simp only [Act.put]
      try simp only [List.setIfInBounds_toArray]
      try simp only [List.set_cons_zero, List.set_cons_succ]
      refine wpAnyT_take (i := 7) (d := some 96) (v := ?_) rfl rfl (by kernel_rfl) (by kernel_rfl) (by kernel_rfl) (by kernel_rfl) (fun _ _ _ h => h) (Or.inl ⟨by rfl, ?_⟩) (by assumption) ?_
      rotate_left
      · (intro w hSw; (try dsimp only at hSw); go_simp; try (with_reducible rfl))
      try simp only [Act.put]
      try simp only [List.setIfInBounds_toArray]
      try simp only [List.set_cons_zero, List.set_cons_succ]
      refine wpAnyT_take (i := 8) (d := some 97) (v := ?_) rfl rfl (by kernel_rfl) (by kernel_rfl) (by kernel_rfl) (by kernel_rfl) (fun _ _ _ h => h) (Or.inl ⟨by rfl, ?_⟩) (by assumption) ?_
      rotate_left
      · (intro w hSw; (try dsimp only at hSw); go_simp; try (with_reducible rfl))
      try simp only [Act.put]
      try simp only [List.setIfInBounds_toArray]
      try simp only [List.set_cons_zero, List.set_cons_succ]
      refine wpAnyT_step (i := 9) (by kernel_rfl) rfl (fun K hK => ?_)
      refine step_call rfl 75 _ _ rfl enters_75 [.slice va lv.length vc] (by first | rfl | kernel_rfl | go_simp) (HCLN.out _ (HEW5.out.trans' (by repeat (first | refine Ext.st ?_ (by first | exact Nat.le_refl _ | exact Nat.le_succ _ | assumption | omega) _ | refine Ext.al ?_ _ | refine Ext.dr ?_ | refine Ext.drN ?_ _ | exact Ext.rf _)))) ?_
      rintro e wC ⟨vC, rfl, hRC, hxC⟩; obtain ⟨ka, kc, rfl, hkc, hshC⟩ := hRC.any; clear hshC; have HRC := Lib.hid hRC; have HXC := Lib.hid (show Ext w5 wC from Ext.trans' (by repeat (first | refine Ext.st ?_ (by first | exact Nat.le_refl _ | exact Nat.le_succ _ | assumption | omega) _ | refine Ext.al ?_ _ | refine Ext.dr ?_ | refine Ext.drN ?_ _ | exact Ext.rf _)) hxC); have nC := HXC.out.sz; have nG1 : G < wC.heap.size := Nat.lt_of_lt_of_le hGs5 nC; have nG2 : G ≠ wC.heap.size := Nat.ne_of_lt nG1; have nK1 : w4.heap.size < wC.heap.size := Nat.lt_of_lt_of_le hsz5 nC; have nK2 : w4.heap.size ≠ wC.heap.size := Nat.ne_of_lt nK1; have xc0 := HXC.out.cl o0; have xh := HXC.out.cl hh0; have fh := (HXC.out.frozen (p := ⟨G, O2 + P, none⟩) hGs5).trans ff0; clear hRC hxC; refine ⟨_, rfl, ?_⟩
      refine hK.out _ _ ?_ (fun hHeld => ?_)
      · (try dsimp only)
        exact ⟨xc0, xh⟩
      clear hK K
      try simp only [Act.put]
      try simp only [List.setIfInBounds_toArray]
      try simp only [List.set_cons_zero, List.set_cons_succ]
      refine wpAnyT_step (i := 10) (by kernel_rfl) rfl (fun K hK => ?_)
      go_simp
      refine hK.out _ _ ?_ (fun hHeld => ?_)
      · (try dsimp only)
        go_keep
      clear hK K
      try simp only [Act.put]
      try simp only [List.setIfInBounds_toArray]
      try simp only [List.set_cons_zero, List.set_cons_succ]
      refine wpAnyT_step (i := 11) (by kernel_rfl) rfl (fun K hK => ?_)
      refine step_append_rowN rfl _ _ 109 rfl w3.heap.size 38 i2 (.slice none 0 0) 1 24 Try.underlying109 hi2 iz0 iz1 iz2 rfl (by decide) (.slice qa m1 qc) m1 vs rfl (by first | exact (HQV.out.ext (HE45.out.trans' HXC.out)).al _ | exact ((HQV.out.ext (HE45.out.trans' HXC.out)).al _).drw | exact ((HQV.out.ext (HE45.out.trans' HXC.out)).drw).al _) _ 1 [.slice ka lv.length kc] rfl rfl (by first | exact ⟨_, heap_new_eq rfl⟩ | exact ⟨(0, 0), heap_new_eq (by simp)⟩) (by simp [Value.oneCell']) (by unfold maxLen; omega) (by omega) (by first | (simp; omega) | omega) ?_
      intro vN wN hownN hgrowN hblkN; obtain ⟨na, nc, rfl, hnc, hshN⟩ := hownN.any; clear hshN; have hG5 : (wC.alloc (.cells #[.slice ka lv.length kc] 38)).grownBy wN (Value.slice qa m1 qc).ownBlock := hgrowN; have hrA := (HROW.out.ext (HE45.out.trans' HXC.out)).al (.cells #[.slice ka lv.length kc] 38); have hvA := (HQV.out.ext (HE45.out.trans' HXC.out)).al (.cells #[.slice ka lv.length kc] 38); have hoA := ((Ext.rf wC).al (.cells #[.slice ka lv.length kc] 38)).hp (HXC.out.hp HXO.out); have hrN := hrA.grown hG5 (hrA.apart hvA (by decide)); have hoN := grownKeep hG5 (hvA.notBox hoA (by decide)) hoA; obtain ⟨uN, cN⟩ := row_some hrN P hPm; have fN := hrN.free (O2 + P); have xN0 := cellOf hoN 0; simp only [List.getElem?_toArray, List.getElem?_cons_zero] at xN0
      have cN2 : wN.cell? ⟨G, O2 + P, none⟩ = some (.slice qa m1 qc) := by
        rw [hrN.cell P hPm, List.getElem?_eq_getElem (by have := hrN.1; omega), ← getElem!_pos hh P (by have := hrN.1; omega), HHE.out, HM1.out]
      refine hK.out _ _ ?_ (fun hHeld => ?_)
      · (try dsimp only)
        exact ⟨xN0, cN2⟩
      clear hK K
      try simp only [Act.put]
      try simp only [List.setIfInBounds_toArray]
      try simp only [List.set_cons_zero, List.set_cons_succ]
      refine wpAnyT_take (i := 12) (d := some 101) (v := ?_) rfl rfl (by kernel_rfl) (by kernel_rfl) (by kernel_rfl) (by kernel_rfl) (fun _ _ _ h => h) (Or.inl ⟨by rfl, ?_⟩) (by assumption) ?_
      rotate_left
      · (intro w hSw; (try dsimp only at hSw); go_simp; try (with_reducible rfl))
      try simp only [Act.put]
      try simp only [List.setIfInBounds_toArray]
      try simp only [List.set_cons_zero, List.set_cons_succ]
      refine wpAnyT_last (by kernel_rfl) rfl (by kernel_rfl) (fun K hK => ?_)
      go_simp
      refine hK.out _ _ ?_
      all_goals (go_wp2_with fail; go_meet)
      all_goals
        have hqs := own_put (by rw [HN.out]; exact hrA) (HQH.out.ext ((HE45.out.trans' HXC.out).al (.cells #[.slice ka lv.length kc] 38))) (by rw [HN.out]; exact hPn) (by decide) (by decide) (by decide) (by rw [HHE.out, ← HM1.out]; exact hvA) (fun i hi => (HEL.out i hi).ext ((HE45.out.trans' HXC.out).al (.cells #[.slice ka lv.length kc] 38))) ((HRC.out.mono (by first | omega | (simp; omega))).al (.cells #[.slice ka lv.length kc] 38)) (by rw [HHE.out, ← HM1.out]; exact hG5) (by rw [← HM1.out]; exact hownN) (by rw [HHE.out, ← HM1.out]; exact hblkN)
        rw [HN.out] at hqs
        obtain ⟨cs, t, fr, hG, rfl⟩ := hrN.block G rfl
        have hoeA := HOE.out.ext ((HE45.out.trans' HXC.out).al (.cells #[.slice ka lv.length kc] 38))
        refine ⟨(show OwnQs _ _ _ _ _ _ _ from hqs), (show _ = _ from (Below.heap_setCell wN ⟨G, O2 + P, none⟩ _ w4.heap.size (fun e => hGn e.symm)).trans hoN), (show Row _ _ _ _ _ _ _ from (hoeA.grown hG5 (Row.apart hoeA hvA (by decide))).stO hG (by decide) _), (show Ext _ _ from (((HE4.out.trans' (HE45.out.trans' HXC.out)).al (.cells #[.slice ka lv.length kc] 38)).gr hG5 (fun k hk => (hvA.lt k hk).1)).st (p := ⟨G, O2 + P, none⟩) hGb _), ?_⟩
        rw [size_setCell]
        have := hG5.size
        simp at this
        omega
    case rest =>
      obtain ⟨HOQ, HBX, HRE, HEY, hszy⟩ := hcut
      have HXBY := Lib.hid (HEY.out.hp HXB3.out)
      clear o0 hh0 ff0
      have hel2 : s.ended.length = (putQs s P lv).length := by rw [putQs, List.length_set, HL.out, HN.out]; exact HG3.out
      have HCON := Lib.hid (concludeP_calls (.slice (some ⟨G, O2, none⟩) n C2) (.slice ya l yb) (.slice ta cl tb) false (putQs s P lv) s.ended w3.heap.size wc HOQ.out (by rw [HL.out]; exact HRE.out) HEY.out.sz HFQ.out hel2)
      clear hel2
      have x0 := cellOf HBX.out 0
      have x1 := cellOf HBX.out 1
      have x2 := cellOf HBX.out 2
      have x3 := cellOf HBX.out 3
      simp only [List.getElem?_toArray, List.getElem?_cons_zero, List.getElem?_cons_succ] at x0 x1 x2 x3
      go_wp2_with fail
      refine HCON.out.mono ?_
      rintro e w6 ⟨v6, rfl, hQ6, hE6, hC6, hB6⟩
      generalize hdb : doneB (reduceL (putQs s P lv)) s.ended = db at *
      have HDB := Lib.hid hdb
      obtain ⟨ra, rc, rfl, hrc, hsh⟩ := hC6.any
      generalize hclq : (cutB (reduceL (putQs s P lv))).length = cl2 at *
      have HCLQ := Lib.hid hclq
      have HXB6 := Lib.hid ((hB6.block (w.heap.size + 1) (by omega)).trans HXBY.out)
      have HQ6 := Lib.hid hQ6
      rw [HL.out] at hE6
      have HE6 := Lib.hid hE6
      have HC6 := Lib.hid hC6
      have HEW6 := Lib.hid (show Ext w w6 from Below.trans (HEW3.out.trans' HEY.out) (hB6.mono (by omega)))
      clear hdb hclq hsh hQ6 hE6 hC6 hB6 x0 x1 x2 x3
      have r0 := cellOf HXB6.out 0
      have r1 := cellOf HXB6.out 1
      have r2 := cellOf HXB6.out 2
      have r3 := cellOf HXB6.out 3
      simp only [List.getElem?_toArray, List.getElem?_cons_zero, List.getElem?_cons_succ] at r0 r1 r2 r3
      have f0 := freeOf HXB6.out 0
      have f1 := freeOf HXB6.out 1
      have f2 := freeOf HXB6.out 2
      have f3 := freeOf HXB6.out 3
      go_wp2
      refine bodyPost_ret (v := .tuple #[.agg #[.slice (some ⟨G, O2, none⟩) n C2, .slice ya l yb, .bool db, .slice ra cl2 rc], .int .i64 0]) (by simp [results, Try.results59, go_sem, r0, r1, r2, r3]) rfl ⟨_, _, _, by rw [← HDB.out]; rfl, ?_, box_ext HEW6.out (by omega) _ _ _ _⟩
      obtain ⟨k1, k2, k3⟩ := box_stored HXB6.out (.slice (some ⟨G, O2, none⟩) n C2) (.slice ya l yb) (.bool db) (.slice ra cl2 rc)
      refine ⟨?_, ?_, ?_⟩
      · exact ((((HQ6.out.stO HXB6.out (by decide) (by decide) (by decide) _).stO (ck_set0 HXB6.out) (by decide) (by decide) (by decide) _).stO (ck_set1 (ck_set0 HXB6.out)) (by decide) (by decide) (by decide) _).stO (ck_set2 (ck_set1 (ck_set0 HXB6.out))) (by decide) (by decide) (by decide) _).mono (by omega)
      · show Row _ _ _ 1 _ s.ended.length (s.ended.map Value.bool)
        rw [HL.out]
        exact (k2 HE6.out (by decide)).mono (by omega)
      · show Row _ _ _ 1 _ (cutB (reduceL (putQs s P lv))).length ((cutB (reduceL (putQs s P lv))).map (Value.int .i64))
        rw [HCLQ.out]
        exact (k2 HC6.out (by decide)).mono (by omega)

end Go.Proofs.Ytggofkaakccoeaa
