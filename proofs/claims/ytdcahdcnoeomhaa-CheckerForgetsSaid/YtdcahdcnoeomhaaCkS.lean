/-
  The law CheckerForgets, where the stamp is put.
-/
import Derived.Test.YtdcahdcnoeomhaaBase
import Derived.Test.YtdcahdcnoeomhaaProg
import Derived.BigQuiet
import Derived.Deep.QuietTactic
import Derived.Deep.LoopGhost
import Derived.Shelf.Abstract
import Derived.Test.YtdcahdcnoeomhaaCkR
import Derived.Deep.RegionHeld3
namespace Go.Proofs.Ytdcahdcnoeomhaa
open Go.RowKit
set_option linter.unusedVariables false
attribute [local go_sem ↓] Go.wp_at_zero Go.wp_at_succ

theorem rows_cells {w : World} {v : Value} {q : List (List Int)} (h : Sl RInts 1 w v q) :
    ∃ xs, CellsAt w v 1 q.length xs ∧ (∀ u ∈ xs, u.oneCell' = true) ∧ xs.length = q.length ∧ ∀ i, i < q.length → Ints w xs[i]! q[i]! := by
  obtain ⟨xs, hc, hR⟩ := h.cells
  have hl : xs.length = q.length := by have := hc.1; omega
  have key : ∀ i, i < q.length → Ints w xs[i]! q[i]! := by
    intro i hi
    obtain ⟨u, hu, hI⟩ := hR i hi
    rw [Nat.mul_one, List.drop_eq_getElem_cons (by omega), List.take_succ_cons, List.take_zero] at hu
    simp only [List.cons.injEq, and_true] at hu
    rw [getElem!_pos xs i (by omega), hu]
    exact hI
  refine ⟨xs, hc, fun u hu => ?_, hl, key⟩
  obtain ⟨i, hi, rfl⟩ := List.getElem_of_mem hu
  obtain ⟨a, c, he, _⟩ := key i (by omega)
  rw [getElem!_pos xs i hi] at he
  rw [he]
  rfl
theorem sl_of_cells {W : World} {v : Value} {n : Nat} {xs : List Value} {l : List (List Int)} (hc : CellsAt W v 1 n xs) (hl : l.length = n) (hR : ∀ i, i < l.length → Ints W xs[i]! l[i]!) : Sl RInts 1 W v l := by
  subst hl
  refine hc.sl fun i hi => ⟨xs[i]!, ?_, hR i hi⟩
  have := hc.1
  rw [Nat.mul_one, List.drop_eq_getElem_cons (by omega), List.take_succ_cons, List.take_zero, getElem!_pos xs i (by omega)]
theorem Sl.drop1 {α : Type} [Inhabited α] {R : World → List Value → α → Prop} {w : World} {b off n c : Nat} {l : List α} (h : Sl R 1 w (.slice (some ⟨b, off, none⟩) n c) l) (k : Nat) (hk : k ≤ l.length) :
    Sl R 1 w (.slice (some ⟨b, off + k, none⟩) (n - k) (c - k)) (l.drop k) := by
  obtain ⟨a, c', he, hlc, h⟩ := h
  simp only [Value.slice.injEq] at he
  obtain ⟨rfl, rfl, rfl⟩ := he
  refine ⟨_, _, by rw [List.length_drop], by rw [List.length_drop]; omega, fun hl => ⟨b, off + k, rfl, ?_⟩⟩
  obtain ⟨b', off', he, hb, hc⟩ := h (by rintro rfl; simp at hl)
  simp only [Option.some.injEq, Addr.mk.injEq, and_true] at he
  obtain ⟨rfl, rfl⟩ := he
  refine ⟨hb, fun i hi => ?_⟩
  rw [List.length_drop] at hi
  obtain ⟨vs, h1, h2, h3⟩ := hc (k + i) (by omega)
  refine ⟨vs, h1, ?_, fun j hj => ?_⟩
  · have e : (l.drop k)[i]! = l[k + i]! := by
      rw [getElem!_pos _ i (by rw [List.length_drop]; omega), getElem!_pos l (k + i) (by omega), List.getElem_drop]
    rw [e]; exact h2
  · have := h3 j hj
    rw [← this]
    congr 2
    omega
theorem Sl.zero {α : Type} [Inhabited α] (R : World → List Value → α → Prop) (w : World) (a : Option Addr) (c : Nat) : Sl R 1 w (.slice a 0 c) ([] : List α) := ⟨a, c, rfl, Nat.zero_le _, fun h => absurd rfl h⟩

/-- What the law asks of the checker that has been put to. -/
theorem forg_facts {s : Ck} {P : Nat} {lv : List Int} (h : putErr s P lv = 0) : validC (putC s P lv) = true ∧ (putC s P lv).qs.length = s.qs.length ∧ storedL (putC s P lv).qs ≤ storedL s.qs + 1 ∧
    ∀ q, q < s.qs.length → ∃ K M, (allQ s P lv q).length = M + K ∧ (putC s P lv).qs[q]!.length = M ∧ (putC s P lv).qs[q]! = (allQ s P lv q).drop K := by
  obtain ⟨k1, k2, k3, k4, k5⟩ := put_keeps h
  refine ⟨put_valid h, k1, k4, fun q hq => ?_⟩
  obtain ⟨K, g1, g2⟩ := k3 q hq
  refine ⟨K, (allQ s P lv q).length - K, by omega, ?_, g2⟩
  show (reduceL (putQs s P lv))[q]!.length = _
  rw [g2, List.length_drop]

theorem put_rows {W : World} {v u : Value} {n : Nat} {xs : List Value} {q : List (List Int)} {lv : List Int} (hc : CellsAt W v 1 n (xs ++ [u])) (hn : q.length + 1 = n) (hxl : xs.length = q.length) (hxi : ∀ i, i < q.length → Ints W xs[i]! q[i]!) (hu : Ints W u lv) :
    Sl RInts 1 W v (q ++ [lv]) := by
  refine sl_of_cells hc (by rw [List.length_append, List.length_singleton]; exact hn) fun i hi => ?_
  rw [List.length_append, List.length_singleton] at hi
  rw [snoc_at xs u i (by omega), snoc_at q lv i (by omega), hxl]
  split
  · exact hu
  · exact hxi i (by omega)



set_option maxHeartbeats 16000000 in
set_option maxRecDepth 100000 in
theorem lawForg_in (uq ue uc v : Value) (s : Ck) (P : Nat) (lv : List Int) (w : World) (h : CkAt w uq ue uc s) (hv : Ints w v lv) (hg : greatB s = false) (h20 : ¬ 20 < lv.length) (hval : validC s = true) (hE : putErr s P lv = 0) :
    Calls Try.prog 3 #[.agg #[uq, ue, .bool s.done, uc], .int .i64 P, v] w fun e w' => e = .returned (.bool true) ∧ Ext w w' := by
  obtain ⟨i2, hi2, iz0, iz1, iz2⟩ := info_parts info_rows1
  have HS := Lib.hid h
  have HVI := Lib.hid hv
  obtain ⟨a, c, rfl, hlc⟩ := h.1.shape
  obtain ⟨ea, ec, rfl, hec⟩ := h.2.1.shape
  obtain ⟨ca, cc, hce, hcc, _⟩ := h.2.2
  subst hce
  obtain ⟨va, vc, rfl, hvc, _⟩ := hv
  clear h
  have hgr := fun W (hW : Ext w W) => great_calls (.slice a s.qs.length c) (.slice ea s.ended.length ec) (.slice ca s.cut.length cc) s W (HS.out.ext hW)
  rw [hg] at hgr
  have b1 : decide (20 < (lv.length : Int)) = false := by simp; omega
  have b1n : decide (20 < lv.length) = false := by simp; omega
  have hsm := (great_small hg).1
  have hvr := fun W (hW : Ext w W) => validR_calls (.slice a s.qs.length c) (.slice ea s.ended.length ec) (.slice ca s.cut.length cc) s W (HS.out.ext hW) hsm
  rw [hval] at hvr
  have hpb := fun W (hW : Ext w W) => putP_ok (.slice a s.qs.length c) (.slice ea s.ended.length ec) (.slice ca s.cut.length cc) (.slice va lv.length vc) s P lv W (HS.out.ext hW) hsm (HVI.out.ext hW) (by omega) hE
  have hss := fun W (hW : Ext w W) => storedP_calls (.slice a s.qs.length c) (.slice ea s.ended.length ec) (.slice ca s.cut.length cc) s W (HS.out.ext hW) hsm
  rw [hval] at hss
  simp only [if_true] at hss
  obtain ⟨hXV, hXL, hXS, hXK⟩ := forg_facts hE
  have hqf := form_parts.1 (valid_parts.1 hval).1
  have hn8 := hqf.2.1
  have HQ65 := Lib.hid (fun p (hp : p < s.qs.length) => (queue_parts.1 (hqf.2.2.2 p hp)).1)
  have hPn : P < s.qs.length := by have := (put_parts hE).2.2.1; omega
  generalize hX : putC s P lv = X at *
  have hts : storedL s.qs ≤ 1000 := by
    have := stored_le s.qs s.qs.length 65 HQ65.out (Nat.le_refl _)
    rw [List.take_length] at this
    omega
  generalize hte : storedL s.qs = tS at *
  generalize htx : storedL X.qs = tX at *
  have HTX := Lib.hid htx
  have HSM := Lib.hid hsm
  have HXV := Lib.hid hXV
  have HXL := Lib.hid hXL
  have HXK := Lib.hid hXK
  clear hte htx hX hg hval hE hsm hXV hXL hXK hqf
  generalize hd : s.done = d at *
  have HD := Lib.hid hd
  clear hd
  generalize hn : s.qs.length = n at *
  generalize hl : s.ended.length = l at *
  generalize hcl : s.cut.length = cl at *
  generalize hvl : lv.length = vl at *
  have HN := Lib.hid hn
  have HL := Lib.hid hl
  have HCL := Lib.hid hcl
  have HVL := Lib.hid hvl
  clear hn hl hcl hvl
  have HGR := Lib.hid hgr
  clear hgr
  have HVR := Lib.hid hvr
  have HPB := Lib.hid hpb
  have HSS := Lib.hid hss
  clear hvr hpb hss
  go_enter Try.func3, Try.ntmps3
  go_wp2_with fail
  refine (awake_calls _).mono ?_
  rintro e w1 ⟨rfl, hE1⟩
  have HX1 := Lib.hid (hE1.hp (heap_alloc_new w (ckT (.slice a n c) (.slice ea l ec) (.bool d) (.slice ca cl cc))))
  have HE1 := Lib.hid (show Ext w w1 from Ext.trans' (by repeat (first | refine Ext.st ?_ (by first | exact Nat.le_refl _ | exact Nat.le_succ _ | assumption | omega) _ | refine Ext.al ?_ _ | refine Ext.dr ?_ | refine Ext.drN ?_ _ | exact Ext.rf _)) hE1)
  clear hE1
  have x0 := cellOf HX1.out 0
  have x1 := cellOf HX1.out 1
  have x2 := cellOf HX1.out 2
  have x3 := cellOf HX1.out 3
  simp only [List.getElem?_toArray, List.getElem?_cons_zero, List.getElem?_cons_succ] at x0 x1 x2 x3
  go_wp2_with fail
  refine (HGR.out _ HE1.out).mono ?_
  rintro e w2 ⟨rfl, hE2⟩
  have HX2 := Lib.hid (hE2.hp HX1.out)
  have HE2 := Lib.hid (HE1.out.trans' hE2)
  clear hE2 x0 x1 x2 x3
  have x0 := cellOf HX2.out 0
  have x1 := cellOf HX2.out 1
  have x2 := cellOf HX2.out 2
  have x3 := cellOf HX2.out 3
  simp only [List.getElem?_toArray, List.getElem?_cons_zero, List.getElem?_cons_succ] at x0 x1 x2 x3
  go_wp2_with fail
  refine (HVR.out _ HE2.out).mono ?_
  rintro e w3 ⟨rfl, hE3⟩
  have HX3 := Lib.hid (hE3.hp HX2.out)
  have HE3 := Lib.hid (HE2.out.trans' hE3)
  clear hE3 x0 x1 x2 x3
  have x0 := cellOf HX3.out 0
  have x1 := cellOf HX3.out 1
  have x2 := cellOf HX3.out 2
  have x3 := cellOf HX3.out 3
  simp only [List.getElem?_toArray, List.getElem?_cons_zero, List.getElem?_cons_succ] at x0 x1 x2 x3
  go_wp2_with fail
  refine (HPB.out _ HE3.out).mono ?_
  rintro e w4 ⟨vq2, ve2, vc2, rfl, hO, hE4⟩
  have HX4 := Lib.hid (hE4.hp HX3.out)
  have HE4 := Lib.hid (HE3.out.trans' hE4)
  have HC4 := Lib.hid hO.read
  clear hE4 hO x0 x1 x2 x3
  obtain ⟨a2, c2, rfl, _⟩ := HC4.out.1.shape
  obtain ⟨ea2, ec2, rfl, _⟩ := HC4.out.2.1.shape
  obtain ⟨ca2, cc2, hce2, _, _⟩ := HC4.out.2.2
  subst hce2
  have HC4' := Lib.hid (show CkAt w4 (.slice a2 n c2) (.slice ea2 X.ended.length ec2) (.slice ca2 X.cut.length cc2) X from by rw [← HXL.out]; exact HC4.out)
  rw [HXL.out]
  have HXSM := Lib.hid (valid_small HXV.out)
  have hvx := fun W (hW : Ext w4 W) => validR_calls _ _ _ X W (HC4'.out.ext hW) HXSM.out
  rw [HXV.out] at hvx
  have hsx := fun W (hW : Ext w4 W) => storedP_calls _ _ _ X W (HC4'.out.ext hW) HXSM.out
  rw [HXV.out] at hsx
  simp only [if_true] at hsx
  rw [HTX.out] at hsx
  generalize hd2 : X.done = d2 at *
  generalize hl2 : X.ended.length = l2 at *
  generalize hcl2 : X.cut.length = cl2 at *
  have HD2 := Lib.hid hd2
  have HL2 := Lib.hid hl2
  have HCL2 := Lib.hid hcl2
  have HVX := Lib.hid hvx
  have HSX := Lib.hid hsx
  clear hd2 hl2 hcl2 hvx hsx HC4
  go_upto_region 8 with (fail)
  have HXB5 := Lib.hid (heap_alloc_new w4 (ckT (.slice a2 n c2) (.slice ea2 l2 ec2) (.bool d2) (.slice ca2 cl2 cc2)))
  have HE45 := Lib.hid ((Ext.rf w4).al (ckT (.slice a2 n c2) (.slice ea2 l2 ec2) (.bool d2) (.slice ca2 cl2 cc2)))
  have hlt45 : w4.heap.size < (w4.alloc (ckT (.slice a2 n c2) (.slice ea2 l2 ec2) (.bool d2) (.slice ca2 cl2 cc2))).heap.size := by simp
  generalize hw5 : w4.alloc (ckT (.slice a2 n c2) (.slice ea2 l2 ec2) (.bool d2) (.slice ca2 cl2 cc2)) = w5 at *
  clear hw5
  have HSB5 := Lib.hid (HE45.out.hp HX4.out)
  have HE5 := Lib.hid (HE4.out.trans' HE45.out)
  have hlt4 := (Array.getElem?_eq_some_iff.1 HX4.out).1
  have hne4 : w.heap.size ≠ w4.heap.size := Nat.ne_of_lt hlt4
  go_cut [59] (fun s59 wx => s59 = .bool false ∧ Aside (Ext w5 wx))
  case first =>
    have bn : ((n : Int) != (n : Int)) = false := by simp
    have bt : decide ((tS : Int) + 1 < (tX : Int)) = false := by simp; omega
    have btn : decide (tS + 1 < tX) = false := by simp; omega
    have hz1 : IntKind.i64.wrap ((tS : Int) + 1) = (tS : Int) + 1 := IntWalk.i64_in _ (by omega)
    have HXA := Lib.hid (Ext.rf w5)
    have x0 := cellOf HSB5.out 0
    have x1 := cellOf HSB5.out 1
    have x2 := cellOf HSB5.out 2
    have x3 := cellOf HSB5.out 3
    simp only [List.getElem?_toArray, List.getElem?_cons_zero, List.getElem?_cons_succ] at x0 x1 x2 x3
    have y0 := cellOf HXB5.out 0
    have y1 := cellOf HXB5.out 1
    have y2 := cellOf HXB5.out 2
    have y3 := cellOf HXB5.out 3
    simp only [List.getElem?_toArray, List.getElem?_cons_zero, List.getElem?_cons_succ] at y0 y1 y2 y3
    go_region_held3 (fun w' => w'.cell? ⟨w.heap.size, 0, none⟩ = some (.slice a n c) ∧ w'.cell? ⟨w.heap.size, 1, none⟩ = some (.slice ea l ec) ∧ w'.cell? ⟨w.heap.size, 2, none⟩ = some (.bool d) ∧ w'.cell? ⟨w.heap.size, 3, none⟩ = some (.slice ca cl cc) ∧ w'.cell? ⟨w4.heap.size, 0, none⟩ = some (.slice a2 n c2) ∧ w'.cell? ⟨w4.heap.size, 1, none⟩ = some (.slice ea2 l2 ec2) ∧ w'.cell? ⟨w4.heap.size, 2, none⟩ = some (.bool d2) ∧ w'.cell? ⟨w4.heap.size, 3, none⟩ = some (.slice ca2 cl2 cc2)) (go_keep)
      (first
        | (go_at_call 7
           refine (HVX.out _ (HE45.out.trans' (by repeat (first | refine Ext.st ?_ (by first | exact Nat.le_refl _ | exact Nat.le_succ _ | assumption | omega) _ | refine Ext.al ?_ _ | refine Ext.dr ?_ | refine Ext.drN ?_ _ | exact HXA.out)))).mono ?_
           rintro e wA ⟨rfl, hA⟩
           have hxA : Ext w5 wA := Ext.trans' (by repeat (first | refine Ext.st ?_ (by first | exact Nat.le_refl _ | exact Nat.le_succ _ | assumption | omega) _ | refine Ext.al ?_ _ | refine Ext.dr ?_ | refine Ext.drN ?_ _ | exact HXA.out)) hA; have HXA := Lib.hid hxA; have kx0 := hxA.cl x0; have kx1 := hxA.cl x1; have kx2 := hxA.cl x2; have kx3 := hxA.cl x3; have ky0 := hxA.cl y0; have ky1 := hxA.cl y1; have ky2 := hxA.cl y2; have ky3 := hxA.cl y3; clear hxA hA)
        | (go_at_call_of 10 a2
           refine (HSX.out _ (HE45.out.trans' (by repeat (first | refine Ext.st ?_ (by first | exact Nat.le_refl _ | exact Nat.le_succ _ | assumption | omega) _ | refine Ext.al ?_ _ | refine Ext.dr ?_ | refine Ext.drN ?_ _ | exact HXA.out)))).mono ?_
           rintro e wA ⟨rfl, hA⟩
           have hxA : Ext w5 wA := Ext.trans' (by repeat (first | refine Ext.st ?_ (by first | exact Nat.le_refl _ | exact Nat.le_succ _ | assumption | omega) _ | refine Ext.al ?_ _ | refine Ext.dr ?_ | refine Ext.drN ?_ _ | exact HXA.out)) hA; have HXA := Lib.hid hxA; have kx0 := hxA.cl x0; have kx1 := hxA.cl x1; have kx2 := hxA.cl x2; have kx3 := hxA.cl x3; have ky0 := hxA.cl y0; have ky1 := hxA.cl y1; have ky2 := hxA.cl y2; have ky3 := hxA.cl y3; clear hxA hA)
        | (go_at_call_of 10 a
           refine (HSS.out _ (HE5.out.trans' (by repeat (first | refine Ext.st ?_ (by first | exact Nat.le_refl _ | exact Nat.le_succ _ | assumption | omega) _ | refine Ext.al ?_ _ | refine Ext.dr ?_ | refine Ext.drN ?_ _ | exact HXA.out)))).mono ?_
           rintro e wA ⟨rfl, hA⟩
           have hxA : Ext w5 wA := Ext.trans' (by repeat (first | refine Ext.st ?_ (by first | exact Nat.le_refl _ | exact Nat.le_succ _ | assumption | omega) _ | refine Ext.al ?_ _ | refine Ext.dr ?_ | refine Ext.drN ?_ _ | exact HXA.out)) hA; have HXA := Lib.hid hxA; have kx0 := hxA.cl x0; have kx1 := hxA.cl x1; have kx2 := hxA.cl x2; have kx3 := hxA.cl x3; have ky0 := hxA.cl y0; have ky1 := hxA.cl y1; have ky2 := hxA.cl y2; have ky3 := hxA.cl y3; clear hxA hA))
    all_goals (go_wp2_with fail; go_meet)
    all_goals exact ⟨rfl, (show Ext _ _ from (by repeat (first | refine Ext.st ?_ (by first | exact Nat.le_refl _ | exact Nat.le_succ _ | assumption | omega) _ | refine Ext.al ?_ _ | refine Ext.dr ?_ | refine Ext.drN ?_ _ | exact HXA.out)))⟩
  case rest =>
    obtain ⟨rfl, HE56⟩ := hcut
    have HSB6 := Lib.hid (HE56.out.hp HSB5.out)
    have HXB6 := Lib.hid (HE56.out.hp HXB5.out)
    have HE6 := Lib.hid (HE5.out.trans' HE56.out)
    have x0 := cellOf HSB6.out 0
    have x1 := cellOf HSB6.out 1
    have x2 := cellOf HSB6.out 2
    have x3 := cellOf HSB6.out 3
    simp only [List.getElem?_toArray, List.getElem?_cons_zero, List.getElem?_cons_succ] at x0 x1 x2 x3
    obtain ⟨w6, rfl⟩ : ∃ x, x = wc := ⟨_, rfl⟩
    go_wp2
    clear x0 x1 x2 x3
    go_loopg [9, 10, 11, 63] n (fun g _ _ _ s63 wr => ∃ k : Nat, k ≤ n ∧ n - k ≤ g ∧ s63 = .int .i64 k ∧ Aside (Ext w6 wr))
    case atStart => exact ⟨0, Nat.zero_le _, by omega, rfl, Ext.rf _⟩
    case round =>
      obtain ⟨k, hk, hg, rfl, HEK⟩ := hrel
      have HSBK := Lib.hid (HEK.out.hp HSB6.out)
      have HXBK := Lib.hid (HEK.out.hp HXB6.out)
      have HEWK := Lib.hid (HE6.out.trans' HEK.out)
      by_cases hlt : k < n
      · have hltz : (k : Int) < (n : Int) := by omega
        have hkz : (0 : Int) ≤ (k : Int) := by omega
        have hkq : k < s.qs.length := by rw [HN.out]; exact hlt
        obtain ⟨B, O, C, aq, m, cq, hue, hcq, hm, _, hi⟩ := queue_at HS.out.1 k hkq
        simp only [Value.slice.injEq] at hue
        obtain ⟨rfl, hnn, rfl⟩ := hue
        obtain ⟨B2, O2, C2, ax, M, cx, hue2, hcx, hM, hMc, hix⟩ := queue_at HC4'.out.1 k (by rw [HXL.out]; exact hlt)
        simp only [Value.slice.injEq] at hue2
        obtain ⟨rfl, hnn2, rfl⟩ := hue2
        have hm65 := HQ65.out k hlt
        rw [← hm] at hm65
        obtain ⟨K, M', hL, hM', hdr⟩ := HXK.out k hlt
        rw [← hM] at hM'
        subst hM'
        obtain ⟨xs, hxs, hone, hxl, hxi⟩ := rows_cells hi
        rw [← hm] at hxs
        have HXS := Lib.hid hxs
        have HONE := Lib.hid hone
        have HXI := Lib.hid hxi
        have HXLEN := Lib.hid hxl
        have HM := Lib.hid hm
        have HMX := Lib.hid hM
        have HDR := Lib.hid hdr
        have HLL := Lib.hid hL
        have HIX := Lib.hid hix
        have hcq6 := HEWK.out.cl hcq
        clear hxs hone hxl hxi hm hM hdr hL hi hcq hnn hnn2 hix
        have HCLN := Lib.hid (clone_rows (.slice aq m cq) m xs wr (HXS.out.ext HEWK.out) HONE.out (by omega))
        have x0 := cellOf HSBK.out 0
        have x1 := cellOf HSBK.out 1
        have x2 := cellOf HSBK.out 2
        have x3 := cellOf HSBK.out 3
        simp only [List.getElem?_toArray, List.getElem?_cons_zero, List.getElem?_cons_succ] at x0 x1 x2 x3
        go_wp2_with fail
        refine HCLN.out.mono ?_
        rintro e w7 ⟨v7, rfl, hR7, hE7⟩
        have HE7 := Lib.hid hE7
        have HXB7 := Lib.hid (hE7.hp HXBK.out)
        have HE67 := Lib.hid (HEK.out.trans' hE7)
        have HEW7 := Lib.hid (HEWK.out.trans' hE7)
        clear hE7 x0 x1 x2 x3 hcq6
        have hMKb : M + K ≤ 66 := by
          rw [← HLL.out, allQ]
          split
          · rw [List.length_append, List.length_singleton, ← HM.out]; omega
          · rw [← HM.out]; omega
        have hsub : (M : Int) + (K : Int) - (M : Int) = (K : Int) := by omega
        have hKz : (0 : Int) ≤ (K : Int) := by omega
        have bK : decide ((K : Int) < 0) = false := by simp
        by_cases hkP : k = P
        · obtain rfl : k = P := hkP
          have HMK := Lib.hid (show m + 1 = M + K from by rw [HM.out, ← HLL.out, allQ, if_pos rfl, List.length_append, List.length_singleton])
          have HR7 := Lib.hid hR7
          obtain ⟨a7, c7, rfl, hc7, hsh⟩ := hR7.any
          clear hR7 hsh
          go_wp2_with ((at_builtin; go_loud (refine wpList_append_one rfl _ _ 34 rfl wr.heap.size 24 i2 (.slice none 0 0) 1 24 Try.underlying34 hi2 iz0 iz1 iz2 rfl (by decide) _ m xs rfl (HR7.out.al _) w7.heap.size 1 [.slice va vl vc] rfl rfl ⟨_, heap_alloc_new _ _⟩ (by simp [Value.oneCell']) (by unfold maxLen; omega) (by omega) (by have := HE7.out.sz; simp; omega) ?_; intro v8 w8 hown8 hgrow8 hblk8; rw [HMK.out] at hown8; obtain ⟨g8, o8, c8, rfl, hb8, hlt8, hmc8⟩ := hown8.shape (by have := HMK.out; omega); have hG8 : (w7.alloc (.cells #[.slice va vl vc] 24)).grownBy w8 (Value.slice a7 m c7).ownBlock := hgrow8; have HE68 := Lib.hid (show Ext w6 w8 from (HE67.out.al (.cells #[.slice va vl vc] 24)).gr hG8 (fun q hq => Nat.le_trans HEK.out.sz (HR7.out.lt q hq).1)); have HXB8 := Lib.hid (HE68.out.hp HXB6.out); have HSL := Lib.hid (show Sl RInts 1 w8 (.slice (some ⟨g8, o8, none⟩) (M + K) c8) (allQ s k lv k) from by rw [allQ, if_pos rfl]; exact put_rows (lv := lv) hown8.cells (by rw [← HM.out]; exact HMK.out) HXLEN.out (fun i hi => (HXI.out i hi).ext (HE6.out.trans' HE68.out)) (HVI.out.ext (HE6.out.trans' HE68.out))); have hcx8 := (HE45.out.trans' (HE56.out.trans' HE68.out)).cl hcx; have x0 := cellOf HXB8.out 0; simp only [List.getElem?_toArray, List.getElem?_cons_zero] at x0; clear hown8 hgrow8 hblk8 hG8)))
          have HXC := Lib.hid (Ext.rf w8)
          have hcapz : (K : Int) ≤ (c8 : Int) := by omega
          have hlenz : (K : Int) ≤ (M : Int) + (K : Int) := by omega
          by_cases hck : c8 = K
          · have HEQ0 : Hid (∀ W', Ext w8 W' → Calls Try.prog 12 #[.slice (some ⟨g8, o8, none⟩) 0 0, .slice ax M cx, .func (.func 13) #[] #[]] W' fun e w' => e = .returned (.bool true) ∧ Ext W' w') := Lib.hid (fun W' hW => by
              have hM0 : M = 0 := by omega
              have hnil : X.qs[k]! = [] := List.eq_nil_of_length_eq_zero (by rw [← HMX.out]; exact hM0)
              have hix := HIX.out.ext rints_lasts (HE45.out.trans' (HE56.out.trans' (HE68.out.trans' hW)))
              rw [hnil] at hix
              rw [hM0] at hix ⊢
              exact equalFunc_eq _ _ [] W' (Sl.zero _ _ _ _) hix (by simp) (fun i hi => absurd hi (by simp)))
            obtain rfl : K = c8 := hck.symm
            go_region_held3 (fun w' => w'.cell? ⟨w4.heap.size, 0, none⟩ = some (.slice (some ⟨B2, O2, none⟩) n c2) ∧ w'.cell? ⟨B2, O2 + k, none⟩ = some (.slice ax M cx)) (go_keep)
              (first
                | (go_at_call 12
                   refine (HEQ0.out _ (by repeat (first | refine Ext.st ?_ (by first | exact Nat.le_refl _ | exact Nat.le_succ _ | assumption | omega) _ | refine Ext.al ?_ _ | refine Ext.dr ?_ | refine Ext.drN ?_ _ | exact HXC.out))).mono ?_
                   rintro e wA ⟨rfl, hA⟩
                   have hxA : Ext w8 wA := Ext.trans' (by repeat (first | refine Ext.st ?_ (by first | exact Nat.le_refl _ | exact Nat.le_succ _ | assumption | omega) _ | refine Ext.al ?_ _ | refine Ext.dr ?_ | refine Ext.drN ?_ _ | exact HXC.out)) hA
                   have HXC := Lib.hid hxA
                   have kx0 := hxA.cl x0
                   have kx1 := hxA.cl hcx8
                   clear hxA hA))
            go_wp2
            go_roundg (n - (k + 1))
            case measure => omega
            case rel => exact ⟨k + 1, by omega, by omega, by go_num, (show Ext _ _ from HE68.out.trans' (by repeat (first | refine Ext.st ?_ (by first | exact Nat.le_refl _ | exact Nat.le_succ _ | assumption | omega) _ | refine Ext.al ?_ _ | refine Ext.dr ?_ | refine Ext.drN ?_ _ | exact HXC.out)))⟩
          · have HEQ1 := Lib.hid (fun W' (hW : Ext w8 W') => equalFunc_eq (.slice (some ⟨g8, o8 + K, none⟩) M (c8 - K)) (.slice ax M cx) X.qs[k]! W' (by rw [HDR.out]; have := HSL.out.drop1 K (by rw [HLL.out]; omega); rw [Nat.add_sub_cancel] at this; exact this.ext rints_lasts hW) (HIX.out.ext rints_lasts (HE45.out.trans' (HE56.out.trans' (HE68.out.trans' hW)))) (by rw [← HMX.out]; omega) (fun i hi => (HXSM.out.2.2.2 k (by rw [HXL.out]; exact hlt)).2 i hi))
            have hckn : K < c8 := by omega
            have hckz : (K : Int) < (c8 : Int) := by omega
            go_region_held3 (fun w' => w'.cell? ⟨w4.heap.size, 0, none⟩ = some (.slice (some ⟨B2, O2, none⟩) n c2) ∧ w'.cell? ⟨B2, O2 + k, none⟩ = some (.slice ax M cx)) (go_keep)
              (first
                | (go_at_call 12
                   refine (HEQ1.out _ (by repeat (first | refine Ext.st ?_ (by first | exact Nat.le_refl _ | exact Nat.le_succ _ | assumption | omega) _ | refine Ext.al ?_ _ | refine Ext.dr ?_ | refine Ext.drN ?_ _ | exact HXC.out))).mono ?_
                   rintro e wA ⟨rfl, hA⟩
                   have hxA : Ext w8 wA := Ext.trans' (by repeat (first | refine Ext.st ?_ (by first | exact Nat.le_refl _ | exact Nat.le_succ _ | assumption | omega) _ | refine Ext.al ?_ _ | refine Ext.dr ?_ | refine Ext.drN ?_ _ | exact HXC.out)) hA
                   have HXC := Lib.hid hxA
                   have kx0 := hxA.cl x0
                   have kx1 := hxA.cl hcx8
                   clear hxA hA))
            go_wp2
            go_roundg (n - (k + 1))
            case measure => omega
            case rel => exact ⟨k + 1, by omega, by omega, by go_num, (show Ext _ _ from HE68.out.trans' (by repeat (first | refine Ext.st ?_ (by first | exact Nat.le_refl _ | exact Nat.le_succ _ | assumption | omega) _ | refine Ext.al ?_ _ | refine Ext.dr ?_ | refine Ext.drN ?_ _ | exact HXC.out)))⟩
        · have hkPz : ((k : Int) == (P : Int)) = false := by simp; omega
          have HALL := Lib.hid (show allQ s P lv k = s.qs[k]! from by rw [allQ, if_neg hkP])
          have HMK := Lib.hid (show m = M + K from by rw [HM.out, ← HALL.out]; exact HLL.out)
          have HSL0 := Lib.hid (show Sl RInts 1 w7 v7 (allQ s P lv k) from by rw [HALL.out]; exact sl_of_cells hR7.cells HM.out.symm (fun i hi => (HXI.out i hi).ext HEW7.out))
          have hcx8 := (HE45.out.trans' (HE56.out.trans' HE67.out)).cl hcx
          have x0 := cellOf HXB7.out 0
          simp only [List.getElem?_toArray, List.getElem?_cons_zero] at x0
          rcases hR7.2 with ⟨rfl, hm0⟩ | ⟨g8, o8, c8, cur, rfl, _, _, hmc8, _⟩
          · have hM0 : M = 0 := by have := HMK.out; omega
            have hK0 : K = 0 := by have := HMK.out; omega
            have hnil : X.qs[k]! = [] := List.eq_nil_of_length_eq_zero (by rw [← HMX.out]; exact hM0)
            clear hsub hKz bK hMKb hR7
            obtain rfl : m = 0 := hm0
            obtain rfl : M = 0 := hM0
            obtain rfl : K = 0 := hK0
            have HEQ0 := Lib.hid (fun W' (hW : Ext w7 W') => equalFunc_eq (.slice none 0 0) (.slice ax 0 cx) [] W' (Sl.zero _ _ _ _) (Sl.zero _ _ _ _) (by simp) (fun i hi => absurd hi (by simp)))
            clear hnil
            have HXC := Lib.hid (Ext.rf w7)
            go_wp2
            go_region_held3 (fun w' => w'.cell? ⟨w4.heap.size, 0, none⟩ = some (.slice (some ⟨B2, O2, none⟩) n c2) ∧ w'.cell? ⟨B2, O2 + k, none⟩ = some (.slice ax 0 cx)) (go_keep)
              (first
                | (go_at_call 12
                   refine (HEQ0.out _ (by repeat (first | refine Ext.st ?_ (by first | exact Nat.le_refl _ | exact Nat.le_succ _ | assumption | omega) _ | refine Ext.al ?_ _ | refine Ext.dr ?_ | refine Ext.drN ?_ _ | exact HXC.out))).mono ?_
                   rintro e wA ⟨rfl, hA⟩
                   have hxA : Ext w7 wA := Ext.trans' (by repeat (first | refine Ext.st ?_ (by first | exact Nat.le_refl _ | exact Nat.le_succ _ | assumption | omega) _ | refine Ext.al ?_ _ | refine Ext.dr ?_ | refine Ext.drN ?_ _ | exact HXC.out)) hA
                   have HXC := Lib.hid hxA
                   have kx0 := hxA.cl x0
                   have kx1 := hxA.cl hcx8
                   clear hxA hA))
            go_wp2
            go_roundg (n - (k + 1))
            case measure => omega
            case rel => exact ⟨k + 1, by omega, by omega, by go_num, (show Ext _ _ from HE67.out.trans' (by repeat (first | refine Ext.st ?_ (by first | exact Nat.le_refl _ | exact Nat.le_succ _ | assumption | omega) _ | refine Ext.al ?_ _ | refine Ext.dr ?_ | refine Ext.drN ?_ _ | exact HXC.out)))⟩
          · obtain rfl : m = M + K := HMK.out
            have HSL := HSL0
            clear hR7
            go_wp2
            have HXC := Lib.hid (Ext.rf w7)
            have hcapz : (K : Int) ≤ (c8 : Int) := by omega
            have hlenz : (K : Int) ≤ (M : Int) + (K : Int) := by omega
            by_cases hck : c8 = K
            · have HEQ0 : Hid (∀ W', Ext w7 W' → Calls Try.prog 12 #[.slice (some ⟨g8, o8, none⟩) 0 0, .slice ax M cx, .func (.func 13) #[] #[]] W' fun e w' => e = .returned (.bool true) ∧ Ext W' w') := Lib.hid (fun W' hW => by
                have hM0 : M = 0 := by omega
                have hnil : X.qs[k]! = [] := List.eq_nil_of_length_eq_zero (by rw [← HMX.out]; exact hM0)
                have hix := HIX.out.ext rints_lasts (HE45.out.trans' (HE56.out.trans' (HE67.out.trans' hW)))
                rw [hnil] at hix
                rw [hM0] at hix ⊢
                exact equalFunc_eq _ _ [] W' (Sl.zero _ _ _ _) hix (by simp) (fun i hi => absurd hi (by simp)))
              obtain rfl : K = c8 := hck.symm
              go_region_held3 (fun w' => w'.cell? ⟨w4.heap.size, 0, none⟩ = some (.slice (some ⟨B2, O2, none⟩) n c2) ∧ w'.cell? ⟨B2, O2 + k, none⟩ = some (.slice ax M cx)) (go_keep)
                (first
                  | (go_at_call 12
                     refine (HEQ0.out _ (by repeat (first | refine Ext.st ?_ (by first | exact Nat.le_refl _ | exact Nat.le_succ _ | assumption | omega) _ | refine Ext.al ?_ _ | refine Ext.dr ?_ | refine Ext.drN ?_ _ | exact HXC.out))).mono ?_
                     rintro e wA ⟨rfl, hA⟩
                     have hxA : Ext w7 wA := Ext.trans' (by repeat (first | refine Ext.st ?_ (by first | exact Nat.le_refl _ | exact Nat.le_succ _ | assumption | omega) _ | refine Ext.al ?_ _ | refine Ext.dr ?_ | refine Ext.drN ?_ _ | exact HXC.out)) hA
                     have HXC := Lib.hid hxA
                     have kx0 := hxA.cl x0
                     have kx1 := hxA.cl hcx8
                     clear hxA hA))
              go_wp2
              go_roundg (n - (k + 1))
              case measure => omega
              case rel => exact ⟨k + 1, by omega, by omega, by go_num, (show Ext _ _ from HE67.out.trans' (by repeat (first | refine Ext.st ?_ (by first | exact Nat.le_refl _ | exact Nat.le_succ _ | assumption | omega) _ | refine Ext.al ?_ _ | refine Ext.dr ?_ | refine Ext.drN ?_ _ | exact HXC.out)))⟩
            · have HEQ1 := Lib.hid (fun W' (hW : Ext w7 W') => equalFunc_eq (.slice (some ⟨g8, o8 + K, none⟩) M (c8 - K)) (.slice ax M cx) X.qs[k]! W' (by rw [HDR.out]; have := HSL.out.drop1 K (by rw [HLL.out]; omega); rw [Nat.add_sub_cancel] at this; exact this.ext rints_lasts hW) (HIX.out.ext rints_lasts (HE45.out.trans' (HE56.out.trans' (HE67.out.trans' hW)))) (by rw [← HMX.out]; omega) (fun i hi => (HXSM.out.2.2.2 k (by rw [HXL.out]; exact hlt)).2 i hi))
              have hckn : K < c8 := by omega
              have hckz : (K : Int) < (c8 : Int) := by omega
              go_region_held3 (fun w' => w'.cell? ⟨w4.heap.size, 0, none⟩ = some (.slice (some ⟨B2, O2, none⟩) n c2) ∧ w'.cell? ⟨B2, O2 + k, none⟩ = some (.slice ax M cx)) (go_keep)
                (first
                  | (go_at_call 12
                     refine (HEQ1.out _ (by repeat (first | refine Ext.st ?_ (by first | exact Nat.le_refl _ | exact Nat.le_succ _ | assumption | omega) _ | refine Ext.al ?_ _ | refine Ext.dr ?_ | refine Ext.drN ?_ _ | exact HXC.out))).mono ?_
                     rintro e wA ⟨rfl, hA⟩
                     have hxA : Ext w7 wA := Ext.trans' (by repeat (first | refine Ext.st ?_ (by first | exact Nat.le_refl _ | exact Nat.le_succ _ | assumption | omega) _ | refine Ext.al ?_ _ | refine Ext.dr ?_ | refine Ext.drN ?_ _ | exact HXC.out)) hA
                     have HXC := Lib.hid hxA
                     have kx0 := hxA.cl x0
                     have kx1 := hxA.cl hcx8
                     clear hxA hA))
              go_wp2
              go_roundg (n - (k + 1))
              case measure => omega
              case rel => exact ⟨k + 1, by omega, by omega, by go_num, (show Ext _ _ from HE67.out.trans' (by repeat (first | refine Ext.st ?_ (by first | exact Nat.le_refl _ | exact Nat.le_succ _ | assumption | omega) _ | refine Ext.al ?_ _ | refine Ext.dr ?_ | refine Ext.drN ?_ _ | exact HXC.out)))⟩
      · have hltz : ¬ (k : Int) < (n : Int) := by omega
        obtain rfl : n = k := by omega
        have x0 := cellOf HXBK.out 0
        have x1 := cellOf HXBK.out 1
        have x2 := cellOf HXBK.out 2
        have x3 := cellOf HXBK.out 3
        simp only [List.getElem?_toArray, List.getElem?_cons_zero, List.getElem?_cons_succ] at x0 x1 x2 x3
        cases d2 with
        | false =>
          have hc0 : cl2 = 0 := by rw [← HCL2.out, cut_none HXV.out HD2.out]; rfl
          obtain rfl : cl2 = 0 := hc0
          go_wp2
          go_ret
          exact ⟨rfl, HEWK.out⟩
        | true =>
          by_cases hc0 : cl2 = 0
          · obtain rfl : cl2 = 0 := hc0
            go_wp2
            go_ret
            exact ⟨rfl, HEWK.out⟩
          · have bc : ((cl2 : Int) == 0) = false := by simp; omega
            obtain ⟨_, hcn, hover⟩ := cut_over HXV.out (fun e => hc0 (by rw [← HCL2.out, e]; rfl))
            rw [HCL2.out, HXL.out] at hcn
            rw [HXL.out] at hover
            obtain rfl : cl2 = n := hcn
            have HOV := Lib.hid hover
            have bnn : ((cl2 : Int) == (cl2 : Int)) = true := by simp
            clear hover
            obtain ⟨w9, rfl⟩ : ∃ x, x = wr := ⟨_, rfl⟩
            go_wp2
            clear x0 x1 x2 x3
            go_loopg [13, 119] cl2 (fun g _ s119 wr => ∃ k : Nat, k ≤ cl2 ∧ cl2 - k ≤ g ∧ s119 = .int .i64 k ∧ Aside (Ext w9 wr))
            case atStart => exact ⟨0, Nat.zero_le _, by omega, rfl, Ext.rf _⟩
            case round =>
              obtain ⟨k, hk, hg, rfl, HEJ⟩ := hrel
              have HXBJ := Lib.hid (HEJ.out.hp HXBK.out)
              have HE4J := Lib.hid (HE45.out.trans' (HE56.out.trans' (HEK.out.trans' HEJ.out)))
              have x0 := cellOf HXBJ.out 0
              have x1 := cellOf HXBJ.out 1
              have x2 := cellOf HXBJ.out 2
              have x3 := cellOf HXBJ.out 3
              simp only [List.getElem?_toArray, List.getElem?_cons_zero, List.getElem?_cons_succ] at x0 x1 x2 x3
              by_cases hlt : k < cl2
              · have hltz : (k : Int) < (cl2 : Int) := by omega
                have hkz : (0 : Int) ≤ (k : Int) := by omega
                obtain ⟨B2, O2, C2, ax, M, cx, hue2, hcx, hM, hMc, hix⟩ := queue_at HC4'.out.1 k (by rw [HXL.out]; exact hlt)
                simp only [Value.slice.injEq] at hue2
                obtain ⟨rfl, hnn2, rfl⟩ := hue2
                obtain ⟨hM0, hle⟩ := HOV.out k hlt
                rw [← hM] at hM0
                obtain ⟨b, o, sv, rfl, hci, hsv⟩ := stamp_at hix 0 (by rw [← hM]; exact hM0)
                rw [Nat.add_zero] at hci
                have hcx9 := HE4J.out.cl hcx
                have hci9 := HE4J.out.cl hci
                have hst := HXSM.out.2.2.2 k (by rw [HXL.out]; exact hlt)
                have hst0 := hst.2 0 (by rw [← hM]; exact hM0)
                have hvq := form_parts.1 (valid_parts.1 HXV.out).1
                have hsl := stamp_len ((queue_parts.1 (hvq.2.2.2 k (by rw [HXL.out]; exact hlt))).2 0 (by rw [← hM]; exact hM0)).1
                rw [HXL.out] at hsl
                have HLQ := Lib.hid (fun W (hW : Ext w4 W) => leq_true sv (.slice ca2 cl2 cc2) X.qs[k]![0]! X.cut W (hsv.ext hW) (HC4'.out.2.2.ext hW) hst0 (by rw [HCL2.out, hsl]; exact Nat.le_refl _) hle)
                have bM : ((M : Int) == 0) = false := by simp; omega
                have bMn : (M == 0) = false := by simp; omega
                have hMz : (0 : Int) < (M : Int) := by omega
                clear hcx hci hst hst0 hvq hsl hsv hix hle hnn2 hM
                go_wp2
                go_quiet ((go_at_call 14; exact drawn_quiet (HLQ.out _ (HE4J.out.drN _))))
                go_wp2
                go_roundg (cl2 - (k + 1))
                case measure => omega
                case rel => exact ⟨k + 1, by omega, by omega, by go_num, (show Ext _ _ from HEJ.out.drN _)⟩
              · have hltz : ¬ (k : Int) < (cl2 : Int) := by omega
                go_wp2
                go_ret
                exact ⟨rfl, HEWK.out.trans' HEJ.out⟩

end Go.Proofs.Ytdcahdcnoeomhaa
