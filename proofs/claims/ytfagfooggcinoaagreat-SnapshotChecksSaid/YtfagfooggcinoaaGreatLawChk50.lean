/-
  The statement SnapshotChecks, walked.
-/
import Derived.Test.YtfagfooggcinoaaGreatJa
import Derived.Test.YtfagfooggcinoaaGreatProg
import Derived.BigQuiet
import Derived.Deep.QuietTactic
import Derived.Deep.LoopGhost
import Derived.Shelf.Abstract
import Derived.Test.YtfagfooggcinoaaGreatGk
import Derived.Test.YtfagfooggcinoaaGreatGm
import Derived.Test.YtfagfooggcinoaaGreatGp
import Derived.Test.YtfagfooggcinoaaGreatGr
import Derived.Test.YtfagfooggcinoaaGreatGs
namespace Go.Proofs.YtfagfooggcinoaaGreat
open Go.RowKit
set_option linter.unusedVariables false
set_option maxHeartbeats 8000000 in
set_option maxRecDepth 100000 in
theorem snapshotChecks_calls (v rv lv : Value) (t : Tr) (r : List (List Int)) (a : Int) (l : List Mk) (w : World) (h : TrAt w v t) (htop : TopTr t) (hrv : Sl RInts 1 w rv r) (hlv : Sl RMk 3 w lv l) :
  Calls Tryz.prog 7 #[.agg #[v], rv, .int .i64 a, lv] w fun e w' => e = .returned (.bool true) ∧ Ext w w' := by
 have HSHT := Lib.hid (fun W (hW : Ext w W) => short_calls rv r W (Sl.ext rints_lasts hrv hW))
 have HLG := Lib.hid (fun W (hW : Ext w W) => light_calls lv l W (Sl.ext rmk_lasts hlv hW))
 have HRV := Lib.hid hrv
 have HLV := Lib.hid hlv
 obtain ⟨ra, rc, rfl, hrc⟩ := hrv.sh
 obtain ⟨la, lc, rfl, hlc⟩ := hlv.sh
 obtain ⟨R, hR⟩ : ∃ R, r.length = R := ⟨_, rfl⟩
 rw [hR] at HSHT HRV ⊢
 obtain ⟨k, hk⟩ : ∃ k, l.length = k := ⟨_, rfl⟩
 rw [hk] at HLG HLV ⊢
 obtain ⟨sb, hsb⟩ : ∃ b, shortB r = b := ⟨_, rfl⟩
 rw [hsb] at HSHT
 have HSB := Lib.hid hsb
 obtain ⟨lb, hlb⟩ : ∃ b, lightB l = b := ⟨_, rfl⟩
 rw [hlb] at HLG
 have HLB := Lib.hid hlb
 clear hrv hlv hrc hlc hR hk hsb hlb
 have HT := Lib.hid h
 have HFC := Lib.hid (fun W (hW : Ext w W) => few50_calls v t W (h.ext hW) htop)
 obtain ⟨ta, tc, rfl, htc⟩ := h.sh
 obtain ⟨tn, htn⟩ : ∃ n, t.length = n := ⟨_, rfl⟩
 rw [htn] at HFC HT ⊢
 have HTN := Lib.hid htn
 have HX0 := Lib.hid (heap_alloc_new w (.cells #[.slice ta tn tc] 24))
 have HE1 := Lib.hid ((Ext.rf w).al (.cells #[.slice ta tn tc] 24))
 obtain ⟨fw, hfw⟩ : ∃ b, few50 t = b := ⟨_, rfl⟩
 rw [hfw] at HFC
 have HFW := Lib.hid hfw
 clear h htop hfw htc htn
 go_enter Tryz.func7, Tryz.ntmps7
 go_wp2_with fail
 refine (awake50_calls _).mono ?_
 rintro e w2 ⟨rfl, hX2⟩
 have HE2 := Lib.hid (HE1.out.trans' hX2)
 have HY2 := Lib.hid (hX2.hp HX0.out)
 have t2 := cellOf HY2.out 0
 simp only [List.getElem?_toArray, List.getElem?_cons_zero] at t2
 clear hX2
 go_wp2_with fail
 refine (HFC.out _ HE2.out).mono ?_
 rintro e w3 ⟨rfl, hX3⟩
 have HE3 := Lib.hid (HE2.out.trans' hX3)
 have HY3 := Lib.hid (hX3.hp HY2.out)
 have t3 := cellOf HY3.out 0
 simp only [List.getElem?_toArray, List.getElem?_cons_zero] at t3
 clear hX3 t2
 cases fw with
 | false =>
   go_wp2_with fail
   refine (awake50_calls _).mono ?_
   rintro e w4 ⟨rfl, hX4⟩
   go_wp2
   go_ret
   exact ⟨rfl, HE3.out.trans' hX4⟩
 | true =>
 have HLO := Lib.hid (few50_loose HFW.out)
 go_wp2_with fail
 refine (HSHT.out _ HE3.out).mono ?_
 rintro e w4 ⟨rfl, hX4⟩
 have HE4 := Lib.hid (HE3.out.trans' hX4)
 have HY4 := Lib.hid (hX4.hp HY3.out)
 have t4 := cellOf HY4.out 0
 simp only [List.getElem?_toArray, List.getElem?_cons_zero] at t4
 have HXX4 := Lib.hid hX4
 clear hX4 t3
 cases sb with
 | false =>
   go_wp2_with fail
   refine (awake50_calls _).mono ?_
   rintro e w99 ⟨rfl, hX99⟩
   go_wp2
   go_ret
   exact ⟨rfl, HE4.out.trans' hX99⟩
 | true =>
 have HSO := Lib.hid (shortB_ok HSB.out)
 go_wp2_with fail
 refine (HLG.out _ HE4.out).mono ?_
 rintro e w5 ⟨rfl, hX5⟩
 have HE5 := Lib.hid (HE4.out.trans' hX5)
 have HY5 := Lib.hid (hX5.hp HY4.out)
 have t5 := cellOf HY5.out 0
 simp only [List.getElem?_toArray, List.getElem?_cons_zero] at t5
 have HXX5 := Lib.hid hX5
 clear hX5 t4
 cases lb with
 | false =>
   go_wp2_with fail
   refine (awake50_calls _).mono ?_
   rintro e w99 ⟨rfl, hX99⟩
   go_wp2
   go_ret
   exact ⟨rfl, HE5.out.trans' hX99⟩
 | true =>
 have HLI := Lib.hid (lightB_ok HLB.out).1
 have hn2 : t.length ≤ 1000 := by have := HLO.out.2; omega
 have HL1 := Lib.hid (snapLine_calls _ _ _ t r a l w5 (HT.out.ext HE5.out) HLO.out.1 (Sl.ext rints_lasts HRV.out HE5.out) hn2 (by have := HSO.out.1; omega) (fun i hi => by have := HSO.out.2 i hi; omega) (Sl.ext rmk_lasts HLV.out HE5.out) HLI.out)
 have HL2 := Lib.hid (fun W (hW : Ext w W) => lineR_calls _ _ _ t r a l W (HT.out.ext hW) HLO.out.1 (Sl.ext rints_lasts HRV.out hW) hn2 (by have := HSO.out.1; omega) (fun i hi => by have := HSO.out.2 i hi; omega) (Sl.ext rmk_lasts HLV.out hW) HLI.out)
 have HC1 := Lib.hid (fun W (hW : Ext w W) => snapCheck_calls _ _ t l W (HT.out.ext hW) HLO.out.1 (Sl.ext rmk_lasts HLV.out hW) HLI.out)
 have HC2 := Lib.hid (fun W (hW : Ext w W) => checkR_calls _ _ t l W (HT.out.ext hW) HLO.out.1 (Sl.ext rmk_lasts HLV.out hW) HLI.out)
 generalize lineB t r a l = ob at *
 generalize lineE t r a l = oe at *
 generalize checkB t l = cb at *
 clear hn2
 go_wp2_with fail
 refine (HL1.out).mono ?_
 rintro e w6 ⟨rfl, hX6⟩
 have HE6 := Lib.hid (HE5.out.trans' hX6)
 have HY6 := Lib.hid (hX6.hp HY5.out)
 have t6 := cellOf HY6.out 0
 simp only [List.getElem?_toArray, List.getElem?_cons_zero] at t6
 have HXX6 := Lib.hid hX6
 clear hX6 t5
 go_wp2_with fail
 refine (HL2.out _ HE6.out).mono ?_
 rintro e w7 ⟨rfl, hX7⟩
 have HE7 := Lib.hid (HE6.out.trans' hX7)
 have HY7 := Lib.hid (hX7.hp HY6.out)
 have t7 := cellOf HY7.out 0
 simp only [List.getElem?_toArray, List.getElem?_cons_zero] at t7
 have HXX7 := Lib.hid hX7
 clear hX7 t6
 have d1 : (cb == cb) = true := by simp
 have d2 : (ob == ob) = true := by simp
 have d3 : (oe == oe) = true := by simp
 go_upto_region 5 with (fail)
 refine wp_region_tail (fun W => W.cell? ⟨w.heap.size, 0, none⟩ = some (.slice ta tn tc)) 17 (by kernel_rfl) t7 (fun hHeld => ?_)
 refine wpAnyT_take (i := 0) (d := some 47) (v := ?_) rfl rfl (by kernel_rfl) (by kernel_rfl) (by kernel_rfl) (by kernel_rfl) (fun _ _ _ h => h) (Or.inl ⟨by kernel_rfl, ?_⟩) (by assumption) ?_
 rotate_left
 ·(intro w hSw; (try dsimp only at hSw); go_simp; try (with_reducible rfl))
 try simp only [Act.put]
 try simp only [List.setIfInBounds_toArray]
 try simp only [List.set_cons_zero, List.set_cons_succ]
 refine wpAnyT_take (i := 1) (d := some 48) (v := ?_) rfl rfl (by kernel_rfl) (by kernel_rfl) (by kernel_rfl) (by kernel_rfl) (fun _ _ _ h => h) (Or.inl ⟨by kernel_rfl, ?_⟩) (by assumption) ?_
 rotate_left
 ·(intro w hSw; (try dsimp only at hSw); go_simp; try (with_reducible rfl))
 try simp only [Act.put]
 try simp only [List.setIfInBounds_toArray]
 try simp only [List.set_cons_zero, List.set_cons_succ]
 refine wpAnyT_take (i := 3) (d := some 50) (v := ?_) rfl rfl (by kernel_rfl) (by kernel_rfl) (by kernel_rfl) (by kernel_rfl) (fun _ _ _ h => h) (Or.inl ⟨by kernel_rfl, ?_⟩) (by assumption) ?_
 rotate_left
 ·(intro w hSw; (try dsimp only at hSw); go_simp; try (with_reducible rfl))
 try simp only [Act.put]
 try simp only [List.setIfInBounds_toArray]
 try simp only [List.set_cons_zero, List.set_cons_succ]
 refine wpAnyT_take (i := 4) (d := some 51) (v := ?_) rfl rfl (by kernel_rfl) (by kernel_rfl) (by kernel_rfl) (by kernel_rfl) (fun _ _ _ h => h) (Or.inl ⟨by kernel_rfl, ?_⟩) (by assumption) ?_
 rotate_left
 ·(intro w hSw; (try dsimp only at hSw); go_simp; try (with_reducible rfl))
 try simp only [Act.put]
 try simp only [List.setIfInBounds_toArray]
 try simp only [List.set_cons_zero, List.set_cons_succ]
 refine wpAnyT_step (i := 2) (o := ⟨some 49, _, _, _, _, _⟩) (by kernel_rfl) rfl (fun K hK => ?_)
 refine step_callW (by kernel_rfl) 30 _ _ rfl enters_30 [.agg #[.slice ta tn tc], .slice la k lc] (by first | rfl | kernel_rfl | go_simp) (HC1.out _ (HE7.out.trans' (Ext.rf w7).dr)) ?_
 rintro e y1 ⟨rfl, hX⟩
 refine ⟨_, rfl, ?_⟩
 have HY1 := Lib.hid ((Ext.rf w7).dr.trans' hX)
 clear hX
 refine hK.out _ _ ?_ (fun hHeld => ?_)
 ·(try dsimp only)
  exact HY1.out.cl t7
 clear hK K
 try simp only [Act.put]
 try simp only [List.setIfInBounds_toArray]
 try simp only [List.set_cons_zero, List.set_cons_succ]
 refine wpAnyT_step (i := 5) (o := ⟨some 52, _, _, _, _, _⟩) (by kernel_rfl) rfl (fun K hK => ?_)
 refine step_callW (by kernel_rfl) 34 _ _ rfl enters_34 [.agg #[.slice ta tn tc], .slice la k lc] (by first | rfl | kernel_rfl | go_simp) (HC2.out _ (HE7.out.trans' HY1.out)) ?_
 rintro e y2 ⟨rfl, hX⟩
 refine ⟨_, rfl, ?_⟩
 have HY2 := Lib.hid (HY1.out.trans' hX)
 clear hX
 refine hK.out _ _ ?_ (fun hHeld => ?_)
 ·(try dsimp only)
  exact HY2.out.cl t7
 clear hK K
 try simp only [Act.put]
 try simp only [List.setIfInBounds_toArray]
 try simp only [List.set_cons_zero, List.set_cons_succ]
 refine wpAnyT_take (i := 6) (d := some 53) (v := ?_) rfl rfl (by kernel_rfl) (by kernel_rfl) (by kernel_rfl) (by kernel_rfl) (fun _ _ _ h => h) (Or.inl ⟨by kernel_rfl, ?_⟩) (by assumption) ?_
 rotate_left
 ·(intro w hSw; (try dsimp only at hSw); go_simp; try (with_reducible rfl))
 try simp only [Act.put]
 try simp only [List.setIfInBounds_toArray]
 try simp only [List.set_cons_zero, List.set_cons_succ]
 refine wpAnyT_take (i := 7) (d := some 54) (v := ?_) rfl rfl (by kernel_rfl) (by kernel_rfl) (by kernel_rfl) (by kernel_rfl) (fun _ _ _ h => h) (Or.inl ⟨by kernel_rfl, ?_⟩) (by assumption) ?_
 rotate_left
 ·(intro w hSw; (try dsimp only at hSw); go_simp; try (with_reducible rfl))
 try simp only [Act.put]
 try simp only [List.setIfInBounds_toArray]
 try simp only [List.set_cons_zero, List.set_cons_succ]
 refine wpAnyT_take (i := 8) (d := some 55) (v := ?_) rfl rfl (by kernel_rfl) (by kernel_rfl) (by kernel_rfl) (by kernel_rfl) (fun _ _ _ h => h) (Or.inl ⟨by kernel_rfl, ?_⟩) (by assumption) ?_
 rotate_left
 ·(intro w hSw; (try dsimp only at hSw); go_simp; try (with_reducible rfl))
 try simp only [Act.put]
 try simp only [List.setIfInBounds_toArray]
 try simp only [List.set_cons_zero, List.set_cons_succ]
 refine wpAnyT_take (i := 9) (d := some 56) (v := ?_) rfl rfl (by kernel_rfl) (by kernel_rfl) (by kernel_rfl) (by kernel_rfl) (fun _ _ _ h => h) (Or.inl ⟨by kernel_rfl, ?_⟩) (by assumption) ?_
 rotate_left
 ·(intro w hSw; (try dsimp only at hSw); go_simp; try (with_reducible rfl))
 try simp only [Act.put]
 try simp only [List.setIfInBounds_toArray]
 try simp only [List.set_cons_zero, List.set_cons_succ]
 refine wpAnyT_take (i := 10) (d := some 57) (v := ?_) rfl rfl (by kernel_rfl) (by kernel_rfl) (by kernel_rfl) (by kernel_rfl) (fun _ _ _ h => h) (Or.inl ⟨by kernel_rfl, ?_⟩) (by assumption) ?_
 rotate_left
 ·(intro w hSw; (try dsimp only at hSw); go_simp; try (with_reducible rfl))
 try simp only [Act.put]
 try simp only [List.setIfInBounds_toArray]
 try simp only [List.set_cons_zero, List.set_cons_succ]
 refine wpAnyT_take (i := 11) (d := some 58) (v := ?_) rfl rfl (by kernel_rfl) (by kernel_rfl) (by kernel_rfl) (by kernel_rfl) (fun _ _ _ h => h) (Or.inl ⟨by kernel_rfl, ?_⟩) (by assumption) ?_
 rotate_left
 ·(intro w hSw; (try dsimp only at hSw); go_simp; try (with_reducible rfl))
 try simp only [Act.put]
 try simp only [List.setIfInBounds_toArray]
 try simp only [List.set_cons_zero, List.set_cons_succ]
 refine wpAnyT_take (i := 12) (d := some 59) (v := ?_) rfl rfl (by kernel_rfl) (by kernel_rfl) (by kernel_rfl) (by kernel_rfl) (fun _ _ _ h => h) (Or.inl ⟨by kernel_rfl, ?_⟩) (by assumption) ?_
 rotate_left
 ·(intro w hSw; (try dsimp only at hSw); go_simp; try (with_reducible rfl))
 try simp only [Act.put]
 try simp only [List.setIfInBounds_toArray]
 try simp only [List.set_cons_zero, List.set_cons_succ]
 refine wpAnyT_take (i := 13) (d := some 60) (v := ?_) rfl rfl (by kernel_rfl) (by kernel_rfl) (by kernel_rfl) (by kernel_rfl) (fun _ _ _ h => h) (Or.inl ⟨by kernel_rfl, ?_⟩) (by assumption) ?_
 rotate_left
 ·(intro w hSw; (try dsimp only at hSw); go_simp; try (with_reducible rfl))
 try simp only [Act.put]
 try simp only [List.setIfInBounds_toArray]
 try simp only [List.set_cons_zero, List.set_cons_succ]
 refine wpAnyT_take (i := 14) (d := some 61) (v := ?_) rfl rfl (by kernel_rfl) (by kernel_rfl) (by kernel_rfl) (by kernel_rfl) (fun _ _ _ h => h) (Or.inl ⟨by kernel_rfl, ?_⟩) (by assumption) ?_
 rotate_left
 ·(intro w hSw; (try dsimp only at hSw); go_simp; try (with_reducible rfl))
 try simp only [Act.put]
 try simp only [List.setIfInBounds_toArray]
 try simp only [List.set_cons_zero, List.set_cons_succ]
 refine wpAnyT_take (i := 15) (d := some 62) (v := ?_) rfl rfl (by kernel_rfl) (by kernel_rfl) (by kernel_rfl) (by kernel_rfl) (fun _ _ _ h => h) (Or.inl ⟨by kernel_rfl, ?_⟩) (by assumption) ?_
 rotate_left
 ·(intro w hSw; (try dsimp only at hSw); go_simp; try (with_reducible rfl))
 try simp only [Act.put]
 try simp only [List.setIfInBounds_toArray]
 try simp only [List.set_cons_zero, List.set_cons_succ]
 refine wpAnyT_take (i := 16) (d := some 63) (v := ?_) rfl rfl (by kernel_rfl) (by kernel_rfl) (by kernel_rfl) (by kernel_rfl) (fun _ _ _ h => h) (Or.inl ⟨by kernel_rfl, ?_⟩) (by assumption) ?_
 rotate_left
 ·(intro w hSw; (try dsimp only at hSw); go_simp; try (with_reducible rfl))
 try simp only [Act.put]
 try simp only [List.setIfInBounds_toArray]
 try simp only [List.set_cons_zero, List.set_cons_succ]
 refine wpAnyT_last (by kernel_rfl) rfl (by kernel_rfl) (fun K hK => ?_)
 go_simp
 refine hK.out _ _ ?_
 go_wp2
 go_ret
 exact ⟨rfl, HE7.out.trans' HY2.out⟩
end Go.Proofs.YtfagfooggcinoaaGreat
