/-
  The law MonlogKept: its walk.
-/
import Derived.Test.YtggofkaakccoeaaBase
import Derived.Test.YtggofkaakccoeaaProg
import Derived.BigQuiet
import Derived.Deep.QuietTactic
import Derived.Deep.LoopGhost
import Derived.Shelf.Abstract
import Derived.Test.YtggofkaakccoeaaOpensL52
import Derived.Test.YtggofkaakccoeaaFnsK
import Derived.Test.YtggofkaakccoeaaKeptL52
import Derived.Test.YtggofkaakccoeaaStamp52
namespace Go.Proofs.Ytggofkaakccoeaa
open Go.RowKit
set_option linter.unusedVariables false

def RItem (w : World) (cs : List Value) (x : Int × List Int) : Prop := ∃ u, cs = [.int .i64 x.1, u] ∧ Ints w u x.2
theorem own_type {w : World} {base g : Nat} {e e' : TypeId} {size : Nat} {v : Value} {n : Nat} {xs : List Value} {cs : Array Value} {fr : Nat × Nat} (h : Row w base e size v n xs) (hg : w.heap[g]? = some (.cells cs e' fr)) (hne : e' ≠ e) : v.ownBlock ≠ some g := by
  intro hk
  rcases h.2 with ⟨rfl, _⟩ | ⟨g', off, cap, cur, rfl, _, hg', _⟩
  · simp [Value.ownBlock] at hk
  · simp [Value.ownBlock] at hk
    subst hk
    rw [hg] at hg'
    simp at hg'
    exact hne hg'.2.1
theorem Row.stt {w : World} {base g : Nat} {e e' : TypeId} {size : Nat} {v : Value} {n : Nat} {xs : List Value} {cs : Array Value} {fr : Nat × Nat} (h : Row w base e size v n xs) (hg : w.heap[g]? = some (.cells cs e' fr)) (hne : e' ≠ e) (x y z : Value) : Row (((w.setCell ⟨g, 0, none⟩ x).setCell ⟨g, 1, none⟩ y).setCell ⟨g, 2, none⟩ z) base e size v n xs := by
  have hb := own_type h hg hne
  exact ((h.st (p := ⟨g, 0, none⟩) hb x).st (p := ⟨g, 1, none⟩) hb y).st (p := ⟨g, 2, none⟩) hb z
theorem RowRows.stt {w : World} {base g : Nat} {e e' e2 : TypeId} {enc : Int → Value} {v : Value} {l : List (List Int)} {cs : Array Value} {fr : Nat × Nat} (h : RowRows w base e e' enc v l) (hg : w.heap[g]? = some (.cells cs e2 fr)) (h1 : e2 ≠ e) (h2 : e2 ≠ e') (x y z : Value) : RowRows (((w.setCell ⟨g, 0, none⟩ x).setCell ⟨g, 1, none⟩ y).setCell ⟨g, 2, none⟩ z) base e e' enc v l := by
  obtain ⟨vs, k1, k2⟩ := h
  exact ⟨vs, k1.stt hg h1 x y z, fun i hi => (k2 i hi).stt hg h2 x y z⟩
theorem RowRows.st3 {w : World} {base : Nat} {e e' : TypeId} {enc : Int → Value} {v : Value} {l : List (List Int)} {g : Nat} (h : RowRows w base e e' enc v l) (hg : g < base) (x y z : Value) : RowRows (((w.setCell ⟨g, 0, none⟩ x).setCell ⟨g, 1, none⟩ y).setCell ⟨g, 2, none⟩ z) base e e' enc v l := by
  obtain ⟨vs, h1, h2⟩ := h
  exact ⟨vs, h1.st3 hg x y z, fun i hi => (h2 i hi).st3 hg x y z⟩
theorem ritem_lasts : Lasts RItem := fun _ _ _ _ ⟨u, h, hb⟩ e => ⟨u, h, hb.ext e⟩
theorem kept_says (l : List (Int × List Int)) (w : World) (hl : ∀ r, r ∈ l → r.2.length ≤ 9223372036854775807) : SaysOf Try.prog RItem encAgg 27 #[] (fun x => !rightB x.1 x.2) l w := by
  intro x hx W vs hW hR
  obtain ⟨u, rfl, hb⟩ := hR
  exact kept1_calls x.1 u x.2 W hb (hl x hx)


set_option maxHeartbeats 4000000 in
set_option maxRecDepth 100000 in
theorem kept_many (a : Option Addr) (n c : Nat) (x y : Int) (w : World) (h : 40 < n) :
    Calls Try.prog 6 #[.int .u16 x, .slice a n c, .int .u8 y] w fun e w' => e = .returned (.bool true) ∧ Ext w w' := by
  have b1 : decide (40 < (n : Int)) = true := by simp; omega
  go_enter Try.func6, Try.ntmps6
  go_wp2_with fail
  refine (awake_calls _).mono ?_
  rintro e w1 ⟨rfl, hE1⟩
  have HE1 := Lib.hid hE1
  clear hE1
  go_wp2
  go_ret
  exact ⟨by simp, HE1.out⟩

set_option maxHeartbeats 4000000 in
set_option maxRecDepth 100000 in
theorem kept_wrong (v : Value) (l : List (Int × List Int)) (x y : Int) (w : World) (hv : Sl RItem 2 w v l) (hn : l.length ≤ 40) (hl : ∀ r, r ∈ l → r.2.length ≤ 9223372036854775807) (h : l.any (fun x => !rightB x.1 x.2) = true) :
    Calls Try.prog 6 #[.int .u16 x, v, .int .u8 y] w fun e w' => e = .returned (.bool true) ∧ Ext w w' := by
  have HC := Lib.hid (fun W (hW : Ext w W) => containsFunc_item RItem ritem_lasts _ #[] enters_27 (fun x => !rightB x.1 x.2) v l W (hv.ext ritem_lasts hW) (by omega) (kept_says l W hl))
  rw [h] at HC
  obtain ⟨a, c, rfl, hlc, hv⟩ := hv
  generalize l.length = n at *
  clear hv h hl
  have b1 : decide (40 < (n : Int)) = false := by simp; omega
  go_enter Try.func6, Try.ntmps6
  go_wp2_with fail
  refine (awake_calls _).mono ?_
  rintro e w1 ⟨rfl, hE1⟩
  have HE1 := Lib.hid hE1
  clear hE1
  go_wp2_with fail
  refine (HC.out _ HE1.out).mono ?_
  rintro e w2 ⟨rfl, hE2⟩
  have HE2 := Lib.hid (HE1.out.trans' hE2)
  clear hE2
  go_wp2
  go_ret
  exact ⟨by simp, HE2.out⟩








set_option maxHeartbeats 16000000 in
set_option maxRecDepth 100000 in
theorem kept_main (v : Value) (l : List (Int × List Int)) (F Y : Nat) (w : World) (hv : Sl RItem 2 w v l) (hn : l.length ≤ 40) (hl : ∀ r, r ∈ l → r.2.length ≤ 9223372036854775807) (hr8 : ∀ x, x ∈ l → rightB x.1 x.2 = true) (hF : F ≤ 65535) (hY : Y < 256) :
    Calls Try.prog 6 #[.int .u16 F, v, .int .u8 Y] w fun e w' => e = .returned (.bool true) ∧ Ext w w' := by
  obtain ⟨i, hi, hz0, hz1, hz2⟩ := info_parts info_bytes2
  have HC := Lib.hid (fun W (hW : Ext w W) => containsFunc_item RItem ritem_lasts _ #[] enters_27 (fun x => !rightB x.1 x.2) v l W (hv.ext ritem_lasts hW) (by omega) (kept_says l W hl))
  rw [show l.any (fun x => !rightB x.1 x.2) = false from by rw [List.any_eq_false]; intro r hr; have := hr8 r hr; simp [this]] at HC
  have HGS := Lib.hid (stamps_good hr8)
  have HSN := Lib.hid (stamps_snoc l)
  have HSL := Lib.hid (stamps_len l)
  have HR8 := Lib.hid hr8
  obtain ⟨a, c, rfl, hlc, hvc⟩ := hv
  have HVC := Lib.hid hvc
  generalize hln : l.length = n at *
  have HN := Lib.hid hln
  clear hvc hl hln hr8
  have b1 : decide (40 < (n : Int)) = false := by simp; omega
  go_enter Try.func6, Try.ntmps6
  go_wp2_with fail
  refine (awake_calls _).mono ?_
  rintro e w1 ⟨rfl, hE1⟩
  have HE1 := Lib.hid hE1
  clear hE1
  go_wp2_with fail
  refine (HC.out _ HE1.out).mono ?_
  rintro e w2 ⟨rfl, hE2⟩
  have HE2 := Lib.hid (HE1.out.trans' hE2)
  clear hE2 HE1 HC
  go_wp2_with fail
  refine (new_calls (F : Int) _).mono ?_
  rw [show newOut (F : Int) = .tuple #[.agg #[.slice none 0 0, .int .i64 0, .int .i64 F], .int .i64 0] from by unfold newOut; rw [if_neg (by omega)]]
  rintro e w3 ⟨rfl, hE3⟩
  have HE3 := Lib.hid (HE2.out.trans' hE3)
  clear hE3 HE2
  go_wp2_with fail
  generalize hB : w3.heap.size = B at *
  go_loopg [9, 10, 39] n (fun m s9 s10 s39 wr => ∃ (k f : Nat), k ≤ n ∧ n - k ≤ m ∧ s39 = .int .i64 k ∧ s10 = .bool false ∧ f ≤ 65535 ∧ Aside (∃ jv, wr.heap[B]? = some (.cells #[jv, .int .i64 ((journalL ((stampsOf l).take k)).length : Nat), .int .i64 f] 24) ∧ Row wr (B + 1) 5 1 jv (journalL ((stampsOf l).take k)).length ((journalL ((stampsOf l).take k)).map (Value.int .u8))) ∧ Aside (RowRows wr (B + 1) 22 5 (Value.int .u8) s9 ((stampsOf l).take k)) ∧ Aside (Ext w wr ∧ B < wr.heap.size))
  case atStart => exact ⟨0, F, Nat.zero_le _, by omega, rfl, rfl, hF, (show ∃ jv, _ from ⟨_, heap_new_eq hB.symm, Row.mkNil _ _ _ _⟩), RowRows.mkNil _ _ _ _ _, (show _ ∧ _ from ⟨HE3.out.al _, by simp; omega⟩)⟩
  case round =>
    obtain ⟨k, f, hk, hm, rfl, rfl, hf, HJ, HRR, HEB⟩ := hrel
    obtain ⟨jv, hj1, hj2⟩ := HJ.out
    have hsB : w.heap.size ≤ B := by have := HE3.out.sz; omega
    have hsw := HEB.out.1.sz
    have hBw := HEB.out.2
    have hgk := HGS.out.take k
    have hkl : ((stampsOf l).take k).length = k := by rw [List.length_take, HSL.out]; omega
    have hjl := journal_small hgk (by omega)
    have hhj := holds_journal hgk
    obtain ⟨wvs, hwr, hwe⟩ := HRR.out
    rw [hkl] at hwr
    have HKL := Lib.hid hkl
    obtain ⟨wa, wc, rfl, hwc, hsh⟩ := hwr.any
    have HWR := Lib.hid hwr
    have HWE := Lib.hid (fun i (hi : i < ((stampsOf l).take k).length) => hwe i hi)
    clear hsh hwr hwe
    by_cases hlt : k < n
    · have hltz : (k : Int) < (n : Int) := by omega
      obtain ⟨ja, jc, rfl, hjc, hsh⟩ := hj2.any
      clear hsh
      obtain ⟨b, off, rfl, hb, hc⟩ := HVC.out (by intro e; have := HN.out; simp [e] at this; omega)
      obtain ⟨vs, hvl, ⟨u, rfl, hu⟩, hcx⟩ := hc k hlt
      obtain ⟨p0, p1, u1, hany⟩ := right_parts (HR8.out _ (mem_at l k (by rw [HN.out]; exact hlt)))
      have hsn := HSN.out k hlt
      have hgk1 := HGS.out.take (k + 1)
      have hcell0 : wr.cell? ⟨b, off + k * 2, none⟩ = some (.int .i64 l[k]!.1) := HEB.out.1.cl (hcx 0 (by omega))
      have hcell1 : wr.cell? ⟨b, off + k * 2 + 1, none⟩ = some u := HEB.out.1.cl (hcx 1 (by omega))
      have hb8 := stampL_byte (p := l[k]!.1) (v := l[k]!.2) ⟨p0, by omega⟩ (by omega)
      have hbl := stampL_len l[k]!.1 l[k]!.2
      clear hcx hc
      generalize l[k]!.1 = p at *
      generalize l[k]!.2 = us at *
      have hput := put_ok ja jc (journalL ((stampsOf l).take k)) (journalL ((stampsOf l).take k)).length f p u us (wr.alloc (.cells #[.int .i64 p, u] 54)) 0 ((hj2.bys (journalL_byte (fun r hr => (hgk r hr).1))).ext ((Ext.rf wr).al _)) (by omega) (valid_at _ _ _ (by omega) (by omega) (by omega) (by omega) (by omega)) (hu.ext (HEB.out.1.al _)) p0 p1 u1 hany (check_holds hhj hgk (by omega) _ _ _ (by omega) (valid_at _ _ _ (by omega) (by omega) (by omega) (by omega) (by omega))) rfl
      have HU := Lib.hid hu
      have HANY := Lib.hid hany
      obtain ⟨ua, uc, rfl, huc, hux⟩ := hu
      have HB8 := Lib.hid hb8
      have HBL := Lib.hid hbl
      generalize hst : stampL p us = st at *
      have HST := Lib.hid hst
      generalize hJL : (journalL ((stampsOf l).take k)).length = J at *
      generalize hUL : us.length = U at *
      have HJL := Lib.hid hJL
      have HUL := Lib.hid hUL
      have HSNK := Lib.hid hsn
      have HGK := Lib.hid hgk
      have HGK1 := Lib.hid hgk1
      have HJ1 := Lib.hid hj1
      have HJ2' := Lib.hid hj2
      clear hux hst hJL hUL hsn hgk hgk1 hj1 hj2 hany hb8 hkl
      by_cases hcr : f ≤ st.length + 8
      · obtain ⟨q1, q2, q3, q4⟩ := put_torn HGK.out f st hcr
        rw [HJL.out] at q2
        rw [q1, q2, q3, q4] at hput
        have HPUT := Lib.hid hput
        generalize hL2 : journalL ((stampsOf l).take k) ++ (recL st).take f = L2 at *
        generalize hJ2 : L2.length = J2 at *
        have HL2 := Lib.hid hL2
        have HJ2 := Lib.hid hJ2
        clear hput q1 q2 q3 q4 hL2 hJ2 hhj hbl
        have c0 := cell_of HJ1.out 0
        have c1 := cell_of HJ1.out 1
        have c2 := cell_of HJ1.out 2
        simp only [List.getElem?_toArray, List.getElem?_cons_zero, List.getElem?_cons_succ] at c0 c1 c2
        go_wp2_with fail
        refine HPUT.out.mono ?_
        rintro e w2 ⟨v2, rfl, hR2, hE2⟩
        rw [HJ2.out] at hR2
        obtain ⟨va, vc, rfl, hvl, hsh⟩ := hR2.any
        have hs2 := hE2.sz
        simp at hs2
        have HI2 := Lib.hid (hE2.hp (heap_alloc_new wr (.cells #[.int .i64 p, .slice ua U uc] 54)))
        have HB2 := Lib.hid (hE2.hp (((Ext.rf wr).al (.cells #[.int .i64 p, .slice ua U uc] 54)).hp HJ1.out))
        have HR2 := Lib.hid (hR2.mono (show B + 1 ≤ _ from by simp; omega))
        have HE2 := Lib.hid ((HEB.out.1.al (.cells #[.int .i64 p, .slice ua U uc] 54)).trans' hE2)
        have HE12 := Lib.hid (((Ext.rf wr).al (.cells #[.int .i64 p, .slice ua U uc] 54)).trans' hE2)
        clear hsh hR2 hE2 c0 c1 c2 hcell0 hcell1
        have d0 := cell_of HI2.out 0
        have d1 := cell_of HI2.out 1
        simp only [List.getElem?_toArray, List.getElem?_cons_zero, List.getElem?_cons_succ] at d0 d1
        have hn2 : wr.heap.size < w2.heap.size := by omega
        have hn2a : wr.heap.size ≠ w2.heap.size := by omega
        have hn2b : B < w2.heap.size := by omega
        go_wp2_with fail
        have hst3 := stamp_calls p (.slice ua U uc) us (w2.alloc (.cells #[.slice va J2 vc, .int .i64 (J : Nat), .int .i64 0] 24)) (HU.out.ext (HE2.out.al _)) p0 p1 (by rw [HUL.out]; exact u1) HANY.out
        rw [HUL.out, HST.out, ← HBL.out] at hst3
        have HST3 := Lib.hid hst3
        clear hst3
        refine HST3.out.mono ?_
        rintro e w3 ⟨v3, rfl, hR3, hE3⟩
        obtain ⟨xa, xc, rfl, hxl, hsh⟩ := hR3.any
        have hs3 := hE3.sz
        simp at hs3
        have HX3 := Lib.hid (hR3.mono (show B + 1 ≤ _ from by simp; omega))
        have HB3 := Lib.hid (hE3.hp (((Ext.rf w2).al (.cells #[.slice va J2 vc, .int .i64 (J : Nat), .int .i64 0] 24)).hp HB2.out))
        have HC3 := Lib.hid (hE3.hp (heap_alloc_new w2 (.cells #[.slice va J2 vc, .int .i64 (J : Nat), .int .i64 0] 24)))
        have hE23 := ((Ext.rf w2).al (.cells #[.slice va J2 vc, .int .i64 (J : Nat), .int .i64 0] 24)).trans' hE3
        have HE3' := Lib.hid (HE2.out.trans' hE23)
        have HR3 := Lib.hid (HR2.out.ext hE23)
        have HWR3 := Lib.hid (HWR.out.ext (HE12.out.trans' hE23))
        have HWE3 := Lib.hid (fun i hi => (HWE.out i hi).ext (HE12.out.trans' hE23))
        clear hsh hR3 hE3 hE23 d0 d1
        go_wp2_with ((at_builtin; go_loud (refine wpList_append_one rfl _ _ 34 rfl (B + 1) 22 i (.slice none 0 0) 1 24 Try.underlying34 hi hz0 hz1 hz2 rfl (by decide) _ k _ rfl (HWR3.out.al _) w3.heap.size 1 [.slice xa st.length xc] rfl rfl ⟨_, heap_alloc_new _ _⟩ (by simp [Value.oneCell']) (by unfold maxLen; omega) (by omega) (by simp; omega) ?_; intro v5 w5 hown5 hgrow5 hblk5; have hG5 : (w3.alloc (.cells #[.slice xa st.length xc] 22)).grownBy w5 (Value.slice wa k wc).ownBlock := hgrow5; have hB5 := grown_keep hG5 (HWR3.out.far (g := B) (by omega)) (((Ext.rf w3).al (.cells #[.slice xa st.length xc] 22)).hp HB3.out); have hC5 := grown_keep hG5 (own_type HWR3.out HC3.out (by decide)) (((Ext.rf w3).al (.cells #[.slice xa st.length xc] 22)).hp HC3.out); have HB5 := Lib.hid hB5; have HC5 := Lib.hid hC5; have HE5 := Lib.hid ((HE3'.out.al (.cells #[.slice xa st.length xc] 22)).gr hG5 (fun q hq => by have := (HWR3.out.lt q hq).1; omega)); have HRR5 := Lib.hid (rowRows_push (l := (stampsOf l).take k) (by rw [HKL.out]; exact HWR3.out.al _) (fun i hi => (HWE3.out i hi).al _) (HX3.out.al _) (by decide) hG5 (by rw [HKL.out]; exact hown5)); have HR5 := Lib.hid ((HR3.out.al (.cells #[.slice xa st.length xc] 22)).grown hG5 (Row.apart HR3.out HWR3.out (by decide))); have hs5 := hG5.size; simp at hs5; clear hG5 hB5 hC5 hown5 hgrow5 hblk5; have c0 := cell_of HB5.out 0; have c1 := cell_of HB5.out 1; have c2 := cell_of HB5.out 2; have d0 := cell_of HC5.out 0; have d1 := cell_of HC5.out 1; have d2 := cell_of HC5.out 2; have f0 := free_of HB5.out 0; have f1 := free_of HB5.out 1; have f2' := free_of HB5.out 2; simp only [List.getElem?_toArray, List.getElem?_cons_zero, List.getElem?_cons_succ] at c0 c1 c2 d0 d1 d2)))
        go_wp2_with fail
        have hbys7 : Bys w5 (.slice va J2 vc) L2 := by have := HR5.out; rw [← HJ2.out] at this ⊢; exact this.bys (by rw [← HL2.out]; exact fun x hx => (List.mem_append.1 hx).elim (fun h => journalL_byte (fun r hr => (HGK.out r hr).1) x h) (fun h => bytes_take (rec_byte HB8.out) x h))
        have HBY7 := Lib.hid (Row.st3 HR5.out (g := B) (by omega) (.slice va J2 vc) (.int .i64 J) (.int .i64 0) |>.bys hbys7.1)
        have HW6 := Lib.hid (RowRows.st3 HRR5.out (g := B) (by omega) (.slice va J2 vc) (.int .i64 J) (.int .i64 0))
        have HE6 := Lib.hid (show Ext w (((w5.setCell ⟨B, 0, none⟩ (.slice va J2 vc)).setCell ⟨B, 1, none⟩ (.int .i64 J)).setCell ⟨B, 2, none⟩ (.int .i64 0)) from (by repeat (first | refine Ext.st ?_ (by first | exact Nat.le_refl _ | exact Nat.le_succ _ | assumption | omega) _ | refine Ext.al ?_ _ | refine Ext.dr ?_ | refine Ext.drN ?_ _ | exact HE5.out)))
        have hB6 : B < (((w5.setCell ⟨B, 0, none⟩ (.slice va J2 vc)).setCell ⟨B, 1, none⟩ (.int .i64 J)).setCell ⟨B, 2, none⟩ (.int .i64 0)).heap.size := by simp only [size_setCell]; omega
        clear c0 c1 c2 d0 d1 d2 f0 f1 f2' hbys7 HR5 HB5 HC5 HRR5 HE5
        generalize (((w5.setCell ⟨B, 0, none⟩ (.slice va J2 vc)).setCell ⟨B, 1, none⟩ (.int .i64 J)).setCell ⟨B, 2, none⟩ (.int .i64 0)) = w6 at *
        have hJ7 : J2 = J + min f (st.length + 8) := by rw [← HJ2.out, ← HL2.out, List.length_append, HJL.out, List.length_take, rec_len]
        have hJ7a : J ≤ J2 := by omega
        have hJ7b : J2 ≤ 20000 := by have := HBL.out; omega
        have hN1 := crashN_ge J2 J Y hJ7a
        have hN2 := crashN_le J2 J Y hJ7a
        have hct := crash_torn HGK.out st HB8.out (by rw [HBL.out]; omega) f (crashN J2 J Y) hcr (by rw [HJL.out]; exact hN1) (by rw [HJL.out]; omega)
        rw [HL2.out] at hct
        have HJ7 := Lib.hid (show L2.length = J2 from HJ2.out)
        have hcrash := crash_ok (.slice va J2 vc) L2 J Y 0 w6 HBY7.out (by rw [HJ7.out]; omega) (by rw [HJ7.out]; omega) (by omega) (by rw [HJ7.out]; exact valid_at _ _ _ (by omega) (by omega) (by omega) (by omega) (by omega))
        rw [HJ7.out] at hcrash
        obtain ⟨N, hN⟩ : ∃ N, crashN J2 J Y = N := ⟨_, rfl⟩
        rw [hN] at hcrash hN1 hN2 hct
        have HCRASH := Lib.hid hcrash
        clear hcrash hN
        refine HCRASH.out.mono ?_
        rintro e w7 ⟨v7, rfl, hR7, hE7⟩
        obtain ⟨fa, fc, rfl, hfl, hsh⟩ := hR7.any
        have hCl : (L2.take N).length = N := by rw [List.length_take, HJ7.out]; omega
        have hCb : ∀ x, x ∈ L2.take N → Byte x := bytes_take HBY7.out.1
        have hs7 := hE7.sz
        have HR7 := Lib.hid (hR7.mono (show B + 1 ≤ w6.heap.size from by omega))
        have HE7 := Lib.hid (HE6.out.trans' hE7)
        have HW7 := Lib.hid (HW6.out.ext hE7)
        clear hsh hR7 hE7 HCRASH
        generalize L2.take N = C at *
        have HCL := Lib.hid hCl
        have HCB := Lib.hid hCb
        clear hCl hCb
        have HRDD := Lib.hid (jread_ok (.slice fa N fc) C N (-1) (w7.alloc (.cells #[.slice fa N fc, .int .i64 N, .int .i64 (-1)] 24)) ((HR7.out.bys HCB.out).ext ((Ext.rf _).al _)) (by rw [HCL.out]; omega) (by rw [HCL.out]; exact valid_at _ _ _ (by omega) (by omega) (by omega) (by omega) (by omega)))
        go_wp2_with fail
        rcases hct with ⟨hho, hre⟩ | ⟨hho, hre⟩
        · have HHO := Lib.hid hho
          have HGG := Lib.hid HGK.out
          have hgl : ((stampsOf l).take k).length ≤ 41 := by rw [HKL.out]; omega
          rw [hre] at HRDD
          refine HRDD.out.mono ?_
          rintro e w8 ⟨v8, rfl, hR8, hE8⟩
          have hs8 := hE8.sz
          simp at hs8
          have HS8 := Lib.hid (hR8.sl (fun r hr => (HGG.out r hr).1))
          have HB8' := Lib.hid (hE8.hp (heap_alloc_new w7 (.cells #[.slice fa N fc, .int .i64 N, .int .i64 (-1)] 24)))
          have hE78 := ((Ext.rf w7).al (.cells #[.slice fa N fc, .int .i64 N, .int .i64 (-1)] 24)).trans' hE8
          have HR8' := Lib.hid (HR7.out.ext hE78)
          have HW8 := Lib.hid (HW7.out.ext hE78)
          have HE8 := Lib.hid (HE7.out.trans' hE78)
          obtain ⟨gvs, hgr, _⟩ := hR8
          obtain ⟨ga, gc, rfl, hgl8, hsh⟩ := hgr.any
          clear hsh hgr hE8 hE78 HRDD
          rw [HKL.out]
          have hwl : ((stampsOf l).take k ++ [st]).length = k + 1 := by rw [List.length_append, HKL.out]; rfl
          obtain ⟨wvs5, hw5, _⟩ := HW8.out
          rw [hwl] at hw5
          rw [HKL.out] at hgl8
          obtain ⟨wa5, wc5, rfl, hwc5, hsh⟩ := hw5.any
          have HWL := Lib.hid hwl
          clear hsh hw5 hwl
          have z0 : (0 : Int) ≤ (k : Int) := by omega
          have z1 : (k : Int) ≤ (wc5 : Int) := by omega
          have z2 : ((k : Int) == (k : Int) + 1 - 1) = true := by simp
          go_wp2_with fail
          have hww := HW8.out.take k (by omega) HWL.out.symm
          rw [List.take_left' HKL.out] at hww
          have HWW := Lib.hid hww
          rw [HKL.out] at HS8
          clear hww z0 z1 z2
          generalize hGe : (stampsOf l).take k = G at *
          clear hGe
          have HGL := HKL
          have hGl3 : k ≤ 41 := by omega
          refine (sameRecords_calls _ _ G _ HS8.out (HWW.out.sl (fun r hr => (HGG.out r hr).1)) (by rw [HGL.out]; omega) (fun r hr => by have := (HGG.out r hr).2; omega)).mono ?_
          rintro e w9 ⟨rfl, hE9⟩
          obtain ⟨B2, hB2⟩ : ∃ B2, w7.heap.size = B2 := ⟨_, rfl⟩
          rw [hB2] at HB8' hs8
          have hsB2 : w.heap.size ≤ B2 := by have := HE7.out.sz; omega
          have hlt9 : B2 < w9.heap.size := by have := hE9.sz; omega
          have HB9 := Lib.hid (hE9.hp HB8'.out)
          have HR9 := Lib.hid (HR8'.out.ext hE9)
          have HW9 := Lib.hid (HWW.out.ext hE9)
          have HE9 := Lib.hid (HE8.out.trans' hE9)
          clear hE9
          rw [hB2]
          go_wp2_with fail
          go_loopg [8, 9, 111] n (fun m s8 s9 s111 wr => ∃ (k2 : Nat) (D : List Int), k2 ≤ n ∧ n - k2 ≤ m ∧ s111 = .int .i64 k2 ∧ s8 = .int .i64 0 ∧ Aside (HoldsR D (G ++ (stampsOf l).take k2) ∧ D.length ≤ 20000 ∧ ∀ x, x ∈ D → Byte x) ∧ Aside (∃ cv, wr.heap[B2]? = some (.cells #[cv, .int .i64 (D.length : Nat), .int .i64 (-1)] 24) ∧ Row wr (B + 1) 5 1 cv D.length (D.map (Value.int .u8))) ∧ Aside (RowRows wr (B + 1) 22 5 (Value.int .u8) s9 (G ++ (stampsOf l).take k2)) ∧ Aside (Ext w wr ∧ B2 < wr.heap.size))
          case atStart =>
            have hg0 : G ++ (stampsOf l).take 0 = G := by rw [List.take_zero, List.append_nil]
            refine ⟨0, C, Nat.zero_le _, by omega, rfl, rfl, (show _ ∧ _ from ⟨?_, ?_, HCB.out⟩), (show ∃ cv, _ from ⟨.slice fa N fc, ?_, ?_⟩), (show RowRows _ _ _ _ _ _ _ from ?_), (show _ ∧ _ from ⟨HE9.out, hlt9⟩)⟩
            · rw [hg0]; exact HHO.out
            · rw [HCL.out]; omega
            · rw [HCL.out]; exact HB9.out
            · rw [HCL.out]; exact HR9.out
            · rw [hg0]; exact HW9.out
          case round =>
            obtain ⟨k2, D, hk2, hm2, rfl, rfl, HHD, HJB, HRR2, HEB2⟩ := hrel
            obtain ⟨cv, hj1, hj2⟩ := HJB.out
            obtain ⟨hho2, hdl, hdb⟩ := HHD.out
            have HDB := Lib.hid hdb
            clear hdb
            have hsw2 := HEB2.out.1.sz
            have hBw2 := HEB2.out.2
            have hgg := HGG.out.append (HGS.out.take k2)
            have hggl : (G ++ (stampsOf l).take k2).length = k + k2 := by rw [List.length_append, HGL.out, List.length_take, HSL.out]; omega
            obtain ⟨ca, cc, rfl, hcc, hsh⟩ := hj2.any
            clear hsh
            obtain ⟨wvs2, hwr, hwe⟩ := HRR2.out
            rw [hggl] at hwr
            have HGGL := Lib.hid hggl
            obtain ⟨w2a, w2c, rfl, hwc2, hsh⟩ := hwr.any
            have HWR := Lib.hid hwr
            have HWE := Lib.hid (fun i (hi : i < (G ++ (stampsOf l).take k2).length) => hwe i hi)
            clear hsh hwr hwe hggl
            have hgsm := journal_small hgg (by rw [HGGL.out]; omega)
            by_cases hlt2 : k2 < n
            · have hltz2 : (k2 : Int) < (n : Int) := by omega
              obtain ⟨b2, off2, hbe, hb2, hc2⟩ := HVC.out (by intro e; have := HN.out; simp [e] at this; omega)
              first
                | (subst hbe)
                | (simp only [Option.some.injEq, Addr.mk.injEq, and_true] at hbe
                   obtain ⟨hbe1, hbe2⟩ := hbe
                   have hbe1 := hbe1.symm
                   have hbe2 := hbe2.symm
                   subst hbe1
                   subst hbe2)
              obtain ⟨vs2, hvl2, ⟨u2, rfl, hu2⟩, hcx2⟩ := hc2 k2 hlt2
              obtain ⟨p0', p1', u1', hany'⟩ := right_parts (HR8.out _ (mem_at l k2 (by rw [HN.out]; exact hlt2)))
              have hsn2 := HSN.out k2 hlt2
              have hcell0 : wr.cell? ⟨b2, off2 + k2 * 2, none⟩ = some (.int .i64 l[k2]!.1) := HEB2.out.1.cl (hcx2 0 (by omega))
              have hcell1 : wr.cell? ⟨b2, off2 + k2 * 2 + 1, none⟩ = some u2 := HEB2.out.1.cl (hcx2 1 (by omega))
              have hb8' := stampL_byte (p := l[k2]!.1) (v := l[k2]!.2) ⟨p0', by omega⟩ (by omega)
              have hbl2 := stampL_len l[k2]!.1 l[k2]!.2
              clear hcx2 hc2
              generalize l[k2]!.1 = p' at *
              generalize l[k2]!.2 = us' at *
              have hput := put_ok ca cc D D.length (-1) p' u2 us' (wr.alloc (.cells #[.int .i64 p', u2] 54)) 0 ((hj2.bys (fun x hx => HDB.out x hx)).ext ((Ext.rf wr).al _)) (by omega) (valid_at _ _ _ (by omega) (by omega) (by omega) (by omega) (by omega)) (hu2.ext (HEB2.out.1.al _)) p0' p1' u1' hany' (check_holds hho2 hgg (by rw [HGGL.out]; omega) _ _ _ (by omega) (valid_at _ _ _ (by omega) (by omega) (by omega) (by omega) (by omega))) rfl
              have HU2 := Lib.hid hu2
              have HANY2 := Lib.hid hany'
              obtain ⟨ua', uc', rfl, huc', hux'⟩ := hu2
              have HB82 := Lib.hid hb8'
              have HBL2 := Lib.hid hbl2
              obtain ⟨q1, q2, q3, q4, q5, q6, q7⟩ := put_whole hho2 (-1) (stampL p' us') (.inl (by omega))
              rw [q1, q2, q3, q6 (by omega)] at hput
              have hgs : G ++ (stampsOf l).take (k2 + 1) = (G ++ (stampsOf l).take k2) ++ [stampL p' us'] := by rw [hsn2, List.append_assoc]
              rw [← hgs] at hput
              have hgg1 := HGG.out.append (HGS.out.take (k2 + 1))
              have hgsm1 := journal_small hgg1 (by rw [hgs, List.length_append, HGGL.out, List.length_singleton]; omega)
              have hjb1 := journalL_byte (fun r hr => (hgg1 r hr).1)
              have HHJ := Lib.hid (holds_journal hgg1)
              generalize hst2 : stampL p' us' = st2 at *
              have HST2 := Lib.hid hst2
              generalize hUL2 : us'.length = UU at *
              have HUL2 := Lib.hid hUL2
              generalize hDL : D.length = DL at *
              have HPUT2 := Lib.hid hput
              generalize hL3 : journalL (G ++ (stampsOf l).take (k2 + 1)) = L3 at *
              generalize hJ3 : L3.length = J3 at *
              have HL3 := Lib.hid hL3
              have HJ3 := Lib.hid hJ3
              have HGS2 := Lib.hid hgs
              have HJB1 := Lib.hid hjb1
              have HJ1 := Lib.hid hj1
              have HCVR := Lib.hid hj2
              clear hput q1 q2 q3 q4 q5 q6 q7 hL3 hJ3 hho2 hdl hux' hst2 hUL2 hDL hsn2 hgg hgg1 hjb1 hj1 hj2 hany' hb8' hbl2 hgs HHD
              have c0 := cell_of HJ1.out 0
              have c1 := cell_of HJ1.out 1
              have c2 := cell_of HJ1.out 2
              simp only [List.getElem?_toArray, List.getElem?_cons_zero, List.getElem?_cons_succ] at c0 c1 c2
              go_wp2_with fail
              refine HPUT2.out.mono ?_
              rintro e w2 ⟨v2, rfl, hR2, hE2⟩
              rw [HJ3.out] at hR2
              obtain ⟨va2, vc2, rfl, hvl', hsh⟩ := hR2.any
              have hs2 := hE2.sz
              simp at hs2
              have HI2 := Lib.hid (hE2.hp (heap_alloc_new wr (.cells #[.int .i64 p', .slice ua' UU uc'] 54)))
              have hb2x := hE2.hp (((Ext.rf wr).al (.cells #[.int .i64 p', .slice ua' UU uc'] 54)).hp HJ1.out)
              have hr2x := hR2.mono (show B + 1 ≤ _ from by simp; omega)
              have hE12 := ((Ext.rf wr).al (.cells #[.int .i64 p', .slice ua' UU uc'] 54)).trans' hE2
              have hE02 := (HEB2.out.1.al (.cells #[.int .i64 p', .slice ua' UU uc'] 54)).trans' hE2
              have hwr2 := HWR.out.ext hE12
              have hwe2 := fun i hi => (HWE.out i hi).ext hE12
              have HB2x := Lib.hid hb2x
              have hIX : (((w2.setCell ⟨B2, 0, none⟩ (.slice va2 J3 vc2)).setCell ⟨B2, 1, none⟩ (.int .i64 J3)).setCell ⟨B2, 2, none⟩ (.int .i64 (-1))).heap[wr.heap.size]? = some (.cells #[.int .i64 p', .slice ua' UU uc'] 54) := by
                rw [Below.heap_setCell _ _ _ _ (by simp only; omega), Below.heap_setCell _ _ _ _ (by simp only; omega), Below.heap_setCell _ _ _ _ (by simp only; omega)]; exact HI2.out
              have hB3x : (((w2.setCell ⟨B2, 0, none⟩ (.slice va2 J3 vc2)).setCell ⟨B2, 1, none⟩ (.int .i64 J3)).setCell ⟨B2, 2, none⟩ (.int .i64 (-1))).heap[B2]? = some (.cells #[.slice va2 J3 vc2, .int .i64 J3, .int .i64 (-1)] 24) := heap3 HB2x.out
              have hr3x := hr2x.stt hb2x (by decide) (.slice va2 J3 vc2) (.int .i64 J3) (.int .i64 (-1))
              have hwr3 := hwr2.stt hb2x (by decide) (.slice va2 J3 vc2) (.int .i64 J3) (.int .i64 (-1))
              have hwe3 := fun i hi => (hwe2 i hi).stt hb2x (by decide) (.slice va2 J3 vc2) (.int .i64 J3) (.int .i64 (-1))
              have hE03 : Ext w (((w2.setCell ⟨B2, 0, none⟩ (.slice va2 J3 vc2)).setCell ⟨B2, 1, none⟩ (.int .i64 J3)).setCell ⟨B2, 2, none⟩ (.int .i64 (-1))) := ((hE02.st (p := ⟨B2, 0, none⟩) hsB2 _).st (p := ⟨B2, 1, none⟩) hsB2 _).st (p := ⟨B2, 2, none⟩) hsB2 _
              have hs3x : (((w2.setCell ⟨B2, 0, none⟩ (.slice va2 J3 vc2)).setCell ⟨B2, 1, none⟩ (.int .i64 J3)).setCell ⟨B2, 2, none⟩ (.int .i64 (-1))).heap.size = w2.heap.size := by simp only [size_setCell]
              have HRX := Lib.hid hr3x
              have HWRX := Lib.hid hwr3
              have HWEX := Lib.hid hwe3
              have HE03 := Lib.hid hE03
              have HIX := Lib.hid hIX
              have HB3x := Lib.hid hB3x
              clear hsh hR2 hE2 c0 c1 c2 hcell0 hcell1 hb2x hr2x hE12 hE02 hwr2 hwe2 hIX hB3x hr3x hwr3 hwe3 hE03
              have d0 := cell_of HI2.out 0
              have d1 := cell_of HI2.out 1
              simp only [List.getElem?_toArray, List.getElem?_cons_zero, List.getElem?_cons_succ] at d0 d1
              have c0 := cell_of HB2x.out 0
              have c1 := cell_of HB2x.out 1
              have c2 := cell_of HB2x.out 2
              simp only [List.getElem?_toArray, List.getElem?_cons_zero, List.getElem?_cons_succ] at c0 c1 c2
              have q0 := free_of HB2x.out 0
              have q1 := free_of HB2x.out 1
              have q2 := free_of HB2x.out 2
              go_wp2_with fail
              clear d0 d1 c0 c1 c2 q0 q1 q2
              generalize (((w2.setCell ⟨B2, 0, none⟩ (.slice va2 J3 vc2)).setCell ⟨B2, 1, none⟩ (.int .i64 J3)).setCell ⟨B2, 2, none⟩ (.int .i64 (-1))) = w4 at *
              have hst3 := stamp_calls p' (.slice ua' UU uc') us' w4 (HU2.out.ext HE03.out) p0' p1' (by rw [HUL2.out]; exact u1') HANY2.out
              rw [HUL2.out, HST2.out, ← HBL2.out] at hst3
              have HST3 := Lib.hid hst3
              clear hst3
              refine HST3.out.mono ?_
              rintro e w3 ⟨v3, rfl, hR3, hE3⟩
              obtain ⟨xa, xc, rfl, hxl, hsh⟩ := hR3.any
              have hs3 := hE3.sz
              have HX3 := Lib.hid (hR3.mono (show B + 1 ≤ _ from by omega))
              have HB3 := Lib.hid (hE3.hp HB3x.out)
              have HE3' := Lib.hid (HE03.out.trans' hE3)
              have HR3 := Lib.hid (HRX.out.ext hE3)
              have HWR3 := Lib.hid (HWRX.out.ext hE3)
              have HWE3 := Lib.hid (fun i hi => (HWEX.out i hi).ext hE3)
              clear hsh hR3 hE3
              go_wp2_with ((at_builtin; go_loud (refine wpList_append_one rfl _ _ 34 rfl (B + 1) 22 i (.slice none 0 0) 1 24 Try.underlying34 hi hz0 hz1 hz2 rfl (by decide) _ (k + k2) _ rfl (HWR3.out.al _) w3.heap.size 1 [.slice xa st2.length xc] rfl rfl ⟨_, heap_alloc_new _ _⟩ (by simp [Value.oneCell']) (by unfold maxLen; omega) (by omega) (by simp; omega) ?_; intro v5 w5 hown5 hgrow5 hblk5; have hG5 : (w3.alloc (.cells #[.slice xa st2.length xc] 22)).grownBy w5 (Value.slice w2a (k + k2) w2c).ownBlock := hgrow5; have hB5 := grown_keep hG5 (own_type HWR3.out HB3.out (by decide)) (((Ext.rf w3).al (.cells #[.slice xa st2.length xc] 22)).hp HB3.out); have HB5 := Lib.hid hB5; have HE5 := Lib.hid ((HE3'.out.al (.cells #[.slice xa st2.length xc] 22)).gr hG5 (fun q hq => by have := (HWR3.out.lt q hq).1; omega)); have HRR5 := Lib.hid (rowRows_push (l := G ++ (stampsOf l).take k2) (by rw [HGGL.out]; exact HWR3.out.al _) (fun i hi => (HWE3.out i hi).al _) (HX3.out.al _) (by decide) hG5 (by rw [HGGL.out]; exact hown5)); have HR5 := Lib.hid ((HR3.out.al (.cells #[.slice xa st2.length xc] 22)).grown hG5 (Row.apart HR3.out HWR3.out (by decide))); have hs5 := hG5.size; simp at hs5; clear hG5 hB5 hown5 hgrow5 hblk5)))
              go_roundg (n - (k2 + 1))
              case measure => omega
              case rel =>
                refine ⟨k2 + 1, L3, by omega, by omega, by go_num, rfl, (show _ ∧ _ from ⟨HHJ.out, by rw [HJ3.out]; omega, HJB1.out⟩), (show ∃ cv, _ from ⟨.slice va2 J3 vc2, ?_, ?_⟩), (show RowRows _ _ _ _ _ _ _ from ?_), (show _ ∧ _ from ⟨HE5.out, by omega⟩)⟩
                · rw [HJ3.out]; exact HB5.out
                · rw [HJ3.out]; exact HR5.out
                · rw [HGS2.out]; exact HRR5.out
            · have hltz2 : ¬ (k2 : Int) < (n : Int) := by omega
              obtain rfl : n = k2 := by omega
              have HJ1 := Lib.hid hj1
              have HBC := Lib.hid (hj2.bys HDB.out)
              have hcrash := crash_ok (.slice ca D.length cc) D D.length 0 (-1) wr HBC.out (by omega) (by omega) (by omega) (valid_at _ _ _ (by omega) (by omega) (by omega) (by omega) (by omega))
              rw [crash_all, List.take_length] at hcrash
              have HHD2 := Lib.hid hho2.1
              have HGT := Lib.hid hgg
              generalize hDL : D.length = DL at *
              have HDL := Lib.hid hDL
              have HCRASH := Lib.hid hcrash
              clear hcrash hDL hj1 hj2 hho2 hgg HHD
              have c0 := cell_of HJ1.out 0
              have c1 := cell_of HJ1.out 1
              have c2 := cell_of HJ1.out 2
              simp only [List.getElem?_toArray, List.getElem?_cons_zero, List.getElem?_cons_succ] at c0 c1 c2
              go_wp2_with fail
              refine HCRASH.out.mono ?_
              rintro e w7' ⟨v7', rfl, hR7, hE7⟩
              obtain ⟨fa2, fc2, rfl, hfl2, hsh⟩ := hR7.any
              have hs7' := hE7.sz
              have hBX := hE7.hp HJ1.out
              have HB7 := Lib.hid hBX
              have HDR := Lib.hid ((hR7.stt hBX (by decide) (.slice fa2 DL fc2) (.int .i64 DL) (.int .i64 (-1))).bys HDB.out)
              have HWX := Lib.hid ((RowRows.ext HRR2.out hE7).stt hBX (by decide) (by decide) (.slice fa2 DL fc2) (.int .i64 DL) (.int .i64 (-1)))
              have hE03 : Ext w (((w7'.setCell ⟨B2, 0, none⟩ (.slice fa2 DL fc2)).setCell ⟨B2, 1, none⟩ (.int .i64 DL)).setCell ⟨B2, 2, none⟩ (.int .i64 (-1))) := (((HEB2.out.1.trans' hE7).st (p := ⟨B2, 0, none⟩) hsB2 _).st (p := ⟨B2, 1, none⟩) hsB2 _).st (p := ⟨B2, 2, none⟩) hsB2 _
              have HE03 := Lib.hid hE03
              have HB8Y := Lib.hid (heap3 (x' := .slice fa2 DL fc2) (y' := .int .i64 DL) (z' := .int .i64 (-1)) hBX)
              clear hsh hR7 hE7 hBX hE03 c0 c1 c2
              have c0 := cell_of HB7.out 0
              have c1 := cell_of HB7.out 1
              have c2 := cell_of HB7.out 2
              simp only [List.getElem?_toArray, List.getElem?_cons_zero, List.getElem?_cons_succ] at c0 c1 c2
              have q0 := free_of HB7.out 0
              have q1 := free_of HB7.out 1
              have q2 := free_of HB7.out 2
              go_wp2_with fail
              clear c0 c1 c2 q0 q1 q2
              generalize (((w7'.setCell ⟨B2, 0, none⟩ (.slice fa2 DL fc2)).setCell ⟨B2, 1, none⟩ (.int .i64 DL)).setCell ⟨B2, 2, none⟩ (.int .i64 (-1))) = w8' at *
              refine (jread_ok (.slice fa2 DL fc2) D DL (-1) w8' HDR.out (by rw [HDL.out]; omega) (by rw [HDL.out]; exact valid_at _ _ _ (by omega) (by omega) (by omega) (by omega) (by omega))).mono ?_
              rw [HHD2.out]
              rintro e w9' ⟨v9', rfl, hR9, hE9⟩
              have HSX := Lib.hid (hR9.sl (fun r hr => (HGT.out r hr).1))
              have HWY := Lib.hid ((HWX.out.ext hE9).sl (fun r hr => (HGT.out r hr).1))
              have HEX := Lib.hid (HE03.out.trans' hE9)
              clear hR9 hE9
              go_wp2_with fail
              refine (sameRecords_calls _ _ (G ++ (stampsOf l).take n) _ HSX.out HWY.out (by rw [HGGL.out]; omega) (fun r hr => by have := (HGT.out r hr).2; omega)).mono ?_
              rintro e wZ ⟨rfl, hEZ⟩
              have HEZ := Lib.hid (HEX.out.trans' hEZ)
              clear hEZ
              go_wp2
              go_ret
              exact ⟨by simp, HEZ.out⟩
        · rw [← HSNK.out] at hho hre
          have HHO := Lib.hid hho
          have HGG := Lib.hid HGK1.out
          have hkl1 : ((stampsOf l).take (k + 1)).length = k + 1 := by rw [HSNK.out, List.length_append, HKL.out]; rfl
          have HGL := Lib.hid hkl1
          clear hkl1
          have hgl : ((stampsOf l).take (k + 1)).length ≤ 41 := by rw [HGL.out]; omega
          rw [hre] at HRDD
          refine HRDD.out.mono ?_
          rintro e w8 ⟨v8, rfl, hR8, hE8⟩
          have hs8 := hE8.sz
          simp at hs8
          have HS8 := Lib.hid (hR8.sl (fun r hr => (HGG.out r hr).1))
          have HB8' := Lib.hid (hE8.hp (heap_alloc_new w7 (.cells #[.slice fa N fc, .int .i64 N, .int .i64 (-1)] 24)))
          have hE78 := ((Ext.rf w7).al (.cells #[.slice fa N fc, .int .i64 N, .int .i64 (-1)] 24)).trans' hE8
          have HR8' := Lib.hid (HR7.out.ext hE78)
          have HW8 := Lib.hid (HW7.out.ext hE78)
          have HE8 := Lib.hid (HE7.out.trans' hE78)
          obtain ⟨gvs, hgr, _⟩ := hR8
          obtain ⟨ga, gc, rfl, hgl8, hsh⟩ := hgr.any
          clear hsh hgr hE8 hE78 HRDD
          rw [HGL.out]
          obtain ⟨wvs5, hw5, _⟩ := HW8.out
          rw [← HSNK.out, HGL.out] at hw5
          rw [HGL.out] at hgl8
          obtain ⟨wa5, wc5, rfl, hwc5, hsh⟩ := hw5.any
          clear hsh hw5
          have z2 : ((k : Int) + 1 == (k : Int) + 1 - 1) = false := by simp; omega
          have z3 : ((k : Int) + 1 == (k : Int)) = false := by simp; omega
          go_wp2_with fail
          have hww := HW8.out
          rw [← HSNK.out] at hww
          have HWW := Lib.hid hww
          rw [HGL.out] at HS8
          clear hww z2 z3
          generalize hGe : (stampsOf l).take (k + 1) = G at *
          clear hGe
          have hGl3 : k + 1 ≤ 41 := by omega
          refine (sameRecords_calls _ _ G _ HS8.out (HWW.out.sl (fun r hr => (HGG.out r hr).1)) (by rw [HGL.out]; omega) (fun r hr => by have := (HGG.out r hr).2; omega)).mono ?_
          rintro e w9 ⟨rfl, hE9⟩
          obtain ⟨B2, hB2⟩ : ∃ B2, w7.heap.size = B2 := ⟨_, rfl⟩
          rw [hB2] at HB8' hs8
          have hsB2 : w.heap.size ≤ B2 := by have := HE7.out.sz; omega
          have hlt9 : B2 < w9.heap.size := by have := hE9.sz; omega
          have HB9 := Lib.hid (hE9.hp HB8'.out)
          have HR9 := Lib.hid (HR8'.out.ext hE9)
          have HW9 := Lib.hid (HWW.out.ext hE9)
          have HE9 := Lib.hid (HE8.out.trans' hE9)
          clear hE9
          rw [hB2]
          go_wp2_with fail
          go_loopg [8, 9, 111] n (fun m s8 s9 s111 wr => ∃ (k2 : Nat) (D : List Int), k2 ≤ n ∧ n - k2 ≤ m ∧ s111 = .int .i64 k2 ∧ s8 = .int .i64 0 ∧ Aside (HoldsR D (G ++ (stampsOf l).take k2) ∧ D.length ≤ 20000 ∧ ∀ x, x ∈ D → Byte x) ∧ Aside (∃ cv, wr.heap[B2]? = some (.cells #[cv, .int .i64 (D.length : Nat), .int .i64 (-1)] 24) ∧ Row wr (B + 1) 5 1 cv D.length (D.map (Value.int .u8))) ∧ Aside (RowRows wr (B + 1) 22 5 (Value.int .u8) s9 (G ++ (stampsOf l).take k2)) ∧ Aside (Ext w wr ∧ B2 < wr.heap.size))
          case atStart =>
            have hg0 : G ++ (stampsOf l).take 0 = G := by rw [List.take_zero, List.append_nil]
            refine ⟨0, C, Nat.zero_le _, by omega, rfl, rfl, (show _ ∧ _ from ⟨?_, ?_, HCB.out⟩), (show ∃ cv, _ from ⟨.slice fa N fc, ?_, ?_⟩), (show RowRows _ _ _ _ _ _ _ from ?_), (show _ ∧ _ from ⟨HE9.out, hlt9⟩)⟩
            · rw [hg0]; exact HHO.out
            · rw [HCL.out]; omega
            · rw [HCL.out]; exact HB9.out
            · rw [HCL.out]; exact HR9.out
            · rw [hg0]; exact HW9.out
          case round =>
            obtain ⟨k2, D, hk2, hm2, rfl, rfl, HHD, HJB, HRR2, HEB2⟩ := hrel
            obtain ⟨cv, hj1, hj2⟩ := HJB.out
            obtain ⟨hho2, hdl, hdb⟩ := HHD.out
            have HDB := Lib.hid hdb
            clear hdb
            have hsw2 := HEB2.out.1.sz
            have hBw2 := HEB2.out.2
            have hgg := HGG.out.append (HGS.out.take k2)
            have hggl : (G ++ (stampsOf l).take k2).length = (k + 1) + k2 := by rw [List.length_append, HGL.out, List.length_take, HSL.out]; omega
            obtain ⟨ca, cc, rfl, hcc, hsh⟩ := hj2.any
            clear hsh
            obtain ⟨wvs2, hwr, hwe⟩ := HRR2.out
            rw [hggl] at hwr
            have HGGL := Lib.hid hggl
            obtain ⟨w2a, w2c, rfl, hwc2, hsh⟩ := hwr.any
            have HWR := Lib.hid hwr
            have HWE := Lib.hid (fun i (hi : i < (G ++ (stampsOf l).take k2).length) => hwe i hi)
            clear hsh hwr hwe hggl
            have hgsm := journal_small hgg (by rw [HGGL.out]; omega)
            by_cases hlt2 : k2 < n
            · have hltz2 : (k2 : Int) < (n : Int) := by omega
              obtain ⟨b2, off2, hbe, hb2, hc2⟩ := HVC.out (by intro e; have := HN.out; simp [e] at this; omega)
              first
                | (subst hbe)
                | (simp only [Option.some.injEq, Addr.mk.injEq, and_true] at hbe
                   obtain ⟨hbe1, hbe2⟩ := hbe
                   have hbe1 := hbe1.symm
                   have hbe2 := hbe2.symm
                   subst hbe1
                   subst hbe2)
              obtain ⟨vs2, hvl2, ⟨u2, rfl, hu2⟩, hcx2⟩ := hc2 k2 hlt2
              obtain ⟨p0', p1', u1', hany'⟩ := right_parts (HR8.out _ (mem_at l k2 (by rw [HN.out]; exact hlt2)))
              have hsn2 := HSN.out k2 hlt2
              have hcell0 : wr.cell? ⟨b2, off2 + k2 * 2, none⟩ = some (.int .i64 l[k2]!.1) := HEB2.out.1.cl (hcx2 0 (by omega))
              have hcell1 : wr.cell? ⟨b2, off2 + k2 * 2 + 1, none⟩ = some u2 := HEB2.out.1.cl (hcx2 1 (by omega))
              have hb8' := stampL_byte (p := l[k2]!.1) (v := l[k2]!.2) ⟨p0', by omega⟩ (by omega)
              have hbl2 := stampL_len l[k2]!.1 l[k2]!.2
              clear hcx2 hc2
              generalize l[k2]!.1 = p' at *
              generalize l[k2]!.2 = us' at *
              have hput := put_ok ca cc D D.length (-1) p' u2 us' (wr.alloc (.cells #[.int .i64 p', u2] 54)) 0 ((hj2.bys (fun x hx => HDB.out x hx)).ext ((Ext.rf wr).al _)) (by omega) (valid_at _ _ _ (by omega) (by omega) (by omega) (by omega) (by omega)) (hu2.ext (HEB2.out.1.al _)) p0' p1' u1' hany' (check_holds hho2 hgg (by rw [HGGL.out]; omega) _ _ _ (by omega) (valid_at _ _ _ (by omega) (by omega) (by omega) (by omega) (by omega))) rfl
              have HU2 := Lib.hid hu2
              have HANY2 := Lib.hid hany'
              obtain ⟨ua', uc', rfl, huc', hux'⟩ := hu2
              have HB82 := Lib.hid hb8'
              have HBL2 := Lib.hid hbl2
              obtain ⟨q1, q2, q3, q4, q5, q6, q7⟩ := put_whole hho2 (-1) (stampL p' us') (.inl (by omega))
              rw [q1, q2, q3, q6 (by omega)] at hput
              have hgs : G ++ (stampsOf l).take (k2 + 1) = (G ++ (stampsOf l).take k2) ++ [stampL p' us'] := by rw [hsn2, List.append_assoc]
              rw [← hgs] at hput
              have hgg1 := HGG.out.append (HGS.out.take (k2 + 1))
              have hgsm1 := journal_small hgg1 (by rw [hgs, List.length_append, HGGL.out, List.length_singleton]; omega)
              have hjb1 := journalL_byte (fun r hr => (hgg1 r hr).1)
              have HHJ := Lib.hid (holds_journal hgg1)
              generalize hst2 : stampL p' us' = st2 at *
              have HST2 := Lib.hid hst2
              generalize hUL2 : us'.length = UU at *
              have HUL2 := Lib.hid hUL2
              generalize hDL : D.length = DL at *
              have HPUT2 := Lib.hid hput
              generalize hL3 : journalL (G ++ (stampsOf l).take (k2 + 1)) = L3 at *
              generalize hJ3 : L3.length = J3 at *
              have HL3 := Lib.hid hL3
              have HJ3 := Lib.hid hJ3
              have HGS2 := Lib.hid hgs
              have HJB1 := Lib.hid hjb1
              have HJ1 := Lib.hid hj1
              have HCVR := Lib.hid hj2
              clear hput q1 q2 q3 q4 q5 q6 q7 hL3 hJ3 hho2 hdl hux' hst2 hUL2 hDL hsn2 hgg hgg1 hjb1 hj1 hj2 hany' hb8' hbl2 hgs HHD
              have c0 := cell_of HJ1.out 0
              have c1 := cell_of HJ1.out 1
              have c2 := cell_of HJ1.out 2
              simp only [List.getElem?_toArray, List.getElem?_cons_zero, List.getElem?_cons_succ] at c0 c1 c2
              go_wp2_with fail
              refine HPUT2.out.mono ?_
              rintro e w2 ⟨v2, rfl, hR2, hE2⟩
              rw [HJ3.out] at hR2
              obtain ⟨va2, vc2, rfl, hvl', hsh⟩ := hR2.any
              have hs2 := hE2.sz
              simp at hs2
              have HI2 := Lib.hid (hE2.hp (heap_alloc_new wr (.cells #[.int .i64 p', .slice ua' UU uc'] 54)))
              have hb2x := hE2.hp (((Ext.rf wr).al (.cells #[.int .i64 p', .slice ua' UU uc'] 54)).hp HJ1.out)
              have hr2x := hR2.mono (show B + 1 ≤ _ from by simp; omega)
              have hE12 := ((Ext.rf wr).al (.cells #[.int .i64 p', .slice ua' UU uc'] 54)).trans' hE2
              have hE02 := (HEB2.out.1.al (.cells #[.int .i64 p', .slice ua' UU uc'] 54)).trans' hE2
              have hwr2 := HWR.out.ext hE12
              have hwe2 := fun i hi => (HWE.out i hi).ext hE12
              have HB2x := Lib.hid hb2x
              have hIX : (((w2.setCell ⟨B2, 0, none⟩ (.slice va2 J3 vc2)).setCell ⟨B2, 1, none⟩ (.int .i64 J3)).setCell ⟨B2, 2, none⟩ (.int .i64 (-1))).heap[wr.heap.size]? = some (.cells #[.int .i64 p', .slice ua' UU uc'] 54) := by
                rw [Below.heap_setCell _ _ _ _ (by simp only; omega), Below.heap_setCell _ _ _ _ (by simp only; omega), Below.heap_setCell _ _ _ _ (by simp only; omega)]; exact HI2.out
              have hB3x : (((w2.setCell ⟨B2, 0, none⟩ (.slice va2 J3 vc2)).setCell ⟨B2, 1, none⟩ (.int .i64 J3)).setCell ⟨B2, 2, none⟩ (.int .i64 (-1))).heap[B2]? = some (.cells #[.slice va2 J3 vc2, .int .i64 J3, .int .i64 (-1)] 24) := heap3 HB2x.out
              have hr3x := hr2x.stt hb2x (by decide) (.slice va2 J3 vc2) (.int .i64 J3) (.int .i64 (-1))
              have hwr3 := hwr2.stt hb2x (by decide) (.slice va2 J3 vc2) (.int .i64 J3) (.int .i64 (-1))
              have hwe3 := fun i hi => (hwe2 i hi).stt hb2x (by decide) (.slice va2 J3 vc2) (.int .i64 J3) (.int .i64 (-1))
              have hE03 : Ext w (((w2.setCell ⟨B2, 0, none⟩ (.slice va2 J3 vc2)).setCell ⟨B2, 1, none⟩ (.int .i64 J3)).setCell ⟨B2, 2, none⟩ (.int .i64 (-1))) := ((hE02.st (p := ⟨B2, 0, none⟩) hsB2 _).st (p := ⟨B2, 1, none⟩) hsB2 _).st (p := ⟨B2, 2, none⟩) hsB2 _
              have hs3x : (((w2.setCell ⟨B2, 0, none⟩ (.slice va2 J3 vc2)).setCell ⟨B2, 1, none⟩ (.int .i64 J3)).setCell ⟨B2, 2, none⟩ (.int .i64 (-1))).heap.size = w2.heap.size := by simp only [size_setCell]
              have HRX := Lib.hid hr3x
              have HWRX := Lib.hid hwr3
              have HWEX := Lib.hid hwe3
              have HE03 := Lib.hid hE03
              have HIX := Lib.hid hIX
              have HB3x := Lib.hid hB3x
              clear hsh hR2 hE2 c0 c1 c2 hcell0 hcell1 hb2x hr2x hE12 hE02 hwr2 hwe2 hIX hB3x hr3x hwr3 hwe3 hE03
              have d0 := cell_of HI2.out 0
              have d1 := cell_of HI2.out 1
              simp only [List.getElem?_toArray, List.getElem?_cons_zero, List.getElem?_cons_succ] at d0 d1
              have c0 := cell_of HB2x.out 0
              have c1 := cell_of HB2x.out 1
              have c2 := cell_of HB2x.out 2
              simp only [List.getElem?_toArray, List.getElem?_cons_zero, List.getElem?_cons_succ] at c0 c1 c2
              have q0 := free_of HB2x.out 0
              have q1 := free_of HB2x.out 1
              have q2 := free_of HB2x.out 2
              go_wp2_with fail
              clear d0 d1 c0 c1 c2 q0 q1 q2
              generalize (((w2.setCell ⟨B2, 0, none⟩ (.slice va2 J3 vc2)).setCell ⟨B2, 1, none⟩ (.int .i64 J3)).setCell ⟨B2, 2, none⟩ (.int .i64 (-1))) = w4 at *
              have hst3 := stamp_calls p' (.slice ua' UU uc') us' w4 (HU2.out.ext HE03.out) p0' p1' (by rw [HUL2.out]; exact u1') HANY2.out
              rw [HUL2.out, HST2.out, ← HBL2.out] at hst3
              have HST3 := Lib.hid hst3
              clear hst3
              refine HST3.out.mono ?_
              rintro e w3 ⟨v3, rfl, hR3, hE3⟩
              obtain ⟨xa, xc, rfl, hxl, hsh⟩ := hR3.any
              have hs3 := hE3.sz
              have HX3 := Lib.hid (hR3.mono (show B + 1 ≤ _ from by omega))
              have HB3 := Lib.hid (hE3.hp HB3x.out)
              have HE3' := Lib.hid (HE03.out.trans' hE3)
              have HR3 := Lib.hid (HRX.out.ext hE3)
              have HWR3 := Lib.hid (HWRX.out.ext hE3)
              have HWE3 := Lib.hid (fun i hi => (HWEX.out i hi).ext hE3)
              clear hsh hR3 hE3
              go_wp2_with ((at_builtin; go_loud (refine wpList_append_one rfl _ _ 34 rfl (B + 1) 22 i (.slice none 0 0) 1 24 Try.underlying34 hi hz0 hz1 hz2 rfl (by decide) _ ((k + 1) + k2) _ rfl (HWR3.out.al _) w3.heap.size 1 [.slice xa st2.length xc] rfl rfl ⟨_, heap_alloc_new _ _⟩ (by simp [Value.oneCell']) (by unfold maxLen; omega) (by omega) (by simp; omega) ?_; intro v5 w5 hown5 hgrow5 hblk5; have hG5 : (w3.alloc (.cells #[.slice xa st2.length xc] 22)).grownBy w5 (Value.slice w2a ((k + 1) + k2) w2c).ownBlock := hgrow5; have hB5 := grown_keep hG5 (own_type HWR3.out HB3.out (by decide)) (((Ext.rf w3).al (.cells #[.slice xa st2.length xc] 22)).hp HB3.out); have HB5 := Lib.hid hB5; have HE5 := Lib.hid ((HE3'.out.al (.cells #[.slice xa st2.length xc] 22)).gr hG5 (fun q hq => by have := (HWR3.out.lt q hq).1; omega)); have HRR5 := Lib.hid (rowRows_push (l := G ++ (stampsOf l).take k2) (by rw [HGGL.out]; exact HWR3.out.al _) (fun i hi => (HWE3.out i hi).al _) (HX3.out.al _) (by decide) hG5 (by rw [HGGL.out]; exact hown5)); have HR5 := Lib.hid ((HR3.out.al (.cells #[.slice xa st2.length xc] 22)).grown hG5 (Row.apart HR3.out HWR3.out (by decide))); have hs5 := hG5.size; simp at hs5; clear hG5 hB5 hown5 hgrow5 hblk5)))
              go_roundg (n - (k2 + 1))
              case measure => omega
              case rel =>
                refine ⟨k2 + 1, L3, by omega, by omega, by go_num, rfl, (show _ ∧ _ from ⟨HHJ.out, by rw [HJ3.out]; omega, HJB1.out⟩), (show ∃ cv, _ from ⟨.slice va2 J3 vc2, ?_, ?_⟩), (show RowRows _ _ _ _ _ _ _ from ?_), (show _ ∧ _ from ⟨HE5.out, by omega⟩)⟩
                · rw [HJ3.out]; exact HB5.out
                · rw [HJ3.out]; exact HR5.out
                · rw [HGS2.out]; exact HRR5.out
            · have hltz2 : ¬ (k2 : Int) < (n : Int) := by omega
              obtain rfl : n = k2 := by omega
              have HJ1 := Lib.hid hj1
              have HBC := Lib.hid (hj2.bys HDB.out)
              have hcrash := crash_ok (.slice ca D.length cc) D D.length 0 (-1) wr HBC.out (by omega) (by omega) (by omega) (valid_at _ _ _ (by omega) (by omega) (by omega) (by omega) (by omega))
              rw [crash_all, List.take_length] at hcrash
              have HHD2 := Lib.hid hho2.1
              have HGT := Lib.hid hgg
              generalize hDL : D.length = DL at *
              have HDL := Lib.hid hDL
              have HCRASH := Lib.hid hcrash
              clear hcrash hDL hj1 hj2 hho2 hgg HHD
              have c0 := cell_of HJ1.out 0
              have c1 := cell_of HJ1.out 1
              have c2 := cell_of HJ1.out 2
              simp only [List.getElem?_toArray, List.getElem?_cons_zero, List.getElem?_cons_succ] at c0 c1 c2
              go_wp2_with fail
              refine HCRASH.out.mono ?_
              rintro e w7' ⟨v7', rfl, hR7, hE7⟩
              obtain ⟨fa2, fc2, rfl, hfl2, hsh⟩ := hR7.any
              have hs7' := hE7.sz
              have hBX := hE7.hp HJ1.out
              have HB7 := Lib.hid hBX
              have HDR := Lib.hid ((hR7.stt hBX (by decide) (.slice fa2 DL fc2) (.int .i64 DL) (.int .i64 (-1))).bys HDB.out)
              have HWX := Lib.hid ((RowRows.ext HRR2.out hE7).stt hBX (by decide) (by decide) (.slice fa2 DL fc2) (.int .i64 DL) (.int .i64 (-1)))
              have hE03 : Ext w (((w7'.setCell ⟨B2, 0, none⟩ (.slice fa2 DL fc2)).setCell ⟨B2, 1, none⟩ (.int .i64 DL)).setCell ⟨B2, 2, none⟩ (.int .i64 (-1))) := (((HEB2.out.1.trans' hE7).st (p := ⟨B2, 0, none⟩) hsB2 _).st (p := ⟨B2, 1, none⟩) hsB2 _).st (p := ⟨B2, 2, none⟩) hsB2 _
              have HE03 := Lib.hid hE03
              have HB8Y := Lib.hid (heap3 (x' := .slice fa2 DL fc2) (y' := .int .i64 DL) (z' := .int .i64 (-1)) hBX)
              clear hsh hR7 hE7 hBX hE03 c0 c1 c2
              have c0 := cell_of HB7.out 0
              have c1 := cell_of HB7.out 1
              have c2 := cell_of HB7.out 2
              simp only [List.getElem?_toArray, List.getElem?_cons_zero, List.getElem?_cons_succ] at c0 c1 c2
              have q0 := free_of HB7.out 0
              have q1 := free_of HB7.out 1
              have q2 := free_of HB7.out 2
              go_wp2_with fail
              clear c0 c1 c2 q0 q1 q2
              generalize (((w7'.setCell ⟨B2, 0, none⟩ (.slice fa2 DL fc2)).setCell ⟨B2, 1, none⟩ (.int .i64 DL)).setCell ⟨B2, 2, none⟩ (.int .i64 (-1))) = w8' at *
              refine (jread_ok (.slice fa2 DL fc2) D DL (-1) w8' HDR.out (by rw [HDL.out]; omega) (by rw [HDL.out]; exact valid_at _ _ _ (by omega) (by omega) (by omega) (by omega) (by omega))).mono ?_
              rw [HHD2.out]
              rintro e w9' ⟨v9', rfl, hR9, hE9⟩
              have HSX := Lib.hid (hR9.sl (fun r hr => (HGT.out r hr).1))
              have HWY := Lib.hid ((HWX.out.ext hE9).sl (fun r hr => (HGT.out r hr).1))
              have HEX := Lib.hid (HE03.out.trans' hE9)
              clear hR9 hE9
              go_wp2_with fail
              refine (sameRecords_calls _ _ (G ++ (stampsOf l).take n) _ HSX.out HWY.out (by rw [HGGL.out]; omega) (fun r hr => by have := (HGT.out r hr).2; omega)).mono ?_
              rintro e wZ ⟨rfl, hEZ⟩
              have HEZ := Lib.hid (HEX.out.trans' hEZ)
              clear hEZ
              go_wp2
              go_ret
              exact ⟨by simp, HEZ.out⟩
      · obtain ⟨q1, q2, q3, q4, q5, q6, q7⟩ := put_whole hhj (f : Int) st (.inr (by omega))
        rw [q1, q2, q3, ← HSNK.out] at hput
        obtain ⟨f2, hf2⟩ : ∃ f2 : Nat, leftF (f : Int) (recL st) = f2 := ⟨(leftF f (recL st)).toNat, by have := q7 (by omega); omega⟩
        rw [hf2] at hput q4 q5
        have HPUT := Lib.hid hput
        generalize hL2 : journalL ((stampsOf l).take (k + 1)) = L2 at *
        generalize hJ2 : L2.length = J2 at *
        have HL2 := Lib.hid hL2
        have HJ2 := Lib.hid hJ2
        clear hput hf2 q1 q2 q3 q6 q7 hL2 hJ2 hhj hcr hbl
        have c0 := cell_of HJ1.out 0
        have c1 := cell_of HJ1.out 1
        have c2 := cell_of HJ1.out 2
        simp only [List.getElem?_toArray, List.getElem?_cons_zero, List.getElem?_cons_succ] at c0 c1 c2
        go_wp2_with fail
        refine HPUT.out.mono ?_
        rintro e w2 ⟨v2, rfl, hR2, hE2⟩
        rw [HJ2.out] at hR2
        obtain ⟨va, vc, rfl, hvl, hsh⟩ := hR2.any
        have hs2 := hE2.sz
        simp at hs2
        have HI2 := Lib.hid (hE2.hp (heap_alloc_new wr (.cells #[.int .i64 p, .slice ua U uc] 54)))
        have HB2 := Lib.hid (hE2.hp (((Ext.rf wr).al (.cells #[.int .i64 p, .slice ua U uc] 54)).hp HJ1.out))
        have HR2 := Lib.hid (hR2.mono (show B + 1 ≤ _ from by simp; omega))
        have HE2 := Lib.hid ((HEB.out.1.al (.cells #[.int .i64 p, .slice ua U uc] 54)).trans' hE2)
        have HE12 := Lib.hid (((Ext.rf wr).al (.cells #[.int .i64 p, .slice ua U uc] 54)).trans' hE2)
        clear hsh hR2 hE2 c0 c1 c2 hcell0 hcell1
        have d0 := cell_of HI2.out 0
        have d1 := cell_of HI2.out 1
        simp only [List.getElem?_toArray, List.getElem?_cons_zero, List.getElem?_cons_succ] at d0 d1
        have hn2 : wr.heap.size < w2.heap.size := by omega
        have hn2a : wr.heap.size ≠ w2.heap.size := by omega
        have hn2b : B < w2.heap.size := by omega
        go_wp2_with fail
        have hst3 := stamp_calls p (.slice ua U uc) us (w2.alloc (.cells #[.slice va J2 vc, .int .i64 (J2 : Nat), .int .i64 (f2 : Nat)] 24)) (HU.out.ext (HE2.out.al _)) p0 p1 (by rw [HUL.out]; exact u1) HANY.out
        rw [HUL.out, HST.out, ← HBL.out] at hst3
        have HST3 := Lib.hid hst3
        clear hst3
        refine HST3.out.mono ?_
        rintro e w3 ⟨v3, rfl, hR3, hE3⟩
        obtain ⟨xa, xc, rfl, hxl, hsh⟩ := hR3.any
        have hs3 := hE3.sz
        simp at hs3
        have HX3 := Lib.hid (hR3.mono (show B + 1 ≤ _ from by simp; omega))
        have HB3 := Lib.hid (hE3.hp (((Ext.rf w2).al (.cells #[.slice va J2 vc, .int .i64 (J2 : Nat), .int .i64 (f2 : Nat)] 24)).hp HB2.out))
        have HC3 := Lib.hid (hE3.hp (heap_alloc_new w2 (.cells #[.slice va J2 vc, .int .i64 (J2 : Nat), .int .i64 (f2 : Nat)] 24)))
        have hE23 := ((Ext.rf w2).al (.cells #[.slice va J2 vc, .int .i64 (J2 : Nat), .int .i64 (f2 : Nat)] 24)).trans' hE3
        have HE3' := Lib.hid (HE2.out.trans' hE23)
        have HR3 := Lib.hid (HR2.out.ext hE23)
        have HWR3 := Lib.hid (HWR.out.ext (HE12.out.trans' hE23))
        have HWE3 := Lib.hid (fun i hi => (HWE.out i hi).ext (HE12.out.trans' hE23))
        clear hsh hR3 hE3 hE23 d0 d1
        go_wp2_with ((at_builtin; go_loud (refine wpList_append_one rfl _ _ 34 rfl (B + 1) 22 i (.slice none 0 0) 1 24 Try.underlying34 hi hz0 hz1 hz2 rfl (by decide) _ k _ rfl (HWR3.out.al _) w3.heap.size 1 [.slice xa st.length xc] rfl rfl ⟨_, heap_alloc_new _ _⟩ (by simp [Value.oneCell']) (by unfold maxLen; omega) (by omega) (by simp; omega) ?_; intro v5 w5 hown5 hgrow5 hblk5; have hG5 : (w3.alloc (.cells #[.slice xa st.length xc] 22)).grownBy w5 (Value.slice wa k wc).ownBlock := hgrow5; have hB5 := grown_keep hG5 (HWR3.out.far (g := B) (by omega)) (((Ext.rf w3).al (.cells #[.slice xa st.length xc] 22)).hp HB3.out); have hC5 := grown_keep hG5 (own_type HWR3.out HC3.out (by decide)) (((Ext.rf w3).al (.cells #[.slice xa st.length xc] 22)).hp HC3.out); have HB5 := Lib.hid hB5; have HC5 := Lib.hid hC5; have HE5 := Lib.hid ((HE3'.out.al (.cells #[.slice xa st.length xc] 22)).gr hG5 (fun q hq => by have := (HWR3.out.lt q hq).1; omega)); have HRR5 := Lib.hid (rowRows_push (l := (stampsOf l).take k) (by rw [HKL.out]; exact HWR3.out.al _) (fun i hi => (HWE3.out i hi).al _) (HX3.out.al _) (by decide) hG5 (by rw [HKL.out]; exact hown5)); have HR5 := Lib.hid ((HR3.out.al (.cells #[.slice xa st.length xc] 22)).grown hG5 (Row.apart HR3.out HWR3.out (by decide))); have hs5 := hG5.size; simp at hs5; clear hG5 hB5 hC5 hown5 hgrow5 hblk5; have c0 := cell_of HB5.out 0; have c1 := cell_of HB5.out 1; have c2 := cell_of HB5.out 2; have d0 := cell_of HC5.out 0; have d1 := cell_of HC5.out 1; have d2 := cell_of HC5.out 2; have f0 := free_of HB5.out 0; have f1 := free_of HB5.out 1; have f2' := free_of HB5.out 2; simp only [List.getElem?_toArray, List.getElem?_cons_zero, List.getElem?_cons_succ] at c0 c1 c2 d0 d1 d2)))
        go_wp2_with fail
        go_roundg (n - (k + 1))
        case measure => omega
        case rel =>
          refine ⟨k + 1, f2, by omega, by omega, by go_num, rfl, by omega, (show ∃ jv, _ from ⟨.slice va J2 vc, ?_, ?_⟩), (show RowRows _ _ _ _ _ _ _ from ?_), (show _ ∧ _ from ⟨(by repeat (first | refine Ext.st ?_ (by first | exact Nat.le_refl _ | exact Nat.le_succ _ | assumption | omega) _ | refine Ext.al ?_ _ | refine Ext.dr ?_ | refine Ext.drN ?_ _ | exact HE5.out)), ?_⟩)⟩
          · rw [HL2.out, HJ2.out]; exact heap3 HB5.out
          · rw [HL2.out, HJ2.out]; exact Row.st3 HR5.out (by omega) _ _ _
          · rw [HSNK.out]; exact RowRows.st3 HRR5.out (by omega) _ _ _
          · simp only [size_setCell]; omega
    · have hltz : ¬ (k : Int) < (n : Int) := by omega
      obtain rfl : n = k := by omega
      obtain ⟨va, vc, rfl, hjc, hsh⟩ := hj2.any
      clear hsh
      obtain ⟨w6, rfl⟩ : ∃ x, x = wr := ⟨_, rfl⟩
      have HKL := Lib.hid hkl
      have HGK := Lib.hid hgk
      have hho : HoldsR (journalL ((stampsOf l).take n)) ((stampsOf l).take n) := hhj
      have hJ2x : (journalL ((stampsOf l).take n)).length = (journalL ((stampsOf l).take n)).length := rfl
      generalize hL2 : journalL ((stampsOf l).take n) = L2 at *
      generalize hJ2 : L2.length = J2 at *
      have HL2 := Lib.hid hL2
      have HJ2 := Lib.hid hJ2
      have HBY7 := Lib.hid (show Bys w6 (.slice va J2 vc) L2 from by have := hj2; rw [← hJ2] at this ⊢; exact this.bys (by rw [← hL2]; exact journalL_byte (fun r hr => (hgk r hr).1)))
      have HJ1 := Lib.hid hj1
      have HW6 := Lib.hid HRR.out
      have HE6 := Lib.hid HEB.out.1
      have hB6 : B < w6.heap.size := hBw
      have hN1 := crashN_ge J2 J2 Y (Nat.le_refl _)
      have hN2 := crashN_le J2 J2 Y (Nat.le_refl _)
      have hct : HoldsR (L2.take (crashN J2 J2 Y)) ((stampsOf l).take n) := by rw [crash_all, ← hJ2, List.take_length]; exact hho
      clear hkl hgk hhj hho hJ2x hL2 hJ2 hj1 hj2
      have c0 := cell_of HJ1.out 0
      have c1 := cell_of HJ1.out 1
      have c2 := cell_of HJ1.out 2
      simp only [List.getElem?_toArray, List.getElem?_cons_zero, List.getElem?_cons_succ] at c0 c1 c2
      go_wp2_with fail
      clear c0 c1 c2
      have HJ7 := Lib.hid (show L2.length = J2 from HJ2.out)
      have hcrash := crash_ok (.slice va J2 vc) L2 J2 Y f w6 HBY7.out (by rw [HJ7.out]; omega) (by rw [HJ7.out]; omega) (by omega) (by rw [HJ7.out]; exact valid_at _ _ _ (by omega) (by omega) (by omega) (by omega) (by omega))
      rw [HJ7.out] at hcrash
      obtain ⟨N, hN⟩ : ∃ N, crashN J2 J2 Y = N := ⟨_, rfl⟩
      rw [hN] at hcrash hN1 hN2 hct
      have HCRASH := Lib.hid hcrash
      clear hcrash hN
      refine HCRASH.out.mono ?_
      rintro e w7 ⟨v7, rfl, hR7, hE7⟩
      obtain ⟨fa, fc, rfl, hfl, hsh⟩ := hR7.any
      have hCl : (L2.take N).length = N := by rw [List.length_take, HJ7.out]; omega
      have hCb : ∀ x, x ∈ L2.take N → Byte x := bytes_take HBY7.out.1
      have hs7 := hE7.sz
      have HR7 := Lib.hid (hR7.mono (show B + 1 ≤ w6.heap.size from by omega))
      have HE7 := Lib.hid (HE6.out.trans' hE7)
      have HW7 := Lib.hid (HW6.out.ext hE7)
      clear hsh hR7 hE7 HCRASH
      generalize L2.take N = C at *
      have HCL := Lib.hid hCl
      have HCB := Lib.hid hCb
      clear hCl hCb
      have HRDD := Lib.hid (jread_ok (.slice fa N fc) C N (-1) (w7.alloc (.cells #[.slice fa N fc, .int .i64 N, .int .i64 (-1)] 24)) ((HR7.out.bys HCB.out).ext ((Ext.rf _).al _)) (by rw [HCL.out]; omega) (by rw [HCL.out]; exact valid_at _ _ _ (by omega) (by omega) (by omega) (by omega) (by omega)))
      go_wp2_with fail
      have HHO := Lib.hid hct
      have HGG := HGK
      have hgl : ((stampsOf l).take n).length ≤ 41 := by rw [HKL.out]; omega
      rw [hct.1] at HRDD
      refine HRDD.out.mono ?_
      rintro e w8 ⟨v8, rfl, hR8, hE8⟩
      have hs8 := hE8.sz
      simp at hs8
      have HS8 := Lib.hid (hR8.sl (fun r hr => (HGG.out r hr).1))
      have HB8' := Lib.hid (hE8.hp (heap_alloc_new w7 (.cells #[.slice fa N fc, .int .i64 N, .int .i64 (-1)] 24)))
      have hE78 := ((Ext.rf w7).al (.cells #[.slice fa N fc, .int .i64 N, .int .i64 (-1)] 24)).trans' hE8
      have HR8' := Lib.hid (HR7.out.ext hE78)
      have HW8 := Lib.hid (HW7.out.ext hE78)
      have HE8 := Lib.hid (HE7.out.trans' hE78)
      obtain ⟨gvs, hgr, _⟩ := hR8
      obtain ⟨ga, gc, rfl, hgl8, hsh⟩ := hgr.any
      clear hsh hgr hE8 hE78 HRDD
      rw [HKL.out]
      rw [HKL.out] at hgl8
      go_wp2_with fail
      have HWW := HW8
      rw [HKL.out] at HS8
      generalize hGe : (stampsOf l).take n = G at *
      clear hGe
      have HGL := HKL
      have hGl3 : n ≤ 41 := by omega
      refine (sameRecords_calls _ _ G _ HS8.out (HWW.out.sl (fun r hr => (HGG.out r hr).1)) (by rw [HGL.out]; omega) (fun r hr => by have := (HGG.out r hr).2; omega)).mono ?_
      rintro e w9 ⟨rfl, hE9⟩
      obtain ⟨B2, hB2⟩ : ∃ B2, w7.heap.size = B2 := ⟨_, rfl⟩
      rw [hB2] at HB8' hs8
      have hsB2 : w.heap.size ≤ B2 := by have := HE7.out.sz; omega
      have hlt9 : B2 < w9.heap.size := by have := hE9.sz; omega
      have HB9 := Lib.hid (hE9.hp HB8'.out)
      have HR9 := Lib.hid (HR8'.out.ext hE9)
      have HW9 := Lib.hid (HWW.out.ext hE9)
      have HE9 := Lib.hid (HE8.out.trans' hE9)
      clear hE9
      rw [hB2]
      go_wp2_with fail
      go_loopg [8, 9, 111] n (fun m s8 s9 s111 wr => ∃ (k2 : Nat) (D : List Int), k2 ≤ n ∧ n - k2 ≤ m ∧ s111 = .int .i64 k2 ∧ s8 = .int .i64 0 ∧ Aside (HoldsR D (G ++ (stampsOf l).take k2) ∧ D.length ≤ 20000 ∧ ∀ x, x ∈ D → Byte x) ∧ Aside (∃ cv, wr.heap[B2]? = some (.cells #[cv, .int .i64 (D.length : Nat), .int .i64 (-1)] 24) ∧ Row wr (B + 1) 5 1 cv D.length (D.map (Value.int .u8))) ∧ Aside (RowRows wr (B + 1) 22 5 (Value.int .u8) s9 (G ++ (stampsOf l).take k2)) ∧ Aside (Ext w wr ∧ B2 < wr.heap.size))
      case atStart =>
        have hg0 : G ++ (stampsOf l).take 0 = G := by rw [List.take_zero, List.append_nil]
        refine ⟨0, C, Nat.zero_le _, by omega, rfl, rfl, (show _ ∧ _ from ⟨?_, ?_, HCB.out⟩), (show ∃ cv, _ from ⟨.slice fa N fc, ?_, ?_⟩), (show RowRows _ _ _ _ _ _ _ from ?_), (show _ ∧ _ from ⟨HE9.out, hlt9⟩)⟩
        · rw [hg0]; exact HHO.out
        · rw [HCL.out]; omega
        · rw [HCL.out]; exact HB9.out
        · rw [HCL.out]; exact HR9.out
        · rw [hg0]; exact HW9.out
      case round =>
        obtain ⟨k2, D, hk2, hm2, rfl, rfl, HHD, HJB, HRR2, HEB2⟩ := hrel
        obtain ⟨cv, hj1, hj2⟩ := HJB.out
        obtain ⟨hho2, hdl, hdb⟩ := HHD.out
        have HDB := Lib.hid hdb
        clear hdb
        have hsw2 := HEB2.out.1.sz
        have hBw2 := HEB2.out.2
        have hgg := HGG.out.append (HGS.out.take k2)
        have hggl : (G ++ (stampsOf l).take k2).length = n + k2 := by rw [List.length_append, HGL.out, List.length_take, HSL.out]; omega
        obtain ⟨ca, cc, rfl, hcc, hsh⟩ := hj2.any
        clear hsh
        obtain ⟨wvs2, hwr, hwe⟩ := HRR2.out
        rw [hggl] at hwr
        have HGGL := Lib.hid hggl
        obtain ⟨w2a, w2c, rfl, hwc2, hsh⟩ := hwr.any
        have HWR := Lib.hid hwr
        have HWE := Lib.hid (fun i (hi : i < (G ++ (stampsOf l).take k2).length) => hwe i hi)
        clear hsh hwr hwe hggl
        have hgsm := journal_small hgg (by rw [HGGL.out]; omega)
        by_cases hlt2 : k2 < n
        · have hltz2 : (k2 : Int) < (n : Int) := by omega
          obtain ⟨b2, off2, hbe, hb2, hc2⟩ := HVC.out (by intro e; have := HN.out; simp [e] at this; omega)
          first
            | (subst hbe)
            | (simp only [Option.some.injEq, Addr.mk.injEq, and_true] at hbe
               obtain ⟨hbe1, hbe2⟩ := hbe
               have hbe1 := hbe1.symm
               have hbe2 := hbe2.symm
               subst hbe1
               subst hbe2)
          obtain ⟨vs2, hvl2, ⟨u2, rfl, hu2⟩, hcx2⟩ := hc2 k2 hlt2
          obtain ⟨p0', p1', u1', hany'⟩ := right_parts (HR8.out _ (mem_at l k2 (by rw [HN.out]; exact hlt2)))
          have hsn2 := HSN.out k2 hlt2
          have hcell0 : wr.cell? ⟨b2, off2 + k2 * 2, none⟩ = some (.int .i64 l[k2]!.1) := HEB2.out.1.cl (hcx2 0 (by omega))
          have hcell1 : wr.cell? ⟨b2, off2 + k2 * 2 + 1, none⟩ = some u2 := HEB2.out.1.cl (hcx2 1 (by omega))
          have hb8' := stampL_byte (p := l[k2]!.1) (v := l[k2]!.2) ⟨p0', by omega⟩ (by omega)
          have hbl2 := stampL_len l[k2]!.1 l[k2]!.2
          clear hcx2 hc2
          generalize l[k2]!.1 = p' at *
          generalize l[k2]!.2 = us' at *
          have hput := put_ok ca cc D D.length (-1) p' u2 us' (wr.alloc (.cells #[.int .i64 p', u2] 54)) 0 ((hj2.bys (fun x hx => HDB.out x hx)).ext ((Ext.rf wr).al _)) (by omega) (valid_at _ _ _ (by omega) (by omega) (by omega) (by omega) (by omega)) (hu2.ext (HEB2.out.1.al _)) p0' p1' u1' hany' (check_holds hho2 hgg (by rw [HGGL.out]; omega) _ _ _ (by omega) (valid_at _ _ _ (by omega) (by omega) (by omega) (by omega) (by omega))) rfl
          have HU2 := Lib.hid hu2
          have HANY2 := Lib.hid hany'
          obtain ⟨ua', uc', rfl, huc', hux'⟩ := hu2
          have HB82 := Lib.hid hb8'
          have HBL2 := Lib.hid hbl2
          obtain ⟨q1, q2, q3, q4, q5, q6, q7⟩ := put_whole hho2 (-1) (stampL p' us') (.inl (by omega))
          rw [q1, q2, q3, q6 (by omega)] at hput
          have hgs : G ++ (stampsOf l).take (k2 + 1) = (G ++ (stampsOf l).take k2) ++ [stampL p' us'] := by rw [hsn2, List.append_assoc]
          rw [← hgs] at hput
          have hgg1 := HGG.out.append (HGS.out.take (k2 + 1))
          have hgsm1 := journal_small hgg1 (by rw [hgs, List.length_append, HGGL.out, List.length_singleton]; omega)
          have hjb1 := journalL_byte (fun r hr => (hgg1 r hr).1)
          have HHJ := Lib.hid (holds_journal hgg1)
          generalize hst2 : stampL p' us' = st2 at *
          have HST2 := Lib.hid hst2
          generalize hUL2 : us'.length = UU at *
          have HUL2 := Lib.hid hUL2
          generalize hDL : D.length = DL at *
          have HPUT2 := Lib.hid hput
          generalize hL3 : journalL (G ++ (stampsOf l).take (k2 + 1)) = L3 at *
          generalize hJ3 : L3.length = J3 at *
          have HL3 := Lib.hid hL3
          have HJ3 := Lib.hid hJ3
          have HGS2 := Lib.hid hgs
          have HJB1 := Lib.hid hjb1
          have HJ1 := Lib.hid hj1
          have HCVR := Lib.hid hj2
          clear hput q1 q2 q3 q4 q5 q6 q7 hL3 hJ3 hho2 hdl hux' hst2 hUL2 hDL hsn2 hgg hgg1 hjb1 hj1 hj2 hany' hb8' hbl2 hgs HHD
          have c0 := cell_of HJ1.out 0
          have c1 := cell_of HJ1.out 1
          have c2 := cell_of HJ1.out 2
          simp only [List.getElem?_toArray, List.getElem?_cons_zero, List.getElem?_cons_succ] at c0 c1 c2
          go_wp2_with fail
          refine HPUT2.out.mono ?_
          rintro e w2 ⟨v2, rfl, hR2, hE2⟩
          rw [HJ3.out] at hR2
          obtain ⟨va2, vc2, rfl, hvl', hsh⟩ := hR2.any
          have hs2 := hE2.sz
          simp at hs2
          have HI2 := Lib.hid (hE2.hp (heap_alloc_new wr (.cells #[.int .i64 p', .slice ua' UU uc'] 54)))
          have hb2x := hE2.hp (((Ext.rf wr).al (.cells #[.int .i64 p', .slice ua' UU uc'] 54)).hp HJ1.out)
          have hr2x := hR2.mono (show B + 1 ≤ _ from by simp; omega)
          have hE12 := ((Ext.rf wr).al (.cells #[.int .i64 p', .slice ua' UU uc'] 54)).trans' hE2
          have hE02 := (HEB2.out.1.al (.cells #[.int .i64 p', .slice ua' UU uc'] 54)).trans' hE2
          have hwr2 := HWR.out.ext hE12
          have hwe2 := fun i hi => (HWE.out i hi).ext hE12
          have HB2x := Lib.hid hb2x
          have hIX : (((w2.setCell ⟨B2, 0, none⟩ (.slice va2 J3 vc2)).setCell ⟨B2, 1, none⟩ (.int .i64 J3)).setCell ⟨B2, 2, none⟩ (.int .i64 (-1))).heap[wr.heap.size]? = some (.cells #[.int .i64 p', .slice ua' UU uc'] 54) := by
            rw [Below.heap_setCell _ _ _ _ (by simp only; omega), Below.heap_setCell _ _ _ _ (by simp only; omega), Below.heap_setCell _ _ _ _ (by simp only; omega)]; exact HI2.out
          have hB3x : (((w2.setCell ⟨B2, 0, none⟩ (.slice va2 J3 vc2)).setCell ⟨B2, 1, none⟩ (.int .i64 J3)).setCell ⟨B2, 2, none⟩ (.int .i64 (-1))).heap[B2]? = some (.cells #[.slice va2 J3 vc2, .int .i64 J3, .int .i64 (-1)] 24) := heap3 HB2x.out
          have hr3x := hr2x.stt hb2x (by decide) (.slice va2 J3 vc2) (.int .i64 J3) (.int .i64 (-1))
          have hwr3 := hwr2.stt hb2x (by decide) (.slice va2 J3 vc2) (.int .i64 J3) (.int .i64 (-1))
          have hwe3 := fun i hi => (hwe2 i hi).stt hb2x (by decide) (.slice va2 J3 vc2) (.int .i64 J3) (.int .i64 (-1))
          have hE03 : Ext w (((w2.setCell ⟨B2, 0, none⟩ (.slice va2 J3 vc2)).setCell ⟨B2, 1, none⟩ (.int .i64 J3)).setCell ⟨B2, 2, none⟩ (.int .i64 (-1))) := ((hE02.st (p := ⟨B2, 0, none⟩) hsB2 _).st (p := ⟨B2, 1, none⟩) hsB2 _).st (p := ⟨B2, 2, none⟩) hsB2 _
          have hs3x : (((w2.setCell ⟨B2, 0, none⟩ (.slice va2 J3 vc2)).setCell ⟨B2, 1, none⟩ (.int .i64 J3)).setCell ⟨B2, 2, none⟩ (.int .i64 (-1))).heap.size = w2.heap.size := by simp only [size_setCell]
          have HRX := Lib.hid hr3x
          have HWRX := Lib.hid hwr3
          have HWEX := Lib.hid hwe3
          have HE03 := Lib.hid hE03
          have HIX := Lib.hid hIX
          have HB3x := Lib.hid hB3x
          clear hsh hR2 hE2 c0 c1 c2 hcell0 hcell1 hb2x hr2x hE12 hE02 hwr2 hwe2 hIX hB3x hr3x hwr3 hwe3 hE03
          have d0 := cell_of HI2.out 0
          have d1 := cell_of HI2.out 1
          simp only [List.getElem?_toArray, List.getElem?_cons_zero, List.getElem?_cons_succ] at d0 d1
          have c0 := cell_of HB2x.out 0
          have c1 := cell_of HB2x.out 1
          have c2 := cell_of HB2x.out 2
          simp only [List.getElem?_toArray, List.getElem?_cons_zero, List.getElem?_cons_succ] at c0 c1 c2
          have q0 := free_of HB2x.out 0
          have q1 := free_of HB2x.out 1
          have q2 := free_of HB2x.out 2
          go_wp2_with fail
          clear d0 d1 c0 c1 c2 q0 q1 q2
          generalize (((w2.setCell ⟨B2, 0, none⟩ (.slice va2 J3 vc2)).setCell ⟨B2, 1, none⟩ (.int .i64 J3)).setCell ⟨B2, 2, none⟩ (.int .i64 (-1))) = w4 at *
          have hst3 := stamp_calls p' (.slice ua' UU uc') us' w4 (HU2.out.ext HE03.out) p0' p1' (by rw [HUL2.out]; exact u1') HANY2.out
          rw [HUL2.out, HST2.out, ← HBL2.out] at hst3
          have HST3 := Lib.hid hst3
          clear hst3
          refine HST3.out.mono ?_
          rintro e w3 ⟨v3, rfl, hR3, hE3⟩
          obtain ⟨xa, xc, rfl, hxl, hsh⟩ := hR3.any
          have hs3 := hE3.sz
          have HX3 := Lib.hid (hR3.mono (show B + 1 ≤ _ from by omega))
          have HB3 := Lib.hid (hE3.hp HB3x.out)
          have HE3' := Lib.hid (HE03.out.trans' hE3)
          have HR3 := Lib.hid (HRX.out.ext hE3)
          have HWR3 := Lib.hid (HWRX.out.ext hE3)
          have HWE3 := Lib.hid (fun i hi => (HWEX.out i hi).ext hE3)
          clear hsh hR3 hE3
          go_wp2_with ((at_builtin; go_loud (refine wpList_append_one rfl _ _ 34 rfl (B + 1) 22 i (.slice none 0 0) 1 24 Try.underlying34 hi hz0 hz1 hz2 rfl (by decide) _ (n + k2) _ rfl (HWR3.out.al _) w3.heap.size 1 [.slice xa st2.length xc] rfl rfl ⟨_, heap_alloc_new _ _⟩ (by simp [Value.oneCell']) (by unfold maxLen; omega) (by omega) (by simp; omega) ?_; intro v5 w5 hown5 hgrow5 hblk5; have hG5 : (w3.alloc (.cells #[.slice xa st2.length xc] 22)).grownBy w5 (Value.slice w2a (n + k2) w2c).ownBlock := hgrow5; have hB5 := grown_keep hG5 (own_type HWR3.out HB3.out (by decide)) (((Ext.rf w3).al (.cells #[.slice xa st2.length xc] 22)).hp HB3.out); have HB5 := Lib.hid hB5; have HE5 := Lib.hid ((HE3'.out.al (.cells #[.slice xa st2.length xc] 22)).gr hG5 (fun q hq => by have := (HWR3.out.lt q hq).1; omega)); have HRR5 := Lib.hid (rowRows_push (l := G ++ (stampsOf l).take k2) (by rw [HGGL.out]; exact HWR3.out.al _) (fun i hi => (HWE3.out i hi).al _) (HX3.out.al _) (by decide) hG5 (by rw [HGGL.out]; exact hown5)); have HR5 := Lib.hid ((HR3.out.al (.cells #[.slice xa st2.length xc] 22)).grown hG5 (Row.apart HR3.out HWR3.out (by decide))); have hs5 := hG5.size; simp at hs5; clear hG5 hB5 hown5 hgrow5 hblk5)))
          go_roundg (n - (k2 + 1))
          case measure => omega
          case rel =>
            refine ⟨k2 + 1, L3, by omega, by omega, by go_num, rfl, (show _ ∧ _ from ⟨HHJ.out, by rw [HJ3.out]; omega, HJB1.out⟩), (show ∃ cv, _ from ⟨.slice va2 J3 vc2, ?_, ?_⟩), (show RowRows _ _ _ _ _ _ _ from ?_), (show _ ∧ _ from ⟨HE5.out, by omega⟩)⟩
            · rw [HJ3.out]; exact HB5.out
            · rw [HJ3.out]; exact HR5.out
            · rw [HGS2.out]; exact HRR5.out
        · have hltz2 : ¬ (k2 : Int) < (n : Int) := by omega
          obtain rfl : n = k2 := by omega
          have HJ1 := Lib.hid hj1
          have HBC := Lib.hid (hj2.bys HDB.out)
          have hcrash := crash_ok (.slice ca D.length cc) D D.length 0 (-1) wr HBC.out (by omega) (by omega) (by omega) (valid_at _ _ _ (by omega) (by omega) (by omega) (by omega) (by omega))
          rw [crash_all, List.take_length] at hcrash
          have HHD2 := Lib.hid hho2.1
          have HGT := Lib.hid hgg
          generalize hDL : D.length = DL at *
          have HDL := Lib.hid hDL
          have HCRASH := Lib.hid hcrash
          clear hcrash hDL hj1 hj2 hho2 hgg HHD
          have c0 := cell_of HJ1.out 0
          have c1 := cell_of HJ1.out 1
          have c2 := cell_of HJ1.out 2
          simp only [List.getElem?_toArray, List.getElem?_cons_zero, List.getElem?_cons_succ] at c0 c1 c2
          go_wp2_with fail
          refine HCRASH.out.mono ?_
          rintro e w7' ⟨v7', rfl, hR7, hE7⟩
          obtain ⟨fa2, fc2, rfl, hfl2, hsh⟩ := hR7.any
          have hs7' := hE7.sz
          have hBX := hE7.hp HJ1.out
          have HB7 := Lib.hid hBX
          have HDR := Lib.hid ((hR7.stt hBX (by decide) (.slice fa2 DL fc2) (.int .i64 DL) (.int .i64 (-1))).bys HDB.out)
          have HWX := Lib.hid ((RowRows.ext HRR2.out hE7).stt hBX (by decide) (by decide) (.slice fa2 DL fc2) (.int .i64 DL) (.int .i64 (-1)))
          have hE03 : Ext w (((w7'.setCell ⟨B2, 0, none⟩ (.slice fa2 DL fc2)).setCell ⟨B2, 1, none⟩ (.int .i64 DL)).setCell ⟨B2, 2, none⟩ (.int .i64 (-1))) := (((HEB2.out.1.trans' hE7).st (p := ⟨B2, 0, none⟩) hsB2 _).st (p := ⟨B2, 1, none⟩) hsB2 _).st (p := ⟨B2, 2, none⟩) hsB2 _
          have HE03 := Lib.hid hE03
          have HB8Y := Lib.hid (heap3 (x' := .slice fa2 DL fc2) (y' := .int .i64 DL) (z' := .int .i64 (-1)) hBX)
          clear hsh hR7 hE7 hBX hE03 c0 c1 c2
          have c0 := cell_of HB7.out 0
          have c1 := cell_of HB7.out 1
          have c2 := cell_of HB7.out 2
          simp only [List.getElem?_toArray, List.getElem?_cons_zero, List.getElem?_cons_succ] at c0 c1 c2
          have q0 := free_of HB7.out 0
          have q1 := free_of HB7.out 1
          have q2 := free_of HB7.out 2
          go_wp2_with fail
          clear c0 c1 c2 q0 q1 q2
          generalize (((w7'.setCell ⟨B2, 0, none⟩ (.slice fa2 DL fc2)).setCell ⟨B2, 1, none⟩ (.int .i64 DL)).setCell ⟨B2, 2, none⟩ (.int .i64 (-1))) = w8' at *
          refine (jread_ok (.slice fa2 DL fc2) D DL (-1) w8' HDR.out (by rw [HDL.out]; omega) (by rw [HDL.out]; exact valid_at _ _ _ (by omega) (by omega) (by omega) (by omega) (by omega))).mono ?_
          rw [HHD2.out]
          rintro e w9' ⟨v9', rfl, hR9, hE9⟩
          have HSX := Lib.hid (hR9.sl (fun r hr => (HGT.out r hr).1))
          have HWY := Lib.hid ((HWX.out.ext hE9).sl (fun r hr => (HGT.out r hr).1))
          have HEX := Lib.hid (HE03.out.trans' hE9)
          clear hR9 hE9
          go_wp2_with fail
          refine (sameRecords_calls _ _ (G ++ (stampsOf l).take n) _ HSX.out HWY.out (by rw [HGGL.out]; omega) (fun r hr => by have := (HGT.out r hr).2; omega)).mono ?_
          rintro e wZ ⟨rfl, hEZ⟩
          have HEZ := Lib.hid (HEX.out.trans' hEZ)
          clear hEZ
          go_wp2
          go_ret
          exact ⟨by simp, HEZ.out⟩

end Go.Proofs.Ytggofkaakccoeaa
