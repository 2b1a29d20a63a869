import Derived.Test.YtfagfooggcinoaaGreatJa
import Derived.Test.YtfagfooggcinoaaGreatProg
import Derived.Test.YtfagfooggcinoaaGreatGk
import Derived.Test.YtfagfooggcinoaaGreatGe
import Derived.Test.YtfagfooggcinoaaGreatGd
import Derived.Test.YtfagfooggcinoaaGreatGb
import Derived.Test.YtfagfooggcinoaaGreatGl
import Derived.Test.YtfagfooggcinoaaGreatGa
import Derived.Test.YtfagfooggcinoaaGreatGh
import Derived.Test.YtfagfooggcinoaaGreatGg
import Derived.Test.YtfagfooggcinoaaGreatGi
import Derived.BigQuiet
import Derived.Deep.QuietTactic
import Derived.Deep.LoopGhost
import Derived.Shelf.Abstract
import Derived.RegionTactic
import Derived.Deep.RegionWith
import Derived.BigRegion
import Derived.Deep.DeepCutAuto
namespace Go.Proofs.YtfagfooggcinoaaGreat
open Go.RowKit
set_option linter.unusedVariables false
def bigR (x : List Int) : Bool := decide (220 < x.length)
def bigM (m : Mk) : Bool := decide (12 < m.closed.length) || (decide (12 < m.chan.length) || m.chan.any bigR)
def lightB (l : List Mk) : Bool := decide (l.length ≤ 12) && !(l.any bigM)
theorem lightB_ok {l : List Mk} (h : lightB l = true) : LightM l ∧ l.length ≤ 12 ∧ ∀ i, i < l.length → l[i]!.closed.length ≤ 12 ∧ l[i]!.chan.length ≤ 12 ∧ ∀ j, j < l[i]!.chan.length → (l[i]!.chan[j]!).length ≤ 220 := by
 unfold lightB at h
 rw [Bool.and_eq_true, decide_eq_true_eq, Bool.not_eq_true'] at h
 have h2 : ∀ i, i < l.length → l[i]!.closed.length ≤ 12 ∧ l[i]!.chan.length ≤ 12 ∧ ∀ j, j < l[i]!.chan.length → (l[i]!.chan[j]!).length ≤ 220 := fun i hi => by
  have h3 := List.any_eq_false.1 h.2 l[i]! (by rw [getElem!_pos l i hi]; exact List.getElem_mem hi)
  unfold bigM at h3
  simp only [Bool.or_eq_true, decide_eq_true_eq, not_or] at h3
  refine ⟨by omega, by omega, fun j hj => ?_⟩
  have h4 := List.any_eq_false.1 (by simpa using h3.2.2 : l[i]!.chan.any bigR = false) (l[i]!.chan[j]!) (by rw [getElem!_pos l[i]!.chan j hj]; exact List.getElem_mem hj)
  unfold bigR at h4
  rw [decide_eq_true_eq] at h4
  omega
 refine ⟨⟨by omega, fun i hi => ?_⟩, h.1, h2⟩
 obtain ⟨a, b, c⟩ := h2 i hi
 exact ⟨by omega, by omega, fun j hj => by have := c j hj; omega⟩
set_option maxHeartbeats 400000 in
theorem indexFunc_mks {α : Type} [Inhabited α] (R : World → List Value → α → Prop) (hLasts : Lasts R) (g : Nat) (cb : Array Value) (eg : ∀ args w, (callFunc g args).run Tryz.prog w = .ok (.enter g args) w) (p : α → Bool) (v : Value) (l : List α) (w : World)
  (hv : Sl R 3 w v l) (hn : l.length ≤ 1000000) (hp : SaysOf Tryz.prog R encAgg g cb p l w) :
  Calls Tryz.prog 106 #[v, .func (.func g) #[] cb] w fun e w' => e = .returned (.int .i64 (firstAt p l)) ∧ Ext w w' := by
 obtain ⟨a, c, rfl, hlc, hv⟩ := hv
 have HLC := Lib.hid hlc; clear hlc
 have HV := Lib.hid hv; clear hv
 have HP := Lib.hid hp; clear hp
 have HT := Lib.hid hLasts; clear hLasts
 generalize hln : l.length = n at hn
 have HL := Lib.hid hln; clear hln
 go_enter Tryz.func106, Tryz.ntmps106
 go_wp2
 go_loopg [5, 8] n (fun m _ s8 wr => ∃ k : Nat, k ≤ n ∧ n - k ≤ m ∧ s8 = .int .i64 k ∧ Ext w wr ∧ Aside (∀ j, j < k → p l[j]! = false))
 case atStart => exact ⟨0, Nat.zero_le _, by omega, rfl, Below.refl _ _, (fun j hj => absurd hj (Nat.not_lt_zero _))⟩
 case round =>
  obtain ⟨k, hk, hm, rfl, he, A⟩ := hrel
  have HE := Lib.hid he; clear he
  by_cases hlt : k < n
  ·obtain ⟨b, off, rfl, hb, hc⟩ := HV.out (by intro e; have := HL.out; simp [e] at this; omega)
   obtain ⟨vs, hvs, hR, hcell⟩ := hc k (by rw [HL.out]; exact hlt)
   obtain ⟨c0, c1, c2, rfl⟩ : ∃ c0 c1 c2, vs = [c0, c1, c2] := by match vs, hvs with | [c0, c1, c2], _ => exact ⟨c0, c1, c2, rfl⟩
   have d0 : wr.cell? ⟨b, off + k * 3, none⟩ = some c0 := (HE.out.cell hb).trans (hcell 0 (by omega))
   have d1 : wr.cell? ⟨b, off + k * 3 + 1, none⟩ = some c1 := (HE.out.cell hb).trans (hcell 1 (by omega))
   have d2 : wr.cell? ⟨b, off + k * 3 + 2, none⟩ = some c2 := (HE.out.cell hb).trans (hcell 2 (by omega))
   have hltz : (k : Int) < (n : Int) := by omega
   clear hc hcell
   have hcall := HP.out _ (mem_at l k (by rw [HL.out]; exact hlt)) wr _ HE.out (HT.out _ _ _ _ hR HE.out)
   unfold encAgg at hcall
   generalize hy : l[k]! = y at hcall hR
   have B := Lib.hid hy
   clear hy hR hvs HV HT HP
   cases hq : p y with
   | true =>
     rw [hq] at hcall
     have HQ := Lib.hid hq; clear hq
     go_wp2_with (go_at_fn g; refine hcall.mono ?_; rintro e w' ⟨rfl, he'⟩)
     go_ret
     exact ⟨by rw [firstAt_hit p l k (by rw [HL.out]; omega) (by rw [B.out]; exact HQ.out) A.out]; rfl, HE.out.trans' he'⟩
   | false =>
     rw [hq] at hcall
     have HQ := Lib.hid hq; clear hq
     go_wp2_with (go_at_fn g; refine hcall.mono ?_; rintro e w' ⟨rfl, he'⟩)
     go_roundg (n - (k + 1))
     case measure => omega
     case rel =>
      refine ⟨k + 1, by omega, by omega, by go_num, HE.out.trans' he', (show Aside _ from fun j hj => ?_)⟩
      by_cases e : j = k
      ·subst e
       rw [B.out]; exact HQ.out
      ·exact A.out j (by omega)
  ·have hltz : ¬ (k : Int) < (n : Int) := by omega
   go_wp2
   go_ret
   exact ⟨by rw [firstAt_miss p l (fun j hj => A.out j (by rw [HL.out] at hj; omega))]; rfl, HE.out⟩
set_option maxHeartbeats 400000 in
theorem containsFunc_mks {α : Type} [Inhabited α] (R : World → List Value → α → Prop) (hLasts : Lasts R) (g : Nat) (cb : Array Value) (eg : ∀ args w, (callFunc g args).run Tryz.prog w = .ok (.enter g args) w) (p : α → Bool) (v : Value) (l : List α) (w : World)
  (hv : Sl R 3 w v l) (hn : l.length ≤ 1000000) (hp : SaysOf Tryz.prog R encAgg g cb p l w) :
  Calls Tryz.prog 71 #[v, .func (.func g) #[] cb] w fun e w' => e = .returned (.bool (l.any p)) ∧ Ext w w' := by
 have HI := Lib.hid (indexFunc_mks R hLasts g cb eg p v l w hv hn hp)
 clear hv hp eg hLasts
 rw [← firstAt_any]
 go_enter Tryz.func71, Tryz.ntmps71
 go_wp2_with (go_at_call 106; refine HI.out.mono ?_; rintro e w' ⟨rfl, he'⟩)
 go_ret
 exact ⟨rfl, he'⟩
theorem enters_72 : ∀ args w, (callFunc 72 args).run Tryz.prog w = .ok (.enter 72 args) w := enters_of Tryz.func72 (by kernel_rfl) rfl
theorem enters_73 : ∀ args w, (callFunc 73 args).run Tryz.prog w = .ok (.enter 73 args) w := enters_of Tryz.func73 (by kernel_rfl) rfl
set_option maxHeartbeats 1000000 in
theorem light11_calls (vs : List Value) (x : List Int) (w : World) (hv : RInts w vs x) : Calls Tryz.prog 73 #[encOne vs] w fun e w' => e = .returned (.bool (bigR x)) ∧ Ext w w' := by
 obtain ⟨u, rfl, a, c, rfl, hz⟩ := hv
 clear hz
 obtain ⟨r, hr⟩ : ∃ r, decide (220 < (x.length : Int)) = r := ⟨_, rfl⟩
 have HR : Hid (bigR x = r) := Lib.hid (by unfold bigR; rw [← hr]; simp; omega)
 rw [HR.out]
 show Calls Tryz.prog 73 #[.slice a x.length c] w _
 generalize x.length = n at *
 go_enter Tryz.func73, Tryz.ntmps73
 go_wp2
 go_ret
 exact ⟨rfl, Ext.rf _⟩
set_option maxHeartbeats 2000000 in
theorem light1_calls (vs : List Value) (m : Mk) (w : World) (hv : RMk w vs m) : Calls Tryz.prog 72 #[encAgg vs] w fun e w' => e = .returned (.bool (bigM m)) ∧ Ext w w' := by
 obtain ⟨u, y, rfl, hb, hs⟩ := hv
 obtain ⟨_, ua, uc, rfl, hz⟩ := id hb
 clear hz
 have HS := Lib.hid hs
 obtain ⟨ya, yc, rfl, _⟩ := hs.sh
 have HBM : Hid (bigM m = (decide (12 < m.closed.length) || (decide (12 < m.chan.length) || m.chan.any bigR))) := Lib.hid rfl
 show Calls Tryz.prog 72 #[.agg #[.int .i64 m.cnt, .slice ua m.closed.length uc, .slice ya m.chan.length yc]] w _
 have HX1 := Lib.hid ((Ext.rf w).al (.cells #[.int .i64 m.cnt, .slice ua m.closed.length uc, .slice ya m.chan.length yc] 53))
 have HB1 := Lib.hid (heap_alloc_new w (.cells #[.int .i64 m.cnt, .slice ua m.closed.length uc, .slice ya m.chan.length yc] 53))
 have HC := Lib.hid (fun W (hW : Ext w W) (hn : m.chan.length ≤ 12) => containsFunc_rows RInts rints_lasts 73 #[] enters_73 bigR (.slice ya m.chan.length yc) m.chan W (Sl.ext rints_lasts HS.out hW) (by omega) (fun x _ W vs _ hR => light11_calls vs x W hR))
 generalize bigM m = ans at *
 generalize m.chan.any bigR = ab at *
 generalize m.cnt = cn at *
 generalize hk1 : m.closed.length = k1 at *
 generalize hk2 : m.chan.length = k2 at *
 clear hk1 hk2 hb hs
 by_cases h1 : 12 < k1
 ·have d1 : decide (12 < (k1 : Int)) = true := decide_eq_true (by omega)
  have d1n : decide (12 < k1) = true := decide_eq_true h1
  have HA : Hid (ans = true) := Lib.hid (by rw [HBM.out, d1n]; rfl)
  clear h1
  go_enter Tryz.func72, Tryz.ntmps72
  go_wp2
  go_ret
  exact ⟨by rw [HA.out]; rfl, HX1.out⟩
 ·have d1 : decide (12 < (k1 : Int)) = false := decide_eq_false (by omega)
  have d1n : decide (12 < k1) = false := decide_eq_false h1
  by_cases h2 : 12 < k2
  ·have d2 : decide (12 < (k2 : Int)) = true := decide_eq_true (by omega)
   have d2n : decide (12 < k2) = true := decide_eq_true h2
   have HA : Hid (ans = true) := Lib.hid (by rw [HBM.out, d1n, d2n]; rfl)
   clear h1 h2
   go_enter Tryz.func72, Tryz.ntmps72
   go_wp2
   go_ret
   exact ⟨by rw [HA.out]; rfl, HX1.out⟩
  ·have d2 : decide (12 < (k2 : Int)) = false := decide_eq_false (by omega)
   have d2n : decide (12 < k2) = false := decide_eq_false h2
   have HA : Hid (ans = ab) := Lib.hid (by rw [HBM.out, d1n, d2n]; rfl)
   have HC2 := Lib.hid (HC.out _ HX1.out (by omega))
   clear h1 h2 HC
   go_enter Tryz.func72, Tryz.ntmps72
   go_wp2_with fail
   refine HC2.out.mono ?_
   rintro e w2 ⟨rfl, hX⟩
   go_wp2
   go_ret
   exact ⟨by rw [HA.out]; rfl, HX1.out.trans' hX⟩
set_option maxHeartbeats 2000000 in
theorem light_calls (v : Value) (l : List Mk) (w : World) (h : Sl RMk 3 w v l) :
  Calls Tryz.prog 31 #[v] w fun e w' => e = .returned (.bool (lightB l)) ∧ Ext w w' := by
 have HC := Lib.hid (fun (hn : l.length ≤ 12) => containsFunc_mks RMk rmk_lasts 72 #[] enters_72 bigM v l w h (by omega) (fun x _ W vs _ hR => light1_calls vs x W hR))
 obtain ⟨va, vcap, rfl, hvc⟩ := h.sh
 have HBM : Hid (lightB l = (decide (l.length ≤ 12) && !(l.any bigM))) := Lib.hid rfl
 generalize lightB l = ans at *
 generalize l.any bigM = ab at *
 generalize l.length = n at *
 clear h
 by_cases h1 : n ≤ 12
 ·have d1 : decide ((n : Int) ≤ 12) = true := decide_eq_true (by omega)
  have d1n : decide (n ≤ 12) = true := decide_eq_true h1
  have HA : Hid (ans = !ab) := Lib.hid (by rw [HBM.out, d1n]; rfl)
  have HC2 := Lib.hid (HC.out h1)
  clear h1 HC
  go_enter Tryz.func31, Tryz.ntmps31
  go_wp2_with fail
  refine HC2.out.mono ?_
  rintro e w2 ⟨rfl, hX⟩
  go_wp2
  go_ret
  exact ⟨by rw [HA.out]; rfl, hX⟩
 ·have d1 : decide ((n : Int) ≤ 12) = false := decide_eq_false (by omega)
  have d1n : decide (n ≤ 12) = false := decide_eq_false h1
  have HA : Hid (ans = false) := Lib.hid (by rw [HBM.out, d1n]; rfl)
  clear h1 HC
  go_enter Tryz.func31, Tryz.ntmps31
  go_wp2
  go_ret
  exact ⟨by rw [HA.out]; rfl, Ext.rf _⟩
end Go.Proofs.YtfagfooggcinoaaGreat
namespace Go.Proofs.YtfagfooggcinoaaGreat
open Go.RowKit
set_option linter.unusedVariables false
attribute [local go_sem ↓] Go.wp_at_zero Go.wp_at_succ
set_option maxHeartbeats 1000000 in
theorem fitsR_calls (v vc : Value) (t : Tr) (c : List Int) (w : World) (h : TrAt w v t) (hc : Ints w vc c) :
  Calls Tryz.prog 107 #[.agg #[v], vc] w fun e w' => e = .returned (.bool (fitsB t c)) ∧ Ext w w' := by
 obtain ⟨ta, tc, rfl, htc⟩ := h.sh
 obtain ⟨ca, cc, rfl, hlc, _⟩ := hc
 obtain ⟨r, hr⟩ : ∃ r, ((c.length : Int) == (t.length : Int)) = r := ⟨_, rfl⟩
 have HR : Hid (fitsB t c = r) := Lib.hid (by unfold fitsB; rw [← hr]; by_cases h : c.length = t.length <;> simp [h]; omega)
 rw [HR.out]
 generalize c.length = m at *
 generalize t.length = n at *
 have HE1 := Lib.hid ((Ext.rf w).al (.cells #[.slice ta n tc] 24))
 clear h
 go_enter Tryz.func107, Tryz.ntmps107
 go_wp2
 go_ret
 exact ⟨rfl, HE1.out⟩
set_option maxHeartbeats 4000000 in
set_option maxRecDepth 100000 in
theorem rangeR_calls (v vc : Value) (t : Tr) (c : List Int) (w : World) (h : TrAt w v t) (hs : SmallTr t) (hc : Ints w vc c) (hl : c.length = t.length) :
  Calls Tryz.prog 108 #[.agg #[v], vc] w fun e w' => e = .returned (.bool (rangeB t c)) ∧ Ext w w' := by
 have HT := Lib.hid h
 have HC := Lib.hid hc
 have HS := Lib.hid hs
 obtain ⟨ta, tc, rfl, htc⟩ := h.sh
 obtain ⟨ca, cc, rfl, hlc, _⟩ := hc
 have hn1 := hs.1
 rw [hl] at hlc ⊢
 have HCL := Lib.hid hl
 obtain ⟨rb, hrb⟩ : ∃ b, rangeB t c = b := ⟨_, rfl⟩
 rw [hrb]
 have HRB := Lib.hid hrb
 generalize hln : t.length = n at *
 have HL := Lib.hid hln
 have HX0 := Lib.hid (heap_alloc_new w (.cells #[.slice ta n tc] 24))
 have HE1 := Lib.hid ((Ext.rf w).al (.cells #[.slice ta n tc] 24))
 clear h hs hln hl hrb
 go_enter Tryz.func108, Tryz.ntmps108
 go_wp2
 generalize hw2 : w.alloc (.cells #[.slice ta n tc] 24) = w2 at *
 clear hw2
 go_loopg [5] n (fun g s5 wr => ∃ p : Nat, p ≤ n ∧ n - p ≤ g ∧ s5 = .int .i64 p ∧ Aside (∀ q, q < p → 0 ≤ c[q]! ∧ c[q]! ≤ (t[q]!.events.length : Int)) ∧ Aside (Ext w2 wr))
 case atStart => exact ⟨0, Nat.zero_le _, by omega, rfl, (fun j hj => absurd hj (Nat.not_lt_zero _)), Ext.rf _⟩
 case round =>
  obtain ⟨p, hp, hg, rfl, A, HEK⟩ := hrel
  have HEW := Lib.hid (HE1.out.trans' HEK.out)
  have HY0 := Lib.hid (HEK.out.hp HX0.out)
  have t0 := cellOf HY0.out 0
  simp only [List.getElem?_toArray, List.getElem?_cons_zero] at t0
  by_cases hlt : p < n
  ·have hltz : (p : Int) < (n : Int) := by omega
   have hpz : (0 : Int) ≤ (p : Int) := by omega
   obtain ⟨B, O, C, vv, ve, hve, hlC, hB, hn0, hv0, he0, hV, hE0⟩ := proc_at HT.out p (by rw [HL.out]; exact hlt)
   simp only [Value.slice.injEq] at hve
   obtain ⟨rfl, hzz, rfl⟩ := hve
   obtain ⟨ea, ec, rfl, hec⟩ := hE0.sh
   obtain ⟨cb, co, rfl, hcb, hcp⟩ := ints_at HC.out p (by rw [HCL.out]; exact hlt)
   have he1 := HEW.out.cl he0
   have hc1 := HEW.out.cl hcp
   have hen := (HS.out.2 p (by rw [HL.out]; exact hlt)).2.1
   generalize hne : t[p]!.events.length = ne at *
   have HNE := Lib.hid hne
   generalize hk : c[p]! = k at *
   have HK := Lib.hid hk
   clear hn0 hv0 hV hE0 hzz hne he0 hk hcp
   have HNO : Hid (¬ (0 ≤ k ∧ k ≤ (ne : Int)) → rb = false) := Lib.hid (fun hno => by
    rw [← HRB.out, Bool.eq_false_iff]
    intro hr
    have := rangeB_iff.1 hr p (by rw [HCL.out]; exact hlt)
    rw [HNE.out, HK.out] at this
    exact hno this)
   by_cases h1 : k < 0
   ·have d1 : decide (k < 0) = true := decide_eq_true h1
    have HF := Lib.hid (HNO.out (by omega))
    clear h1
    go_wp2
    go_quiet (fail)
    go_wp2
    go_ret
    exact ⟨by rw [HF.out]; rfl, HEW.out.drN _⟩
   ·have d1 : decide (k < 0) = false := decide_eq_false h1
    by_cases h2 : (ne : Int) < k
    ·have d2 : decide ((ne : Int) < k) = true := decide_eq_true h2
     have HF := Lib.hid (HNO.out (by omega))
     clear h1 h2
     go_wp2
     go_quiet (fail)
     go_wp2
     go_ret
     exact ⟨by rw [HF.out]; rfl, HEW.out.drN _⟩
    ·have d2 : decide ((ne : Int) < k) = false := decide_eq_false h2
     have HOK := Lib.hid (show 0 ≤ k ∧ k ≤ (ne : Int) by omega)
     clear h1 h2
     go_wp2
     go_quiet (fail)
     go_wp2
     go_roundg (n - (p + 1))
     case measure => omega
     case rel =>
      refine ⟨p + 1, by omega, by omega, by go_num, (show Aside _ from fun j hj => ?_), (show Ext _ _ from HEK.out.drN _)⟩
      by_cases e : j = p
      ·subst e; rw [HNE.out, HK.out]; exact HOK.out
      ·exact A.out j (by omega)
  ·have hltz : ¬ (p : Int) < (n : Int) := by omega
   obtain rfl : n = p := by omega
   go_wp2
   go_ret
   refine ⟨?_, HEW.out⟩
   have e : rangeB t c = true := rangeB_iff.2 (fun q hq => A.out q (by rw [HCL.out] at hq; exact hq))
   rw [← HRB.out, e]; rfl
set_option maxHeartbeats 8000000 in
set_option maxRecDepth 100000 in
theorem sentR_calls (v vc : Value) (t : Tr) (c : List Int) (p i : Nat) (w : World) (h : TrAt w v t) (hs : SmallTr t) (hv : validT t = true) (hc : Ints w vc c) (hl : c.length = t.length) (hx : Inn t (p, i)) :
  Calls Tryz.prog 131 #[.agg #[v], vc, .int .i64 p, .int .i64 i] w fun e w' => e = .returned (.bool (sentB t c (p, i))) ∧ Ext w w' := by
 have HC := Lib.hid hc
 have HSD := Lib.hid (fun (hk : (ev t (p, i)).kind = 3) => valid_send hv hx hk)
 have HFI := Lib.hid (fun W (hW : Ext w W) m => findR_calls v t 2 m W (h.ext hW) hs)
 have hp : p < t.length := hx.1
 have hi : i < t[p]!.events.length := hx.2
 obtain ⟨sb, hsb⟩ : ∃ b, sentB t c (p, i) = b := ⟨_, rfl⟩
 rw [hsb]
 have HSB := Lib.hid hsb
 have HEVE : Hid (ev t (p, i) = t[p]!.events[i]!) := Lib.hid rfl
 obtain ⟨B, O, C, vv, ve, rfl, hlC, hB, hn0, hv0, he0, hV, hE0⟩ := proc_at h p hp
 obtain ⟨EB, EO, EC, va, rfl, hlE, hEB, k0, k1, k2, k3, k4, ha⟩ := event_at hE0 i hi
 obtain ⟨va1, va2, rfl, huc⟩ := ha.sh
 obtain ⟨ca, cc, rfl, hlc, _⟩ := hc
 have hn := hs.1
 have hen := (hs.2 p hp).2.1
 rw [hl] at hlc ⊢
 have HCL := Lib.hid hl
 generalize hxx : t[p]! = x at *
 generalize hev : x.events[i]! = y at *
 generalize hln : t.length = n at *
 generalize hne : x.events.length = ne at *
 generalize hna : y.asg.length = nb at *
 have HLN := Lib.hid hln
 have HEV2 := Lib.hid hev
 have HX0 := Lib.hid (heap_alloc_new w (.cells #[.slice (some ⟨B, O, none⟩) n C] 24))
 have HE1 := Lib.hid ((Ext.rf w).al (.cells #[.slice (some ⟨B, O, none⟩) n C] 24))
 have hpz : (0 : Int) ≤ (p : Int) := by omega
 have hpi : (p : Int) < (n : Int) := by omega
 have hiz : (0 : Int) ≤ (i : Int) := by omega
 have hii : (i : Int) < (ne : Int) := by omega
 have he1 := HE1.out.cl he0
 have m0 := HE1.out.cl k0
 have m1 := HE1.out.cl k1
 have m2 := HE1.out.cl k2
 have m3 := HE1.out.cl k3
 have m4 := HE1.out.cl k4
 clear h hs hv hx hp hi hn0 hv0 he0 hV hE0 ha k0 k1 k2 k3 k4 hxx hev hln hne hna hsb hl
 go_enter Tryz.func131, Tryz.ntmps131
 obtain ⟨ck, hck⟩ : ∃ b, (y.kind != 3) = b := ⟨_, rfl⟩
 have HCK := Lib.hid hck
 generalize hw1 : w.alloc (.cells #[.slice (some ⟨B, O, none⟩) n C] 24) = w1 at *
 have HB6 := Lib.hid (heap_alloc_new w1 (e5 (.int .i64 y.kind) (.int .i64 y.peer) (.int .i64 y.msg) (.int .i64 y.time) (.slice va1 nb va2)))
 have HXT := Lib.hid ((Ext.rf w1).al (e5 (.int .i64 y.kind) (.int .i64 y.peer) (.int .i64 y.msg) (.int .i64 y.time) (.slice va1 nb va2)))
 have t0 := cellOf HX0.out 0
 simp only [List.getElem?_toArray, List.getElem?_cons_zero] at t0
 have l1 : w.heap.size < w1.heap.size := World.block_lt_of_cell? w1 _ t0
 have l2 : w.heap.size ≠ w1.heap.size := by omega
 cases ck with
 | true =>
   have HF : Hid (sb = true) := Lib.hid (by rw [← HSB.out]; exact sentB_other (by rw [HEVE.out]; have := HCK.out; simpa using this))
   go_wp2
   go_ret
   exact ⟨by rw [HF.out]; rfl, HE1.out.trans' HXT.out⟩
 | false =>
   have HK3 := Lib.hid (show y.kind = 3 from by have := HCK.out; simpa using this)
   obtain ⟨s, hs⟩ := HSD.out (by rw [HEVE.out]; exact HK3.out)
   have HFS := Lib.hid hs
   rw [HEVE.out] at hs
   have HSN := Lib.hid (findE_some hs).1
   have HFW := Lib.hid (HFI.out _ (HE1.out.trans' HXT.out) y.msg)
   rw [hs] at HFW
   simp only [eidA, eidB] at HFW
   clear hs
   obtain ⟨s1, s2⟩ := s
   simp only at HFW HFS HSN
   have hs1 : s1 < n := by have := HSN.out.1; rw [HLN.out] at this; exact this
   obtain ⟨cb, co, rfl, _, hcs⟩ := ints_at HC.out s1 (by rw [HCL.out]; exact hs1)
   have HCS := Lib.hid hcs
   have HSR := Lib.hid (sentB_recv (c := c) (by rw [HEVE.out]; exact HK3.out) HFS.out)
   simp only at HSR
   clear hcs
   go_wp2_with fail
   clear t0 l1 l2 m0 m1 m2 m3 m4 he1
   refine HFW.out.mono ?_
   rintro e w7 ⟨rfl, hE7⟩
   have HB8 := Lib.hid (heap_alloc_new w7 (idO (s1 : Int) ((s2 : Int) + 1)))
   have HE8 := Lib.hid ((HE1.out.trans' (HXT.out.trans' hE7)).al (idO (s1 : Int) ((s2 : Int) + 1)))
   have dsp := HE8.out.cl HCS.out
   have s0 := cellOf HB8.out 0
   have s1c := cellOf HB8.out 1
   simp only [List.getElem?_toArray, List.getElem?_cons_zero, List.getElem?_cons_succ] at s0 s1c
   have hspz : (0 : Int) ≤ (s1 : Int) := by omega
   have hspi : (s1 : Int) < (n : Int) := by omega
   generalize hdg : c[s1]! = dg at *
   clear hdg hE7 HB6
   go_wp2
   generalize hw8 : w7.alloc (idO (s1 : Int) ((s2 : Int) + 1)) = w8 at *
   clear hw8
   obtain ⟨r, hr⟩ : ∃ r, decide ((s2 : Int) + 1 ≤ dg) = r := ⟨_, rfl⟩
   have HF : Hid (sb = r) := Lib.hid (by rw [← HSB.out, HSR.out, hr])
   go_quiet (fail)
   go_wp2
   go_ret
   exact ⟨by rw [HF.out]; rfl, HE8.out.drN _⟩
set_option maxHeartbeats 8000000 in
set_option maxRecDepth 100000 in
theorem closedR_calls (v vc : Value) (t : Tr) (c : List Int) (w : World) (h : TrAt w v t) (hs : SmallTr t) (hv : validT t = true) (hc : Ints w vc c) (hr : RangeC t c) :
  Calls Tryz.prog 109 #[.agg #[v], vc] w fun e w' => e = .returned (.bool (missE t c).isNone) ∧ Ext w w' := by
 have HC := Lib.hid hc
 have HR := Lib.hid hr
 have HSE := Lib.hid (fun W (hW : Ext w W) p i (hx : Inn t (p, i)) => sentR_calls v vc t c p i W (h.ext hW) hs hv (hc.ext hW) hr.1 hx)
 obtain ⟨ta, tc, rfl, htc⟩ := h.sh
 obtain ⟨ca, cc, rfl, hlc, _⟩ := hc
 have hn1 := hs.1
 have HS := Lib.hid hs
 rw [hr.1] at hlc HSE ⊢
 have HCL := Lib.hid hr.1
 obtain ⟨mb, hmb⟩ : ∃ b, (missE t c).isNone = b := ⟨_, rfl⟩
 rw [hmb]
 have HMB := Lib.hid hmb
 generalize hln : t.length = n at *
 have HL := Lib.hid hln
 have HX0 := Lib.hid (heap_alloc_new w (.cells #[.slice ta n tc] 24))
 have HE1 := Lib.hid ((Ext.rf w).al (.cells #[.slice ta n tc] 24))
 clear h hs hln hr hv hmb
 go_enter Tryz.func109, Tryz.ntmps109
 go_wp2
 generalize hw2 : w.alloc (.cells #[.slice ta n tc] 24) = w2 at *
 clear hw2
 go_loopg [5] n (fun g s5 wr => ∃ p : Nat, p ≤ n ∧ n - p ≤ g ∧ s5 = .int .i64 p ∧ Aside (missTo t c p 0 = none) ∧ Aside (Ext w2 wr))
 case atStart => exact ⟨0, Nat.zero_le _, by omega, rfl, (show Aside _ from missTo_zero t c), Ext.rf _⟩
 case round =>
  obtain ⟨p, hp, hg, rfl, A, HEK⟩ := hrel
  have HEW := Lib.hid (HE1.out.trans' HEK.out)
  by_cases hlt : p < n
  ·have hltz : (p : Int) < (n : Int) := by omega
   have hpz : (0 : Int) ≤ (p : Int) := by omega
   obtain ⟨cb, co, rfl, hcb, hcp⟩ := ints_at HC.out p (by rw [HCL.out]; exact hlt)
   have hkr := HR.out.at (p := p) (by rw [HL.out]; exact hlt)
   have HKN : Hid (∀ i : Nat, (i : Int) < c[p]! → Inn t (p, i)) := Lib.hid (fun i hi => ⟨by show p < t.length; rw [HL.out]; exact hlt, by show i < t[p]!.events.length; omega⟩)
   have hen := (HS.out.2 p (by rw [HL.out]; exact hlt)).2.1
   obtain ⟨k, hk⟩ : ∃ k : Nat, c[p]! = (k : Int) := ⟨c[p]!.toNat, by omega⟩
   rw [hk] at hcp HKN
   have HK := Lib.hid hk
   have hkm : k ≤ 1000000 := by omega
   have HCP := Lib.hid hcp
   clear hcp hkr hk hcb hen
   go_wp2
   obtain ⟨wo, rfl⟩ : ∃ x, x = wr := ⟨_, rfl⟩
   go_loopg [6] k (fun g2 s6 wr => ∃ i : Nat, i ≤ k ∧ k - i ≤ g2 ∧ s6 = .int .i64 i ∧ Aside (missTo t c p i = none) ∧ Aside (Ext wo wr))
   case atStart => exact ⟨0, Nat.zero_le _, by omega, rfl, A, Ext.rf _⟩
   case round =>
    obtain ⟨i, hi, hg2, rfl, A2, HEK2⟩ := hrel
    have HEW2 := Lib.hid (HEW.out.trans' HEK2.out)
    have hc1 := HEW2.out.cl HCP.out
    have HY0 := Lib.hid (HEK2.out.hp (HEK.out.hp HX0.out))
    have t0 := cellOf HY0.out 0
    simp only [List.getElem?_toArray, List.getElem?_cons_zero] at t0
    by_cases hli : i < k
    ·have hliz : (i : Int) < (k : Int) := by omega
     have HSW := Lib.hid (HSE.out wr HEW2.out p i (HKN.out i hliz))
     obtain ⟨sb, hsb⟩ : ∃ b, sentB t c (p, i) = b := ⟨_, rfl⟩
     rw [hsb] at HSW
     have HSB := Lib.hid hsb
     clear hsb
     go_wp2_with fail
     refine HSW.out.mono ?_
     rintro e w7 ⟨rfl, hE7⟩
     cases sb with
     | true =>
       go_wp2
       go_roundg (k - (i + 1))
       case measure => omega
       case rel => exact ⟨i + 1, by omega, by omega, by go_num, (show Aside _ from missTo_succ A2.out HSB.out), (HEK2.out.trans' hE7 : Ext wo w7)⟩
     | false =>
       have HF : Hid (mb = false) := Lib.hid (by rw [← HMB.out, missTo_hit A2.out HSB.out (by rw [HCL.out]; exact hlt) (by rw [HK.out]; exact hliz)]; rfl)
       go_wp2
       go_ret
       exact ⟨by rw [HF.out]; rfl, HEW2.out.trans' hE7⟩
    ·have hliz : ¬ (i : Int) < (k : Int) := by omega
     obtain rfl : k = i := by omega
     go_wp2
     go_roundg (n - (p + 1))
     case measure => omega
     case rel =>
      exact ⟨p + 1, by omega, by omega, by go_num, (show Aside _ from missTo_next A2.out (by rw [HK.out]; simp)), (show Ext _ _ from HEK.out.trans' HEK2.out)⟩
  ·have hltz : ¬ (p : Int) < (n : Int) := by omega
   obtain rfl : n = p := by omega
   have HF : Hid (mb = true) := Lib.hid (by rw [← HMB.out, show missE t c = none from by unfold missE; rw [HCL.out]; exact A.out]; rfl)
   go_wp2
   go_ret
   exact ⟨by rw [HF.out]; rfl, HEW.out⟩
set_option maxHeartbeats 4000000 in
set_option maxRecDepth 100000 in
theorem consistentR_calls (v vc : Value) (t : Tr) (c : List Int) (w : World) (h : TrAt w v t) (hs : LooseTr t) (hc : Ints w vc c) :
  Calls Tryz.prog 76 #[.agg #[v], vc] w fun e w' => e = .returned (.bool (consB t c)) ∧ Ext w w' := by
 have HVC := Lib.hid (fun W (hW : Ext w W) => validR_calls v t W (h.ext hW) hs)
 have HFC := Lib.hid (fun W (hW : Ext w W) => fitsR_calls v vc t c W (h.ext hW) (hc.ext hW))
 have HRC := Lib.hid (fun W (hW : Ext w W) (hv : validT t = true) (hf : fitsB t c = true) => rangeR_calls v vc t c W (h.ext hW) (valid_small hv) (hc.ext hW) (of_decide_eq_true hf))
 have HCC := Lib.hid (fun W (hW : Ext w W) (hv : validT t = true) (hf : fitsB t c = true) (hr : rangeB t c = true) => closedR_calls v vc t c W (h.ext hW) (valid_small hv) hv (hc.ext hW) ⟨of_decide_eq_true hf, hr⟩)
 obtain ⟨ta, tc, rfl, htc⟩ := h.sh
 obtain ⟨ca, cc, rfl, hlc, _⟩ := hc
 obtain ⟨cb, hcb⟩ : ∃ b, consB t c = b := ⟨_, rfl⟩
 rw [hcb]
 have HB := Lib.hid hcb
 obtain ⟨vb, hvb⟩ : ∃ b, validT t = b := ⟨_, rfl⟩
 obtain ⟨fb, hfb⟩ : ∃ b, fitsB t c = b := ⟨_, rfl⟩
 obtain ⟨rb, hrb⟩ : ∃ b, rangeB t c = b := ⟨_, rfl⟩
 obtain ⟨mb, hmb⟩ : ∃ b, (missE t c).isNone = b := ⟨_, rfl⟩
 have HBB : Hid (cb = (vb && (fb && (rb && mb)))) := Lib.hid (by rw [← hcb, ← hvb, ← hfb, ← hrb, ← hmb]; rfl)
 rw [hvb] at HVC HRC HCC
 rw [hfb] at HFC HRC HCC
 rw [hrb] at HRC HCC
 rw [hmb] at HCC
 generalize t.length = n at *
 generalize c.length = m at *
 have HY1 := Lib.hid (heap_alloc_new w (.cells #[.slice ta n tc] 24))
 have HE1 := Lib.hid ((Ext.rf w).al (.cells #[.slice ta n tc] 24))
 have t1 : True := trivial
 clear h hs hcb hvb hfb hrb hmb hlc htc
 go_enter Tryz.func76, Tryz.ntmps76
 go_wp2_with fail
 refine (HVC.out _ HE1.out).mono ?_
 rintro e w2 ⟨rfl, hX2⟩
 have HE2 := Lib.hid (HE1.out.trans' hX2)
 have HY2 := Lib.hid (hX2.hp HY1.out)
 have t2 := cellOf HY2.out 0
 simp only [List.getElem?_toArray, List.getElem?_cons_zero] at t2
 clear hX2 t1
 cases vb with
 | false => go_wp2; go_ret; exact ⟨by rw [HBB.out]; simp, HE2.out⟩
 | true =>
   go_wp2_with fail
   refine (HFC.out _ HE2.out).mono ?_
   rintro e w3 ⟨rfl, hX3⟩
   have HE3 := Lib.hid (HE2.out.trans' hX3)
   have HY3 := Lib.hid (hX3.hp HY2.out)
   have t3 := cellOf HY3.out 0
   simp only [List.getElem?_toArray, List.getElem?_cons_zero] at t3
   clear hX3 t2
   cases fb with
   | false => go_wp2; go_ret; exact ⟨by rw [HBB.out]; simp, HE3.out⟩
   | true =>
     go_wp2_with fail
     refine (HRC.out _ HE3.out (by first | rfl | trivial) (by first | rfl | trivial)).mono ?_
     rintro e w4 ⟨rfl, hX4⟩
     have HE4 := Lib.hid (HE3.out.trans' hX4)
     have HY4 := Lib.hid (hX4.hp HY3.out)
     have t4 := cellOf HY4.out 0
     simp only [List.getElem?_toArray, List.getElem?_cons_zero] at t4
     clear hX4 t3
     cases rb with
     | false => go_wp2; go_ret; exact ⟨by rw [HBB.out]; simp, HE4.out⟩
     | true =>
       go_wp2_with fail
       refine (HCC.out _ HE4.out (by first | rfl | trivial) (by first | rfl | trivial) (by first | rfl | trivial)).mono ?_
       rintro e w5 ⟨rfl, hX5⟩
       have HE5 := Lib.hid (HE4.out.trans' hX5)
       have HY5 := Lib.hid (hX5.hp HY4.out)
       have t5 := cellOf HY5.out 0
       simp only [List.getElem?_toArray, List.getElem?_cons_zero] at t5
       clear hX5 t4
       go_wp2
       go_ret
       exact ⟨by rw [HBB.out]; simp, HE5.out⟩
end Go.Proofs.YtfagfooggcinoaaGreat
namespace Go.Proofs.YtfagfooggcinoaaGreat
open Go.RowKit
set_option linter.unusedVariables false
attribute [local go_sem ↓] Go.wp_at_zero Go.wp_at_succ
set_option maxHeartbeats 4000000 in
set_option maxRecDepth 100000 in
theorem leqR_calls (va vb : Value) (a b : List Int) (w : World) (ha : Ints w va a) (hb : Ints w vb b) (hn : a.length ≤ 1000000) (hm : b.length ≤ 1000000) :
  Calls Tryz.prog 78 #[va, vb] w fun e w' => e = .returned (.bool (leCB a b)) ∧ Ext w w' := by
 have HA := Lib.hid ha
 have HB := Lib.hid hb
 obtain ⟨aa, ac, rfl, hac, _⟩ := ha
 obtain ⟨ba, bc, rfl, hbc, _⟩ := hb
 obtain ⟨r, hr⟩ : ∃ r, leCB a b = r := ⟨_, rfl⟩
 rw [hr]
 have HRR := Lib.hid hr
 generalize hna : a.length = n at *
 generalize hnb : b.length = m at *
 have HA' := Lib.hid hna
 have HB' := Lib.hid hnb
 clear hr hna hnb
 by_cases hnm : n = m
 case neg =>
  have HF : Hid (r = false) := Lib.hid (by rw [← HRR.out, Bool.eq_false_iff]; intro h; have := (leCB_iff.1 h).1; rw [HA'.out, HB'.out] at this; exact hnm this)
  have c1 : ((n : Int) != (m : Int)) = true := by simp; omega
  have c1n : (n != m) = true := by simp; omega
  clear hnm
  go_enter Tryz.func78, Tryz.ntmps78
  go_wp2
  go_ret
  exact ⟨by rw [HF.out]; rfl, Ext.rf _⟩
 case pos =>
  subst hnm
  go_enter Tryz.func78, Tryz.ntmps78
  go_wp2
  go_loopg [5] n (fun g s wr => ∃ i : Nat, i ≤ n ∧ n - i ≤ g ∧ s = .int .i64 i ∧ Aside (∀ j, j < i → a[j]! ≤ b[j]!) ∧ Aside (Ext w wr))
  case atStart => exact ⟨0, Nat.zero_le _, by omega, rfl, (fun j hj => absurd hj (Nat.not_lt_zero _)), Ext.rf _⟩
  case round =>
   obtain ⟨i, hi, hg, rfl, A, HEK⟩ := hrel
   by_cases hlt : i < n
   ·have hltz : (i : Int) < (n : Int) := by omega
    have hiz : (0 : Int) ≤ (i : Int) := by omega
    have HIA := Lib.hid (show i < a.length from by rw [HA'.out]; exact hlt)
    obtain ⟨b1, o1, rfl, hb1, hc1⟩ := ints_at HA.out i HIA.out
    obtain ⟨b2, o2, rfl, hb2, hc2⟩ := ints_at HB.out i (by rw [HB'.out]; exact hlt)
    have d1 := HEK.out.cl hc1
    have d2 := HEK.out.cl hc2
    generalize hx : a[i]! = x at *
    generalize hy : b[i]! = y at *
    have HXY := Lib.hid (And.intro hx hy)
    clear hx hy hc1 hc2 hb1 hb2
    by_cases hgt : y < x
    ·have e1 : decide (y < x) = true := decide_eq_true hgt
     have HF : Hid (r = false) := Lib.hid (by
      rw [← HRR.out, Bool.eq_false_iff]; intro h
      have := (leCB_iff.1 h).2 i HIA.out
      rw [HXY.out.1, HXY.out.2] at this; omega)
     clear hgt
     go_wp2
     go_quiet (fail)
     go_wp2
     go_ret
     exact ⟨by rw [HF.out]; rfl, HEK.out.drN _⟩
    ·have e1 : decide (y < x) = false := decide_eq_false hgt
     have HOK := Lib.hid (show x ≤ y by omega)
     clear hgt
     go_wp2
     go_quiet (fail)
     go_wp2
     go_roundg (n - (i + 1))
     case measure => omega
     case rel =>
      refine ⟨i + 1, by omega, by omega, by go_num, (show Aside _ from fun j hj => ?_), (show Ext _ _ from HEK.out.drN _)⟩
      by_cases e : j = i
      ·subst e; rw [HXY.out.1, HXY.out.2]; exact HOK.out
      ·exact A.out j (by omega)
   ·have hltz : ¬ (i : Int) < (n : Int) := by omega
    obtain rfl : n = i := by omega
    go_wp2
    go_ret
    refine ⟨?_, HEK.out⟩
    rw [← HRR.out, show leCB a b = true from leCB_iff.2 ⟨by rw [HA'.out, HB'.out], fun p hp => A.out p (by rw [← HA'.out]; exact hp)⟩]
    rfl
end Go.Proofs.YtfagfooggcinoaaGreat
namespace Go.Proofs.YtfagfooggcinoaaGreat
open Go.RowKit
set_option linter.unusedVariables false
attribute [local go_sem ↓] Go.wp_at_zero Go.wp_at_succ
set_option maxHeartbeats 8000000 in
set_option maxRecDepth 100000 in
theorem underWayR_calls (v vc : Value) (t : Tr) (c : List Int) (P : Nat) (q : Int) (w : World) (h : TrAt w v t) (hs : SmallTr t) (hc : Ints w vc c) (hr : RangeC t c) (hp : P < t.length) :
  Calls Tryz.prog 110 #[.agg #[v], vc, .int .i64 P, .int .i64 q] w fun e w' => IntsOut w w' e (underC t c P q) := by
 have HCC := Lib.hid hc
 have HT := Lib.hid h
 have HS := Lib.hid hs
 obtain ⟨ii, hii, iz0, iz1, iz2⟩ := info_parts info_int3
 have HRE := Lib.hid (fun W (hW : Ext w W) m => findR_calls v t 3 m W (h.ext hW) hs)
 obtain ⟨ta, tc, rfl, htc⟩ := h.sh
 obtain ⟨ca, cc, rfl, hlc, _⟩ := hc
 have hsm := hs.1
 have HX0 := Lib.hid (heap_alloc_new w (.cells #[.slice ta t.length tc] 24))
 have HE2 := Lib.hid ((Ext.rf w).al (.cells #[.slice ta t.length tc] 24))
 rw [hr.1] at hlc ⊢
 have HM := Lib.hid hr.1
 have HPL := Lib.hid hp
 have hkr := hr.at hp
 generalize hN : t.length = M at *
 have HN := Lib.hid hN
 obtain ⟨B, O, C, vv, ve, hve, hlC, hB, hn0, hv0, he0, hV, hE0⟩ := proc_at HT.out P (by first | exact HPL.out | (rw [HN.out]; exact hp))
 simp only [Value.slice.injEq] at hve
 obtain ⟨rfl, hzz, rfl⟩ := hve
 have HEV := Lib.hid hE0
 obtain ⟨ea, ec, rfl, hec⟩ := hE0.sh
 obtain ⟨cb, co, rfl, hcb, hcp⟩ := ints_at HCC.out P (by rw [HM.out]; first | exact hp | (rw [HN.out]; exact hp))
 have he1 := HE2.out.cl he0
 have hc1 := HE2.out.cl hcp
 have hen := (HS.out.2 P (by rw [HN.out]; exact hp)).2.1
 generalize hne : t[P]!.events.length = ne at *
 have HNE := Lib.hid hne
 obtain ⟨k, hk⟩ : ∃ k : Nat, c[P]! = (k : Int) := ⟨c[P]!.toNat, by omega⟩
 rw [hk] at hc1 hkr
 have HK := Lib.hid hk
 have hkz : (0 : Int) ≤ (k : Int) := by omega
 have hkm : k ≤ 1000000 := by omega
 have HKN := Lib.hid (show k ≤ ne from by omega)
 have hPz : (0 : Int) ≤ (P : Int) := by omega
 have hPi : (P : Int) < (M : Int) := by omega
 have HU : Hid (underC t c P q = uwTo t c q P k) := Lib.hid (by unfold underC; rw [hk, Int.toNat_natCast])
 rw [HU.out]
 have HE00 := Lib.hid he1
 have HC00 := Lib.hid hc1
 clear h hs hr hp hN hn0 hv0 hV hE0 hzz hne he0 hk hcp hkr
 go_enter Tryz.func110, Tryz.ntmps110
 go_wp2
 generalize hw2 : w.alloc (.cells #[.slice (some ⟨B, O, none⟩) M tc] 24) = w2 at *
 clear hw2 he1 hc1
 go_loopg [9, 10] k (fun g s9 s10 wr => ∃ i : Nat, i ≤ k ∧ k - i ≤ g ∧ s10 = .int .i64 i ∧ Aside (Row wr w2.heap.size 3 1 s9 (uwTo t c q P i).length ((uwTo t c q P i).map (Value.int .i64))) ∧ Aside (Ext w2 wr))
 case atStart => exact ⟨0, Nat.zero_le _, by omega, rfl, (show Row _ _ _ _ _ _ _ from Row.mkNil _ _ _ _), Ext.rf _⟩
 case round =>
  obtain ⟨i, hi, hg, rfl, HR, HEK⟩ := hrel
  have HEW := Lib.hid (HE2.out.trans' HEK.out)
  have HY0 := HX0
  have c1 := HEK.out.cl HC00.out
  have e1 := HEK.out.cl HE00.out
  have HXT0 := Lib.hid (HEK.out.hp HX0.out)
  have t0 := cellOf HXT0.out 0
  simp only [List.getElem?_toArray, List.getElem?_cons_zero] at t0
  have l1 : w.heap.size < wr.heap.size := World.block_lt_of_cell? wr _ t0
  have l2 : w.heap.size ≠ wr.heap.size := by omega
  by_cases hli : i < k
  ·have hliz : (i : Int) < (k : Int) := by omega
   have hiz : (0 : Int) ≤ (i : Int) := by omega
   have hine : (i : Int) < (ne : Int) := by have := HKN.out; omega
   obtain ⟨EB, EO, EC, va, hee, hlE, hEB, k0, k1, k2, k3, k4, ha⟩ := event_at HEV.out i (by rw [HNE.out]; have := HKN.out; omega)
   simp only [Value.slice.injEq] at hee
   obtain ⟨rfl, hzz, rfl⟩ := hee
   obtain ⟨va1, va2, rfl, _⟩ := ha.sh
   have m0 := HEW.out.cl k0
   have m1 := HEW.out.cl k1
   have m2 := HEW.out.cl k2
   have m3 := HEW.out.cl k3
   have m4 := HEW.out.cl k4
   have HEVE : Hid (ev t (P, i) = t[P]!.events[i]!) := Lib.hid rfl
   generalize t[P]!.events[i]! = y at *
   generalize y.asg.length = nb at *
   have hel := uwTo_len t c q P i
   have hsz := HEK.out.sz
   clear k0 k1 k2 k3 k4 hzz ha
   have HB6 := Lib.hid (heap_alloc_new wr (e5 (.int .i64 y.kind) (.int .i64 y.peer) (.int .i64 y.msg) (.int .i64 y.time) (.slice va1 nb va2)))
   have HXT := Lib.hid ((Ext.rf wr).al (e5 (.int .i64 y.kind) (.int .i64 y.peer) (.int .i64 y.msg) (.int .i64 y.time) (.slice va1 nb va2)))
   have HT6 := Lib.hid (HXT.out.hp (HEK.out.hp HY0.out))
   obtain ⟨ck, hck⟩ : ∃ b, (y.kind != 2) = b := ⟨_, rfl⟩
   obtain ⟨cp, hcp⟩ : ∃ b, (y.peer != q) = b := ⟨_, rfl⟩
   have HCK := Lib.hid hck
   have HCP := Lib.hid hcp
   cases ck with
   | true =>
     have HUB : Hid (uwB t c q (P, i) = false) := Lib.hid (uwB_kind (by rw [HEVE.out]; have := HCK.out; simpa using this))
     go_wp2
     go_roundg (k - (i + 1))
     case measure => omega
     case rel => exact ⟨i + 1, by omega, by omega, by go_num, (show Row _ _ _ _ _ _ _ from by rw [uwTo_no HUB.out]; exact HR.out.ext HXT.out), HEK.out.trans' HXT.out⟩
   | false =>
     cases cp with
     | true =>
       have HUB : Hid (uwB t c q (P, i) = false) := Lib.hid (uwB_peer (by rw [HEVE.out]; have := HCP.out; simpa using this))
       go_wp2
       go_roundg (k - (i + 1))
       case measure => omega
       case rel => exact ⟨i + 1, by omega, by omega, by go_num, (show Row _ _ _ _ _ _ _ from by rw [uwTo_no HUB.out]; exact HR.out.ext HXT.out), HEK.out.trans' HXT.out⟩
     | false =>
       have HU2 : Hid ((ev t (P, i)).kind = 2 ∧ (ev t (P, i)).peer = q) := Lib.hid (by rw [HEVE.out]; exact ⟨by have := HCK.out; simpa using this, by have := HCP.out; simpa using this⟩)
       have HFW := Lib.hid (HRE.out _ (HEW.out.trans' HXT.out) y.msg)
       obtain ⟨fe, hfe⟩ : ∃ f, findE t 3 y.msg = f := ⟨_, rfl⟩
       rw [hfe] at HFW
       have HFE := Lib.hid hfe
       clear hfe
       cases fe with
       | none =>
         have HUB : Hid (uwB t c q (P, i) = true) := Lib.hid (uwB_none HU2.out.1 HU2.out.2 (by rw [HEVE.out]; exact HFE.out))
         simp only [eidA, eidB] at HFW
         go_wp2_with fail
         clear t0 l1 l2 m0 m1 m2 m3 m4 c1 e1
         refine HFW.out.mono ?_
         rintro e w7 ⟨rfl, hE7⟩
         have HX8 := Lib.hid ((HXT.out.trans' hE7).al (idO 0 0))
         have HB8 := Lib.hid (((Ext.rf w7).al (idO 0 0)).hp (hE7.hp HB6.out))
         have HR8 := Lib.hid (HR.out.ext HX8.out)
         have HEK8 := Lib.hid (HEK.out.trans' HX8.out)
         clear hE7 HXT
         go_wp2
         go_quiet (fail)
         have HBA := Lib.hid (((Ext.rf _).drN nq).hp HB8.out)
         have HRA := Lib.hid (HR8.out.ext ((Ext.rf _).drN nq))
         have HEA := Lib.hid (HEK8.out.drN nq)
         generalize World.drewN _ nq = wA at *
         have hszA := HEA.out.sz
         have y2 := cellOf HBA.out 2
         simp only [List.getElem?_toArray] at y2
         generalize hell : (uwTo t c q P i).length = ell at *
         have HELL := Lib.hid hell
         clear hell
         go_wp2_with ((at_builtin; go_loud (refine wpList_append_one rfl _ _ 39 rfl w2.heap.size 3 ii (.int .i64 0) 1 8 Tryz.underlying39 hii iz0 iz1 iz2 rfl (by decide) _ ell _ rfl (HRA.out.al _) wA.heap.size 1 [.int .i64 y.msg] rfl rfl ⟨_, heap_alloc_new _ _⟩ (by simp [Value.oneCell']) (by unfold maxLen; omega) (by omega) (by simp; omega) ?_; intro v8 w8 hown8 hgrow8 hblk8; have HOWN := Lib.hid hown8; have HX9 := Lib.hid ((HEA.out.al _).gr hgrow8 (fun z hz => (HRA.out.lt z hz).1)); clear hown8 hgrow8 hblk8)))
         go_roundg (k - (i + 1))
         case measure => omega
         case rel =>
          refine ⟨i + 1, by omega, by omega, by go_num, (show Row _ _ _ _ _ _ _ from ?_), (show Ext _ _ from HX9.out)⟩
          rw [uwTo_yes HUB.out, List.length_append, List.map_append, HELL.out, HEVE.out]
          exact HOWN.out
       | some r =>
         simp only [eidA, eidB] at HFW
         go_wp2_with fail
         clear t0 l1 l2 m0 m1 m2 m3 m4 c1 e1
         refine HFW.out.mono ?_
         rintro e w7 ⟨rfl, hE7⟩
         have HX8 := Lib.hid ((HXT.out.trans' hE7).al (idO (r.1 : Int) ((r.2 : Int) + 1)))
         have HB8 := Lib.hid (((Ext.rf w7).al (idO (r.1 : Int) ((r.2 : Int) + 1))).hp (hE7.hp HB6.out))
         have HI8 := Lib.hid (heap_alloc_new w7 (idO (r.1 : Int) ((r.2 : Int) + 1)))
         have HR8 := Lib.hid (HR.out.ext HX8.out)
         have HEK8 := Lib.hid (HEK.out.trans' HX8.out)
         have HRN := Lib.hid (findE_some HFE.out).1
         have HUS := Lib.hid (uwB_some (c := c) HU2.out.1 HU2.out.2 (by rw [HEVE.out]; exact HFE.out))
         clear hE7 HXT
         obtain ⟨r1, r2⟩ := r
         simp only at *
         have hr1 : r1 < M := by have := HRN.out.1; rw [HN.out] at this; exact this
         obtain ⟨cb', co', hcc, _, hcs⟩ := ints_at HCC.out r1 (by rw [HM.out]; exact hr1)
         simp only [Option.some.injEq, Addr.mk.injEq, and_true] at hcc
         obtain ⟨rfl, rfl⟩ := hcc
         have dsp := (HE2.out.trans' HEK8.out).cl hcs
         have s0 := cellOf HI8.out 0
         have s1c := cellOf HI8.out 1
         simp only [List.getElem?_toArray, List.getElem?_cons_zero, List.getElem?_cons_succ] at s0 s1c
         have hspz : (0 : Int) ≤ (r1 : Int) := by omega
         have hspi : (r1 : Int) < (M : Int) := by omega
         generalize hdg : c[r1]! = dg at *
         clear hdg hcs
         go_wp2
         by_cases hcmp : dg < (r2 : Int) + 1
         ·have d1 : decide (dg < (r2 : Int) + 1) = true := decide_eq_true hcmp
          have HUB : Hid (uwB t c q (P, i) = true) := Lib.hid (by rw [HUS.out]; exact d1)
          clear hcmp
          go_quiet (fail)
          clear d1 dsp s0 s1c
          have HBA := Lib.hid (((Ext.rf _).drN nq).hp HB8.out)
          have HRA := Lib.hid (HR8.out.ext ((Ext.rf _).drN nq))
          have HEA := Lib.hid (HEK8.out.drN nq)
          generalize World.drewN _ nq = wA at *
          have hszA := HEA.out.sz
          have y2 := cellOf HBA.out 2
          simp only [List.getElem?_toArray] at y2
          generalize hell : (uwTo t c q P i).length = ell at *
          have HELL := Lib.hid hell
          clear hell
          go_wp2_with ((at_builtin; go_loud (refine wpList_append_one rfl _ _ 39 rfl w2.heap.size 3 ii (.int .i64 0) 1 8 Tryz.underlying39 hii iz0 iz1 iz2 rfl (by decide) _ ell _ rfl (HRA.out.al _) wA.heap.size 1 [.int .i64 y.msg] rfl rfl ⟨_, heap_alloc_new _ _⟩ (by simp [Value.oneCell']) (by unfold maxLen; omega) (by omega) (by simp; omega) ?_; intro v8 w8 hown8 hgrow8 hblk8; have HOWN := Lib.hid hown8; have HX9 := Lib.hid ((HEA.out.al _).gr hgrow8 (fun z hz => (HRA.out.lt z hz).1)); clear hown8 hgrow8 hblk8)))
          go_roundg (k - (i + 1))
          case measure => omega
          case rel =>
           refine ⟨i + 1, by omega, by omega, by go_num, (show Row _ _ _ _ _ _ _ from ?_), (show Ext _ _ from HX9.out)⟩
           rw [uwTo_yes HUB.out, List.length_append, List.map_append, HELL.out, HEVE.out]
           exact HOWN.out
         ·have d1 : decide (dg < (r2 : Int) + 1) = false := decide_eq_false hcmp
          have HUB : Hid (uwB t c q (P, i) = false) := Lib.hid (by rw [HUS.out]; exact d1)
          clear hcmp
          go_quiet (fail)
          go_wp2
          go_roundg (k - (i + 1))
          case measure => omega
          case rel => exact ⟨i + 1, by omega, by omega, by go_num, (show Row _ _ _ _ _ _ _ from by rw [uwTo_no HUB.out]; exact HR8.out.ext ((Ext.rf _).drN _)), HEK8.out.drN _⟩
  ·have hliz : ¬ (i : Int) < (k : Int) := by omega
   obtain rfl : k = i := by omega
   go_wp2
   go_ret
   exact ⟨_, rfl, HR.out.mono HE2.out.sz, HEW.out⟩
end Go.Proofs.YtfagfooggcinoaaGreat
namespace Go.Proofs.YtfagfooggcinoaaGreat
open Go.RowKit
set_option linter.unusedVariables false
def ofMk (n : Nat) (c : Int) (F : Nat → List Int) (k f : Nat) : Mk := ⟨c, (List.range n).map (fun j => decide (j < f)), (List.range n).map fun j => if j < f ∧ j ≠ k then F j else []⟩
section
variable {n : Nat} {c : Int} {F : Nat → List Int} {k f : Nat}
theorem ofMk_close (hf : f < n) : closeK [ofMk n c F k f] 0 f = [⟨c, (List.range n).map (fun j => decide (j < f + 1)), (ofMk n c F k f).chan⟩] := by
 show [({ ofMk n c F k f with closed := (ofMk n c F k f).closed.set f true } : Mk)] = _
 unfold ofMk
 simp only
 rw [mapR_set (g := fun j => decide (j < f)) (h := fun j => decide (j < f + 1)) (fun _ => by simp) (fun i _ hi => by
  have : (i < f + 1) = (i < f) := by rw [eq_iff_iff]; omega
  simp only [this])]
theorem ofMk_own (hf : f < n) (h : f = k) : closeK [ofMk n c F k f] 0 f = [ofMk n c F k (f + 1)] := by
 rw [ofMk_close hf]
 unfold ofMk
 simp only [List.cons.injEq, Mk.mk.injEq, and_true, true_and]
 refine List.map_congr_left fun j _ => ?_
 have : (j < f + 1 ∧ j ≠ k) = (j < f ∧ j ≠ k) := by rw [eq_iff_iff]; omega
 simp only [this]
theorem ofMk_other (hf : f < n) (h : f ≠ k) : (closeK [ofMk n c F k f] 0 f).set 0 { (closeK [ofMk n c F k f] 0 f)[0]! with chan := (closeK [ofMk n c F k f] 0 f)[0]!.chan.set f (F f) } = [ofMk n c F k (f + 1)] := by
 rw [ofMk_close hf]
 unfold ofMk
 simp only [List.set_cons_zero, List.getElem!_cons_zero, List.cons.injEq, Mk.mk.injEq, and_true, true_and]
 refine mapR_set (fun _ => if_pos ⟨by omega, h⟩) fun i _ hi => ?_
 have : (i < f + 1 ∧ i ≠ k) = (i < f ∧ i ≠ k) := by rw [eq_iff_iff]; omega
 simp only [this]
theorem ofMk_zero_closed : (ofMk n c F k 0).closed = List.replicate n false := by
 unfold ofMk
 exact listG_ext (by simp) fun j hj => by
  have hj : j < n := by simpa using hj
  rw [mapR_at _ hj, rep_get hj]; simp
end
theorem cutM_of {t : Tr} {C : List Int} (hv : validT t = true) (hc : RangeC t C) {q : Nat} (hq : q < t.length) : ofMk t.length C[q]! (fun f => underC t C f (q : Int)) q t.length = (cutM t C)[q]! := by
 rw [cutM_at hq]
 unfold ofMk
 refine mk_ext rfl ?_ ?_
 ·simp only
  exact listG_ext (by simp) fun j hj => by
   have hj : j < t.length := by simpa using hj
   rw [mapR_at _ hj, rep_get hj]; simpa using hj
 ·simp only
  refine List.map_congr_left fun j hj => ?_
  have hj := List.mem_range.1 hj
  by_cases e : j = q
  ·subst e; rw [if_neg (fun h => h.2 rfl), under_self hv hc hj]
  ·rw [if_pos ⟨hj, e⟩]
theorem OwnM.snocG {w wa w8 : World} {base n k : Nat} {v v8 v1 : Value} {l : List Mk} {m : Mk} {vc vh vc1 vh1 : Nat → Value} {vr vr1 : Nat → Nat → Value} (h : OwnM w base v n k l vc vh vr) (hk : l.length = k) (hx : Ext w wa) (hb : base ≤ w.heap.size)
  (h1 : OwnM wa w.heap.size v1 n 1 [m] vc1 vh1 vr1) (hg : wa.grownBy w8 v.ownBlock)
  (ho : Row w8 base 53 3 v8 (k + 1) (mkCells l vc vh ++ [.int .i64 m.cnt, vc1 0, vh1 0])) :
  OwnM w8 base v8 n (k + 1) (l ++ [m]) (putF vc k (vc1 0)) (putF vh k (vh1 0)) (fun i j => if i = k then vr1 0 j else vr i j) := by
 have hrow := h.row.ext hx
 have hu := h1.clo 0 (Nat.lt_succ_self 0)
 have hy := h1.hdr 0 (Nat.lt_succ_self 0)
 have hc0 := fun j (hj : j < n) => h1.cha 0 (Nat.lt_succ_self 0) j hj
 simp only [List.getElem!_cons_zero] at hu hy hc0
 have hgk : ∀ {b : Nat} {e : TypeId} {s : Nat} {x : Value} {m : Nat} {xs : List Value}, Row w b e s x m xs → 53 ≠ e → Row w8 b e s x m xs := fun hr hne => (hr.ext hx).grown hg ((hr.ext hx).apart hrow (Ne.symm hne))
 have hla : ∀ i, i < k → (l ++ [m])[i]! = l[i]! := fun i hi => by
  rw [getElem!_pos _ i (by simp; omega), getElem!_pos l i (by omega), List.getElem_append_left]
 have hlk : (l ++ [m])[k]! = m := by
  rw [getElem!_pos _ k (by simp; omega)]
  simp [← hk]
 refine ⟨?_, by simp; omega, fun i hi => ?_, fun i hi => ?_, fun i hi => ?_, fun i hi j hj => ?_, fun i j hi hj hij => ?_, fun i j hi hj hij => ?_, fun i j a c hi hj ha hc hn => ?_⟩
 ·have e := mkCells_snoc (l := l) (vc := vc) (vh := vh) m (vc1 0) (vh1 0)
  rw [hk] at e
  rw [e, show (l ++ [m]).length = k + 1 by simp [hk]]
  exact ho
 ·by_cases e : i = k
  ·subst e; rw [hlk]; exact h1.shp 0 (Nat.lt_succ_self 0)
  ·rw [hla i (by omega)]; exact h.shp i (by omega)
 ·by_cases e : i = k
  ·subst e
   rw [putF_same, hlk]
   exact (hu.grown hg (hu.apart hrow (by decide))).mono hb
  ·rw [putF_ne e, hla i (by omega)]; exact hgk (h.clo i (by omega)) (by decide)
 ·by_cases e : i = k
  ·subst e
   rw [putF_same, show ((List.range n).map fun j => if i = i then vr1 0 j else vr i j) = (List.range n).map (vr1 0) from List.map_congr_left fun j _ => if_pos rfl]
   exact (hy.grown hg (hy.apart hrow (by decide))).mono hb
  ·rw [putF_ne e, show ((List.range n).map fun j => if i = k then vr1 0 j else vr i j) = (List.range n).map (vr i) from List.map_congr_left fun j _ => if_neg e]
   exact hgk (h.hdr i (by omega)) (by decide)
 ·by_cases e : i = k
  ·subst e
   rw [if_pos rfl, hlk]
   have h2 := hc0 j hj
   exact (h2.grown hg (h2.apart hrow (by decide))).mono hb
  ·rw [if_neg e, hla i (by omega)]; exact hgk (h.cha i (by omega) j hj) (by decide)
 ·by_cases e1 : i = k
  ·subst e1
   rw [putF_same, putF_ne (Ne.symm hij)]
   exact (dis_new (h.clo j (by omega)) hu (Nat.le_refl _)).symm
  ·by_cases e2 : j = k
   ·subst e2
    rw [putF_same, putF_ne e1]
    exact dis_new (h.clo i (by omega)) hu (Nat.le_refl _)
   ·rw [putF_ne e1, putF_ne e2]; exact h.dc i j (by omega) (by omega) hij
 ·by_cases e1 : i = k
  ·subst e1
   rw [putF_same, putF_ne (Ne.symm hij)]
   exact (dis_new (h.hdr j (by omega)) hy (Nat.le_refl _)).symm
  ·by_cases e2 : j = k
   ·subst e2
    rw [putF_same, putF_ne e1]
    exact dis_new (h.hdr i (by omega)) hy (Nat.le_refl _)
   ·rw [putF_ne e1, putF_ne e2]; exact h.dh i j (by omega) (by omega) hij
 ·by_cases e1 : i = k
  ·by_cases e2 : a = k
   ·rw [if_pos e1, if_pos e2]
    exact h1.dr 0 j 0 c (Nat.lt_succ_self 0) hj (Nat.lt_succ_self 0) hc (fun hh => hn ⟨by omega, hh.2⟩)
   ·rw [if_pos e1, if_neg e2]
    exact (dis_new (h.cha a (by omega) c hc) (hc0 j hj) (Nat.le_refl _)).symm
  ·by_cases e2 : a = k
   ·rw [if_neg e1, if_pos e2]
    exact dis_new (h.cha i (by omega) j hj) (hc0 c hc) (Nat.le_refl _)
   ·rw [if_neg e1, if_neg e2]; exact h.dr i j a c (by omega) hj (by omega) hc hn
theorem OwnM.noneG (w : World) (base n : Nat) : OwnM w base (.slice none 0 0) n 0 [] (fun _ => .slice none 0 0) (fun _ => .slice none 0 0) (fun _ _ => .slice none 0 0) :=
 ⟨Row.mkNil _ _ _ _, Nat.le_refl _, fun i hi => absurd hi (Nat.not_lt_zero _), fun i hi => absurd hi (Nat.not_lt_zero _), fun i hi => absurd hi (Nat.not_lt_zero _), fun i hi => absurd hi (Nat.not_lt_zero _), fun i j hi => absurd hi (Nat.not_lt_zero _), fun i j hi => absurd hi (Nat.not_lt_zero _), fun i j a c hi => absurd hi (Nat.not_lt_zero _)⟩
theorem OwnM.box {w : World} {base n M U Y : Nat} {c : Int} {F : Nat → List Int} {k : Nat} (hM : w.heap[M]? = some (.cells #[.int .i64 c, .slice (some ⟨U, 0, none⟩) n n, .slice (some ⟨Y, 0, none⟩) n n] 53))
  (hU : w.heap[U]? = some (.cells (madeCells #[.bool false] n) 4)) (hY : w.heap[Y]? = some (.cells (madeCells #[.slice none 0 0] n) 39)) (bM : base ≤ M) (bU : base ≤ U) (bY : base ≤ Y) (hn : n ≤ 1000) :
  OwnM w base (.slice (some ⟨M, 0, none⟩) 1 1) n 1 [ofMk n c F k 0] (fun _ => .slice (some ⟨U, 0, none⟩) n n) (fun _ => .slice (some ⟨Y, 0, none⟩) n n) (fun _ _ => .slice none 0 0) := by
 have hmk : mkCells [ofMk n c F k 0] (fun _ => Value.slice (some ⟨U, 0, none⟩) n n) (fun _ => Value.slice (some ⟨Y, 0, none⟩) n n) = [.int .i64 c, .slice (some ⟨U, 0, none⟩) n n, .slice (some ⟨Y, 0, none⟩) n n] := by
  have h3 := mkCells_three (l := [ofMk n c F k 0]) (vc := fun _ => Value.slice (some ⟨U, 0, none⟩) n n) (vh := fun _ => Value.slice (some ⟨Y, 0, none⟩) n n) (i := 0) (by simp)
  rw [Nat.zero_mul, List.drop_zero, List.take_of_length_le (by rw [mkCells_len]; simp)] at h3
  exact h3
 refine ⟨⟨by rw [mkCells_len], .inr ⟨M, 0, 1, _, rfl, bM, hM, Nat.le_refl _, by unfold maxLen; omega, by simp, by rw [hmk]; simp⟩⟩, Nat.le_refl _, fun i hi => ?_, fun i hi => ?_, fun i hi => ?_, fun i hi j hj => ?_, fun i j hi hj hij => absurd hij (by omega), fun i j hi hj hij => absurd hij (by omega), fun i j a c hi hj ha hc hn => Dis.nilL⟩
 ·obtain rfl : i = 0 := by omega
  simp [ofMk]
 ·obtain rfl : i = 0 := by omega
  have h := row_made (base := base) hU bU (by unfold maxLen; omega)
  simp only [List.getElem!_cons_zero]
  rw [ofMk_zero_closed, List.map_replicate]
  exact h
 ·have h := row_made (base := base) hY bY (by unfold maxLen; omega)
  rw [show (List.range n).map (fun _ : Nat => Value.slice none 0 0) = List.replicate n (.slice none 0 0) from List.ext_getElem (by simp) fun j h1 h2 => by simp]
  exact h
 ·obtain rfl : i = 0 := by omega
  have e : ([ofMk n c F k 0][0]!).chan[j]! = [] := by
   simp only [List.getElem!_cons_zero]
   unfold ofMk
   simp only
   rw [mapR_at _ hj, if_neg (fun h => absurd h.1 (Nat.not_lt_zero _))]
  rw [e]
  exact Row.mkNil _ _ _ _
theorem mk3_set {w : World} {K : Nat} {z0 z1 z2 : Value} (h : w.heap[K]? = some (.cells #[z0, z1, z2] 53)) (a b c : Value) :
  (((w.setCell ⟨K, 0, none⟩ a).setCell ⟨K, 1, none⟩ b).setCell ⟨K, 2, none⟩ c).heap[K]? = some (.cells #[a, b, c] 53) := by
 have h0 : (w.setCell ⟨K, 0, none⟩ a).heap[K]? = some (.cells #[a, z1, z2] 53) := by rw [heap_setCell_same h]; simp
 have h1 : ((w.setCell ⟨K, 0, none⟩ a).setCell ⟨K, 1, none⟩ b).heap[K]? = some (.cells #[a, b, z2] 53) := by rw [heap_setCell_same h0]; simp
 rw [heap_setCell_same h1]; simp
theorem mk3_other {w : World} {K K' : Nat} (h : K' ≠ K) (a b c : Value) : (((w.setCell ⟨K, 0, none⟩ a).setCell ⟨K, 1, none⟩ b).setCell ⟨K, 2, none⟩ c).heap[K']? = w.heap[K']? := by
 rw [Below.heap_setCell _ _ _ _ h, Below.heap_setCell _ _ _ _ h, Below.heap_setCell _ _ _ _ h]
theorem mk3_ext {w W : World} {K : Nat} (h : Ext w W) (hK : w.heap.size ≤ K) (a b c : Value) : Ext w (((W.setCell ⟨K, 0, none⟩ a).setCell ⟨K, 1, none⟩ b).setCell ⟨K, 2, none⟩ c) :=
 ((h.st (p := ⟨K, 0, none⟩) hK a).st (p := ⟨K, 1, none⟩) hK b).st (p := ⟨K, 2, none⟩) hK c
theorem obj_ne {w : World} {K K' : Nat} {c1 c2 : Array Value} {t1 t2 : TypeId} (h1 : w.heap[K]? = some (.cells c1 t1)) (h2 : w.heap[K']? = some (.cells c2 t2)) (h : t1 ≠ t2) : K ≠ K' := by
 rintro rfl
 rw [h1] at h2
 simp only [Option.some.injEq, Obj.cells.injEq] at h2
 exact h h2.2.1
def OfOut (t : Tr) (C : List Int) (w w' : World) (e : Ending) : Prop := ∃ u, e = .returned u ∧ Ext w w' ∧ Sl RMk 3 w' u (cutM t C)
theorem enters_110 : ∀ args w, (callFunc 110 args).run Tryz.prog w = .ok (.enter 110 args) w := enters_of Tryz.func110 (by kernel_rfl) rfl
set_option maxHeartbeats 8000000 in
set_option maxRecDepth 100000 in
theorem ofR_calls (v vc : Value) (t : Tr) (C : List Int) (w : World) (h : TrAt w v t) (hv : validT t = true) (hc : Ints w vc C) (hr : RangeC t C) :
  Calls Tryz.prog 79 #[.agg #[v], vc] w fun e w' => OfOut t C w w' e := by
 have hn8 := (valid_8 hv)
 have HUW := Lib.hid (fun W (hW : Ext w W) f (q : Nat) (hf : f < t.length) => underWayR_calls v vc t C f (q : Int) W (h.ext hW) (valid_small hv) (hc.ext hW) hr hf)
 have HCO := Lib.hid (fun q (hq : q < t.length) => cutM_of hv hr hq)
 have HCV := Lib.hid hc
 have HML := Lib.hid (cutM_len (t := t) (c := C))
 obtain ⟨ta, tc, rfl, htc⟩ := h.sh
 obtain ⟨ca, cc, rfl, hz1, hz2⟩ := hc
 rw [hr.1] at HCV HUW ⊢
 have HRL := Lib.hid hr.1
 obtain ⟨im, him, mz0, mz1, mz2⟩ := info_partsM info_markM
 obtain ⟨ib, hib, bz0, bz1, bz2⟩ := info_partsM info_boolM
 obtain ⟨ir, hir, rz0, rz1, rz2⟩ := info_partsM info_rowsM
 obtain ⟨n, hn⟩ : ∃ n, t.length = n := ⟨_, rfl⟩
 have HNT := Lib.hid hn
 rw [hn] at hn8 HUW HCO HML HCV HRL ⊢
 have HMB := Lib.hid (fun W : World => run_make (P := Tryz.prog) W 51 4 ib (.bool false) Tryz.underlying51 hib bz0 .i64 .i64 (n : Int) (n : Int) (by omega) (by omega) (by rw [bz2]; omega) (by omega))
 have HMR := Lib.hid (fun W : World => run_make (P := Tryz.prog) W 25 39 ir (.slice none 0 0) Tryz.underlying25 hir rz0 .i64 .i64 (n : Int) (n : Int) (by omega) (by omega) (by rw [rz2]; omega) (by omega))
 rw [bz1] at HMB
 rw [rz1] at HMR
 simp only [Int.toNat_natCast, Nat.mul_one] at HMB HMR
 have HX1 := Lib.hid ((Ext.rf w).al (.cells #[.slice ta n tc] 24))
 have HB1 := Lib.hid (heap_alloc_new w (.cells #[.slice ta n tc] 24))
 clear h hv hr hz1 hz2 htc hn
 go_enter Tryz.func79, Tryz.ntmps79
 go_wp2
 generalize hw1 : w.alloc (.cells #[.slice ta n tc] 24) = w1 at *
 clear hw1
 go_loopg [6, 7, 8, 9] n (fun g s6 s7 s8 s9 wr => ∃ (k : Nat) (vc vh : Nat → Value) (vr : Nat → Nat → Value), k ≤ n ∧ n - k ≤ g ∧ s7 = .int .i64 k ∧ Aside (OwnM wr w1.heap.size s6 n k ((cutM t C).take k) vc vh vr) ∧ Aside (Ext w1 wr))
 case atStart => exact ⟨0, _, _, _, Nat.zero_le _, by omega, rfl, (show OwnM _ _ _ _ _ _ _ _ _ from OwnM.noneG _ _ _), (show Ext _ _ from Ext.rf _)⟩
 case round =>
  obtain ⟨k, vc, vh, vr, hk, hgk, rfl, HO, HE⟩ := hrel
  have HTK : Hid (((cutM t C).take k).length = k) := Lib.hid (by rw [List.length_take, HML.out]; omega)
  obtain ⟨xa, xc, hxe, hxz⟩ := HO.out.row.any
  rw [HTK.out] at hxe hxz
  subst hxe
  clear hxz
  by_cases hlt : k < n
  case neg =>
   have hkz : ¬ (k : Int) < (n : Int) := by omega
   obtain rfl : n = k := by omega
   go_wp2
   go_ret
   refine ⟨_, rfl, HX1.out.trans' HE.out, ?_⟩
   have h := HO.out.sl2 HTK.out
   rwa [List.take_of_length_le (by rw [HML.out]; exact Nat.le_refl _)] at h
  case pos =>
   have hkz : (k : Int) < (n : Int) := by omega
   have hkz0 : (0 : Int) ≤ (k : Int) := by omega
   have hmb := HMB.out
   have hmr := HMR.out
   obtain ⟨cB, cO, cCp, hce, _, _, hcc⟩ := Ints.at1 (HCV.out.ext (HX1.out.trans' HE.out)) k (by rw [HRL.out]; exact hlt)
   simp only [Value.slice.injEq] at hce
   obtain ⟨rfl, hz3, rfl⟩ := hce
   have c0 := hcc
   obtain ⟨z, hz⟩ : ∃ z, C[k]! = z := ⟨_, rfl⟩
   rw [hz] at c0
   have HCK : Hid (ofMk n z (fun f => underC t C f (k : Int)) k n = (cutM t C)[k]!) := Lib.hid (by have h := HCO.out k hlt; rwa [hz] at h)
   have hlc := World.block_lt_of_cell? wr _ c0
   simp only at hlc
   have hne1 : cB ≠ wr.heap.size := Nat.ne_of_lt hlc
   have hne2 : cB ≠ wr.heap.size + 1 := by omega
   have hne3 : cB ≠ wr.heap.size + 2 := by omega
   have hne4 : cB ≠ wr.heap.size + 1 + 1 := by omega
   clear hcc hz hz3
   go_upto_region 6 with (fail)
   go_cut [8] (fun s8 wx => ∃ M U Y : Nat, s8 = .pointer (some ⟨M, 0, none⟩) ∧ Aside (wx.heap[M]? = some (.cells #[.int .i64 z, .slice (some ⟨U, 0, none⟩) n n, .slice (some ⟨Y, 0, none⟩) n n] 53)) ∧ Aside (wx.heap[U]? = some (.cells (madeCells #[.bool false] n) 4)) ∧ Aside (wx.heap[Y]? = some (.cells (madeCells #[.slice none 0 0] n) 39)) ∧ Aside (wr.heap.size ≤ M ∧ wr.heap.size ≤ U ∧ wr.heap.size ≤ Y) ∧ Aside (Ext wr wx))
   case first =>
    have HC0 := Lib.hid c0
    refine wp_region_tail (fun W => W.cell? ⟨cB, cO + k, none⟩ = some (.int .i64 z)) 10 (by kernel_rfl) c0 (fun hHeld => ?_)
    have HX0 : Hid (Ext wr wr.drew) := Lib.hid (Ext.rf wr).dr
    generalize wr.drew = w0 at *
    refine wpAnyT_take (i := 0) (d := some 17) (v := ?_) rfl rfl (by kernel_rfl) (by kernel_rfl) (by kernel_rfl) (by kernel_rfl) (fun _ _ _ h => h) (Or.inl ⟨by kernel_rfl, ?_⟩) (by assumption) ?_
    rotate_left
    ·(intro w hSw; (try dsimp only at hSw); go_simp; try (with_reducible rfl))
    try simp only [Act.put]
    try simp only [List.setIfInBounds_toArray]
    try simp only [List.set_cons_zero, List.set_cons_succ]
    refine wpAnyT_take (i := 1) (d := some 18) (v := ?_) rfl rfl (by kernel_rfl) (by kernel_rfl) (by kernel_rfl) (by kernel_rfl) (fun _ _ _ h => h) (Or.inl ⟨by kernel_rfl, ?_⟩) (by assumption) ?_
    rotate_left
    ·(intro w hSw; (try dsimp only at hSw); go_simp; try (with_reducible rfl))
    try simp only [Act.put]
    try simp only [List.setIfInBounds_toArray]
    try simp only [List.set_cons_zero, List.set_cons_succ]
    refine wpAnyT_take (i := 2) (d := some 19) (v := ?_) rfl rfl (by kernel_rfl) (by kernel_rfl) (by kernel_rfl) (by kernel_rfl) (fun _ _ _ h => h) (Or.inl ⟨by kernel_rfl, ?_⟩) (by assumption) ?_
    rotate_left
    ·(intro w hSw; (try dsimp only at hSw); go_simp; try (with_reducible rfl))
    try simp only [Act.put]
    try simp only [List.setIfInBounds_toArray]
    try simp only [List.set_cons_zero, List.set_cons_succ]
    refine wpAnyT_take (i := 3) (d := some 20) (v := ?_) rfl rfl (by kernel_rfl) (by kernel_rfl) (by kernel_rfl) (by kernel_rfl) (fun _ _ _ h => h) (Or.inl ⟨by kernel_rfl, ?_⟩) (by assumption) ?_
    rotate_left
    ·(intro w hSw; (try dsimp only at hSw); go_simp; try (with_reducible rfl))
    try simp only [Act.put]
    try simp only [List.setIfInBounds_toArray]
    try simp only [List.set_cons_zero, List.set_cons_succ]
    refine wpAnyT_take (i := 4) (d := some 21) (v := ?_) rfl rfl (by kernel_rfl) (by kernel_rfl) (by kernel_rfl) (by kernel_rfl) (fun _ _ _ h => h) (Or.inl ⟨by kernel_rfl, ?_⟩) (by assumption) ?_
    rotate_left
    ·(intro w hSw; (try dsimp only at hSw); go_simp; try (with_reducible rfl))
    try simp only [Act.put]
    try simp only [List.setIfInBounds_toArray]
    try simp only [List.set_cons_zero, List.set_cons_succ]
    refine wpAnyT_take (i := 6) (d := some 23) (v := ?_) rfl rfl (by kernel_rfl) (by kernel_rfl) (by kernel_rfl) (by kernel_rfl) (fun _ _ _ h => h) (Or.inl ⟨by kernel_rfl, ?_⟩) (by assumption) ?_
    rotate_left
    ·(intro w hSw; (try dsimp only at hSw); go_simp; try (with_reducible rfl))
    try simp only [Act.put]
    try simp only [List.setIfInBounds_toArray]
    try simp only [List.set_cons_zero, List.set_cons_succ]
    refine wpAnyT_ready (rs := [5, 7, 9]) (by kernel_rfl) (by simp) ?_
    refine AllT.cons (i := 5) rfl (fun K hK => ?_) ?_
    ·(skip)
     go_simp
     have Hbu : Hid ((w0.alloc (.cells (madeCells #[.bool false] n) 4)).heap[w0.heap.size]? = some (.cells (madeCells #[.bool false] n) 4)) := Lib.hid (heap_alloc_new w0 _)
     have HNbu : Hid (Ext w0 (w0.alloc (.cells (madeCells #[.bool false] n) 4))) := Lib.hid ((Ext.rf w0).al _)
     have HBbu : Hid (wr.heap.size ≤ w0.heap.size) := Lib.hid HX0.out.sz
     generalize w0.heap.size = bu at *
     generalize w0.alloc (.cells (madeCells #[.bool false] n) 4) = wa at *
     have HXa := Lib.hid (HX0.out.trans' HNbu.out)
     refine hK.out _ _ ?_ (fun hHeld => ?_)
     ·(try dsimp only)
      exact HXa.out.cl HC0.out
     clear hK K
     try simp only [Act.put]
     try simp only [List.setIfInBounds_toArray]
     try simp only [List.set_cons_zero, List.set_cons_succ]
     refine wpAnyT_ready (rs := [7, 9]) (by kernel_rfl) (by simp) ?_
     refine AllT.cons (i := 7) rfl (fun K hK => ?_) ?_
     ·(skip)
      go_simp
      have Hby_ : Hid ((wa.alloc (.cells (madeCells #[.slice none 0 0] n) 39)).heap[wa.heap.size]? = some (.cells (madeCells #[.slice none 0 0] n) 39)) := Lib.hid (heap_alloc_new wa _)
      have HNby_ : Hid (Ext wa (wa.alloc (.cells (madeCells #[.slice none 0 0] n) 39))) := Lib.hid ((Ext.rf wa).al _)
      have HBby_ : Hid (wr.heap.size ≤ wa.heap.size) := Lib.hid HXa.out.sz
      generalize wa.heap.size = by_ at *
      generalize wa.alloc (.cells (madeCells #[.slice none 0 0] n) 39) = wb at *
      have HXb := Lib.hid (HXa.out.trans' HNby_.out)
      refine hK.out _ _ ?_ (fun hHeld => ?_)
      ·(try dsimp only)
       exact HXb.out.cl HC0.out
      clear hK K
      try simp only [Act.put]
      try simp only [List.setIfInBounds_toArray]
      try simp only [List.set_cons_zero, List.set_cons_succ]
      refine wpAnyT_take (i := 8) (d := some 25) (v := ?_) rfl rfl (by kernel_rfl) (by kernel_rfl) (by kernel_rfl) (by kernel_rfl) (fun _ _ _ h => h) (Or.inl ⟨by rfl, ?_⟩) (by assumption) ?_
      rotate_left
      ·(intro w hSw; (try dsimp only at hSw); go_simp; try (with_reducible rfl))
      try simp only [Act.put]
      try simp only [List.setIfInBounds_toArray]
      try simp only [List.set_cons_zero, List.set_cons_succ]
      refine wpAnyT_step (i := 9) (by kernel_rfl) rfl (fun K hK => ?_)
      go_simp
      have Hbm : Hid ((wb.alloc (.cells #[.int .i64 0, .slice none 0 0, .slice none 0 0] 53)).heap[wb.heap.size]? = some (.cells #[.int .i64 0, .slice none 0 0, .slice none 0 0] 53)) := Lib.hid (heap_alloc_new wb _)
      have HNbm : Hid (Ext wb (wb.alloc (.cells #[.int .i64 0, .slice none 0 0, .slice none 0 0] 53))) := Lib.hid ((Ext.rf wb).al _)
      have HBbm : Hid (wr.heap.size ≤ wb.heap.size) := Lib.hid HXb.out.sz
      generalize wb.heap.size = bm at *
      generalize wb.alloc (.cells #[.int .i64 0, .slice none 0 0, .slice none 0 0] 53) = wd at *
      have HXd := Lib.hid (HXb.out.trans' HNbm.out)
      refine hK.out _ _ ?_ (fun hHeld => ?_)
      ·(try dsimp only)
       exact HXd.out.cl HC0.out
      clear hK K
      try simp only [Act.put]
      try simp only [List.setIfInBounds_toArray]
      try simp only [List.set_cons_zero, List.set_cons_succ]
      have HPM := Lib.hid (Hbm.out)
      have HPU := Lib.hid (HNbm.out.hp (HNby_.out.hp (Hbu.out)))
      have HPY := Lib.hid (HNbm.out.hp (Hby_.out))
      have q0 := cellOf HPM.out 0
      have q1 := cellOf HPM.out 1
      have q2 := cellOf HPM.out 2
      have g0 := freeOf HPM.out 0
      have g1 := freeOf HPM.out 1
      have g2 := freeOf HPM.out 2
      simp only [List.getElem?_toArray, List.getElem?_cons_zero, List.getElem?_cons_succ] at q0 q1 q2
      refine wpAnyT_last (by kernel_rfl) rfl (by kernel_rfl) (fun K hK => ?_)
      go_simp
      refine hK.out _ _ ?_
      go_wp2
      go_meet
      exact ⟨bm, bu, by_, rfl, mk3_set HPM.out _ _ _, (mk3_other (obj_ne HPU.out HPM.out (by decide)) _ _ _).trans HPU.out, (mk3_other (obj_ne HPY.out HPM.out (by decide)) _ _ _).trans HPY.out, ⟨HBbm.out, HBbu.out, HBby_.out⟩, mk3_ext HXd.out HBbm.out _ _ _⟩
     refine AllT.cons (i := 9) rfl (fun K hK => ?_) AllT.nil
     go_simp
     have Hbm : Hid ((wa.alloc (.cells #[.int .i64 0, .slice none 0 0, .slice none 0 0] 53)).heap[wa.heap.size]? = some (.cells #[.int .i64 0, .slice none 0 0, .slice none 0 0] 53)) := Lib.hid (heap_alloc_new wa _)
     have HNbm : Hid (Ext wa (wa.alloc (.cells #[.int .i64 0, .slice none 0 0, .slice none 0 0] 53))) := Lib.hid ((Ext.rf wa).al _)
     have HBbm : Hid (wr.heap.size ≤ wa.heap.size) := Lib.hid HXa.out.sz
     generalize wa.heap.size = bm at *
     generalize wa.alloc (.cells #[.int .i64 0, .slice none 0 0, .slice none 0 0] 53) = wb at *
     have HXb := Lib.hid (HXa.out.trans' HNbm.out)
     refine hK.out _ _ ?_ (fun hHeld => ?_)
     ·(try dsimp only)
      exact HXb.out.cl HC0.out
     clear hK K
     try simp only [Act.put]
     try simp only [List.setIfInBounds_toArray]
     try simp only [List.set_cons_zero, List.set_cons_succ]
     refine wpAnyT_step (i := 7) (by kernel_rfl) rfl (fun K hK => ?_)
     go_simp
     have Hby_ : Hid ((wb.alloc (.cells (madeCells #[.slice none 0 0] n) 39)).heap[wb.heap.size]? = some (.cells (madeCells #[.slice none 0 0] n) 39)) := Lib.hid (heap_alloc_new wb _)
     have HNby_ : Hid (Ext wb (wb.alloc (.cells (madeCells #[.slice none 0 0] n) 39))) := Lib.hid ((Ext.rf wb).al _)
     have HBby_ : Hid (wr.heap.size ≤ wb.heap.size) := Lib.hid HXb.out.sz
     generalize wb.heap.size = by_ at *
     generalize wb.alloc (.cells (madeCells #[.slice none 0 0] n) 39) = wd at *
     have HXd := Lib.hid (HXb.out.trans' HNby_.out)
     refine hK.out _ _ ?_ (fun hHeld => ?_)
     ·(try dsimp only)
      exact HXd.out.cl HC0.out
     clear hK K
     try simp only [Act.put]
     try simp only [List.setIfInBounds_toArray]
     try simp only [List.set_cons_zero, List.set_cons_succ]
     refine wpAnyT_take (i := 8) (d := some 25) (v := ?_) rfl rfl (by kernel_rfl) (by kernel_rfl) (by kernel_rfl) (by kernel_rfl) (fun _ _ _ h => h) (Or.inl ⟨by rfl, ?_⟩) (by assumption) ?_
     rotate_left
     ·(intro w hSw; (try dsimp only at hSw); go_simp; try (with_reducible rfl))
     try simp only [Act.put]
     try simp only [List.setIfInBounds_toArray]
     try simp only [List.set_cons_zero, List.set_cons_succ]
     have HPM := Lib.hid (HNby_.out.hp (Hbm.out))
     have HPU := Lib.hid (HNby_.out.hp (HNbm.out.hp (Hbu.out)))
     have HPY := Lib.hid (Hby_.out)
     have q0 := cellOf HPM.out 0
     have q1 := cellOf HPM.out 1
     have q2 := cellOf HPM.out 2
     have g0 := freeOf HPM.out 0
     have g1 := freeOf HPM.out 1
     have g2 := freeOf HPM.out 2
     simp only [List.getElem?_toArray, List.getElem?_cons_zero, List.getElem?_cons_succ] at q0 q1 q2
     refine wpAnyT_last (by kernel_rfl) rfl (by kernel_rfl) (fun K hK => ?_)
     go_simp
     refine hK.out _ _ ?_
     go_wp2
     go_meet
     exact ⟨bm, bu, by_, rfl, mk3_set HPM.out _ _ _, (mk3_other (obj_ne HPU.out HPM.out (by decide)) _ _ _).trans HPU.out, (mk3_other (obj_ne HPY.out HPM.out (by decide)) _ _ _).trans HPY.out, ⟨HBbm.out, HBbu.out, HBby_.out⟩, mk3_ext HXd.out HBbm.out _ _ _⟩
    refine AllT.cons (i := 7) rfl (fun K hK => ?_) ?_
    ·(skip)
     go_simp
     have Hby_ : Hid ((w0.alloc (.cells (madeCells #[.slice none 0 0] n) 39)).heap[w0.heap.size]? = some (.cells (madeCells #[.slice none 0 0] n) 39)) := Lib.hid (heap_alloc_new w0 _)
     have HNby_ : Hid (Ext w0 (w0.alloc (.cells (madeCells #[.slice none 0 0] n) 39))) := Lib.hid ((Ext.rf w0).al _)
     have HBby_ : Hid (wr.heap.size ≤ w0.heap.size) := Lib.hid HX0.out.sz
     generalize w0.heap.size = by_ at *
     generalize w0.alloc (.cells (madeCells #[.slice none 0 0] n) 39) = wa at *
     have HXa := Lib.hid (HX0.out.trans' HNby_.out)
     refine hK.out _ _ ?_ (fun hHeld => ?_)
     ·(try dsimp only)
      exact HXa.out.cl HC0.out
     clear hK K
     try simp only [Act.put]
     try simp only [List.setIfInBounds_toArray]
     try simp only [List.set_cons_zero, List.set_cons_succ]
     refine wpAnyT_ready (rs := [5, 9]) (by kernel_rfl) (by simp) ?_
     refine AllT.cons (i := 5) rfl (fun K hK => ?_) ?_
     ·(skip)
      go_simp
      have Hbu : Hid ((wa.alloc (.cells (madeCells #[.bool false] n) 4)).heap[wa.heap.size]? = some (.cells (madeCells #[.bool false] n) 4)) := Lib.hid (heap_alloc_new wa _)
      have HNbu : Hid (Ext wa (wa.alloc (.cells (madeCells #[.bool false] n) 4))) := Lib.hid ((Ext.rf wa).al _)
      have HBbu : Hid (wr.heap.size ≤ wa.heap.size) := Lib.hid HXa.out.sz
      generalize wa.heap.size = bu at *
      generalize wa.alloc (.cells (madeCells #[.bool false] n) 4) = wb at *
      have HXb := Lib.hid (HXa.out.trans' HNbu.out)
      refine hK.out _ _ ?_ (fun hHeld => ?_)
      ·(try dsimp only)
       exact HXb.out.cl HC0.out
      clear hK K
      try simp only [Act.put]
      try simp only [List.setIfInBounds_toArray]
      try simp only [List.set_cons_zero, List.set_cons_succ]
      refine wpAnyT_take (i := 8) (d := some 25) (v := ?_) rfl rfl (by kernel_rfl) (by kernel_rfl) (by kernel_rfl) (by kernel_rfl) (fun _ _ _ h => h) (Or.inl ⟨by rfl, ?_⟩) (by assumption) ?_
      rotate_left
      ·(intro w hSw; (try dsimp only at hSw); go_simp; try (with_reducible rfl))
      try simp only [Act.put]
      try simp only [List.setIfInBounds_toArray]
      try simp only [List.set_cons_zero, List.set_cons_succ]
      refine wpAnyT_step (i := 9) (by kernel_rfl) rfl (fun K hK => ?_)
      go_simp
      have Hbm : Hid ((wb.alloc (.cells #[.int .i64 0, .slice none 0 0, .slice none 0 0] 53)).heap[wb.heap.size]? = some (.cells #[.int .i64 0, .slice none 0 0, .slice none 0 0] 53)) := Lib.hid (heap_alloc_new wb _)
      have HNbm : Hid (Ext wb (wb.alloc (.cells #[.int .i64 0, .slice none 0 0, .slice none 0 0] 53))) := Lib.hid ((Ext.rf wb).al _)
      have HBbm : Hid (wr.heap.size ≤ wb.heap.size) := Lib.hid HXb.out.sz
      generalize wb.heap.size = bm at *
      generalize wb.alloc (.cells #[.int .i64 0, .slice none 0 0, .slice none 0 0] 53) = wd at *
      have HXd := Lib.hid (HXb.out.trans' HNbm.out)
      refine hK.out _ _ ?_ (fun hHeld => ?_)
      ·(try dsimp only)
       exact HXd.out.cl HC0.out
      clear hK K
      try simp only [Act.put]
      try simp only [List.setIfInBounds_toArray]
      try simp only [List.set_cons_zero, List.set_cons_succ]
      have HPM := Lib.hid (Hbm.out)
      have HPU := Lib.hid (HNbm.out.hp (Hbu.out))
      have HPY := Lib.hid (HNbm.out.hp (HNbu.out.hp (Hby_.out)))
      have q0 := cellOf HPM.out 0
      have q1 := cellOf HPM.out 1
      have q2 := cellOf HPM.out 2
      have g0 := freeOf HPM.out 0
      have g1 := freeOf HPM.out 1
      have g2 := freeOf HPM.out 2
      simp only [List.getElem?_toArray, List.getElem?_cons_zero, List.getElem?_cons_succ] at q0 q1 q2
      refine wpAnyT_last (by kernel_rfl) rfl (by kernel_rfl) (fun K hK => ?_)
      go_simp
      refine hK.out _ _ ?_
      go_wp2
      go_meet
      exact ⟨bm, bu, by_, rfl, mk3_set HPM.out _ _ _, (mk3_other (obj_ne HPU.out HPM.out (by decide)) _ _ _).trans HPU.out, (mk3_other (obj_ne HPY.out HPM.out (by decide)) _ _ _).trans HPY.out, ⟨HBbm.out, HBbu.out, HBby_.out⟩, mk3_ext HXd.out HBbm.out _ _ _⟩
     refine AllT.cons (i := 9) rfl (fun K hK => ?_) AllT.nil
     go_simp
     have Hbm : Hid ((wa.alloc (.cells #[.int .i64 0, .slice none 0 0, .slice none 0 0] 53)).heap[wa.heap.size]? = some (.cells #[.int .i64 0, .slice none 0 0, .slice none 0 0] 53)) := Lib.hid (heap_alloc_new wa _)
     have HNbm : Hid (Ext wa (wa.alloc (.cells #[.int .i64 0, .slice none 0 0, .slice none 0 0] 53))) := Lib.hid ((Ext.rf wa).al _)
     have HBbm : Hid (wr.heap.size ≤ wa.heap.size) := Lib.hid HXa.out.sz
     generalize wa.heap.size = bm at *
     generalize wa.alloc (.cells #[.int .i64 0, .slice none 0 0, .slice none 0 0] 53) = wb at *
     have HXb := Lib.hid (HXa.out.trans' HNbm.out)
     refine hK.out _ _ ?_ (fun hHeld => ?_)
     ·(try dsimp only)
      exact HXb.out.cl HC0.out
     clear hK K
     try simp only [Act.put]
     try simp only [List.setIfInBounds_toArray]
     try simp only [List.set_cons_zero, List.set_cons_succ]
     refine wpAnyT_step (i := 5) (by kernel_rfl) rfl (fun K hK => ?_)
     go_simp
     have Hbu : Hid ((wb.alloc (.cells (madeCells #[.bool false] n) 4)).heap[wb.heap.size]? = some (.cells (madeCells #[.bool false] n) 4)) := Lib.hid (heap_alloc_new wb _)
     have HNbu : Hid (Ext wb (wb.alloc (.cells (madeCells #[.bool false] n) 4))) := Lib.hid ((Ext.rf wb).al _)
     have HBbu : Hid (wr.heap.size ≤ wb.heap.size) := Lib.hid HXb.out.sz
     generalize wb.heap.size = bu at *
     generalize wb.alloc (.cells (madeCells #[.bool false] n) 4) = wd at *
     have HXd := Lib.hid (HXb.out.trans' HNbu.out)
     refine hK.out _ _ ?_ (fun hHeld => ?_)
     ·(try dsimp only)
      exact HXd.out.cl HC0.out
     clear hK K
     try simp only [Act.put]
     try simp only [List.setIfInBounds_toArray]
     try simp only [List.set_cons_zero, List.set_cons_succ]
     refine wpAnyT_take (i := 8) (d := some 25) (v := ?_) rfl rfl (by kernel_rfl) (by kernel_rfl) (by kernel_rfl) (by kernel_rfl) (fun _ _ _ h => h) (Or.inl ⟨by rfl, ?_⟩) (by assumption) ?_
     rotate_left
     ·(intro w hSw; (try dsimp only at hSw); go_simp; try (with_reducible rfl))
     try simp only [Act.put]
     try simp only [List.setIfInBounds_toArray]
     try simp only [List.set_cons_zero, List.set_cons_succ]
     have HPM := Lib.hid (HNbu.out.hp (Hbm.out))
     have HPU := Lib.hid (Hbu.out)
     have HPY := Lib.hid (HNbu.out.hp (HNbm.out.hp (Hby_.out)))
     have q0 := cellOf HPM.out 0
     have q1 := cellOf HPM.out 1
     have q2 := cellOf HPM.out 2
     have g0 := freeOf HPM.out 0
     have g1 := freeOf HPM.out 1
     have g2 := freeOf HPM.out 2
     simp only [List.getElem?_toArray, List.getElem?_cons_zero, List.getElem?_cons_succ] at q0 q1 q2
     refine wpAnyT_last (by kernel_rfl) rfl (by kernel_rfl) (fun K hK => ?_)
     go_simp
     refine hK.out _ _ ?_
     go_wp2
     go_meet
     exact ⟨bm, bu, by_, rfl, mk3_set HPM.out _ _ _, (mk3_other (obj_ne HPU.out HPM.out (by decide)) _ _ _).trans HPU.out, (mk3_other (obj_ne HPY.out HPM.out (by decide)) _ _ _).trans HPY.out, ⟨HBbm.out, HBbu.out, HBby_.out⟩, mk3_ext HXd.out HBbm.out _ _ _⟩
    refine AllT.cons (i := 9) rfl (fun K hK => ?_) AllT.nil
    go_simp
    have Hbm : Hid ((w0.alloc (.cells #[.int .i64 0, .slice none 0 0, .slice none 0 0] 53)).heap[w0.heap.size]? = some (.cells #[.int .i64 0, .slice none 0 0, .slice none 0 0] 53)) := Lib.hid (heap_alloc_new w0 _)
    have HNbm : Hid (Ext w0 (w0.alloc (.cells #[.int .i64 0, .slice none 0 0, .slice none 0 0] 53))) := Lib.hid ((Ext.rf w0).al _)
    have HBbm : Hid (wr.heap.size ≤ w0.heap.size) := Lib.hid HX0.out.sz
    generalize w0.heap.size = bm at *
    generalize w0.alloc (.cells #[.int .i64 0, .slice none 0 0, .slice none 0 0] 53) = wa at *
    have HXa := Lib.hid (HX0.out.trans' HNbm.out)
    refine hK.out _ _ ?_ (fun hHeld => ?_)
    ·(try dsimp only)
     exact HXa.out.cl HC0.out
    clear hK K
    try simp only [Act.put]
    try simp only [List.setIfInBounds_toArray]
    try simp only [List.set_cons_zero, List.set_cons_succ]
    refine wpAnyT_ready (rs := [5, 7]) (by kernel_rfl) (by simp) ?_
    refine AllT.cons (i := 5) rfl (fun K hK => ?_) ?_
    ·(skip)
     go_simp
     have Hbu : Hid ((wa.alloc (.cells (madeCells #[.bool false] n) 4)).heap[wa.heap.size]? = some (.cells (madeCells #[.bool false] n) 4)) := Lib.hid (heap_alloc_new wa _)
     have HNbu : Hid (Ext wa (wa.alloc (.cells (madeCells #[.bool false] n) 4))) := Lib.hid ((Ext.rf wa).al _)
     have HBbu : Hid (wr.heap.size ≤ wa.heap.size) := Lib.hid HXa.out.sz
     generalize wa.heap.size = bu at *
     generalize wa.alloc (.cells (madeCells #[.bool false] n) 4) = wb at *
     have HXb := Lib.hid (HXa.out.trans' HNbu.out)
     refine hK.out _ _ ?_ (fun hHeld => ?_)
     ·(try dsimp only)
      exact HXb.out.cl HC0.out
     clear hK K
     try simp only [Act.put]
     try simp only [List.setIfInBounds_toArray]
     try simp only [List.set_cons_zero, List.set_cons_succ]
     refine wpAnyT_step (i := 7) (by kernel_rfl) rfl (fun K hK => ?_)
     go_simp
     have Hby_ : Hid ((wb.alloc (.cells (madeCells #[.slice none 0 0] n) 39)).heap[wb.heap.size]? = some (.cells (madeCells #[.slice none 0 0] n) 39)) := Lib.hid (heap_alloc_new wb _)
     have HNby_ : Hid (Ext wb (wb.alloc (.cells (madeCells #[.slice none 0 0] n) 39))) := Lib.hid ((Ext.rf wb).al _)
     have HBby_ : Hid (wr.heap.size ≤ wb.heap.size) := Lib.hid HXb.out.sz
     generalize wb.heap.size = by_ at *
     generalize wb.alloc (.cells (madeCells #[.slice none 0 0] n) 39) = wd at *
     have HXd := Lib.hid (HXb.out.trans' HNby_.out)
     refine hK.out _ _ ?_ (fun hHeld => ?_)
     ·(try dsimp only)
      exact HXd.out.cl HC0.out
     clear hK K
     try simp only [Act.put]
     try simp only [List.setIfInBounds_toArray]
     try simp only [List.set_cons_zero, List.set_cons_succ]
     refine wpAnyT_take (i := 8) (d := some 25) (v := ?_) rfl rfl (by kernel_rfl) (by kernel_rfl) (by kernel_rfl) (by kernel_rfl) (fun _ _ _ h => h) (Or.inl ⟨by rfl, ?_⟩) (by assumption) ?_
     rotate_left
     ·(intro w hSw; (try dsimp only at hSw); go_simp; try (with_reducible rfl))
     try simp only [Act.put]
     try simp only [List.setIfInBounds_toArray]
     try simp only [List.set_cons_zero, List.set_cons_succ]
     have HPM := Lib.hid (HNby_.out.hp (HNbu.out.hp (Hbm.out)))
     have HPU := Lib.hid (HNby_.out.hp (Hbu.out))
     have HPY := Lib.hid (Hby_.out)
     have q0 := cellOf HPM.out 0
     have q1 := cellOf HPM.out 1
     have q2 := cellOf HPM.out 2
     have g0 := freeOf HPM.out 0
     have g1 := freeOf HPM.out 1
     have g2 := freeOf HPM.out 2
     simp only [List.getElem?_toArray, List.getElem?_cons_zero, List.getElem?_cons_succ] at q0 q1 q2
     refine wpAnyT_last (by kernel_rfl) rfl (by kernel_rfl) (fun K hK => ?_)
     go_simp
     refine hK.out _ _ ?_
     go_wp2
     go_meet
     exact ⟨bm, bu, by_, rfl, mk3_set HPM.out _ _ _, (mk3_other (obj_ne HPU.out HPM.out (by decide)) _ _ _).trans HPU.out, (mk3_other (obj_ne HPY.out HPM.out (by decide)) _ _ _).trans HPY.out, ⟨HBbm.out, HBbu.out, HBby_.out⟩, mk3_ext HXd.out HBbm.out _ _ _⟩
    refine AllT.cons (i := 7) rfl (fun K hK => ?_) AllT.nil
    go_simp
    have Hby_ : Hid ((wa.alloc (.cells (madeCells #[.slice none 0 0] n) 39)).heap[wa.heap.size]? = some (.cells (madeCells #[.slice none 0 0] n) 39)) := Lib.hid (heap_alloc_new wa _)
    have HNby_ : Hid (Ext wa (wa.alloc (.cells (madeCells #[.slice none 0 0] n) 39))) := Lib.hid ((Ext.rf wa).al _)
    have HBby_ : Hid (wr.heap.size ≤ wa.heap.size) := Lib.hid HXa.out.sz
    generalize wa.heap.size = by_ at *
    generalize wa.alloc (.cells (madeCells #[.slice none 0 0] n) 39) = wb at *
    have HXb := Lib.hid (HXa.out.trans' HNby_.out)
    refine hK.out _ _ ?_ (fun hHeld => ?_)
    ·(try dsimp only)
     exact HXb.out.cl HC0.out
    clear hK K
    try simp only [Act.put]
    try simp only [List.setIfInBounds_toArray]
    try simp only [List.set_cons_zero, List.set_cons_succ]
    refine wpAnyT_step (i := 5) (by kernel_rfl) rfl (fun K hK => ?_)
    go_simp
    have Hbu : Hid ((wb.alloc (.cells (madeCells #[.bool false] n) 4)).heap[wb.heap.size]? = some (.cells (madeCells #[.bool false] n) 4)) := Lib.hid (heap_alloc_new wb _)
    have HNbu : Hid (Ext wb (wb.alloc (.cells (madeCells #[.bool false] n) 4))) := Lib.hid ((Ext.rf wb).al _)
    have HBbu : Hid (wr.heap.size ≤ wb.heap.size) := Lib.hid HXb.out.sz
    generalize wb.heap.size = bu at *
    generalize wb.alloc (.cells (madeCells #[.bool false] n) 4) = wd at *
    have HXd := Lib.hid (HXb.out.trans' HNbu.out)
    refine hK.out _ _ ?_ (fun hHeld => ?_)
    ·(try dsimp only)
     exact HXd.out.cl HC0.out
    clear hK K
    try simp only [Act.put]
    try simp only [List.setIfInBounds_toArray]
    try simp only [List.set_cons_zero, List.set_cons_succ]
    refine wpAnyT_take (i := 8) (d := some 25) (v := ?_) rfl rfl (by kernel_rfl) (by kernel_rfl) (by kernel_rfl) (by kernel_rfl) (fun _ _ _ h => h) (Or.inl ⟨by rfl, ?_⟩) (by assumption) ?_
    rotate_left
    ·(intro w hSw; (try dsimp only at hSw); go_simp; try (with_reducible rfl))
    try simp only [Act.put]
    try simp only [List.setIfInBounds_toArray]
    try simp only [List.set_cons_zero, List.set_cons_succ]
    have HPM := Lib.hid (HNbu.out.hp (HNby_.out.hp (Hbm.out)))
    have HPU := Lib.hid (Hbu.out)
    have HPY := Lib.hid (HNbu.out.hp (Hby_.out))
    have q0 := cellOf HPM.out 0
    have q1 := cellOf HPM.out 1
    have q2 := cellOf HPM.out 2
    have g0 := freeOf HPM.out 0
    have g1 := freeOf HPM.out 1
    have g2 := freeOf HPM.out 2
    simp only [List.getElem?_toArray, List.getElem?_cons_zero, List.getElem?_cons_succ] at q0 q1 q2
    refine wpAnyT_last (by kernel_rfl) rfl (by kernel_rfl) (fun K hK => ?_)
    go_simp
    refine hK.out _ _ ?_
    go_wp2
    go_meet
    exact ⟨bm, bu, by_, rfl, mk3_set HPM.out _ _ _, (mk3_other (obj_ne HPU.out HPM.out (by decide)) _ _ _).trans HPU.out, (mk3_other (obj_ne HPY.out HPM.out (by decide)) _ _ _).trans HPY.out, ⟨HBbm.out, HBbu.out, HBby_.out⟩, mk3_ext HXd.out HBbm.out _ _ _⟩
   case rest =>
    obtain ⟨M, U, Y, rfl, HM, HU, HY, HBD, HXC⟩ := hcut
    obtain ⟨wb, rfl⟩ : ∃ x, x = wc := ⟨_, rfl⟩
    obtain ⟨wo, rfl⟩ : ∃ x, x = wr := ⟨_, rfl⟩
    clear c0 hlc hne1 hne2 hne3 hne4 hmb hmr
    have HO1 := Lib.hid (OwnM.box (c := z) (F := fun f => underC t C f (k : Int)) (k := k) HM.out HU.out HY.out HBD.out.1 HBD.out.2.1 HBD.out.2.2 (by omega))
    obtain ⟨F, hF⟩ : ∃ F : Nat → List Int, F = fun f => underC t C f (k : Int) := ⟨_, rfl⟩
    have HUK : Hid (∀ W, Ext w W → ∀ f, f < n → Calls Tryz.prog 110 #[.agg #[.slice ta n tc], .slice (some ⟨cB, cO, none⟩) n cc, .int .i64 f, .int .i64 k] W fun e w' => IntsOut W w' e (F f)) := Lib.hid (fun W hW f hf => by
     have h := HUW.out W hW f k hf
     rw [hF]; exact h)
    rw [← hF] at HO1 HCK
    have HCT : Hid ((cutM t C).take (k + 1) = (cutM t C).take k ++ [ofMk n z F k n]) := Lib.hid (by
     rw [HCK.out, getElem!_pos _ k (by rw [HML.out]; exact hlt)]
     exact List.take_succ_eq_append_getElem (by rw [HML.out]; exact hlt))
    clear hF
    have HEB := Lib.hid (HE.out.trans' HXC.out)
    go_wp2
    go_loopg [9] n (fun g s9 wr => ∃ (f : Nat) (vr1 : Nat → Nat → Value), f ≤ n ∧ n - f ≤ g ∧ s9 = .int .i64 f ∧ Aside (OwnM wr wo.heap.size (.slice (some ⟨M, 0, none⟩) 1 1) n 1 [ofMk n z F k f] (fun _ => .slice (some ⟨U, 0, none⟩) n n) (fun _ => .slice (some ⟨Y, 0, none⟩) n n) vr1) ∧ Aside (Ext wo wr))
    case atStart => exact ⟨0, _, Nat.zero_le _, by omega, rfl, (show OwnM _ _ _ _ _ _ _ _ _ from HO1.out), (show Ext _ _ from HXC.out)⟩
    case round =>
     clear HO1 HXC HM HU HY HBD HEB
     obtain ⟨f, vr1, hf, hgf, rfl, HP, HQ⟩ := hrel
     have HEW := Lib.hid (HX1.out.trans' (HE.out.trans' HQ.out))
     obtain ⟨m0, m1, m2, _⟩ := HP.out.cellsAt (i := 0) (by simp)
     simp only [Nat.zero_mul, Nat.zero_add, List.getElem!_cons_zero] at m0 m1 m2
     have m0 : wr.cell? ⟨M, 0, none⟩ = some (.int .i64 z) := m0
     by_cases hfn : f < n
     case neg =>
      have hfz : ¬ (f : Int) < (n : Int) := by omega
      obtain rfl : n = f := by omega
      have HRW : Hid (Row wr w1.heap.size 53 3 (.slice xa k xc) k (mkCells ((cutM t C).take k) vc vh)) := Lib.hid (by have h := HO.out.row.ext HQ.out; rwa [HTK.out] at h)
      have hszq := (HE.out.trans' HQ.out).sz
      go_wp2_with ((at_builtin; go_loud (refine wpList_append_one rfl _ _ 29 rfl w1.heap.size 53 im (.agg #[.int .i64 0, .slice none 0 0, .slice none 0 0]) 3 56 Tryz.underlying29 him mz0 mz1 mz2 rfl (by decide) _ k _ rfl (HRW.out.al _) wr.heap.size 1 [.int .i64 z, .slice (some ⟨U, 0, none⟩) n n, .slice (some ⟨Y, 0, none⟩) n n] rfl rfl ⟨_, heap_alloc_new _ _⟩ (by simp [Value.oneCell']) (by unfold maxLen; omega) (by omega) (by simp; omega) ?_; intro v8 w8 hown8 hgrow8 hblk8; have HOWN := Lib.hid hown8; have HGR := Lib.hid hgrow8; obtain ⟨x8, y8, rfl, _⟩ := HOWN.out.any; have HX8 := Lib.hid (((HE.out.trans' HQ.out).al _).gr hgrow8 (fun q hq => (HRW.out.lt q hq).1)); clear hown8 hgrow8 hblk8)))
      have HN := Lib.hid (OwnM.snocG HO.out HTK.out (HQ.out.al _) HE.out.sz (HP.out.ext ((Ext.rf wr).al _)) HGR.out HOWN.out)
      go_roundg (n - (k + 1))
      case measure => omega
      case rel => exact ⟨k + 1, _, _, _, by omega, by omega, by go_num, (show OwnM _ _ _ _ _ ((cutM t C).take (k + 1)) _ _ _ from by rw [HCT.out]; exact HN.out), (show Ext _ _ from HX8.out)⟩
     case pos =>
      have hfz : (f : Int) < (n : Int) := by omega
      have hfz0 : (0 : Int) ≤ (f : Int) := by omega
      obtain ⟨g2, o2, cc2, hvb, _, _, _, hbc, hf2⟩ := HP.out.boolAt (i := 0) (j := f) (by omega) hfn
      simp only [Value.slice.injEq, Option.some.injEq, Addr.mk.injEq, and_true, true_and] at hvb
      obtain ⟨⟨hv1, hv2⟩, hv5⟩ := hvb
      subst hv1 hv2 hv5
      have hf2f := hf2 (0 + f)
      obtain ⟨old, hold⟩ : ∃ u, Value.bool ([ofMk n z F k f][0]!.closed[f]!) = u := ⟨_, rfl⟩
      rw [hold] at hbc
      have HPB := Lib.hid (HP.out.setB (i := 0) (j := f) (by omega) hfn rfl)
      have HQB := Lib.hid (HQ.out.st (p := ⟨U, 0 + f, none⟩) (by have := (HP.out.clo 0 (by omega)).lt U rfl; exact this.1) (.bool true))
      rw [Nat.zero_add] at hbc hf2f HPB HQB
      clear hold
      by_cases hfk : f = k
      case pos =>
       have hq1 : ((f : Int) != (k : Int)) = false := by rw [bne_eq_false_iff_eq]; omega
       have HSE := Lib.hid (ofMk_own (c := z) (F := F) hfn hfk)
       rw [HSE.out] at HPB
       clear hfk
       go_wp2
       go_roundg (n - (f + 1))
       case measure => omega
       case rel => exact ⟨f + 1, _, by omega, by omega, by go_num, (show OwnM _ _ _ _ _ _ _ _ _ from HPB.out), (show Ext _ _ from HQB.out)⟩
      case neg =>
       have hq1 : ((f : Int) != (k : Int)) = true := by rw [bne_iff_ne]; omega
       have HSE := Lib.hid (ofMk_other (c := z) (F := F) hfn hfk)
       clear hfk
       go_upto_region 12 with (fail)
       generalize hw2 : wr.setCell ⟨U, f, none⟩ (.bool true) = w2 at *
       have HEW2 := Lib.hid (HX1.out.trans' (HE.out.trans' HQB.out))
       have HT2 := Lib.hid ((HE.out.trans' HQB.out).hp HB1.out)
       have t2 := cellOf HT2.out 0
       simp only [List.getElem?_toArray, List.getElem?_cons_zero] at t2
       obtain ⟨_, _, k2, _⟩ := HPB.out.cellsAt (i := 0) (by rw [closeK_len]; simp)
       simp only [Nat.zero_mul, Nat.zero_add] at k2
       clear m0 m1 m2 hbc hf2f hf2 hw2
       refine wp_region_tail (fun W => W.cell? ⟨M, 2, none⟩ = some (.slice (some ⟨Y, 0, none⟩) n n) ∧ W.cell? ⟨w.heap.size, 0, none⟩ = some (.slice ta n tc)) 9 (by kernel_rfl) ⟨k2, t2⟩ (fun hHeld => ?_)
       refine wpAnyT_take (i := 0) (d := some 38) (v := ?_) rfl rfl (by kernel_rfl) (by kernel_rfl) (by kernel_rfl) (by kernel_rfl) (fun _ _ _ h => h) (Or.inl ⟨by kernel_rfl, ?_⟩) (by assumption) ?_
       rotate_left
       ·(intro w hSw; (try dsimp only at hSw); go_simp; try (with_reducible rfl))
       try simp only [Act.put]
       try simp only [List.setIfInBounds_toArray]
       try simp only [List.set_cons_zero, List.set_cons_succ]
       refine wpAnyT_take (i := 1) (d := some 39) (v := ?_) rfl rfl (by kernel_rfl) (by kernel_rfl) (by kernel_rfl) (by kernel_rfl) (fun _ _ _ h => h) (Or.inl ⟨by kernel_rfl, ?_⟩) (by assumption) ?_
       rotate_left
       ·(intro w hSw; (try dsimp only at hSw); go_simp; try (with_reducible rfl))
       try simp only [Act.put]
       try simp only [List.setIfInBounds_toArray]
       try simp only [List.set_cons_zero, List.set_cons_succ]
       refine wpAnyT_take (i := 2) (d := some 40) (v := ?_) rfl rfl (by kernel_rfl) (by kernel_rfl) (by kernel_rfl) (by kernel_rfl) (fun _ _ _ h => h) (Or.inl ⟨by kernel_rfl, ?_⟩) (by assumption) ?_
       rotate_left
       ·(intro w hSw; (try dsimp only at hSw); go_simp; try (with_reducible rfl))
       try simp only [Act.put]
       try simp only [List.setIfInBounds_toArray]
       try simp only [List.set_cons_zero, List.set_cons_succ]
       refine wpAnyT_take (i := 3) (d := some 41) (v := ?_) rfl rfl (by kernel_rfl) (by kernel_rfl) (by kernel_rfl) (by kernel_rfl) (fun _ _ _ h => h) (Or.inl ⟨by kernel_rfl, ?_⟩) (by assumption) ?_
       rotate_left
       ·(intro w hSw; (try dsimp only at hSw); go_simp; try (with_reducible rfl))
       try simp only [Act.put]
       try simp only [List.setIfInBounds_toArray]
       try simp only [List.set_cons_zero, List.set_cons_succ]
       refine wpAnyT_take (i := 4) (d := some 42) (v := ?_) rfl rfl (by kernel_rfl) (by kernel_rfl) (by kernel_rfl) (by kernel_rfl) (fun _ _ _ h => h) (Or.inl ⟨by kernel_rfl, ?_⟩) (by assumption) ?_
       rotate_left
       ·(intro w hSw; (try dsimp only at hSw); go_simp; try (with_reducible rfl))
       try simp only [Act.put]
       try simp only [List.setIfInBounds_toArray]
       try simp only [List.set_cons_zero, List.set_cons_succ]
       refine wpAnyT_take (i := 5) (d := some 43) (v := ?_) rfl rfl (by kernel_rfl) (by kernel_rfl) (by kernel_rfl) (by kernel_rfl) (fun _ _ _ h => h) (Or.inl ⟨by kernel_rfl, ?_⟩) (by assumption) ?_
       rotate_left
       ·(intro w hSw; (try dsimp only at hSw); go_simp; try (with_reducible rfl))
       try simp only [Act.put]
       try simp only [List.setIfInBounds_toArray]
       try simp only [List.set_cons_zero, List.set_cons_succ]
       refine wpAnyT_take (i := 6) (d := some 44) (v := ?_) rfl rfl (by kernel_rfl) (by kernel_rfl) (by kernel_rfl) (by kernel_rfl) (fun _ _ _ h => h) (Or.inl ⟨by kernel_rfl, ?_⟩) (by assumption) ?_
       rotate_left
       ·(intro w hSw; (try dsimp only at hSw); go_simp; try (with_reducible rfl))
       try simp only [Act.put]
       try simp only [List.setIfInBounds_toArray]
       try simp only [List.set_cons_zero, List.set_cons_succ]
       refine wpAnyT_step (i := 7) (o := ⟨some 45, _, _, _, _, _⟩) (by kernel_rfl) rfl (fun K hK => ?_)
       refine step_callW (by kernel_rfl) 110 _ _ rfl enters_110 [.agg #[.slice ta n tc], .slice (some ⟨cB, cO, none⟩) n cc, .int .i64 f, .int .i64 k] (by first | rfl | kernel_rfl | go_simp) (HUK.out _ (HEW2.out.trans' (Ext.rf w2).dr) f hfn) ?_
       rintro e y1 ⟨vu, rfl, hRu, hXu⟩
       refine ⟨_, rfl, ?_⟩
       have HXU := Lib.hid ((Ext.rf w2).dr.trans' hXu)
       have HRU := Lib.hid hRu
       have HNR := Lib.hid (HPB.out.newR (i := 0) (j := f) (by omega) hfn rfl HXU.out hRu (Nat.le_refl _) HQB.out.sz)
       obtain ⟨g3, o3, cc3, hvh, _, _, _, hhc, hf3⟩ := (HPB.out.ext HXU.out).hdrAt (i := 0) (j := f) (by omega) hfn
       simp only [Value.slice.injEq, Option.some.injEq, Addr.mk.injEq, and_true, true_and] at hvh
       obtain ⟨⟨hv3, hv4⟩, hv6⟩ := hvh
       subst hv3 hv4 hv6
       rw [HSE.out] at HNR
       have HQN := Lib.hid ((HQB.out.trans' HXU.out).st (p := ⟨Y, 0 + f, none⟩) (by have := (HP.out.hdr 0 (by omega)).lt Y rfl; exact this.1) vu)
       have hf3f := hf3 (0 + f)
       rw [Nat.zero_add] at hhc hf3f HNR HQN
       obtain ⟨da, dc, rfl, hzd⟩ := HRU.out.any
       clear hRu hXu hzd
       refine hK.out _ _ ?_ (fun hHeld => ?_)
       ·(try dsimp only)
        exact ⟨HXU.out.cl k2, HXU.out.cl t2⟩
       clear hK K
       try simp only [Act.put]
       try simp only [List.setIfInBounds_toArray]
       try simp only [List.set_cons_zero, List.set_cons_succ]
       refine wpAnyT_take (i := 8) (d := some 46) (v := ?_) rfl rfl (by kernel_rfl) (by kernel_rfl) (by kernel_rfl) (by kernel_rfl) (fun _ _ _ h => h) (Or.inl ⟨by kernel_rfl, ?_⟩) (by assumption) ?_
       rotate_left
       ·(intro w hSw; (try dsimp only at hSw); go_simp; try (with_reducible rfl))
       try simp only [Act.put]
       try simp only [List.setIfInBounds_toArray]
       try simp only [List.set_cons_zero, List.set_cons_succ]
       refine wpAnyT_last (by kernel_rfl) rfl (by kernel_rfl) (fun K hK => ?_)
       go_simp
       refine hK.out _ _ ?_
       go_wp2
       go_roundg (n - (f + 1))
       case measure => omega
       case rel => exact ⟨f + 1, _, by omega, by omega, by go_num, (show OwnM _ _ _ _ _ _ _ _ _ from HNR.out), (show Ext _ _ from HQN.out)⟩
end Go.Proofs.YtfagfooggcinoaaGreat
