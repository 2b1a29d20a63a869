import Derived.Test.YtfagfooggcinoaaJa
import Derived.Test.YtfagfooggcinoaaProg
import Derived.Test.YtfagfooggcinoaaGg
import Derived.Test.YtfagfooggcinoaaGa
import Derived.Test.YtfagfooggcinoaaGi
import Derived.Test.YtfagfooggcinoaaGe
import Derived.Test.YtfagfooggcinoaaGh
import Derived.Test.YtfagfooggcinoaaGj
import Derived.Test.YtfagfooggcinoaaGd
import Derived.Test.YtfagfooggcinoaaGb
import Derived.BigQuiet
import Derived.Deep.QuietTactic
import Derived.Deep.LoopGhost
import Derived.Shelf.Abstract
import Derived.Laws.EntriesVeiled
namespace Go.Proofs.Ytfagfooggcinoaa
open Go.RowKit
set_option linter.unusedVariables false
attribute [local go_sem ↓] Go.wp_at_zero Go.wp_at_succ
set_option maxHeartbeats 4000000 in
set_option maxRecDepth 100000 in
theorem closedP_calls (v vc : Value) (t : Tr) (c : List Int) (w : World) (h : TrAt w v t) (hs : SmallTr t) (hv : validT t = true) (hc : Ints w vc c) (hr : RangeC t c) :
  Calls Try.prog 87 #[.agg #[v], vc] w fun e w' => e = .returned (.bool (missE t c).isNone) ∧ Ext w w' := by
 have HM := Lib.hid (fun W (hW : Ext w W) => missingP_calls v vc t c W (h.ext hW) hs hv (hc.ext hW) hr)
 obtain ⟨ta, tc, rfl, htc⟩ := h.sh
 obtain ⟨ca, cc, rfl, hlc, _⟩ := hc
 generalize t.length = N at *
 generalize c.length = M at *
 have HE1 := Lib.hid ((Ext.rf w).al (.cells #[.slice ta N tc] 24))
 have HN : Hid ((missE t c).isNone = !(missE t c).isSome) := Lib.hid (by cases missE t c <;> rfl)
 rw [HN.out]
 obtain ⟨f, hf⟩ : ∃ f, (missE t c).isSome = f := ⟨_, rfl⟩
 rw [hf]
 have HF := Lib.hid hf
 clear h hs hv hr HN hf
 go_enter Try.func87, Try.ntmps87
 go_wp2_with fail
 refine (HM.out _ HE1.out).mono ?_
 rintro e w2 ⟨rfl, hX⟩
 have HX := Lib.hid (HE1.out.trans' hX)
 rw [HF.out]
 generalize eidA (misS t c) = a1 at *
 generalize eidB (misS t c) = b1 at *
 generalize eidA (missE t c) = a2 at *
 generalize eidB (missE t c) = b2 at *
 clear hX
 go_wp2
 go_ret
 exact ⟨rfl, (HX.out.al _).al _⟩
theorem stamp_at' {w : World} {a : Option Addr} {m c : Nat} {q : List (List Int)} (h : Sl RInts 1 w (.slice a m c) q) (i : Nat) (hi : i < q.length) :
  ∃ b o sv, a = some ⟨b, o, none⟩ ∧ w.cell? ⟨b, o + i, none⟩ = some sv ∧ Ints w sv q[i]! := by
 obtain ⟨b, o, c2, cv, he, _, _, hc, ⟨u, hu, hi2⟩⟩ := h.at1 i hi
 simp only [List.cons.injEq, and_true] at hu
 subst hu
 simp only [Value.slice.injEq] at he
 exact ⟨b, o, _, he.1, hc, hi2⟩
noncomputable def givenE (t : Tr) (l : List (List Int)) (ps : List Int) : Int :=
 if (validT t && l.all (fitsB t)) = true then
  if l.all (rangeB t) = true then
   if (ps.all fun p => decide (0 ≤ p) && decide (p < (t.length : Int))) = true then
    if (l.all fun c => (missE t c).isNone) = true then 0 else 18
   else 2
  else 2
 else 1
theorem all_of {α : Type} [Inhabited α] {l : List α} {f : α → Bool} (h : ∀ i, i < l.length → f l[i]! = true) : l.all f = true := by
 rw [List.all_eq_true]
 intro x hx
 obtain ⟨i, hi, rfl⟩ := List.getElem_of_mem hx
 have := h i hi
 rwa [getElem!_pos l i hi] at this
theorem all_at {α : Type} [Inhabited α] {l : List α} {f : α → Bool} (h : l.all f = true) {i : Nat} (hi : i < l.length) : f l[i]! = true := by
 rw [List.all_eq_true] at h
 rw [getElem!_pos l i hi]
 exact h _ (List.getElem_mem hi)
theorem all_not {α : Type} [Inhabited α] {l : List α} {f : α → Bool} {i : Nat} (hi : i < l.length) (h : f l[i]! = false) : l.all f = false := by
 rw [Bool.eq_false_iff]; intro e; have := all_at e hi; rw [h] at this; cases this
set_option maxHeartbeats 8000000 in
set_option maxRecDepth 100000 in
theorem givenP_calls (v vl vp : Value) (t : Tr) (l : List (List Int)) (ps : List Int) (w : World) (h : TrAt w v t) (hs : LooseTr t) (hl : Sl RInts 1 w vl l) (hn : l.length ≤ 1000000) (hp : Ints w vp ps) (hm : ps.length ≤ 1000000) :
  Calls Try.prog 57 #[.agg #[v], vl, vp] w fun e w' => e = .returned (.int .i64 (givenE t l ps)) ∧ Ext w w' := by
 have HSZ := Lib.hid (fun W (hW : Ext w W) => sizedP_calls v vl t l W (h.ext hW) hs (hl.ext rints_lasts hW) hn)
 have HRG := Lib.hid (fun W (hW : Ext w W) (hv : validT t = true) vc c (hc : Ints W vc c) (hf : c.length = t.length) => inRangeP_calls v vc t c W (h.ext hW) (valid_small hv) hc hf)
 have HPR := Lib.hid (fun W (hW : Ext w W) p => processP_calls v t p W (h.ext hW) hs)
 have HCL := Lib.hid (fun W (hW : Ext w W) vc c (hc : Ints W vc c) (hv : validT t = true) (hf : RangeC t c) => closedP_calls v vc t c W (h.ext hW) (valid_small hv) hv hc hf)
 have HT := Lib.hid h
 have HLL := Lib.hid hl
 have HPP := Lib.hid hp
 obtain ⟨ta, tc, rfl, htc⟩ := h.sh
 obtain ⟨la, lc, rfl, hlc⟩ := hl.shape
 obtain ⟨pa, pc, rfl, hpc, _⟩ := hp
 obtain ⟨tn, htn⟩ : ∃ n, t.length = n := ⟨_, rfl⟩
 obtain ⟨n, hln⟩ : ∃ n, l.length = n := ⟨_, rfl⟩
 obtain ⟨m, hpn⟩ : ∃ n, ps.length = n := ⟨_, rfl⟩
 obtain ⟨ge, hge⟩ : ∃ E, givenE t l ps = E := ⟨_, rfl⟩
 have HG := Lib.hid hge
 have HN := Lib.hid hln
 have HM := Lib.hid hpn
 rw [hge]
 rw [hln] at HSZ hlc hn ⊢
 rw [hpn] at hpc hm ⊢
 rw [htn] at HPR HRG HSZ HCL ⊢
 have HX0 := Lib.hid (heap_alloc_new w (.cells #[.slice ta tn tc] 24))
 have HE1 := Lib.hid ((Ext.rf w).al (.cells #[.slice ta tn tc] 24))
 obtain ⟨sz, hsz⟩ : ∃ b, (validT t && l.all (fitsB t)) = b := ⟨_, rfl⟩
 rw [hsz] at HSZ
 have HSB := Lib.hid hsz
 clear h hs hl hge hln hpn htc hsz
 go_enter Try.func57, Try.ntmps57
 go_wp2_with fail
 refine (HSZ.out _ HE1.out).mono ?_
 rintro e w2 ⟨rfl, hX⟩
 have HY0 := Lib.hid (hX.hp HX0.out)
 have HE2 := Lib.hid (HE1.out.trans' hX)
 clear hX
 cases sz with
 | false =>
   have HF : Hid (ge = 1) := Lib.hid (by rw [← HG.out]; unfold givenE; rw [HSB.out]; rfl)
   go_wp2
   go_ret
   exact ⟨by rw [HF.out]; rfl, HE2.out⟩
 | true =>
 have HVF := Lib.hid (Bool.and_eq_true _ _ ▸ HSB.out : validT t = true ∧ l.all (fitsB t) = true)
 go_wp2
 go_loopg [19] n (fun g s19 wr => ∃ i : Nat, i ≤ n ∧ n - i ≤ g ∧ s19 = .int .i64 i ∧ Aside (∀ j, j < i → rangeB t l[j]! = true) ∧ Aside (Ext w2 wr))
 case atStart => exact ⟨0, Nat.zero_le _, by omega, rfl, (fun j hj => absurd hj (Nat.not_lt_zero _)), Ext.rf _⟩
 case round =>
  obtain ⟨i, hi, hg, rfl, A, HEK⟩ := hrel
  have HEW := Lib.hid (HE2.out.trans' HEK.out)
  have HZ0 := Lib.hid (HEK.out.hp HY0.out)
  have t0 := cellOf HZ0.out 0
  simp only [List.getElem?_toArray, List.getElem?_cons_zero] at t0
  by_cases hlt : i < n
  ·have hltz : (i : Int) < (n : Int) := by omega
   have hiz : (0 : Int) ≤ (i : Int) := by omega
   have HIL := Lib.hid (show i < l.length from by rw [HN.out]; exact hlt)
   obtain ⟨b, o, cv, rfl, hcell, hci⟩ := stamp_at' HLL.out i HIL.out
   have hc1 := HEW.out.cl hcell
   have HCI := Lib.hid (hci.ext HEW.out)
   obtain ⟨ca, cc, rfl, hcc, _⟩ := hci
   have HCR := Lib.hid (HRG.out wr HEW.out HVF.out.1 _ _ HCI.out (by have := all_at HVF.out.2 HIL.out; unfold fitsB at this; rw [← htn]; exact of_decide_eq_true this))
   generalize l[i]!.length = ci at *
   obtain ⟨rb, hrb⟩ : ∃ b, rangeB t l[i]! = b := ⟨_, rfl⟩
   rw [hrb] at HCR
   have HRB := Lib.hid hrb
   clear hrb hcell
   go_wp2_with fail
   refine HCR.out.mono ?_
   rintro e w5 ⟨rfl, hX5⟩
   cases rb with
   | true =>
     go_wp2
     go_roundg (n - (i + 1))
     case measure => omega
     case rel =>
      refine ⟨i + 1, by omega, by omega, by go_num, (show Aside _ from fun j hj => ?_), (show Ext _ _ from HEK.out.trans' hX5)⟩
      by_cases e : j = i
      ·subst e; exact HRB.out
      ·exact A.out j (by omega)
   | false =>
     have HF : Hid (ge = 2) := Lib.hid (by rw [← HG.out]; unfold givenE; rw [HSB.out, all_not HIL.out HRB.out]; rfl)
     go_wp2
     go_ret
     exact ⟨by rw [HF.out]; rfl, HEW.out.trans' hX5⟩
  ·have hltz : ¬ (i : Int) < (n : Int) := by omega
   obtain rfl : n = i := by omega
   have HALR := Lib.hid (show l.all (rangeB t) = true from all_of (fun j hj => A.out j (by rw [HN.out] at hj; exact hj)))
   clear A
   go_wp2
   obtain ⟨wA, rfl⟩ : ∃ x, x = wr := ⟨_, rfl⟩
   clear t0
   go_loopg [30] m (fun g s30 wr => ∃ i : Nat, i ≤ m ∧ m - i ≤ g ∧ s30 = .int .i64 i ∧ Aside (∀ j, j < i → (decide (0 ≤ ps[j]!) && decide (ps[j]! < (tn : Int))) = true) ∧ Aside (Ext wA wr))
   case atStart => exact ⟨0, Nat.zero_le _, by omega, rfl, (fun j hj => absurd hj (Nat.not_lt_zero _)), Ext.rf _⟩
   case round =>
    obtain ⟨i, hi, hg2, rfl, A, HEK2⟩ := hrel
    have HEW2 := Lib.hid (HEW.out.trans' HEK2.out)
    have HZ2 := Lib.hid (HEK2.out.hp HZ0.out)
    have t0 := cellOf HZ2.out 0
    simp only [List.getElem?_toArray, List.getElem?_cons_zero] at t0
    by_cases hlt : i < m
    ·have hltz : (i : Int) < (m : Int) := by omega
     have hiz : (0 : Int) ≤ (i : Int) := by omega
     have HIL := Lib.hid (show i < ps.length from by rw [HM.out]; exact hlt)
     obtain ⟨b, o, rfl, hb, hcell⟩ := ints_at HPP.out i HIL.out
     have hc1 := HEW2.out.cl hcell
     have HCR := Lib.hid (HPR.out wr HEW2.out ps[i]!)
     obtain ⟨rb, hrb⟩ : ∃ b, (decide (0 ≤ ps[i]!) && decide (ps[i]! < (tn : Int))) = b := ⟨_, rfl⟩
     rw [hrb] at HCR
     have HRB := Lib.hid hrb
     generalize hpi : ps[i]! = pi at *
     have HPI := Lib.hid hpi
     clear hrb hcell hpi hb
     go_wp2_with fail
     refine HCR.out.mono ?_
     rintro e w5 ⟨rfl, hX5⟩
     cases rb with
     | true =>
       go_wp2
       go_roundg (m - (i + 1))
       case measure => omega
       case rel =>
        refine ⟨i + 1, by omega, by omega, by go_num, (show Aside _ from fun j hj => ?_), (show Ext _ _ from HEK2.out.trans' hX5)⟩
        by_cases e : j = i
        ·subst e; rw [HPI.out]; exact HRB.out
        ·exact A.out j (by omega)
     | false =>
       have HF : Hid (ge = 2) := Lib.hid (by rw [← HG.out]; unfold givenE; rw [HSB.out, HALR.out, htn, all_not HIL.out (by rw [HPI.out]; exact HRB.out)]; rfl)
       go_wp2
       go_ret
       exact ⟨by rw [HF.out]; rfl, HEW2.out.trans' hX5⟩
    ·have hltz : ¬ (i : Int) < (m : Int) := by omega
     obtain rfl : m = i := by omega
     have HALP := Lib.hid (show (ps.all fun p => decide (0 ≤ p) && decide (p < (tn : Int))) = true from all_of (fun j hj => A.out j (by rw [HM.out] at hj; exact hj)))
     clear A
     go_wp2
     obtain ⟨wB, rfl⟩ : ∃ x, x = wr := ⟨_, rfl⟩
     clear t0
     go_loopg [41] n (fun g s41 wr => ∃ i : Nat, i ≤ n ∧ n - i ≤ g ∧ s41 = .int .i64 i ∧ Aside (∀ j, j < i → (missE t l[j]!).isNone = true) ∧ Aside (Ext wB wr))
     case atStart => exact ⟨0, Nat.zero_le _, by omega, rfl, (fun j hj => absurd hj (Nat.not_lt_zero _)), Ext.rf _⟩
     case round =>
      obtain ⟨i, hi, hg3, rfl, A, HEK3⟩ := hrel
      have HEW3 := Lib.hid (HEW2.out.trans' HEK3.out)
      have HZ3 := Lib.hid (HEK3.out.hp HZ2.out)
      have t0 := cellOf HZ3.out 0
      simp only [List.getElem?_toArray, List.getElem?_cons_zero] at t0
      by_cases hlt : i < n
      ·have hltz : (i : Int) < (n : Int) := by omega
       have hiz : (0 : Int) ≤ (i : Int) := by omega
       have HIL := Lib.hid (show i < l.length from by rw [HN.out]; exact hlt)
       obtain ⟨b, o, cv, rfl, hcell, hci⟩ := stamp_at' HLL.out i HIL.out
       have hc1 := HEW3.out.cl hcell
       have HCI := Lib.hid (hci.ext HEW3.out)
       obtain ⟨ca, cc, rfl, hcc, _⟩ := hci
       have HCR := Lib.hid (HCL.out wr HEW3.out _ _ HCI.out HVF.out.1 ⟨(by have := all_at HVF.out.2 HIL.out; unfold fitsB at this; exact of_decide_eq_true this), all_at HALR.out HIL.out⟩)
       generalize l[i]!.length = ci at *
       obtain ⟨rb, hrb⟩ : ∃ b, (missE t l[i]!).isNone = b := ⟨_, rfl⟩
       rw [hrb] at HCR
       have HRB := Lib.hid hrb
       clear hrb hcell
       go_wp2_with fail
       refine HCR.out.mono ?_
       rintro e w5 ⟨rfl, hX5⟩
       cases rb with
       | true =>
         go_wp2
         go_roundg (n - (i + 1))
         case measure => omega
         case rel =>
          refine ⟨i + 1, by omega, by omega, by go_num, (show Aside _ from fun j hj => ?_), (show Ext _ _ from HEK3.out.trans' hX5)⟩
          by_cases e : j = i
          ·subst e; exact HRB.out
          ·exact A.out j (by omega)
       | false =>
         have HF : Hid (ge = 18) := Lib.hid (by rw [← HG.out]; unfold givenE; rw [HSB.out, HALR.out, htn, HALP.out, all_not HIL.out HRB.out]; rfl)
         go_wp2
         go_ret
         exact ⟨by rw [HF.out]; rfl, HEW3.out.trans' hX5⟩
      ·have hltz : ¬ (i : Int) < (n : Int) := by omega
       obtain rfl : n = i := by omega
       have HF : Hid (ge = 0) := Lib.hid (by rw [← HG.out]; unfold givenE; rw [HSB.out, HALR.out, htn, HALP.out, show (l.all fun c => (missE t c).isNone) = true from all_of (fun j hj => A.out j (by rw [HN.out] at hj; exact hj))]; rfl)
       go_wp2
       go_ret
       exact ⟨by rw [HF.out]; rfl, HEW3.out⟩
theorem rows_one {w : World} {b : Nat} {ty : TypeId} {vc : Value} {c : List Int} {fr : Nat × Nat} (hb : w.heap[b]? = some (.cells #[vc] ty fr)) (hc : Ints w vc c) : Sl RInts 1 w (.slice (some ⟨b, 0, none⟩) 1 1) [c] := by
 refine ⟨_, _, rfl, Nat.le_refl _, fun _ => ⟨b, 0, rfl, (Array.getElem?_eq_some_iff.1 hb).1, fun i hi => ?_⟩⟩
 obtain rfl : i = 0 := by simpa using hi
 refine ⟨[vc], rfl, ⟨vc, rfl, hc⟩, fun j hj => ?_⟩
 obtain rfl : j = 0 := by omega
 have := cellOf hb 0
 simpa using this
end Go.Proofs.Ytfagfooggcinoaa
namespace Go.Proofs.Ytfagfooggcinoaa
open Go.RowKit
def IntsRes (w w' : World) (e : Ending) (E : Int) (l : List Int) : Prop := ∃ v, e = .returned (.tuple #[v, .int .i64 E]) ∧ Row w' w.heap.size 3 1 v l.length (l.map (Value.int .i64)) ∧ Ext w w'
theorem IntsRes.none {w w' : World} {E : Int} (h : Ext w w') : IntsRes w w' (.returned (.tuple #[.slice none 0 0, .int .i64 E])) E [] := ⟨_, rfl, Row.mkNil _ _ _ _, h⟩
def IntsOut (w w' : World) (e : Ending) (l : List Int) : Prop := ∃ v, e = .returned v ∧ Row w' w.heap.size 3 1 v l.length (l.map (Value.int .i64)) ∧ Ext w w'
end Go.Proofs.Ytfagfooggcinoaa
namespace Go.Proofs.Ytfagfooggcinoaa
open Go.RowKit
set_option linter.unusedVariables false
attribute [local go_sem ↓] Go.wp_at_zero Go.wp_at_succ
open Classical in
noncomputable def fixC (t : Tr) (F : List Int → Eid → List Int) (c : List Int) : List Int := if h : ∃ d, ∃ n, FixN t F n c d then Exists.choose h else c
theorem fixC_eq {t : Tr} {F : List Int → Eid → List Int} {n : Nat} {c d : List Int} (h : FixN t F n c d) : fixC t F c = d := by
 unfold fixC
 have hd : ∃ d, ∃ n, FixN t F n c d := ⟨d, n, h⟩
 rw [dif_pos hd]
 obtain ⟨m, hm⟩ := Exists.choose_spec hd
 exact (hm.same h).1
noncomputable def closeC (t : Tr) (c : List Int) : List Int := fixC t (upS t) c
noncomputable def openC (t : Tr) (c : List Int) : List Int := fixC t (dnS t) c
theorem openC_fix {t : Tr} {c : List Int} (hr : RangeC t c) : ∃ n, FixN t (dnS t) n c (openC t c) := by
 obtain ⟨n, d, _, h⟩ := dn_ends _ c hr (Nat.le_refl _)
 exact ⟨n, by unfold openC; rw [fixC_eq h]; exact h⟩
noncomputable def repE (t : Tr) (c : List Int) : Int := if (validT t && fitsB t c) = true then if rangeB t c = true then 0 else 2 else 1
def FnS (g : Nat) (t : Tr) (F : List Int → Eid → List Int) : Prop :=
 ∀ (W : World) (base G O n cap : Nat) (c : List Int) (x s : Eid), missE t c = some x → findE t 2 (ev t x).msg = some s → RangeC t c → n = t.length → Row W base 3 1 (.slice (some ⟨G, O, none⟩) n cap) n (c.map (Value.int .i64)) →
  Calls Try.prog g #[.slice (some ⟨G, O, none⟩) n cap, .agg #[.int .i64 s.1, .int .i64 ((s.2 : Int) + 1)], .agg #[.int .i64 x.1, .int .i64 ((x.2 : Int) + 1)]] W fun e w' =>
   e = .returned (.tuple #[]) ∧ Row w' base 3 1 (.slice (some ⟨G, O, none⟩) n cap) n ((F c x).map (Value.int .i64)) ∧ ∀ w0, Ext w0 W → w0.heap.size ≤ G → Ext w0 w'
theorem enters_56 : ∀ args w, (callFunc 56 args).run Try.prog w = .ok (.enter 56 args) w := enters_of Try.func56 (by kernel_rfl) rfl
set_option maxHeartbeats 4000000 in
theorem open1_calls (t : Tr) (hsm : SmallTr t) : FnS 56 t (dnS t) := fun W base G O n cap c x s hm hs hr hn hrow => by
 obtain ⟨hin, hk, s', hs', hlt, hsi⟩ := miss_parts hm
 obtain rfl : s = s' := Option.some.inj (hs.symm.trans hs')
 have hp : x.1 < n := by rw [hn]; exact (hr.inn hin).1
 have hX := Lib.hid (show Ext W ((W.alloc (.cells #[.int .i64 s.1, .int .i64 ((s.2 : Int) + 1)] 68)).alloc (.cells #[.int .i64 x.1, .int .i64 ((x.2 : Int) + 1)] 68)) from ((Ext.rf W).al _).al _)
 have hX0 := Lib.hid (heap_new_eq (w := W.alloc (.cells #[.int .i64 s.1, .int .i64 ((s.2 : Int) + 1)] 68)) (o := .cells #[.int .i64 x.1, .int .i64 ((x.2 : Int) + 1)] 68) (b := W.heap.size + 1) (by simp))
 have hR2 := Lib.hid (hrow.ext hX.out)
 have HUP : Hid (dnS t c x = c.set x.1 (x.2 : Int)) := Lib.hid rfl
 obtain ⟨s1, s2⟩ := s
 obtain ⟨x1, x2⟩ := x
 simp only at *
 have hz1 : (0 : Int) ≤ ((x1 : Nat) : Int) := by omega
 have hz2 : ((x1 : Nat) : Int) < (n : Int) := by omega
 have hcell := hR2.out.cell x1 (by omega)
 have hfree := hR2.out.free (O + x1)
 obtain ⟨old, hold⟩ : ∃ u, (c.map (Value.int .i64))[x1]? = some u := ⟨_, List.getElem?_eq_getElem (by rw [List.length_map, hr.1, ← hn]; exact hp)⟩
 rw [hold] at hcell
 have hb2 : x2 ≤ 1000000 := by have h1 := hr.inn hin; have h2 := (hsm.2 _ h1.1).2.1; have h3 := h1.2; simp only at h2 h3; omega
 clear hn hm hs hr hrow hin hk hs' hlt hsi hsm
 go_enter Try.func56, Try.ntmps56
 generalize hw2 : (W.alloc (.cells #[.int .i64 s1, .int .i64 ((s2 : Int) + 1)] 68)).alloc (.cells #[.int .i64 x1, .int .i64 ((x2 : Int) + 1)] 68) = w2 at *
 have q0 := cellOf hX0.out 0
 have q1 := cellOf hX0.out 1
 simp only [List.getElem?_toArray, List.getElem?_cons_zero, List.getElem?_cons_succ] at q0 q1
 go_wp2
 go_end0
 refine ⟨rfl, ?_, fun w0 h0 hG => (h0.trans' hX.out).st hG _⟩
 have := hR2.out.set x1 (.int .i64 ((x2 : Int))) (by omega)
 rw [← List.map_set] at this
 rw [HUP.out]
 first
  | exact this
  | (simpa using this)
set_option maxHeartbeats 8000000 in
set_option maxRecDepth 100000 in
theorem repairedP_calls (g : Nat) (eg : ∀ args w, (callFunc g args).run Try.prog w = .ok (.enter g args) w) (t : Tr) (F : List Int → Eid → List Int) (hF : validT t = true → FnS g t F)
  (hfix : ∀ c, RangeC t c → ∃ n, FixN t F n c (fixC t F c)) (hrange : ∀ c x, RangeC t c → missE t c = some x → RangeC t (F c x))
  (v vc : Value) (c : List Int) (w : World) (h : TrAt w v t) (hs : LooseTr t) (hc : Ints w vc c) (hcn : c.length ≤ 1000000) :
  Calls Try.prog 55 #[.agg #[v], vc, .func (.func g) #[] #[]] w fun e w' => IntsRes w w' e (repE t c) (if repE t c = 0 then fixC t F c else []) := by
 have HF := Lib.hid hF
 have HFX := Lib.hid hfix
 have HRA := Lib.hid hrange
 have HCC := Lib.hid hc
 have HMI := Lib.hid (fun W (hW : Ext w W) u d (hd : Ints W u d) (hv : validT t = true) (hr : RangeC t d) => missingP_calls v u t d W (h.ext hW) (valid_small hv) hv hd hr)
 have HRG := Lib.hid (fun (hv : validT t = true) W (hW : Ext w W) (hf : c.length = t.length) => inRangeP_calls v vc t c W (h.ext hW) (valid_small hv) (hc.ext hW) hf)
 have HCLN := Lib.hid (fun W (hW : Ext w W) => clone_cints vc c.length (c.map (Value.int .i64)) W (hc.ext hW).cells (by simp [Value.oneCell']) hcn)
 obtain ⟨ta, tc, rfl, htc⟩ := h.sh
 obtain ⟨ca, cc, rfl, hlc, _⟩ := hc
 have HX2 : Hid (Ext w ((w.alloc (.cells #[.slice ta t.length tc] 24)).alloc (.cells #[.slice ca c.length cc] 25))) := Lib.hid (by repeat (first | refine Ext.st ?_ (by first | exact Nat.le_refl _ | exact Nat.le_succ _ | assumption | omega) _ | refine Ext.al ?_ _ | refine Ext.dr ?_ | refine Ext.drN ?_ _ | exact Ext.rf _))
 have HSZ := Lib.hid (sizedP_calls (.slice ta t.length tc) (.slice (some ⟨w.heap.size + 1, 0, none⟩) 1 1) t [c] _ (h.ext HX2.out) hs (rows_one (heap_new_eq (by simp)) (HCC.out.ext HX2.out)) (by simp))
 have HX0 := Lib.hid (((Ext.rf _).al (.cells #[.slice ca c.length cc] 25)).hp (heap_alloc_new w (.cells #[.slice ta t.length tc] 24)))
 obtain ⟨ge, hge⟩ : ∃ E, repE t c = E := ⟨_, rfl⟩
 rw [hge]
 have HGE := Lib.hid hge
 obtain ⟨R, hR⟩ : ∃ R, (if ge = 0 then fixC t F c else []) = R := ⟨_, rfl⟩
 rw [hR]
 have HR0 := Lib.hid hR
 obtain ⟨sb, hsb⟩ : ∃ b, (validT t && [c].all (fitsB t)) = b := ⟨_, rfl⟩
 rw [hsb] at HSZ
 have HSB : Hid ((validT t && fitsB t c) = sb) := Lib.hid (by rw [← hsb]; simp)
 obtain ⟨rb, hrb⟩ : ∃ b, rangeB t c = b := ⟨_, rfl⟩
 rw [hrb] at HRG
 have HRB := Lib.hid hrb
 have htn := hs.1
 generalize hN : t.length = N at *
 generalize hM : c.length = M at *
 have HN := Lib.hid hN
 have HM := Lib.hid hM
 clear h hs hF hfix hrange hge hR hsb hrb hN hM
 go_enter Try.func55, Try.ntmps55
 go_wp2_with fail
 refine HSZ.out.mono ?_
 rintro e w2 ⟨rfl, hX⟩
 have HE2 := Lib.hid (HX2.out.trans' hX)
 have HY0 := Lib.hid (hX.hp HX0.out)
 have t0 := cellOf HY0.out 0
 simp only [List.getElem?_toArray, List.getElem?_cons_zero] at t0
 clear hX
 cases sb with
 | false =>
   have HG1 : Hid (ge = 1) := Lib.hid (by rw [← HGE.out]; unfold repE; rw [HSB.out]; rfl)
   have hR1 := HR0.out
   rw [HG1.out] at hR1
   obtain rfl := hR1
   go_wp2
   go_ret2
   rw [HG1.out]
   exact IntsRes.none HE2.out
 | true =>
 have HVF := Lib.hid (Bool.and_eq_true _ _ ▸ HSB.out : validT t = true ∧ fitsB t c = true)
 have HCL := Lib.hid (show c.length = t.length from of_decide_eq_true HVF.out.2)
 go_wp2_with fail
 clear t0
 refine (HRG.out HVF.out.1 _ HE2.out (by first | (rw [← HN.out, ← HM.out]; exact HCL.out) | (have := HCL.out; rw [HN.out, HM.out] at this; exact this))).mono ?_
 rintro e w3 ⟨rfl, hX⟩
 have HE3 := Lib.hid (HE2.out.trans' hX)
 have HZ0 := Lib.hid (hX.hp HY0.out)
 clear hX
 cases rb with
 | false =>
   have HG1 : Hid (ge = 2) := Lib.hid (by rw [← HGE.out]; unfold repE; rw [HSB.out, HRB.out]; rfl)
   have hR1 := HR0.out
   rw [HG1.out] at hR1
   obtain rfl := hR1
   go_wp2
   go_ret2
   rw [HG1.out]
   exact IntsRes.none HE3.out
 | true =>
 have HG1 : Hid (ge = 0) := Lib.hid (by rw [← HGE.out]; unfold repE; rw [HSB.out, HRB.out]; rfl)
 have HRZ : Hid (R = fixC t F c) := Lib.hid (by rw [← HR0.out, if_pos HG1.out])
 obtain rfl : M = N := by have := HCL.out; rw [HN.out, HM.out] at this; exact this
 have HRC := Lib.hid (show RangeC t c from ⟨HCL.out, HRB.out⟩)
 have HMP : Hid (0 < M) := Lib.hid (by have := ((shapeB_parts2.1 (validT_parts2.1 HVF.out.1).1)).1; rw [HN.out] at this; exact this)
 go_wp2_with fail
 refine (HCLN.out _ HE3.out).mono ?_
 rintro e w4 ⟨v8, rfl, hR8, hX⟩
 have HE4 := Lib.hid (HE3.out.trans' hX)
 have HE4' := Lib.hid hX
 have HU0 := Lib.hid (hX.hp HZ0.out)
 obtain ⟨G, O, cap, rfl, hG, _, _⟩ := hR8.shape HMP.out
 have HR8 := Lib.hid hR8
 have HGG := Lib.hid hG
 obtain ⟨n0, hn0⟩ := HFX.out c HRC.out
 have HFN := Lib.hid hn0
 clear hX hR8 hG hn0
 go_wp2
 go_loopg [] n0 (fun gh wr => ∃ (n : Nat) (d : List Int), n ≤ gh ∧ Aside (FixN t F n d (fixC t F c)) ∧ Aside (RangeC t d) ∧ Aside (Row wr w3.heap.size 3 1 (.slice (some ⟨G, O, none⟩) M cap) M (d.map (Value.int .i64))) ∧ Aside (wr.heap[w.heap.size]? = some (.cells #[.slice ta M tc] 24)) ∧ Aside (Ext w3 wr))
 case atStart => exact ⟨n0, c, Nat.le_refl _, HFN, HRC, HR8, HU0, HE4'⟩
 case round =>
  obtain ⟨n, d, hn, HFD, HRD, HRW, HUT, HEK⟩ := hrel
  have HEW := Lib.hid (HE3.out.trans' HEK.out)
  have t0 := cellOf HUT.out 0
  simp only [List.getElem?_toArray, List.getElem?_cons_zero] at t0
  have HDL := Lib.hid (show d.length = M from by rw [HRD.out.1, HN.out])
  have HDI := Lib.hid (show Ints wr (.slice (some ⟨G, O, none⟩) M cap) d from HRW.out.ints)
  have HCM := Lib.hid (HMI.out wr HEW.out _ d HDI.out HVF.out.1 HRD.out)
  unfold MissOut at HCM
  cases hmm : missE t d with
  | none =>
    have HMS : Hid (misS t d = none) := Lib.hid (by unfold misS; rw [hmm]; rfl)
    rw [hmm, HMS.out] at HCM
    simp only [eidA, eidB, Option.isSome_none] at HCM
    have HD : Hid (R = d) := Lib.hid (by
     rw [HRZ.out]
     cases n with
     | zero => exact HFD.out.2
     | succ n => obtain ⟨x, hx, _⟩ := HFD.out; rw [hmm] at hx; cases hx)
    clear hmm
    go_wp2_with fail
    refine HCM.out.mono ?_
    rintro e w5 ⟨rfl, hX5⟩
    go_wp2
    go_ret2
    rw [HG1.out, HD.out]
    refine ⟨_, rfl, ?_, ((HEW.out.trans' hX5).al _).al _⟩
    rw [HDL.out]
    exact (((HRW.out.ext hX5).al _).al _).mono HE3.out.sz
  | some x =>
    obtain ⟨hin, hk, s, hss, hlt, hsi⟩ := miss_parts hmm
    have HMS : Hid (misS t d = some s) := Lib.hid (by unfold misS; rw [hmm]; exact hss)
    rw [hmm, HMS.out] at HCM
    simp only [eidA, eidB, Option.isSome_some] at HCM
    have HMX := Lib.hid hmm
    have HSS := Lib.hid hss
    have HNX : Hid (∃ n', n = n' + 1 ∧ FixN t F n' (F d x) (fixC t F c)) := Lib.hid (by
     cases n with
     | zero => have := HFD.out.1; rw [hmm] at this; cases this
     | succ n => obtain ⟨y, hy, hz⟩ := HFD.out; rw [hmm] at hy; cases hy; exact ⟨n, rfl, hz⟩)
    have HCF := Lib.hid (fun W (hR : Row W w3.heap.size 3 1 (.slice (some ⟨G, O, none⟩) M cap) M (d.map (Value.int .i64))) => HF.out HVF.out.1 W w3.heap.size G O M cap d x s hmm hss HRD.out HN.out.symm hR)
    obtain ⟨x1, x2⟩ := x
    obtain ⟨s1, s2⟩ := s
    simp only at HCM HCF
    clear hmm hin hk hss hlt hsi
    go_wp2_with fail
    clear t0
    refine HCM.out.mono ?_
    rintro e w5 ⟨rfl, hX5⟩
    have HX6 := Lib.hid ((hX5.al (idO (s1 : Int) ((s2 : Int) + 1))).al (idO (x1 : Int) ((x2 : Int) + 1)))
    have HB0 := Lib.hid (((Ext.rf _).al (idO (x1 : Int) ((x2 : Int) + 1))).hp (heap_alloc_new w5 (idO (s1 : Int) ((s2 : Int) + 1))))
    have HB1 := Lib.hid (heap_new_eq (w := w5.alloc (idO (s1 : Int) ((s2 : Int) + 1))) (o := idO (x1 : Int) ((x2 : Int) + 1)) (b := w5.heap.size + 1) (by simp))
    have HRW6 := Lib.hid (HRW.out.ext HX6.out)
    clear hX5
    go_wp2_with fail
    refine (HCF.out _ HRW6.out).mono ?_
    rintro e w9 ⟨rfl, hR9, hX9⟩
    have HR9 := Lib.hid hR9
    have HX9 := Lib.hid (hX9 w3 (HEK.out.trans' HX6.out) HGG.out)
    clear hR9 hX9
    obtain ⟨n', rfl, hnx⟩ := HNX.out
    have HFN' := Lib.hid hnx
    clear hnx
    go_wp2
    go_roundg n'
    case measure => omega
    case rel => exact ⟨n', F d (x1, x2), Nat.le_refl _, HFN', (show RangeC _ _ from HRA.out d _ HRD.out HMX.out), HR9, HX9.out.hp HZ0.out, HX9.out⟩
set_option maxHeartbeats 2000000 in
theorem openP_calls (v vc : Value) (t : Tr) (c : List Int) (w : World) (h : TrAt w v t) (hs : LooseTr t) (hc : Ints w vc c) (hcn : c.length ≤ 1000000) :
  Calls Try.prog 29 #[.agg #[v], vc] w fun e w' => IntsRes w w' e (repE t c) (if repE t c = 0 then openC t c else []) := by
 have HCB := Lib.hid (fun W (hW : Ext w W) => repairedP_calls 56 enters_56 t (dnS t) (fun hv => open1_calls t (valid_small hv)) (fun d hd => openC_fix hd) (fun d x hd hx => dnS_range hd hx) v vc c W (h.ext hW) hs (hc.ext hW) hcn)
 obtain ⟨ta, tc, rfl, htc⟩ := h.sh
 obtain ⟨ca, cc, rfl, hlc, _⟩ := hc
 have HE1 := Lib.hid ((Ext.rf w).al (.cells #[.slice ta t.length tc] 24))
 show Calls _ _ _ _ fun e w' => IntsRes w w' e (repE t c) (if repE t c = 0 then fixC t (dnS t) c else [])
 generalize (if repE t c = 0 then fixC t (dnS t) c else []) = R at *
 generalize repE t c = ge at *
 generalize t.length = N at *
 generalize c.length = n at *
 clear h hs
 go_enter Try.func29, Try.ntmps29
 go_wp2_with fail
 refine (HCB.out _ HE1.out).mono ?_
 rintro e w2 ⟨u, rfl, hR, hX⟩
 have HR := Lib.hid (hR.mono HE1.out.sz)
 obtain ⟨ra, rc, rfl, _⟩ := hR.any
 generalize hrl : R.length = rl at *
 have HRL := Lib.hid hrl
 have HX := Lib.hid (HE1.out.trans' hX)
 clear hR hX hrl
 go_wp2
 go_ret2
 exact ⟨_, rfl, by rw [HRL.out]; exact HR.out, HX.out⟩
end Go.Proofs.Ytfagfooggcinoaa
namespace Go.Proofs.Ytfagfooggcinoaa
open Go.RowKit
set_option linter.unusedVariables false
theorem givenE_ps {t : Tr} {c : List Int} {ps : List Int} (h : givenE t [c] ps = 0) : validT t = true ∧ ConsC t c ∧ ∀ p, p ∈ ps → 0 ≤ p ∧ p < (t.length : Int) := by
 unfold givenE at h
 simp only [List.all_cons, List.all_nil, Bool.and_true] at h
 split at h
 ·rename_i h1
  split at h
  ·rename_i h2
   split at h
   ·rename_i h3
    split at h
    ·rename_i h4
     simp only [Bool.and_eq_true] at h1
     refine ⟨h1.1, ⟨⟨of_decide_eq_true h1.2, h2⟩, Option.isNone_iff_eq_none.1 h4⟩, fun p hp => ?_⟩
     have := List.all_eq_true.1 h3 p hp
     simpa using this
    ·simp at h
   ·simp at h
  ·simp at h
 ·simp at h
end Go.Proofs.Ytfagfooggcinoaa
namespace Go.Proofs.Ytfagfooggcinoaa
open Go.RowKit
set_option linter.unusedVariables false
attribute [local go_sem ↓] Go.wp_at_zero Go.wp_at_succ
def uwB (t : Tr) (c : List Int) (q : Int) (x : Eid) : Bool :=
 decide ((ev t x).kind = 2) && (decide ((ev t x).peer = q) && (match findE t 3 (ev t x).msg with | none => true | some r => decide (c[r.1]! < (r.2 : Int) + 1)))
def uwTo (t : Tr) (c : List Int) (q : Int) (p i : Nat) : List Int := ((List.range i).filter fun (j : Nat) => uwB t c q (p, j)).map fun (j : Nat) => (ev t (p, j)).msg
def underC (t : Tr) (c : List Int) (p : Nat) (q : Int) : List Int := uwTo t c q p c[p]!.toNat
theorem uwTo_yes {t : Tr} {c : List Int} {q : Int} {p i : Nat} (h : uwB t c q (p, i) = true) : uwTo t c q p (i + 1) = uwTo t c q p i ++ [(ev t (p, i)).msg] := by
 unfold uwTo; rw [List.range_succ, List.filter_append, List.filter_cons_of_pos (p := fun (j : Nat) => uwB t c q (p, j)) (a := i) h, List.map_append]; rfl
theorem uwTo_no {t : Tr} {c : List Int} {q : Int} {p i : Nat} (h : uwB t c q (p, i) = false) : uwTo t c q p (i + 1) = uwTo t c q p i := by
 unfold uwTo; rw [List.range_succ, List.filter_append, List.filter_cons_of_neg (p := fun (j : Nat) => uwB t c q (p, j)) (a := i) (by rw [h]; decide)]; simp
theorem uwTo_len (t : Tr) (c : List Int) (q : Int) (p i : Nat) : (uwTo t c q p i).length ≤ i := by
 unfold uwTo; rw [List.length_map]; exact Nat.le_trans (List.length_filter_le _ _) (by simp)
theorem uwB_kind {t : Tr} {c : List Int} {q : Int} {x : Eid} (h : (ev t x).kind ≠ 2) : uwB t c q x = false := by simp [uwB, h]
theorem uwB_peer {t : Tr} {c : List Int} {q : Int} {x : Eid} (h : (ev t x).peer ≠ q) : uwB t c q x = false := by simp [uwB, h]
theorem uwB_none {t : Tr} {c : List Int} {q : Int} {x : Eid} (h1 : (ev t x).kind = 2) (h2 : (ev t x).peer = q) (h3 : findE t 3 (ev t x).msg = none) : uwB t c q x = true := by simp [uwB, h1, h2, h3]
theorem uwB_some {t : Tr} {c : List Int} {q : Int} {x r : Eid} (h1 : (ev t x).kind = 2) (h2 : (ev t x).peer = q) (h3 : findE t 3 (ev t x).msg = some r) : uwB t c q x = decide (c[r.1]! < (r.2 : Int) + 1) := by simp [uwB, h1, h2, h3]
set_option maxHeartbeats 8000000 in
set_option maxRecDepth 100000 in
theorem underWayP_calls (v vc : Value) (t : Tr) (c : List Int) (p q : Int) (w : World) (h : TrAt w v t) (hs : LooseTr t) (hc : Ints w vc c) :
  Calls Try.prog 32 #[.agg #[v], vc, .int .i64 p, .int .i64 q] w fun e w' => IntsRes w w' e (givenE t [c] [p, q]) (if givenE t [c] [p, q] = 0 then underC t c p.toNat q else []) := by
 have HCC := Lib.hid hc
 have HT := Lib.hid h
 have HS := Lib.hid hs
 obtain ⟨ii, hii, iz0, iz1, iz2⟩ := info_parts info_int3
 have HRE0 : Hid (validT t = true → ∀ W, Ext w W → ∀ m, Calls Try.prog 58 #[.agg #[v], .int .i64 m] W fun e w' => FndOut t 3 m W w' e) := Lib.hid (fun hv W hW m => receiverP_calls v t m W (h.ext hW) (valid_small hv))
 obtain ⟨ta, tc, rfl, htc⟩ := h.sh
 obtain ⟨ca, cc, rfl, hlc, _⟩ := hc
 have HX2 : Hid (Ext w (((w.alloc (.cells #[.slice ta t.length tc] 24)).alloc (.cells #[.slice ca c.length cc] 25)).alloc (.cells #[.int .i64 p, .int .i64 q] 3))) := Lib.hid (by repeat (first | refine Ext.st ?_ (by first | exact Nat.le_refl _ | exact Nat.le_succ _ | assumption | omega) _ | refine Ext.al ?_ _ | refine Ext.dr ?_ | refine Ext.drN ?_ _ | exact Ext.rf _))
 have HBX := Lib.hid (fun i o => allocs_at [.cells #[.slice ta t.length tc] 24, .cells #[.slice ca c.length cc] 25, .cells #[.int .i64 p, .int .i64 q] 3] w i o)
 have HG := Lib.hid (givenP_calls (.slice ta t.length tc) (.slice (some ⟨w.heap.size + 1, 0, none⟩) 1 1) (.slice (some ⟨w.heap.size + 1 + 1, 0, none⟩) 2 2) t [c] [p, q] _ (h.ext HX2.out) hs (rows_one (HBX.out 1 _ rfl) (HCC.out.ext HX2.out)) (by simp) (ints_laid [p, q] (HBX.out 2 _ rfl)) (by simp))
 obtain ⟨ge, hge⟩ : ∃ E, givenE t [c] [p, q] = E := ⟨_, rfl⟩
 rw [hge] at HG ⊢
 have HOK : Hid (ge = 0 → validT t = true ∧ ConsC t c ∧ 0 ≤ p ∧ p < (t.length : Int)) := Lib.hid (fun h0 => by obtain ⟨h1, h2, h3⟩ := givenE_ps (hge.trans h0); exact ⟨h1, h2, h3 p (by simp)⟩)
 obtain ⟨R, hR⟩ : ∃ R, (if ge = 0 then underC t c p.toNat q else []) = R := ⟨_, rfl⟩
 rw [hR]
 have HR0 := Lib.hid hR
 have HX0 : Hid ((((w.alloc (.cells #[.slice ta t.length tc] 24)).alloc (.cells #[.slice ca c.length cc] 25)).alloc (.cells #[.int .i64 p, .int .i64 q] 3)).heap[w.heap.size]? = some (.cells #[.slice ta t.length tc] 24)) := Lib.hid (HBX.out 0 _ rfl)
 have hsm := hs.1
 generalize hN : t.length = N at *
 generalize hM : c.length = M at *
 have HN := Lib.hid hN
 have HM := Lib.hid hM
 clear h hs hge hR hN hM HBX
 go_enter Try.func32, Try.ntmps32
 go_wp2_with fail
 refine HG.out.mono ?_
 rintro e w2 ⟨rfl, hX⟩
 have HE2 := Lib.hid (HX2.out.trans' hX)
 have HY0 := Lib.hid (hX.hp HX0.out)
 clear hX
 by_cases h0 : ge = 0
 case neg =>
  have c9 : (ge != 0) = true := by simp [h0]
  obtain rfl := HR0.out.symm.trans (if_neg h0)
  clear h0
  go_wp2
  go_ret2
  exact IntsRes.none HE2.out
 subst h0
 have HRZ := Lib.hid (HR0.out.symm.trans (if_pos rfl))
 have HVC := Lib.hid (HOK.out rfl)
 have HRE := Lib.hid (HRE0.out HVC.out.1)
 have HFV : Hid (∀ m, fndO t 3 m = findE t 3 m) := Lib.hid (fun m => by unfold fndO; rw [if_pos HVC.out.1])
 obtain rfl : M = N := by have := HVC.out.2.1.1.1; rw [HN.out, HM.out] at this; exact this
 have hp0 := HVC.out.2.2.1
 have hpM := HVC.out.2.2.2
 obtain ⟨P, rfl⟩ : ∃ P : Nat, p = (P : Int) := ⟨p.toNat, by omega⟩
 rw [Int.toNat_natCast] at HRZ
 have hqM : P < M := by omega
 have HPL := Lib.hid (show P < t.length from by rw [HN.out]; exact hqM)
 obtain ⟨B, O, C, vv, ve, hve, hlC, hB, hn0, hv0, he0, hV, hE0⟩ := proc_at HT.out P HPL.out
 simp only [Value.slice.injEq] at hve
 obtain ⟨rfl, hzz, rfl⟩ := hve
 have HEV := Lib.hid hE0
 obtain ⟨ea, ec, rfl, hec⟩ := hE0.sh
 obtain ⟨cb, co, rfl, hcb, hcp⟩ := ints_at HCC.out P (by rw [HM.out]; exact hqM)
 have he1 := HE2.out.cl he0
 have hc1 := HE2.out.cl hcp
 have hen := ((valid_small HVC.out.1).2 P HPL.out).2.1
 have hkr := HVC.out.2.1.1.at HPL.out
 have t0 := cellOf HY0.out 0
 simp only [List.getElem?_toArray, List.getElem?_cons_zero] at t0
 generalize hne : t[P]!.events.length = ne at *
 have HNE := Lib.hid hne
 obtain ⟨k, hk⟩ : ∃ k : Nat, c[P]! = (k : Int) := ⟨c[P]!.toNat, by omega⟩
 rw [hk] at hc1 hkr
 have HK := Lib.hid hk
 have hkz : (0 : Int) ≤ (k : Int) := by omega
 have hkc : (k : Int) ≤ (ec : Int) := by omega
 have hkm : k ≤ 1000000 := by omega
 have HKN := Lib.hid (show k ≤ ne from by omega)
 clear hn0 hv0 hV hE0 hzz hne he0 hk hcp hkr
 go_wp2
 go_quiet (fail)
 have HE3 := Lib.hid (HE2.out.drN nq)
 have HE23 := Lib.hid ((Ext.rf w2).drN nq)
 have HZ0 := Lib.hid (HE23.out.hp HY0.out)
 generalize w2.drewN nq = w3 at *
 clear t0 he1 hc1
 go_wp2
 go_loopg [11, 38] k (fun g s11 s38 wr => ∃ i : Nat, i ≤ k ∧ k - i ≤ g ∧ s38 = .int .i64 i ∧ Aside (Row wr w2.heap.size 3 1 s11 (uwTo t c q P i).length ((uwTo t c q P i).map (Value.int .i64))) ∧ Aside (Ext w2 wr))
 case atStart => exact ⟨0, Nat.zero_le _, by omega, rfl, (show Row _ _ _ _ _ _ _ from Row.mkNil _ _ _ _), HE23⟩
 case round =>
  obtain ⟨i, hi, hg, rfl, HR, HEK⟩ := hrel
  have HEW := Lib.hid (HE2.out.trans' HEK.out)
  by_cases hli : i < k
  ·have hliz : (i : Int) < (k : Int) := by omega
   have hiz : (0 : Int) ≤ (i : Int) := by omega
   obtain ⟨EB, EO, EC, va, hee, hlE, hEB, k0, k1, k2, k3, k4, ha⟩ := event_at HEV.out i (by rw [HNE.out]; have := HKN.out; omega)
   simp only [Value.slice.injEq] at hee
   obtain ⟨rfl, hzz, rfl⟩ := hee
   obtain ⟨va1, va2, rfl, _⟩ := ha.sh
   have m0 := HEW.out.cl k0
   have m1 := HEW.out.cl k1
   have m2 := HEW.out.cl k2
   have m3 := HEW.out.cl k3
   have m4 := HEW.out.cl k4
   have HEVE : Hid (ev t (P, i) = t[P]!.events[i]!) := Lib.hid rfl
   generalize t[P]!.events[i]! = y at *
   generalize y.asg.length = nb at *
   have hel := uwTo_len t c q P i
   have hsz := HEK.out.sz
   clear k0 k1 k2 k3 k4 hzz ha
   have HB6 := Lib.hid (heap_alloc_new wr (e5 (.int .i64 y.kind) (.int .i64 y.peer) (.int .i64 y.msg) (.int .i64 y.time) (.slice va1 nb va2)))
   have HXT := Lib.hid ((Ext.rf wr).al (e5 (.int .i64 y.kind) (.int .i64 y.peer) (.int .i64 y.msg) (.int .i64 y.time) (.slice va1 nb va2)))
   have HT6 := Lib.hid (HXT.out.hp (HEK.out.hp HY0.out))
   obtain ⟨ck, hck⟩ : ∃ b, (y.kind != 2) = b := ⟨_, rfl⟩
   obtain ⟨cp, hcp⟩ : ∃ b, (y.peer != q) = b := ⟨_, rfl⟩
   have HCK := Lib.hid hck
   have HCP := Lib.hid hcp
   cases ck with
   | true =>
     have HUB : Hid (uwB t c q (P, i) = false) := Lib.hid (uwB_kind (by rw [HEVE.out]; have := HCK.out; simpa using this))
     go_wp2
     go_roundg (k - (i + 1))
     case measure => omega
     case rel => exact ⟨i + 1, by omega, by omega, by go_num, (show Row _ _ _ _ _ _ _ from by rw [uwTo_no HUB.out]; exact HR.out.ext HXT.out), HEK.out.trans' HXT.out⟩
   | false =>
     cases cp with
     | true =>
       have HUB : Hid (uwB t c q (P, i) = false) := Lib.hid (uwB_peer (by rw [HEVE.out]; have := HCP.out; simpa using this))
       go_wp2
       go_roundg (k - (i + 1))
       case measure => omega
       case rel => exact ⟨i + 1, by omega, by omega, by go_num, (show Row _ _ _ _ _ _ _ from by rw [uwTo_no HUB.out]; exact HR.out.ext HXT.out), HEK.out.trans' HXT.out⟩
     | false =>
       have HU2 : Hid ((ev t (P, i)).kind = 2 ∧ (ev t (P, i)).peer = q) := Lib.hid (by rw [HEVE.out]; exact ⟨by have := HCK.out; simpa using this, by have := HCP.out; simpa using this⟩)
       have HFW := Lib.hid (HRE.out _ (HEW.out.trans' HXT.out) y.msg)
       unfold FndOut at HFW
       rw [HFV.out] at HFW
       have t6 := cellOf (HEK.out.hp HY0.out) 0
       simp only [List.getElem?_toArray, List.getElem?_cons_zero] at t6
       have l1 : w.heap.size < wr.heap.size := World.block_lt_of_cell? wr _ t6
       have l2 : w.heap.size ≠ wr.heap.size := by omega
       obtain ⟨fe, hfe⟩ : ∃ f, findE t 3 y.msg = f := ⟨_, rfl⟩
       rw [hfe] at HFW
       have HFE := Lib.hid hfe
       clear hfe
       cases fe with
       | none =>
         have HUB : Hid (uwB t c q (P, i) = true) := Lib.hid (uwB_none HU2.out.1 HU2.out.2 (by rw [HEVE.out]; exact HFE.out))
         simp only [eidA, eidB, Option.isSome_none] at HFW
         go_wp2_with fail
         clear t6 l1 l2 m0 m1 m2 m3 m4
         refine HFW.out.mono ?_
         rintro e w7 ⟨rfl, hE7⟩
         have HX8 := Lib.hid ((HXT.out.trans' hE7).al (idO 0 0))
         have HB8 := Lib.hid (((Ext.rf w7).al (idO 0 0)).hp (hE7.hp HB6.out))
         have HR8 := Lib.hid (HR.out.ext HX8.out)
         have HEK8 := Lib.hid (HEK.out.trans' HX8.out)
         clear hE7 HXT
         go_wp2
         go_quiet (fail)
         have HBA := Lib.hid (((Ext.rf _).drN nq).hp HB8.out)
         have HRA := Lib.hid (HR8.out.ext ((Ext.rf _).drN nq))
         have HEA := Lib.hid (HEK8.out.drN nq)
         generalize World.drewN _ nq = wA at *
         have hszA := HEA.out.sz
         have y2 := cellOf HBA.out 2
         simp only [List.getElem?_toArray] at y2
         generalize hell : (uwTo t c q P i).length = ell at *
         have HELL := Lib.hid hell
         clear hell
         go_wp2_with ((at_builtin; go_loud (refine wpList_append_one rfl _ _ 25 rfl w2.heap.size 3 ii (.int .i64 0) 1 8 Try.underlying25 hii iz0 iz1 iz2 rfl (by decide) _ ell _ rfl (HRA.out.al _) wA.heap.size 1 [.int .i64 y.msg] rfl rfl ⟨_, heap_alloc_new _ _⟩ (by simp [Value.oneCell']) (by unfold maxLen; omega) (by omega) (by simp; omega) ?_; intro v8 w8 hown8 hgrow8 hblk8; have HOWN := Lib.hid hown8; have HX9 := Lib.hid ((HEA.out.al _).gr hgrow8 (fun z hz => (HRA.out.lt z hz).1)); clear hown8 hgrow8 hblk8)))
         go_roundg (k - (i + 1))
         case measure => omega
         case rel =>
          refine ⟨i + 1, by omega, by omega, by go_num, (show Row _ _ _ _ _ _ _ from ?_), (show Ext _ _ from HX9.out)⟩
          rw [uwTo_yes HUB.out, List.length_append, List.map_append, HELL.out, HEVE.out]
          exact HOWN.out
       | some r =>
         simp only [eidA, eidB, Option.isSome_some] at HFW
         go_wp2_with fail
         clear t6 l1 l2 m0 m1 m2 m3 m4
         refine HFW.out.mono ?_
         rintro e w7 ⟨rfl, hE7⟩
         have HX8 := Lib.hid ((HXT.out.trans' hE7).al (idO (r.1 : Int) ((r.2 : Int) + 1)))
         have HB8 := Lib.hid (((Ext.rf w7).al (idO (r.1 : Int) ((r.2 : Int) + 1))).hp (hE7.hp HB6.out))
         have HI8 := Lib.hid (heap_alloc_new w7 (idO (r.1 : Int) ((r.2 : Int) + 1)))
         have HR8 := Lib.hid (HR.out.ext HX8.out)
         have HEK8 := Lib.hid (HEK.out.trans' HX8.out)
         have HRN := Lib.hid (findE_some HFE.out).1
         have HUS := Lib.hid (uwB_some (c := c) HU2.out.1 HU2.out.2 (by rw [HEVE.out]; exact HFE.out))
         clear hE7 HXT
         obtain ⟨r1, r2⟩ := r
         simp only at *
         have hr1 : r1 < M := by have := HRN.out.1; rw [HN.out] at this; exact this
         obtain ⟨cb', co', hcc, _, hcs⟩ := ints_at HCC.out r1 (by rw [HM.out]; exact hr1)
         simp only [Option.some.injEq, Addr.mk.injEq, and_true] at hcc
         obtain ⟨rfl, rfl⟩ := hcc
         have dsp := (HE2.out.trans' HEK8.out).cl hcs
         have s0 := cellOf HI8.out 0
         have s1c := cellOf HI8.out 1
         simp only [List.getElem?_toArray, List.getElem?_cons_zero, List.getElem?_cons_succ] at s0 s1c
         have hspz : (0 : Int) ≤ (r1 : Int) := by omega
         have hspi : (r1 : Int) < (M : Int) := by omega
         generalize hdg : c[r1]! = dg at *
         clear hdg hcs
         go_wp2
         by_cases hcmp : dg < (r2 : Int) + 1
         ·have d1 : decide (dg < (r2 : Int) + 1) = true := decide_eq_true hcmp
          have HUB : Hid (uwB t c q (P, i) = true) := Lib.hid (by rw [HUS.out]; exact d1)
          clear hcmp
          go_quiet (fail)
          clear d1 dsp s0 s1c
          have HBA := Lib.hid (((Ext.rf _).drN nq).hp HB8.out)
          have HRA := Lib.hid (HR8.out.ext ((Ext.rf _).drN nq))
          have HEA := Lib.hid (HEK8.out.drN nq)
          generalize World.drewN _ nq = wA at *
          have hszA := HEA.out.sz
          have y2 := cellOf HBA.out 2
          simp only [List.getElem?_toArray] at y2
          generalize hell : (uwTo t c q P i).length = ell at *
          have HELL := Lib.hid hell
          clear hell
          go_wp2_with ((at_builtin; go_loud (refine wpList_append_one rfl _ _ 25 rfl w2.heap.size 3 ii (.int .i64 0) 1 8 Try.underlying25 hii iz0 iz1 iz2 rfl (by decide) _ ell _ rfl (HRA.out.al _) wA.heap.size 1 [.int .i64 y.msg] rfl rfl ⟨_, heap_alloc_new _ _⟩ (by simp [Value.oneCell']) (by unfold maxLen; omega) (by omega) (by simp; omega) ?_; intro v8 w8 hown8 hgrow8 hblk8; have HOWN := Lib.hid hown8; have HX9 := Lib.hid ((HEA.out.al _).gr hgrow8 (fun z hz => (HRA.out.lt z hz).1)); clear hown8 hgrow8 hblk8)))
          go_roundg (k - (i + 1))
          case measure => omega
          case rel =>
           refine ⟨i + 1, by omega, by omega, by go_num, (show Row _ _ _ _ _ _ _ from ?_), (show Ext _ _ from HX9.out)⟩
           rw [uwTo_yes HUB.out, List.length_append, List.map_append, HELL.out, HEVE.out]
           exact HOWN.out
         ·have d1 : decide (dg < (r2 : Int) + 1) = false := decide_eq_false hcmp
          have HUB : Hid (uwB t c q (P, i) = false) := Lib.hid (by rw [HUS.out]; exact d1)
          clear hcmp
          go_quiet (fail)
          go_wp2
          go_roundg (k - (i + 1))
          case measure => omega
          case rel => exact ⟨i + 1, by omega, by omega, by go_num, (show Row _ _ _ _ _ _ _ from by rw [uwTo_no HUB.out]; exact HR8.out.ext ((Ext.rf _).drN _)), HEK8.out.drN _⟩
  ·have hliz : ¬ (i : Int) < (k : Int) := by omega
   obtain rfl : k = i := by omega
   go_wp2
   go_ret2
   refine ⟨_, rfl, ?_, HEW.out⟩
   rw [HRZ.out]
   unfold underC
   rw [HK.out, Int.toNat_natCast]
   exact HR.out.mono HE2.out.sz
end Go.Proofs.Ytfagfooggcinoaa
namespace Go.Proofs.Ytfagfooggcinoaa
open Go.RowKit
set_option linter.unusedVariables false
noncomputable def layE (t : Tr) (red : List Int) : Int := if validT t = false then 1 else if red.length ≠ t.length then 1 else repE t (redC t red)
noncomputable def layM (t : Tr) (red : List Int) : List Mk := if layE t red = 0 then cutL t.length (openC t (redC t red)) (fun f q => underC t (openC t (redC t red)) f (q : Int)) else []
theorem given_pq {t : Tr} {c : List Int} {p q : Nat} (hv : validT t = true) (hc : ConsC t c) (hp : p < t.length) (hq : q < t.length) : givenE t [c] [(p : Int), (q : Int)] = 0 := by
 unfold givenE
 have h1 : fitsB t c = true := decide_eq_true hc.1.1
 rw [if_pos (by simp [hv, h1]), if_pos (by simp [hc.1.2]), if_pos (by simp; omega), if_pos (by simp [hc.2])]
theorem open_cons {t : Tr} {c : List Int} (h : RangeC t c) : ConsC t (openC t c) := by
 obtain ⟨n, hn⟩ := openC_fix h
 exact (dn_greatest hn h).1
theorem enters_32 : ∀ args w, (callFunc 32 args).run Try.prog w = .ok (.enter 32 args) w := enters_of Try.func32 (by kernel_rfl) rfl
set_option maxHeartbeats 8000000 in
set_option maxRecDepth 100000 in
theorem lai_calls (v rv : Value) (t : Tr) (red : List Int) (w : World) (h : TrAt w v t) (hs : LooseTr t) (hr : Ints w rv red) (hrl : red.length ≤ 1000000) :
  Calls Try.prog 7 #[.agg #[v], rv] w fun e w' => ∃ v', e = .returned (.tuple #[v', .int .i64 (layE t red)]) ∧ Ext w w' ∧ Sl RMk 3 w' v' (layM t red) := by
 have HV := Lib.hid (fun W (hW : Ext w W) => validP_calls v t W (h.ext hW) hs)
 have HT := Lib.hid h
 have HRV := Lib.hid hr
 have HLS := Lib.hid hs
 have HCLN := Lib.hid (fun W (hW : Ext w W) => clone_cints rv red.length (red.map (Value.int .i64)) W (hr.ext hW).cells (by simp [Value.oneCell']) hrl)
 obtain ⟨ta, tc, rfl, htc⟩ := h.sh
 obtain ⟨ra, rc, rfl, hzr1, hzr2⟩ := id hr
 clear hzr1 hzr2
 have HX1 := Lib.hid ((Ext.rf w).al (.cells #[.slice ta t.length tc] 24))
 have HB1 := Lib.hid (heap_alloc_new w (.cells #[.slice ta t.length tc] 24))
 have t0 := cellOf HB1.out 0
 simp only [List.getElem?_toArray, List.getElem?_cons_zero] at t0
 cases hv : validT t with
 | false =>
   rw [hv] at HV
   have HA : Hid (layE t red = 1) := Lib.hid (by unfold layE; rw [if_pos hv])
   have HL : Hid (layM t red = []) := Lib.hid (by unfold layM; rw [HA.out]; rfl)
   clear h hs hv htc hr hrl
   generalize layE t red = er at *
   generalize t.length = N at *
   generalize red.length = R at *
   go_enter Try.func7, Try.ntmps7
   go_wp2_with fail
   refine (HV.out _ HX1.out).mono ?_
   rintro e w2 ⟨rfl, hX2⟩
   have HXF := Lib.hid (HX1.out.trans' hX2)
   go_wp2
   go_ret2
   exact ⟨_, by rw [HA.out]; rfl, HXF.out, by rw [HL.out]; exact slNil⟩
 | true =>
   rw [hv] at HV
   have hN8 := valid_8 hv
   by_cases hne : red.length = t.length
   case neg =>
    have HA : Hid (layE t red = 1) := Lib.hid (by unfold layE; rw [if_neg (by rw [hv]; simp), if_pos hne])
    have HL : Hid (layM t red = []) := Lib.hid (by unfold layM; rw [HA.out]; rfl)
    clear h hs hv htc hr hrl
    generalize layE t red = er at *
    generalize t.length = N at *
    generalize red.length = R at *
    have hq : ((R : Int) != (N : Int)) = true := by rw [bne_iff_ne]; omega
    clear hne
    go_enter Try.func7, Try.ntmps7
    go_wp2_with fail
    refine (HV.out _ HX1.out).mono ?_
    rintro e w2 ⟨rfl, hX2⟩
    have t2 := hX2.cl t0
    have HXF := Lib.hid (HX1.out.trans' hX2)
    clear t0
    go_wp2
    go_ret2
    exact ⟨_, by rw [HA.out]; rfl, HXF.out, by rw [HL.out]; exact slNil⟩
   case pos =>
    have HAE : Hid (layE t red = repE t (redC t red)) := Lib.hid (by unfold layE; rw [if_neg (by rw [hv]; simp), if_neg (fun h => h hne)])
    have HLE : Hid (layM t red = if layE t red = 0 then cutL t.length (openC t (redC t red)) (fun f q => underC t (openC t (redC t red)) f (q : Int)) else []) := Lib.hid rfl
    have HVT := Lib.hid hv
    have HNE : Hid (t.length = t.length) := Lib.hid rfl
    rw [hne] at HCLN hrl ⊢
    generalize layE t red = er at *
    generalize layM t red = em at *
    generalize hN : t.length = N at *
    have HNT := Lib.hid hN
    have HNR := Lib.hid hne
    clear h hs hv htc hr hN hne
    go_enter Try.func7, Try.ntmps7
    go_wp2_with fail
    refine (HV.out _ HX1.out).mono ?_
    rintro e w2 ⟨rfl, hX2⟩
    have t2 := hX2.cl t0
    have HX2 := Lib.hid (HX1.out.trans' hX2)
    clear t0 hX2
    go_wp2_with fail
    refine (HCLN.out _ HX2.out).mono ?_
    rintro e w3 ⟨v3, rfl, hR3, hX3⟩
    have HT2 := Lib.hid t2
    have HE3 := Lib.hid hX3
    obtain ⟨G, O, cap, rfl, hG, hGw, hcap⟩ := hR3.shape (by omega)
    have HR3 := Lib.hid (show Row w3 w2.heap.size 3 1 (.slice (some ⟨G, O, none⟩) N cap) N ((redK t red 0).map (Value.int .i64)) from by rw [redK_zero]; exact hR3)
    have HGG := Lib.hid hG
    clear t2 hX3 hR3 hG
    go_wp2
    go_loopg [7, 8, 28] N (fun g s7 s8 s28 wr => ∃ k : Nat, k ≤ N ∧ N - k ≤ g ∧ s28 = .int .i64 k ∧ Aside (Row wr w2.heap.size 3 1 (.slice (some ⟨G, O, none⟩) N cap) N ((redK t red k).map (Value.int .i64))) ∧ Aside (Ext w2 wr))
    case atStart => exact ⟨0, Nat.zero_le _, by omega, rfl, (show Row _ _ _ _ _ _ _ from HR3.out), (show Ext _ _ from HE3.out)⟩
    case round =>
     obtain ⟨k, hk, hgk, rfl, HRK, HEK⟩ := hrel
     clear HR3 HE3
     by_cases hlt : k < N
     case pos =>
      have hkz : (k : Int) < (N : Int) := by omega
      have hkz0 : (0 : Int) ≤ (k : Int) := by omega
      have hkt : k < t.length := by have := HNT.out; omega
      obtain ⟨rb, ro, hra, _, hrc⟩ := ints_at HRV.out k (by rw [HNR.out]; exact hlt)
      subst hra
      have HEW := Lib.hid (HX2.out.trans' HEK.out)
      have r0 := HEW.out.cl hrc
      have HKY := Lib.hid (fun h => redK_yes (t := t) (red := red) (k := k) (by rw [HNR.out]; exact hlt) h)
      have HKN := Lib.hid (fun h => redK_no (t := t) (red := red) (k := k) h)
      obtain ⟨x, hx⟩ : ∃ x, red[k]! = x := ⟨_, rfl⟩
      rw [hx] at r0 HKY HKN
      clear hrc hx
      by_cases hx1 : x = -1
      case neg =>
       have hq : (x == -1) = false := by rw [beq_eq_false_iff_ne]; exact hx1
       have HN := Lib.hid (HKN.out hx1)
       clear hx1
       go_wp2
       go_roundg (N - (k + 1))
       case measure => omega
       case rel => exact ⟨k + 1, by omega, by omega, by go_num, (show Row _ _ _ _ _ _ _ from by rw [HN.out]; exact HRK.out), (show Ext _ _ from HEK.out)⟩
      case pos =>
       subst hx1
       have HN := Lib.hid (HKY.out rfl)
       obtain ⟨tB, tO, tC, vv, ve, hve, hlC, htB, hn0, hv0, he0, hV, hE0⟩ := proc_at HT.out k hkt
       simp only [Value.slice.injEq] at hve
       obtain ⟨rfl, hzz1, rfl⟩ := hve
       obtain ⟨ea, ec, rfl, hec⟩ := hE0.sh
       have e0 := HEW.out.cl he0
       have t2 := HEK.out.cl HT2.out
       have hfr := HRK.out.free (O + k)
       obtain ⟨old, hold⟩ : ∃ u, ((redK t red k).map (Value.int .i64))[k]? = some u := ⟨_, List.getElem?_eq_getElem (by rw [List.length_map, redK_len, HNR.out]; exact hlt)⟩
       have g0 := HRK.out.cell k (by omega)
       rw [hold] at g0
       have HS := Lib.hid (HRK.out.set k (.int .i64 (t[k]!.events.length : Int)) (by omega))
       rw [← List.map_set, HN.out] at HS
       generalize t[k]!.events.length = ne at *
       clear hzz1 hn0 hv0 hV hE0 he0 hold
       go_wp2
       go_roundg (N - (k + 1))
       case measure => omega
       case rel => exact ⟨k + 1, by omega, by omega, by go_num, (show Row _ _ _ _ _ _ _ from HS.out), (show Ext _ _ from HEK.out.st HGG.out _)⟩
     case neg =>
      have hkz : ¬ (k : Int) < (N : Int) := by omega
      obtain rfl : N = k := by omega
      have HRC : Hid (Row wr w2.heap.size 3 1 (.slice (some ⟨G, O, none⟩) N cap) N ((redC t red).map (Value.int .i64))) := Lib.hid (by
       have h := HRK.out
       rwa [show redK t red N = redC t red from by rw [← HNR.out]; exact redK_all t red] at h)
      have HCL : Hid ((redC t red).length = N) := Lib.hid (by rw [redC_len]; exact HNR.out)
      have HEW := Lib.hid (HX2.out.trans' HEK.out)
      have HOP := Lib.hid (openP_calls (.slice ta N tc) (.slice (some ⟨G, O, none⟩) N cap) t (redC t red) wr (HT.out.ext HEW.out) HLS.out HRC.out.ints (by rw [HCL.out]; omega))
      obtain ⟨CR, hCR⟩ : ∃ c, redC t red = c := ⟨_, rfl⟩
      rw [hCR] at HAE HLE HRC HCL HOP
      have t2 := HEK.out.cl HT2.out
      clear hCR HRK
      by_cases hz : repE t CR = 0
      case neg =>
       have HA : Hid (er = repE t CR) := HAE
       have HL : Hid (em = []) := Lib.hid (by rw [HLE.out, HAE.out, if_neg hz])
       rw [if_neg hz] at HOP
       have hq : (repE t CR != 0) = true := by rw [bne_iff_ne]; exact hz
       generalize repE t CR = ge at *
       clear hz
       go_wp2_with fail
       refine HOP.out.mono ?_
       rintro e w4 ⟨v4, rfl, hR4, hX4⟩
       obtain ⟨xa, xc, rfl, _⟩ := hR4.any
       have HXF := Lib.hid (HEW.out.trans' hX4)
       clear hR4 hX4
       go_wp2
       go_ret2
       exact ⟨_, by rw [HA.out]; rfl, HXF.out, by rw [HL.out]; exact slNil⟩
      case pos =>
       have HA : Hid (er = 0) := Lib.hid (HAE.out.trans hz)
       have HL : Hid (em = cutL N (openC t CR) (fun f q => underC t (openC t CR) f (q : Int))) := Lib.hid (by rw [HLE.out, HAE.out, if_pos hz])
       rw [if_pos hz, hz] at HOP
       have HRG : Hid (RangeC t CR) := Lib.hid (by
        unfold repE at hz
        by_cases h1 : (validT t && fitsB t CR) = true
        ·rw [if_pos h1] at hz
         by_cases h2 : rangeB t CR = true
         ·exact ⟨by rw [HCL.out, HNT.out], h2⟩
         ·rw [if_neg h2] at hz; simp at hz
        ·rw [if_neg h1] at hz; simp at hz)
       have HCO := Lib.hid (open_cons HRG.out)
       obtain ⟨C, hC⟩ : ∃ c, openC t CR = c := ⟨_, rfl⟩
       rw [hC] at HL HOP HCO
       have HCN : Hid (C.length = N) := Lib.hid (HCO.out.1.1.trans HNT.out)
       clear hz hC
       go_wp2_with fail
       refine HOP.out.mono ?_
       rintro e w4 ⟨v4, rfl, hR4, hX4⟩
       rw [HCN.out] at hR4
       obtain ⟨G4, O4, cap4, rfl, hG4, hG4w, hcap4⟩ := hR4.shape (by omega)
       have HX4 := Lib.hid (HEW.out.trans' hX4)
       have HR4 := Lib.hid hR4
       have HT4 := Lib.hid (hX4.cl t2)
       have HBG := Lib.hid (begin_calls N w4 (by omega))
       clear hR4 hX4 t2 HOP HRC HEK HEW
       go_wp2_with fail
       refine HBG.out.mono ?_
       rintro e w5 ⟨lv, vc, vh, vr, rfl, hO, hX5⟩
       rw [begL_len] at hO
       obtain ⟨g, o, cp, rfl, hg, hgw, hcp⟩ := hO.shape (by rw [begL_len]; omega)
       rw [begL_len] at hO hcp ⊢
       have HO5 := Lib.hid hO
       have HX5 := Lib.hid hX5
       clear hO hX5 HBG
       have HU : Hid (∀ W, Ext w4 W → ∀ f q : Nat, f < N → q < N → Calls Try.prog 32 #[.agg #[.slice ta N tc], .slice (some ⟨G4, O4, none⟩) N cap4, .int .i64 f, .int .i64 q] W fun e w' => IntsRes W w' e 0 (underC t C f (q : Int))) := Lib.hid (fun W hW f q hf hq => by
        have h := underWayP_calls (.slice ta N tc) (.slice (some ⟨G4, O4, none⟩) N cap4) t C (f : Int) (q : Int) W (HT.out.ext (HX4.out.trans' hW)) HLS.out (HR4.out.ext hW).ints
        rw [given_pq HVT.out HCO.out (by have := HNT.out; omega) (by have := HNT.out; omega), if_pos rfl, Int.toNat_natCast] at h
        exact h)
       have HO0 : Hid (OwnM w5 w4.heap.size (.slice (some ⟨g, o, none⟩) N cp) N N (lyL N C (fun f q => underC t C f (q : Int)) 0 0 false) vc vh vr) := Lib.hid (by rw [lyL_zero]; exact HO5.out)
       obtain ⟨F, hF⟩ : ∃ F : Nat → Nat → List Int, F = fun (f q : Nat) => underC t C f (q : Int) := ⟨_, rfl⟩
       have HF : Hid (∀ f q : Nat, underC t C f (q : Int) = F f q) := Lib.hid (fun f q => by rw [hF])
       rw [← hF] at HL HO0
       clear hF HO5
       have hcpz : (N : Int) ≤ (cp : Int) := by omega
       go_wp2
       go_loopg [11, 12, 60] N (fun gk s11 s12 s60 wr => ∃ (q : Nat) (vr : Nat → Nat → Value), q ≤ N ∧ N - q ≤ gk ∧ s60 = .int .i64 q ∧ Aside (OwnM wr w4.heap.size (.slice (some ⟨g, o, none⟩) N cp) N N (lyL N C F q 0 false) vc vh vr) ∧ Aside (Ext w4 wr))
       case atStart => exact ⟨0, vr, Nat.zero_le _, by omega, rfl, (show OwnM _ _ _ _ _ _ _ _ _ from HO0.out), (show Ext _ _ from HX5.out)⟩
       case round =>
        obtain ⟨q, vr, hq, hgq, rfl, HOQ, HEQ⟩ := hrel
        clear HO0 HX5
        by_cases hqN : q < N
        case neg =>
         have hqz : ¬ (q : Int) < (N : Int) := by omega
         obtain rfl : N = q := by omega
         go_wp2
         go_ret2
         refine ⟨_, by rw [HA.out]; rfl, HX4.out.trans' HEQ.out, ?_⟩
         rw [HL.out, ← lyL_all]
         exact HOQ.out.sl2 lyL_len
        case pos =>
         have hqz : (q : Int) < (N : Int) := by omega
         have hqz0 : (0 : Int) ≤ (q : Int) := by omega
         obtain ⟨G4', O4', hG4', _, hc0⟩ := ints_at (HR4.out.ext HEQ.out).ints q (by rw [HCN.out]; exact hqN)
         simp only [Option.some.injEq, Addr.mk.injEq, and_true] at hG4'
         obtain ⟨rfl, rfl⟩ := hG4'
         have HREC := Lib.hid (record_calls g o cp N w4.heap.size (lyL N C F q 0 false) vc vh vr wr q C[q]! hqN lyL_len HOQ.out)
         have HST := Lib.hid (fun g2 o2 c2 (hv : vc q = .slice (some ⟨g2, o2, none⟩) N c2) => by
          have h := HOQ.out.reco hqN hqN C[q]! hv
          rw [lyL_rec hqN] at h
          exact h)
         have HGB := Lib.hid (HOQ.out.row.lt g rfl).1
         generalize C[q]! = x at *
         go_wp2_with fail
         refine HREC.out.mono ?_
         rintro e w6 ⟨rfl, g2, o2, c2, hv2, hb2, hb3, rfl⟩
         have HV2 := Lib.hid hv2
         have HO6 := Lib.hid (HST.out g2 o2 c2 hv2)
         have HE6 := Lib.hid ((HEQ.out.st (p := ⟨g, o + q * 3, none⟩) hb3 (.int .i64 x)).st (p := ⟨g2, o2 + q, none⟩) hb2 (.bool true))
         generalize (wr.setCell ⟨g, o + q * 3, none⟩ (.int .i64 x)).setCell ⟨g2, o2 + q, none⟩ (.bool true) = w6 at *
         clear hv2 hb2 hb3 HREC HST hc0 HOQ HEQ
         go_wp2
         go_loopg [12, 72] N (fun gk s12 s72 wr => ∃ (f : Nat) (vr : Nat → Nat → Value), f ≤ N ∧ N - f ≤ gk ∧ s72 = .int .i64 f ∧ Aside (OwnM wr w4.heap.size (.slice (some ⟨g, o, none⟩) N cp) N N (lyL N C F q f true) vc vh vr) ∧ Aside (Ext w4 wr))
         case atStart => exact ⟨0, vr, Nat.zero_le _, by omega, rfl, (show OwnM _ _ _ _ _ _ _ _ _ from HO6.out), (show Ext _ _ from HE6.out)⟩
         case round =>
          obtain ⟨f, vr, hf, hgf, rfl, HOF, HEF⟩ := hrel
          clear HO6 HE6
          by_cases hfN : f < N
          case neg =>
           have hfz : ¬ (f : Int) < (N : Int) := by omega
           have HN := Lib.hid (show OwnM _ _ _ _ _ (lyL N C F (q + 1) 0 false) _ _ _ from by
            have h := HOF.out
            rw [show f = N by omega, lyL_next hqN] at h
            exact h)
           go_wp2
           go_roundg (N - (q + 1))
           case measure => omega
           case rel => exact ⟨q + 1, vr, by omega, by omega, by go_num, (show OwnM _ _ _ _ _ _ _ _ _ from HN.out), (show Ext _ _ from HEF.out)⟩
          case pos =>
           have hfz : (f : Int) < (N : Int) := by omega
           have hfz0 : (0 : Int) ≤ (f : Int) := by omega
           obtain ⟨_, k1, _, _⟩ := HOF.out.cellsAt (i := q) (by rw [lyL_len]; exact hqN)
           obtain ⟨g2', o2', c2', hv2', hgb2, hgw2, hnc2, d0, hf2⟩ := HOF.out.boolAt (j := f) hqN hfN
           rw [HV2.out] at hv2'
           simp only [Value.slice.injEq, Option.some.injEq, Addr.mk.injEq, true_and, and_true] at hv2'
           obtain ⟨⟨rfl, rfl⟩, rfl⟩ := hv2'
           rw [HV2.out] at k1
           have hfr := hf2 (o2 + f)
           have HOB := Lib.hid (HOF.out.setB hqN hfN HV2.out)
           have HEB := Lib.hid (HEF.out.st (p := ⟨g2, o2 + f, none⟩) hgb2 (.bool true))
           have hwl : g < wr.heap.size := (HOF.out.row.lt g rfl).2
           generalize (lyL N C F q f true)[q]!.closed[f]! = z0 at *
           clear hf2 hgb2
           go_upto_region 22 with (fail)
           generalize wr.setCell ⟨g2, o2 + f, none⟩ (.bool true) = wS at *
           obtain ⟨_, _, k2, _⟩ := HOB.out.cellsAt (i := q) (by rw [closeK_len, lyL_len]; exact hqN)
           obtain ⟨gh, oh, ch, hvh, hgb, hgw, hnc, e0, _⟩ := HOB.out.hdrAt (j := f) hqN hfN
           rw [hvh] at k2
           have HVH := Lib.hid hvh
           have t4 := HEB.out.cl HT4.out
           have HUW := Lib.hid (HU.out wS.drew HEB.out.dr f q hfN hqN)
           rw [HF.out] at HUW
           generalize vr q f = z1 at *
           clear hvh k1 d0 hfr
           refine wp_region_tail (fun W => W.cell? ⟨g, o + q * 3 + 2, none⟩ = some (.slice (some ⟨gh, oh, none⟩) N ch) ∧ W.cell? ⟨w.heap.size, 0, none⟩ = some (.slice ta N tc)) 15 (by kernel_rfl) ⟨k2, t4⟩ (fun hHeld => ?_)
           refine tkA 0 83 (v := ?_) rfl rfl (by kernel_rfl) (fun _ _ _ h => h) ?_ (by assumption) ?_
           rotate_left
           ·(intro w hSw; (try dsimp only at hSw); go_simp; try (with_reducible rfl))
           try simp only [Act.put]
           try simp only [List.setIfInBounds_toArray]
           try simp only [List.set_cons_zero, List.set_cons_succ]
           refine tkA 1 84 (v := ?_) rfl rfl (by kernel_rfl) (fun _ _ _ h => h) ?_ (by assumption) ?_
           rotate_left
           ·(intro w hSw; (try dsimp only at hSw); go_simp; try (with_reducible rfl))
           try simp only [Act.put]
           try simp only [List.setIfInBounds_toArray]
           try simp only [List.set_cons_zero, List.set_cons_succ]
           refine tkA 2 85 (v := ?_) rfl rfl (by kernel_rfl) (fun _ _ _ h => h) ?_ (by assumption) ?_
           rotate_left
           ·(intro w hSw; (try dsimp only at hSw); go_simp; try (with_reducible rfl))
           try simp only [Act.put]
           try simp only [List.setIfInBounds_toArray]
           try simp only [List.set_cons_zero, List.set_cons_succ]
           refine tkA 3 86 (v := ?_) rfl rfl (by kernel_rfl) (fun _ _ _ h => h) ?_ (by assumption) ?_
           rotate_left
           ·(intro w hSw; (try dsimp only at hSw); go_simp; try (with_reducible rfl))
           try simp only [Act.put]
           try simp only [List.setIfInBounds_toArray]
           try simp only [List.set_cons_zero, List.set_cons_succ]
           refine tkA 4 87 (v := ?_) rfl rfl (by kernel_rfl) (fun _ _ _ h => h) ?_ (by assumption) ?_
           rotate_left
           ·(intro w hSw; (try dsimp only at hSw); go_simp; try (with_reducible rfl))
           try simp only [Act.put]
           try simp only [List.setIfInBounds_toArray]
           try simp only [List.set_cons_zero, List.set_cons_succ]
           refine tkA 5 88 (v := ?_) rfl rfl (by kernel_rfl) (fun _ _ _ h => h) ?_ (by assumption) ?_
           rotate_left
           ·(intro w hSw; (try dsimp only at hSw); go_simp; try (with_reducible rfl))
           try simp only [Act.put]
           try simp only [List.setIfInBounds_toArray]
           try simp only [List.set_cons_zero, List.set_cons_succ]
           refine tkA 6 89 (v := ?_) rfl rfl (by kernel_rfl) (fun _ _ _ h => h) ?_ (by assumption) ?_
           rotate_left
           ·(intro w hSw; (try dsimp only at hSw); go_simp; try (with_reducible rfl))
           try simp only [Act.put]
           try simp only [List.setIfInBounds_toArray]
           try simp only [List.set_cons_zero, List.set_cons_succ]
           refine tkA 7 90 (v := ?_) rfl rfl (by kernel_rfl) (fun _ _ _ h => h) ?_ (by assumption) ?_
           rotate_left
           ·(intro w hSw; (try dsimp only at hSw); go_simp; try (with_reducible rfl))
           try simp only [Act.put]
           try simp only [List.setIfInBounds_toArray]
           try simp only [List.set_cons_zero, List.set_cons_succ]
           refine tkA 8 91 (v := ?_) rfl rfl (by kernel_rfl) (fun _ _ _ h => h) ?_ (by assumption) ?_
           rotate_left
           ·(intro w hSw; (try dsimp only at hSw); go_simp; try (with_reducible rfl))
           try simp only [Act.put]
           try simp only [List.setIfInBounds_toArray]
           try simp only [List.set_cons_zero, List.set_cons_succ]
           refine tkA 9 92 (v := ?_) rfl rfl (by kernel_rfl) (fun _ _ _ h => h) ?_ (by assumption) ?_
           rotate_left
           ·(intro w hSw; (try dsimp only at hSw); go_simp; try (with_reducible rfl))
           try simp only [Act.put]
           try simp only [List.setIfInBounds_toArray]
           try simp only [List.set_cons_zero, List.set_cons_succ]
           refine wpAnyT_step (i := 10) (o := ⟨some 93, _, _, _, _, _⟩) (by kernel_rfl) rfl (fun K hK => ?_)
           refine step_call rfl 32 _ _ rfl enters_32 [.agg #[.slice ta N tc], .slice (some ⟨G4, O4, none⟩) N cap4, .int .i64 f, .int .i64 q] (by first | rfl | kernel_rfl | go_simp) HUW.out ?_
           rintro e y ⟨v7, rfl, hR7, hX7⟩
           obtain ⟨x7, y7, rfl, hz7⟩ := hR7.any
           clear hz7
           refine ⟨_, rfl, ?_⟩
           have HX7 : Hid (Ext wS y) := Lib.hid ((Ext.rf wS).dr.trans' hX7)
           have HNR2 := Lib.hid (HOB.out.newR hqN hfN HVH.out HX7.out hR7 (Nat.le_refl _) HEB.out.sz)
           generalize (F f q).length = L at *
           have HE7 := Lib.hid (HEB.out.trans' HX7.out)
           have hfrz : y.frozen? ⟨gh, oh + f, none⟩ = false := by
            have h := (HOB.out.hdr q hqN).ext HX7.out
            rw [HVH.out] at h
            exact h.free _
           have e7 := HX7.out.cl e0
           have k7 := HX7.out.cl k2
           have t7 := HX7.out.cl t4
           have hn1 : gh ≠ g := by
            have h := HOB.out.hdr q hqN
            rw [HVH.out] at h
            obtain ⟨c1, f1, h1⟩ := row_hp h
            obtain ⟨c2, f2, h2⟩ := row_hp HOB.out.row
            rintro rfl
            rw [h1] at h2
            simp at h2
           have hn2 : gh ≠ w.heap.size := by have := HX4.out.sz; have := World.block_lt_of_cell? _ _ HT4.out; simp only at this; omega
           clear hR7 hX7
           have HRL : Hid (OwnM (y.setCell ⟨gh, oh + f, none⟩ (.slice x7 L y7)) w4.heap.size (.slice (some ⟨g, o, none⟩) N cp) N N (lyL N C F q (f + 1) true) vc vh (put2 vr q f (.slice x7 L y7))) := Lib.hid (by
            have h := HNR2.out
            rw [show (closeK (lyL N C F q f true) q f).set q { (closeK (lyL N C F q f true) q f)[q]! with chan := (closeK (lyL N C F q f true) q f)[q]!.chan.set f (F f q) } = lyL N C F q (f + 1) true from lyL_step hqN hfN] at h
            exact h)
           have HRX := Lib.hid (HE7.out.st (p := ⟨gh, oh + f, none⟩) hgb (.slice x7 L y7))
           clear HNR2
           refine hK.out _ _ ?_ (fun hHeld => ?_)
           ·(try dsimp only)
            exact ⟨k7, t7⟩
           clear hK K
           try simp only [Act.put]
           try simp only [List.setIfInBounds_toArray]
           try simp only [List.set_cons_zero, List.set_cons_succ]
           refine tkA 11 82 (v := ?_) rfl rfl (by kernel_rfl) (fun _ _ _ h => h) ?_ (by assumption) ?_
           rotate_left
           ·(intro w hSw; (try dsimp only at hSw); go_simp; try (with_reducible rfl))
           try simp only [Act.put]
           try simp only [List.setIfInBounds_toArray]
           try simp only [List.set_cons_zero, List.set_cons_succ]
           refine tkA 12 94 (v := ?_) rfl rfl (by kernel_rfl) (fun _ _ _ h => h) ?_ (by assumption) ?_
           rotate_left
           ·(intro w hSw; (try dsimp only at hSw); go_simp; try (with_reducible rfl))
           try simp only [Act.put]
           try simp only [List.setIfInBounds_toArray]
           try simp only [List.set_cons_zero, List.set_cons_succ]
           refine tkA 14 96 (v := ?_) rfl rfl (by kernel_rfl) (fun _ _ _ h => h) ?_ (by assumption) ?_
           rotate_left
           ·(intro w hSw; (try dsimp only at hSw); go_simp; try (with_reducible rfl))
           try simp only [Act.put]
           try simp only [List.setIfInBounds_toArray]
           try simp only [List.set_cons_zero, List.set_cons_succ]
           refine wpAnyT_ready (rs := [13, 15]) (by kernel_rfl) (by simp) ?_
           refine AllT.cons (i := 13) rfl (fun K hK => ?_) ?_
           ·go_simp
            refine hK.out _ _ ?_ (fun hHeld => ?_)
            ·(try dsimp only)
             exact ⟨k7, t7⟩
            clear hK K
            try simp only [Act.put]
            try simp only [List.setIfInBounds_toArray]
            try simp only [List.set_cons_zero, List.set_cons_succ]
            refine wpAnyT_last (by kernel_rfl) rfl (by kernel_rfl) (fun K hK => ?_)
            go_simp
            refine hK.out _ _ ?_
            go_wp2
            go_roundg (N - (f + 1))
            case measure => omega
            case rel => exact ⟨f + 1, _, by omega, by omega, by go_num, (show OwnM _ _ _ _ _ _ _ _ _ from HRL.out), (show Ext _ _ from HRX.out)⟩
           refine AllT.cons (i := 15) rfl (fun K hK => ?_) AllT.nil
           go_simp
           refine hK.out _ _ ?_ (fun hHeld => ?_)
           ·(try dsimp only)
            exact ⟨(World.cell?_setCell_far y ⟨gh, oh + f, none⟩ _ _ hn1).trans k7, (World.cell?_setCell_far y ⟨gh, oh + f, none⟩ _ _ hn2).trans t7⟩
           clear hK K
           try simp only [Act.put]
           try simp only [List.setIfInBounds_toArray]
           try simp only [List.set_cons_zero, List.set_cons_succ]
           refine wpAnyT_ready (rs := [13]) (by kernel_rfl) (by simp) ?_
           refine AllT.cons (i := 13) rfl (fun K hK => ?_) AllT.nil
           go_simp
           refine hK.out _ _ hHeld (fun _ => ⟨by kernel_rfl, ?_⟩)
           clear hK K hHeld
           try simp only [Act.put]
           try simp only [List.setIfInBounds_toArray]
           try simp only [List.set_cons_zero, List.set_cons_succ]
           go_wp2
           go_roundg (N - (f + 1))
           case measure => omega
           case rel => exact ⟨f + 1, _, by omega, by omega, by go_num, (show OwnM _ _ _ _ _ _ _ _ _ from HRL.out), (show Ext _ _ from HRX.out)⟩
end Go.Proofs.Ytfagfooggcinoaa
namespace Go.Proofs.Ytfagfooggcinoaa
open Go.RowKit
set_option linter.unusedVariables false
theorem ex_small : SmallTr exT := by
 refine ⟨by decide, fun p hp => ?_⟩
 have hp : p < 2 := hp
 rcases two_at hp with rfl | rfl
 ·refine ⟨by decide, by decide, fun i hi => ?_⟩
  have hi : i < 2 := hi
  rcases two_at hi with rfl | rfl <;> decide
 ·refine ⟨by decide, by decide, fun i hi => ?_⟩
  have hi : i < 2 := hi
  rcases two_at hi with rfl | rfl <;> decide
theorem ex_shape : shapeB exT = true := by decide +kernel
theorem ex_pair : pairB exT = true := by decide +kernel
theorem ex_dir {y x : Eid} (h : Dir exT y x) : 10 * y.1 + y.2 < 10 * x.1 + x.2 := by
 obtain ⟨⟨h1, h2⟩, h⟩ := h
 obtain ⟨p, i⟩ := x
 obtain ⟨q, j⟩ := y
 simp only at h1 h2 h ⊢
 rcases h with ⟨rfl, rfl⟩ | ⟨hk, hf⟩
 ·omega
 ·have h1 : p < 2 := h1
  rcases two_at h1 with rfl | rfl
  ·have h2 : i < 2 := h2
   rcases two_at h2 with rfl | rfl
   ·exact absurd hk (by decide)
   ·exact absurd hk (by decide)
  ·have h2 : i < 2 := h2
   rcases two_at h2 with rfl | rfl
   ·exact absurd hk (by decide)
   ·have e : findE exT 2 (ev exT (1, 1)).msg = some (0, 0) := by decide +kernel
    rw [e] at hf
    cases hf
    omega
theorem ex_cyc : ¬ Cyc exT := by
 rintro ⟨x, hx⟩
 have key : ∀ {y x : Eid}, Relation.TransGen (Dir exT) y x → 10 * y.1 + y.2 < 10 * x.1 + x.2 := by
  intro y x h
  induction h with
  | single h => exact ex_dir h
  | tail _ h ih => exact Nat.lt_trans ih (ex_dir h)
 exact Nat.lt_irrefl _ (key hx)
theorem ex_valid : validT exT = true := validT_parts2.2 ⟨ex_shape, ex_pair, ex_cyc⟩
def exR : List (List Int) := [[0, 0], [1, 0], [2, 0], [2, 1], [2, 2]]
def exL : List Mk := [⟨1, [true, true], [[], []]⟩, ⟨2, [true, true], [[], []]⟩]
def exM : List Mk := [⟨1, [true, true], [[], []]⟩, ⟨0, [true, true], [[1], []]⟩]
theorem ex_clE : clE exT exR 0 1 0 = 0 := by
 unfold clE
 rw [if_neg (by rw [ex_valid]; simp), if_neg (by rw [show fifoB exT = true from by decide +kernel]; simp), if_neg (by rw [show runB exT exR = true from by decide +kernel]; simp), if_neg (by rw [show clOk exT exR 0 1 0 = true from by decide +kernel]; simp)]
theorem ex_clL : clL exT exR 0 1 0 = exL := by
 unfold clL
 rw [if_pos ex_clE]
 decide +kernel
theorem ex_redC : redC exT [1, 0] = [1, 0] := by decide +kernel
theorem ex_open : openC exT [1, 0] = [1, 0] := by
 unfold openC
 exact fixC_eq (n := 0) ⟨by decide +kernel, rfl⟩
theorem ex_layE : layE exT [1, 0] = 0 := by
 unfold layE
 rw [if_neg (by rw [ex_valid]; simp), if_neg (by decide), ex_redC]
 unfold repE
 rw [ex_valid]
 decide +kernel
theorem ex_layM : layM exT [1, 0] = exM := by
 unfold layM
 rw [if_pos ex_layE, ex_redC, ex_open]
 decide +kernel
end Go.Proofs.Ytfagfooggcinoaa
namespace Go.Proofs.Ytfagfooggcinoaa
open Go.RowKit
set_option linter.unusedVariables false
theorem rows_at {l m : List (List Int)} {k : Nat} (h : l.length = m.length) (hk : k < l.length) (hne : (l[k]! == m[k]!) = false) : (l == m) = false := by
 rw [beq_eq_false_iff_ne] at hne ⊢
 rintro rfl
 exact hne rfl
theorem rows_all {l m : List (List Int)} (h : l.length = m.length) (ha : ∀ j, j < l.length → l[j]! = m[j]!) : (l == m) = true := by
 rw [beq_iff_eq]
 refine List.ext_getElem h fun i h1 h2 => ?_
 have := ha i h1
 rwa [getElem!_pos l i h1, getElem!_pos m i h2] at this
theorem rows_len {l m : List (List Int)} (h : l.length ≠ m.length) : (l == m) = false := by
 rw [beq_eq_false_iff_ne]
 rintro rfl
 exact h rfl
set_option maxHeartbeats 1000000 in
theorem sameInts14 (u v : Value) (l m : List Int) (w : World) (hu : Ints w u l) (hv : Ints w v m) (hn : l.length ≤ 1000000) (hm : m.length ≤ 1000000) :
  Calls Try.prog 64 #[u, v] w fun e w' => e = .returned (.bool (l == m)) ∧ Drawn w w' := by
 obtain ⟨a, c, rfl, hz1, hu⟩ := hu
 obtain ⟨a2, c2, rfl, hz2, hv⟩ := hv
 clear hz1 hz2
 have HU := Lib.hid hu; clear hu
 have HV := Lib.hid hv; clear hv
 generalize hln : l.length = n at hn
 generalize hlm : m.length = n2 at hm
 have HL := Lib.hid hln; clear hln
 have HM := Lib.hid hlm; clear hlm
 by_cases hne : n = n2
 ·subst hne
  have b1 : ((n : Int) != (n : Int)) = false := by simp
  go_enter Try.func64, Try.ntmps64
  go_wp2
  go_loopg [5] n (fun g s5 wr => ∃ k : Nat, k ≤ n ∧ n - k ≤ g ∧ s5 = .int .i64 k ∧ Aside (Drawn w wr) ∧ Aside (∀ j, j < k → l[j]! = m[j]!))
  case atStart => exact ⟨0, Nat.zero_le _, by omega, rfl, Drawn.rf _, (fun j hj => absurd hj (Nat.not_lt_zero _))⟩
  case round =>
   obtain ⟨k, hk, hg, rfl, HD, A⟩ := hrel
   by_cases hlt : k < n
   ·obtain ⟨b, off, rfl, hb, hc⟩ := HU.out (by intro e; have := HL.out; simp [e] at this; omega)
    obtain ⟨b2, off2, rfl, hb2, hc2⟩ := HV.out (by intro e; have := HM.out; simp [e] at this; omega)
    have hcell : wr.cell? ⟨b, off + k, none⟩ = some (.int .i64 l[k]!) := HD.out.ext.cl (hc k (by rw [HL.out]; exact hlt))
    have hcell2 : wr.cell? ⟨b2, off2 + k, none⟩ = some (.int .i64 m[k]!) := HD.out.ext.cl (hc2 k (by rw [HM.out]; exact hlt))
    have hltz : (k : Int) < (n : Int) := by omega
    have hkz : (0 : Int) ≤ (k : Int) := by omega
    clear hc HV hc2 HU
    generalize hy : l[k]! = y at hcell
    generalize hz : m[k]! = z at hcell2
    have B := Lib.hid hy
    have C := Lib.hid hz
    clear hy hz
    cases hq : (y != z) with
    | true =>
      have HQ := Lib.hid hq
      go_wp2
      go_quiet (fail)
      go_wp2
      go_ret
      exact ⟨by rw [beq_at l m (by rw [HL.out, HM.out]) ⟨k, by rw [HL.out]; exact hlt, by rw [B.out, C.out]; simpa using HQ.out⟩]; rfl, HD.out.drN _⟩
    | false =>
      have HQ := Lib.hid hq
      go_wp2
      go_quiet (fail)
      go_wp2
      go_roundg (n - (k + 1))
      case measure => omega
      case rel =>
       refine ⟨k + 1, by omega, by omega, by go_num, HD.out.drN _, (show Aside _ from fun j hj => ?_)⟩
       by_cases e : j = k
       ·subst e
        rw [B.out, C.out]; simpa using HQ.out
       ·exact A.out j (by omega)
   ·have hltz : ¬ (k : Int) < (n : Int) := by omega
    go_wp2
    go_ret
    exact ⟨by rw [beq_all l m (by rw [HL.out, HM.out]) (fun j hj => A.out j (by rw [HL.out] at hj; omega))]; rfl, HD.out⟩
 ·have b1 : ((n : Int) != (n2 : Int)) = true := by simp; omega
  have HN := Lib.hid hne; clear hne
  go_enter Try.func64, Try.ntmps64
  go_wp2
  go_ret
  exact ⟨by rw [beq_len l m (by rw [HL.out, HM.out]; exact HN.out)]; rfl, Drawn.rf _⟩
set_option maxHeartbeats 2000000 in
theorem sameLists14 (u v : Value) (l m : List (List Int)) (w : World) (hu : Sl RInts 1 w u l) (hv : Sl RInts 1 w v m) (hn : l.length ≤ 1000000) (hm : m.length ≤ 1000000) (hnl : ∀ i, i < l.length → l[i]!.length ≤ 1000000) (hml : ∀ i, i < m.length → m[i]!.length ≤ 1000000) :
  Calls Try.prog 34 #[u, v] w fun e w' => e = .returned (.bool (l == m)) ∧ Drawn w w' := by
 have HU := Lib.hid hu
 have HV := Lib.hid hv
 obtain ⟨a, c, rfl, hz1⟩ := hu.sh
 obtain ⟨a2, c2, rfl, hz2⟩ := hv.sh
 clear hz1 hz2
 have HNL := Lib.hid hnl
 have HML := Lib.hid hml
 clear hu hv hnl hml
 generalize hln : l.length = n at hn
 generalize hlm : m.length = n2 at hm
 have HL := Lib.hid hln
 have HM := Lib.hid hlm
 clear hln hlm
 by_cases hne : n = n2
 ·subst hne
  have b1 : ((n : Int) != (n : Int)) = false := by simp
  go_enter Try.func34, Try.ntmps34
  go_wp2
  go_loopg [5] n (fun g s5 wr => ∃ k : Nat, k ≤ n ∧ n - k ≤ g ∧ s5 = .int .i64 k ∧ Aside (Drawn w wr) ∧ Aside (∀ j, j < k → l[j]! = m[j]!))
  case atStart => exact ⟨0, Nat.zero_le _, by omega, rfl, Drawn.rf _, (fun j hj => absurd hj (Nat.not_lt_zero _))⟩
  case round =>
   obtain ⟨k, hk, hg, rfl, HD, A⟩ := hrel
   by_cases hlt : k < n
   ·obtain ⟨b1', o1, c1, u1, he1, hl1, hb1, hc1, x1, hx1, hI1⟩ := HU.out.at1 k (by rw [HL.out]; exact hlt)
    obtain ⟨b2', o2, c2', u2, he2, hl2, hb2, hc2, x2, hx2, hI2⟩ := HV.out.at1 k (by rw [HM.out]; exact hlt)
    simp only [Value.slice.injEq] at he1 he2
    obtain ⟨rfl, hy1, rfl⟩ := he1
    obtain ⟨rfl, hy2, rfl⟩ := he2
    obtain rfl : u1 = x1 := by simpa using hx1
    obtain rfl : u2 = x2 := by simpa using hx2
    have hcell := HD.out.ext.cl hc1
    have hcell2 := HD.out.ext.cl hc2
    have HC := Lib.hid (fun W (hW : Ext w W) => sameInts14 u1 u2 l[k]! m[k]! W (hI1.ext hW) (hI2.ext hW) (HNL.out k (by rw [HL.out]; exact hlt)) (HML.out k (by rw [HM.out]; exact hlt)))
    obtain ⟨q1, r1, hq1, hw1, hv1⟩ := hI1
    obtain ⟨q2, r2, hq2, hw2, hv2⟩ := hI2
    subst hq1 hq2
    have hltz : (k : Int) < (n : Int) := by omega
    have hkz : (0 : Int) ≤ (k : Int) := by omega
    obtain ⟨q, hq⟩ : ∃ q, (l[k]! == m[k]!) = q := ⟨_, rfl⟩
    rw [hq] at HC
    have HQ := Lib.hid hq
    clear hc1 hc2 hx1 hx2 hl1 hl2 hb1 hb2 hy1 hy2 hw1 hw2 hv1 hv2 hq
    generalize l[k]!.length = y1 at *
    generalize m[k]!.length = y2 at *
    cases q with
    | false =>
      go_wp2
      go_quiet ((go_at_call 64; exact drawn_quiet (HC.out _ (HD.out.ext.drN _))))
      go_wp2
      go_ret
      exact ⟨by rw [rows_at (by rw [HL.out, HM.out]) (by rw [HL.out]; exact hlt) HQ.out]; rfl, HD.out.drN _⟩
    | true =>
      go_wp2
      go_quiet ((go_at_call 64; exact drawn_quiet (HC.out _ (HD.out.ext.drN _))))
      go_wp2
      go_roundg (n - (k + 1))
      case measure => omega
      case rel =>
       refine ⟨k + 1, by omega, by omega, by go_num, HD.out.drN _, (show Aside _ from fun j hj => ?_)⟩
       by_cases e : j = k
       ·subst e
        exact by simpa using HQ.out
       ·exact A.out j (by omega)
   ·have hltz : ¬ (k : Int) < (n : Int) := by omega
    go_wp2
    go_ret
    exact ⟨by rw [rows_all (by rw [HL.out, HM.out]) (fun j hj => A.out j (by rw [HL.out] at hj; omega))]; rfl, HD.out⟩
 ·have b1 : ((n : Int) != (n2 : Int)) = true := by simp; omega
  have HN := Lib.hid hne; clear hne
  go_enter Try.func34, Try.ntmps34
  go_wp2
  go_ret
  exact ⟨by rw [rows_len (by rw [HL.out, HM.out]; exact HN.out)]; rfl, Drawn.rf _⟩
end Go.Proofs.Ytfagfooggcinoaa
namespace Go.Proofs.Ytfagfooggcinoaa
open Go.RowKit
set_option linter.unusedVariables false
theorem mks_at {l m : List Mk} {k : Nat} (hk : l[k]! ≠ m[k]!) : decide (l = m) = false := decide_eq_false (fun h => hk (by rw [h]))
theorem mks_all {l m : List Mk} (h : l.length = m.length) (ha : ∀ j, j < l.length → l[j]! = m[j]!) : decide (l = m) = true := decide_eq_true (listG_ext h ha)
theorem mks_len {l m : List Mk} (h : l.length ≠ m.length) : decide (l = m) = false := decide_eq_false (fun e => h (by rw [e]))
theorem mk_ext {a b : Mk} (h1 : a.cnt = b.cnt) (h2 : a.closed = b.closed) (h3 : a.chan = b.chan) : a = b := by
 obtain ⟨a1, a2, a3⟩ := a
 obtain ⟨b1, b2, b3⟩ := b
 simp only at h1 h2 h3
 subst h1 h2 h3
 rfl
def LightM (l : List Mk) : Prop := l.length ≤ 1000000 ∧ ∀ i, i < l.length → l[i]!.closed.length ≤ 1000000 ∧ l[i]!.chan.length ≤ 1000000 ∧ ∀ j, j < l[i]!.chan.length → (l[i]!.chan[j]!).length ≤ 1000000
theorem mark_at {w : World} {v : Value} {l : List Mk} (h : Sl RMk 3 w v l) (k : Nat) (hk : k < l.length) :
  ∃ B O C ua uc y, v = .slice (some ⟨B, O, none⟩) l.length C ∧ l.length ≤ C ∧ B < w.heap.size ∧ w.cell? ⟨B, O + k * 3, none⟩ = some (.int .i64 l[k]!.cnt) ∧ w.cell? ⟨B, O + k * 3 + 1, none⟩ = some (.slice ua l[k]!.closed.length uc) ∧ w.cell? ⟨B, O + k * 3 + 2, none⟩ = some y ∧
   Bools w (.slice ua l[k]!.closed.length uc) l[k]!.closed ∧ Sl RInts 1 w y l[k]!.chan := by
 obtain ⟨B, O, C, vs, e1, hC, hB, hvl, ⟨u, y, rfl, hb, hs⟩, hcs⟩ := Sl.cellsOf h k hk
 obtain ⟨_, ua, uc, rfl, _⟩ := id hb
 exact ⟨B, O, C, ua, uc, y, e1, hC, hB, by simpa using hcs 0 (by omega), by simpa using hcs 1 (by omega), by simpa using hcs 2 (by omega), hb, hs⟩
theorem bool_at {w : World} {a : Option Addr} {c : Nat} {l : List Bool} {n : Nat} (h : Bools w (.slice a n c) l) (j : Nat) (hj : j < l.length) : ∃ b o, a = some ⟨b, o, none⟩ ∧ n ≤ c ∧ b < w.heap.size ∧ w.cell? ⟨b, o + j, none⟩ = some (.bool l[j]!) := by
 obtain ⟨_, a', c', e, h1, h2⟩ := h
 simp only [Value.slice.injEq] at e
 obtain ⟨rfl, rfl, rfl⟩ := e
 obtain ⟨b, off, rfl, hb, hc⟩ := h2 (by omega)
 refine ⟨b, off, rfl, h1, hb, ?_⟩
 rw [hc j (by omega), List.getElem?_map, List.getElem?_eq_getElem hj, getElem!_pos l j hj]; rfl
set_option maxHeartbeats 8000000 in
set_option maxRecDepth 100000 in
theorem sameMarks_calls (u v : Value) (l m : List Mk) (w : World) (hu : Sl RMk 3 w u l) (hv : Sl RMk 3 w v m) (hn : LightM l) (hm : LightM m) :
  Calls Try.prog 10 #[u, v] w fun e w' => e = .returned (.bool (decide (l = m))) ∧ Drawn w w' := by
 have HU := Lib.hid hu
 have HV := Lib.hid hv
 obtain ⟨a, c, rfl, hz1⟩ := hu.sh
 obtain ⟨a2, c2, rfl, hz2⟩ := hv.sh
 have HNL := Lib.hid hn.2
 have HML := Lib.hid hm.2
 have hn1 := hn.1
 have hm1 := hm.1
 clear hu hv hn hm hz1 hz2
 generalize hln : l.length = n at *
 generalize hlm : m.length = n2 at *
 have HL := Lib.hid hln
 have HM := Lib.hid hlm
 clear hln hlm
 by_cases hne : n = n2
 case neg =>
  have b1 : ((n : Int) != (n2 : Int)) = true := by simp; omega
  have HN := Lib.hid hne; clear hne
  go_enter Try.func10, Try.ntmps10
  go_wp2
  go_ret
  exact ⟨by rw [mks_len (by rw [HL.out, HM.out]; exact HN.out)]; rfl, Drawn.rf _⟩
 case pos =>
  subst hne
  have b1 : ((n : Int) != (n : Int)) = false := by simp
  go_enter Try.func10, Try.ntmps10
  go_wp2
  go_loopg [5, 6] n (fun g s5 s6 wr => ∃ k : Nat, k ≤ n ∧ n - k ≤ g ∧ s5 = .int .i64 k ∧ Aside (Drawn w wr) ∧ Aside (∀ j, j < k → l[j]! = m[j]!))
  case atStart => exact ⟨0, Nat.zero_le _, by omega, rfl, Drawn.rf _, (fun j hj => absurd hj (Nat.not_lt_zero _))⟩
  case round =>
   obtain ⟨k, hk, hg, rfl, HD, A⟩ := hrel
   by_cases hlt : k < n
   case neg =>
    have hltz : ¬ (k : Int) < (n : Int) := by omega
    go_wp2
    go_ret
    exact ⟨by rw [mks_all (by rw [HL.out, HM.out]) (fun j hj => A.out j (by rw [HL.out] at hj; omega))]; rfl, HD.out⟩
   case pos =>
    have hltz : (k : Int) < (n : Int) := by omega
    have hkz : (0 : Int) ≤ (k : Int) := by omega
    obtain ⟨B1, O1, C1, ua1, uc1, y1, he1, hl1, _, p0, p1, p2, hb1, hs1⟩ := mark_at HU.out k (by rw [HL.out]; exact hlt)
    obtain ⟨B2, O2, C2, ua2, uc2, y2, he2, hl2, _, q0, q1, q2, hb2, hs2⟩ := mark_at HV.out k (by rw [HM.out]; exact hlt)
    simp only [Value.slice.injEq] at he1 he2
    obtain ⟨rfl, hy1, rfl⟩ := he1
    obtain ⟨rfl, hy2, rfl⟩ := he2
    have P0 := HD.out.ext.cl p0
    have P1 := HD.out.ext.cl p1
    have P2 := HD.out.ext.cl p2
    have Q0 := HD.out.ext.cl q0
    have Q1 := HD.out.ext.cl q1
    have Q2 := HD.out.ext.cl q2
    obtain ⟨hnl1, hnl2, hnl3⟩ := HNL.out k hlt
    obtain ⟨hml1, hml2, hml3⟩ := HML.out k hlt
    have HC := Lib.hid (fun W (hW : Ext w W) => sameLists14 y1 y2 l[k]!.chan m[k]!.chan W (hs1.ext rints_lasts hW) (hs2.ext rints_lasts hW) hnl2 hml2 hnl3 hml3)
    have HB1 := Lib.hid hb1
    have HB2 := Lib.hid hb2
    obtain ⟨d1, d2, rfl, _⟩ := hs1.sh
    obtain ⟨d3, d4, rfl, _⟩ := hs2.sh
    have HMX := Lib.hid (fun (h1 : l[k]!.cnt = m[k]!.cnt) (h2 : l[k]!.closed = m[k]!.closed) (h3 : l[k]!.chan = m[k]!.chan) => mk_ext h1 h2 h3)
    obtain ⟨q, hq⟩ : ∃ q, (l[k]!.chan == m[k]!.chan) = q := ⟨_, rfl⟩
    rw [hq] at HC
    have HQ := Lib.hid hq
    generalize hx1 : l[k]!.cnt = x1 at *
    generalize hx2 : m[k]!.cnt = x2 at *
    generalize hk1 : l[k]!.closed.length = k1 at *
    generalize hk2 : m[k]!.closed.length = k2 at *
    have HX1 := Lib.hid hx1
    have HX2 := Lib.hid hx2
    have HK1 := Lib.hid hk1
    have HK2 := Lib.hid hk2
    generalize l[k]!.chan.length = e1 at *
    generalize m[k]!.chan.length = e2 at *
    clear p0 p1 p2 q0 q1 q2 hb1 hb2 hs1 hs2 hq hx1 hx2 hk1 hk2 hy1 hy2 hl1 hl2 hnl2 hml2 hnl3 hml3
    by_cases hc : x1 = x2
    case neg =>
     have g1 : (x1 != x2) = true := by rw [bne_iff_ne]; exact hc
     have HN : Hid (l[k]! ≠ m[k]!) := Lib.hid (fun h => hc (by rw [← HX1.out, ← HX2.out, h]))
     clear hc
     go_wp2
     go_quiet (fail)
     go_wp2
     go_ret
     exact ⟨by rw [mks_at HN.out]; rfl, HD.out.drN _⟩
    case pos =>
    have g1 : (x1 != x2) = false := by rw [bne_eq_false_iff_eq]; exact hc
    have HXE := Lib.hid hc
    clear hc
    by_cases hcl : k1 = k2
    case neg =>
     have g2 : ((k1 : Int) != (k2 : Int)) = true := by rw [bne_iff_ne]; omega
     have HN : Hid (l[k]! ≠ m[k]!) := Lib.hid (fun h => hcl (by rw [← HK1.out, ← HK2.out, h]))
     clear hcl
     go_wp2
     go_quiet (fail)
     go_wp2
     go_ret
     exact ⟨by rw [mks_at HN.out]; rfl, HD.out.drN _⟩
    case pos =>
    subst hcl
    have g2 : ((k1 : Int) != (k1 : Int)) = false := by simp
    cases q with
    | false =>
      have HN : Hid (l[k]! ≠ m[k]!) := Lib.hid (fun h => by have h2 := HQ.out; rw [h] at h2; simp at h2)
      go_wp2
      go_quiet ((go_at_call 34; exact drawn_quiet (HC.out _ (HD.out.ext.drN _))))
      go_wp2
      go_ret
      exact ⟨by rw [mks_at HN.out]; rfl, HD.out.drN _⟩
    | true =>
      go_wp2
      go_quiet ((go_at_call 34; exact drawn_quiet (HC.out _ (HD.out.ext.drN _))))
      obtain ⟨wo, rfl⟩ : ∃ x, x = wr := ⟨_, rfl⟩
      have HD2 := Lib.hid (HD.out.drN nq)
      have HP1 := Lib.hid (show ∀ W, Drawn w W → W.cell? ⟨B1, O1 + k * 3 + 1, none⟩ = some (.slice ua1 k1 uc1) from fun W hW => by rw [hW.cell]; rw [HD.out.cell] at P1; exact P1)
      have HQ1 := Lib.hid (show ∀ W, Drawn w W → W.cell? ⟨B2, O2 + k * 3 + 1, none⟩ = some (.slice ua2 k1 uc2) from fun W hW => by rw [hW.cell]; rw [HD.out.cell] at Q1; exact Q1)
      clear P0 P1 P2 Q0 Q1 Q2 g1 g2 HC
      generalize wo.drewN nq = ws at *
      go_wp2
      go_loopg [6] k1 (fun g s6 wr => ∃ j : Nat, j ≤ k1 ∧ k1 - j ≤ g ∧ s6 = .int .i64 j ∧ Aside (Drawn w wr) ∧ Aside (∀ i, i < j → l[k]!.closed[i]! = m[k]!.closed[i]!))
      case atStart => exact ⟨0, Nat.zero_le _, by omega, rfl, (show Drawn _ _ from HD2.out), (fun j hj => absurd hj (Nat.not_lt_zero _))⟩
      case round =>
       obtain ⟨j, hj, hgj, rfl, HDJ, AJ⟩ := hrel
       clear HD2
       have P1 := HP1.out _ HDJ.out
       have Q1 := HQ1.out _ HDJ.out
       by_cases hjk : j < k1
       case neg =>
        have hjz : ¬ (j : Int) < (k1 : Int) := by omega
        have HN : Hid (l[k]! = m[k]!) := Lib.hid (HMX.out HXE.out (listG_ext (by rw [HK1.out, HK2.out]) fun i hi => AJ.out i (by rw [HK1.out] at hi; omega)) (by have := HQ.out; simpa using this))
        go_wp2
        go_roundg (n - (k + 1))
        case measure => omega
        case rel => exact ⟨k + 1, by omega, by omega, by go_num, (show Drawn _ _ from HDJ.out), (show Aside _ from fun i hi => by
         by_cases e : i = k
         ·subst e; exact HN.out
         ·exact A.out i (by omega))⟩
       case pos =>
        have hjz : (j : Int) < (k1 : Int) := by omega
        have hjz0 : (0 : Int) ≤ (j : Int) := by omega
        obtain ⟨v1, v2, rfl, hv1, _, hv3⟩ := bool_at HB1.out j (by rw [HK1.out]; exact hjk)
        obtain ⟨v4, v5, rfl, hv4, _, hv6⟩ := bool_at HB2.out j (by rw [HK2.out]; exact hjk)
        have h3 := HDJ.out.ext.cl hv3
        have h6 := HDJ.out.ext.cl hv6
        generalize hr1 : l[k]!.closed[j]! = r1 at *
        generalize hr2 : m[k]!.closed[j]! = r2 at *
        have HR1 := Lib.hid hr1
        have HR2 := Lib.hid hr2
        clear hv3 hv6 hr1 hr2
        by_cases hrr : r1 = r2
        case pos =>
         subst hrr
         have g4 : (r1 != r1) = false := by simp
         go_wp2
         go_quiet (fail)
         go_wp2
         go_roundg (k1 - (j + 1))
         case measure => omega
         case rel => exact ⟨j + 1, by omega, by omega, by go_num, (show Drawn _ _ from HDJ.out.drN _), (show Aside _ from fun i hi => by
          by_cases e : i = j
          ·subst e; rw [HR1.out, HR2.out]
          ·exact AJ.out i (by omega))⟩
        case neg =>
         have g4 : (!(r1 == r2)) = true := by rw [beq_eq_false_iff_ne.2 hrr]; rfl
         have HN : Hid (l[k]! ≠ m[k]!) := Lib.hid (fun h => hrr (by rw [← HR1.out, ← HR2.out, h]))
         clear hrr
         go_wp2
         go_quiet (fail)
         go_wp2
         go_ret
         exact ⟨by rw [mks_at HN.out]; rfl, HDJ.out.drN _⟩
end Go.Proofs.Ytfagfooggcinoaa
namespace Go.Proofs.Ytfagfooggcinoaa
open Go.RowKit
set_option linter.unusedVariables false
theorem rows_sl {W : World} {b n : Nat} {t : TypeId} {ls : List (List Int)} {vs : List Value} (hb : W.heap[b]? = some (.cells vs.toArray t)) (hl : vs.length = ls.length) (hn : n = ls.length) (h : ∀ i, i < ls.length → Ints W vs[i]! ls[i]!) : Sl RInts 1 W (.slice (some ⟨b, 0, none⟩) n n) ls := by
 subst hn
 refine (cells_laid 1 ls.length hb (by omega)).sl fun i hi => ?_
 refine ⟨vs[i]!, ?_, h i hi⟩
 apply List.ext_getElem?
 intro j
 rw [List.getElem?_take]
 match j with
 | 0 => rw [if_pos (by omega), List.getElem?_drop, Nat.add_zero, Nat.mul_one, List.getElem?_eq_getElem (by omega), getElem!_pos vs i (by omega)]; rfl
 | j + 1 => rw [if_neg (by omega)]; rfl
theorem bools_laid {W : World} {b : Nat} {t : TypeId} (l : List Bool) (hb : W.heap[b]? = some (.cells (l.map Value.bool).toArray t)) : Bools W (.slice (some ⟨b, 0, none⟩) l.length l.length) l :=
 cells_laid 1 l.length hb (by simp)
theorem five_at {n : Nat} (h : n < 5) : n = 0 ∨ n = 1 ∨ n = 2 ∨ n = 3 ∨ n = 4 := by omega
def rowsN : List Value := [.slice none 0 0, .slice none 0 0]
theorem rowsN_sl {W : World} {b : Nat} {t : TypeId} (hb : W.heap[b]? = some (.cells rowsN.toArray t)) : Sl RInts 1 W (.slice (some ⟨b, 0, none⟩) 2 2) [[], []] :=
 rows_sl (ls := [[], []]) hb rfl rfl (fun i hi => by
  rcases two_at hi with rfl | rfl <;> exact ⟨none, 0, rfl, Nat.le_refl _, fun h => absurd rfl h⟩)
theorem marks_sl {W : World} {b b1 b2 c1 c2 : Nat} {t : TypeId} {m1 m2 : Mk} (hb : W.heap[b]? = some (.cells #[.int .i64 m1.cnt, .slice (some ⟨b1, 0, none⟩) 2 2, .slice (some ⟨b2, 0, none⟩) 2 2, .int .i64 m2.cnt, .slice (some ⟨c1, 0, none⟩) 2 2, .slice (some ⟨c2, 0, none⟩) 2 2] t))
  (h1 : Bools W (.slice (some ⟨b1, 0, none⟩) 2 2) m1.closed) (h2 : Sl RInts 1 W (.slice (some ⟨b2, 0, none⟩) 2 2) m1.chan) (h3 : Bools W (.slice (some ⟨c1, 0, none⟩) 2 2) m2.closed) (h4 : Sl RInts 1 W (.slice (some ⟨c2, 0, none⟩) 2 2) m2.chan) :
  Sl RMk 3 W (.slice (some ⟨b, 0, none⟩) 2 2) [m1, m2] :=
 (cells_laid 3 2 (xs := [.int .i64 m1.cnt, .slice (some ⟨b1, 0, none⟩) 2 2, .slice (some ⟨b2, 0, none⟩) 2 2, .int .i64 m2.cnt, .slice (some ⟨c1, 0, none⟩) 2 2, .slice (some ⟨c2, 0, none⟩) 2 2]) hb rfl).sl (R := RMk) (l := [m1, m2]) (fun i hi => by
  rcases two_at hi with rfl | rfl
  ·exact ⟨_, _, rfl, h1, h2⟩
  ·exact ⟨_, _, rfl, h3, h4⟩)
theorem exL_light : LightM exL := by
 refine ⟨by decide, fun i hi => ?_⟩
 rcases two_at hi with rfl | rfl
 ·refine ⟨by decide, by decide, fun j hj => ?_⟩
  rcases two_at hj with rfl | rfl <;> decide
 ·refine ⟨by decide, by decide, fun j hj => ?_⟩
  rcases two_at hj with rfl | rfl <;> decide
theorem exM_light : LightM exM := by
 refine ⟨by decide, fun i hi => ?_⟩
 rcases two_at hi with rfl | rfl
 ·refine ⟨by decide, by decide, fun j hj => ?_⟩
  rcases two_at hj with rfl | rfl <;> decide
 ·refine ⟨by decide, by decide, fun j hj => ?_⟩
  rcases two_at hj with rfl | rfl <;> decide
set_option maxHeartbeats 4000000 in
set_option maxRecDepth 100000 in
theorem awake50_calls (w : World) : Calls Try.prog 5 #[] w fun e w' => e = .returned (.bool true) ∧ Ext w w' := by
 have HB := Lib.hid (fun i o => allocs_at [.cells #[.int .i64 0, .int .i64 0] 3, .cells #[.int .i64 1, .int .i64 0] 3, .cells #[.int .i64 2, .int .i64 0] 3, .cells #[.int .i64 2, .int .i64 1] 3, .cells #[.int .i64 2, .int .i64 2] 3,
  .cells #[.slice (some ⟨w.heap.size, 0, none⟩) 2 2, .slice (some ⟨w.heap.size + 1, 0, none⟩) 2 2, .slice (some ⟨w.heap.size + 1 + 1, 0, none⟩) 2 2, .slice (some ⟨w.heap.size + 1 + 1 + 1, 0, none⟩) 2 2, .slice (some ⟨w.heap.size + 1 + 1 + 1 + 1, 0, none⟩) 2 2] 25] w i o)
 have HX1 : Hid (Ext w ((((((w.alloc (.cells #[.int .i64 0, .int .i64 0] 3)).alloc (.cells #[.int .i64 1, .int .i64 0] 3)).alloc (.cells #[.int .i64 2, .int .i64 0] 3)).alloc (.cells #[.int .i64 2, .int .i64 1] 3)).alloc (.cells #[.int .i64 2, .int .i64 2] 3)).alloc
  (.cells #[.slice (some ⟨w.heap.size, 0, none⟩) 2 2, .slice (some ⟨w.heap.size + 1, 0, none⟩) 2 2, .slice (some ⟨w.heap.size + 1 + 1, 0, none⟩) 2 2, .slice (some ⟨w.heap.size + 1 + 1 + 1, 0, none⟩) 2 2, .slice (some ⟨w.heap.size + 1 + 1 + 1 + 1, 0, none⟩) 2 2] 25))) := Lib.hid (by repeat (first | refine Ext.st ?_ (by first | exact Nat.le_refl _ | exact Nat.le_succ _ | assumption | omega) _ | refine Ext.al ?_ _ | refine Ext.dr ?_ | refine Ext.drN ?_ _ | exact Ext.rf _))
 have HR1 : Hid (Sl RInts 1 ((((((w.alloc (.cells #[.int .i64 0, .int .i64 0] 3)).alloc (.cells #[.int .i64 1, .int .i64 0] 3)).alloc (.cells #[.int .i64 2, .int .i64 0] 3)).alloc (.cells #[.int .i64 2, .int .i64 1] 3)).alloc (.cells #[.int .i64 2, .int .i64 2] 3)).alloc
  (.cells #[.slice (some ⟨w.heap.size, 0, none⟩) 2 2, .slice (some ⟨w.heap.size + 1, 0, none⟩) 2 2, .slice (some ⟨w.heap.size + 1 + 1, 0, none⟩) 2 2, .slice (some ⟨w.heap.size + 1 + 1 + 1, 0, none⟩) 2 2, .slice (some ⟨w.heap.size + 1 + 1 + 1 + 1, 0, none⟩) 2 2] 25)) (.slice (some ⟨w.heap.size + 1 + 1 + 1 + 1 + 1, 0, none⟩) 5 5) exR) := Lib.hid (rows_sl (ls := exR) (HB.out 5 _ rfl) rfl rfl (fun i hi => by
   rcases five_at hi with rfl | rfl | rfl | rfl | rfl
   ·exact ints_laid [0, 0] (HB.out 0 _ rfl)
   ·exact ints_laid [1, 0] (HB.out 1 _ rfl)
   ·exact ints_laid [2, 0] (HB.out 2 _ rfl)
   ·exact ints_laid [2, 1] (HB.out 3 _ rfl)
   ·exact ints_laid [2, 2] (HB.out 4 _ rfl)))
 clear HB
 go_enter Try.func5, Try.ntmps5
 go_wp2_with fail
 refine (example_calls _).mono ?_
 rintro e x1 ⟨v1, rfl, hT1, hX⟩
 have HX2 := Lib.hid (HX1.out.trans' hX)
 have HR2 := Lib.hid (Sl.ext rints_lasts HR1.out hX)
 have HT1 := Lib.hid hT1
 clear hT1 hX HX1 HR1
 go_wp2_with fail
 refine (chandy_calls _ _ exT exR 0 1 0 _ HT1.out ex_small.loose HR2.out (by decide) (by decide) (fun i hi => by rcases five_at hi with rfl | rfl | rfl | rfl | rfl <;> decide)).mono ?_
 rintro e x2 ⟨v2, rfl, hX, hL⟩
 rw [ex_clL] at hL
 rw [ex_clE]
 obtain ⟨l1, l2, rfl, hz1⟩ := hL.sh
 have HL1 := Lib.hid hL
 have HX3 := Lib.hid (HX2.out.trans' hX)
 clear hL hX hz1 HX2
 go_wp2_with fail
 refine (example_calls _).mono ?_
 rintro e x3 ⟨v3, rfl, hT3, hX⟩
 have HX4 := Lib.hid (HX3.out.trans' (hX.al (.cells #[.int .i64 1, .int .i64 0] 3)))
 have HL2 := Lib.hid (Sl.ext rmk_lasts HL1.out (hX.al (.cells #[.int .i64 1, .int .i64 0] 3)))
 have HT3 := Lib.hid (hT3.ext ((Ext.rf _).al (.cells #[.int .i64 1, .int .i64 0] 3)))
 have HB3 := Lib.hid (heap_alloc_new x3 (.cells #[.int .i64 1, .int .i64 0] 3))
 clear hT3 hX HX3 HL1
 go_wp2_with fail
 refine (lai_calls _ _ exT [1, 0] _ HT3.out ex_small.loose (ints_laid [1, 0] HB3.out) (by decide)).mono ?_
 rintro e x4 ⟨v4, rfl, hX, hL⟩
 rw [ex_layM] at hL
 rw [ex_layE]
 obtain ⟨m1, m2, rfl, hz2⟩ := hL.sh
 have HM4 := Lib.hid hL
 have HX5 := Lib.hid (HX4.out.trans' hX)
 have HL5 := Lib.hid (Sl.ext rmk_lasts HL2.out hX)
 clear hL hX hz2 HX4 HL2
 have HB5 := Lib.hid (fun i o => allocs_at [.cells #[.bool true, .bool true] 4, .cells rowsN.toArray 25, .cells #[.bool true, .bool true] 4, .cells rowsN.toArray 25,
  .cells #[.int .i64 1, .slice (some ⟨x4.heap.size, 0, none⟩) 2 2, .slice (some ⟨x4.heap.size + 1, 0, none⟩) 2 2, .int .i64 2, .slice (some ⟨x4.heap.size + 1 + 1, 0, none⟩) 2 2, .slice (some ⟨x4.heap.size + 1 + 1 + 1, 0, none⟩) 2 2] 48] x4 i o)
 go_wp2_with fail
 refine (sameMarks_calls _ _ exL exL _ (Sl.ext rmk_lasts HL5.out (by repeat (first | refine Ext.st ?_ (by first | exact Nat.le_refl _ | exact Nat.le_succ _ | assumption | omega) _ | refine Ext.al ?_ _ | refine Ext.dr ?_ | refine Ext.drN ?_ _ | exact Ext.rf _))) (marks_sl (m1 := ⟨1, [true, true], [[], []]⟩) (m2 := ⟨2, [true, true], [[], []]⟩) (HB5.out 4 _ rfl) (bools_laid [true, true] (HB5.out 0 _ rfl)) (rowsN_sl (HB5.out 1 _ rfl)) (bools_laid [true, true] (HB5.out 2 _ rfl)) (rowsN_sl (HB5.out 3 _ rfl))) exL_light exL_light).mono ?_
 rintro e x5 ⟨rfl, hD⟩
 rw [show decide (exL = exL) = true from decide_eq_true rfl]
 have HX6 : Hid (Ext x4 x5) := Lib.hid (Ext.trans' (by repeat (first | refine Ext.st ?_ (by first | exact Nat.le_refl _ | exact Nat.le_succ _ | assumption | omega) _ | refine Ext.al ?_ _ | refine Ext.dr ?_ | refine Ext.drN ?_ _ | exact Ext.rf _)) hD.ext)
 have HM6 := Lib.hid (Sl.ext rmk_lasts HM4.out HX6.out)
 clear hD HB5 HM4 HL5
 have HB6 := Lib.hid (fun i o => allocs_at [.cells #[.bool true, .bool true] 4, .cells rowsN.toArray 25, .cells #[.bool true, .bool true] 4, .cells #[.int .i64 1] 3, .cells #[.slice (some ⟨x5.heap.size + 1 + 1 + 1, 0, none⟩) 1 1, .slice none 0 0] 25,
  .cells #[.int .i64 1, .slice (some ⟨x5.heap.size, 0, none⟩) 2 2, .slice (some ⟨x5.heap.size + 1, 0, none⟩) 2 2, .int .i64 0, .slice (some ⟨x5.heap.size + 1 + 1, 0, none⟩) 2 2, .slice (some ⟨x5.heap.size + 1 + 1 + 1 + 1, 0, none⟩) 2 2] 48] x5 i o)
 go_wp2_with fail
 refine (sameMarks_calls _ _ exM exM _ (Sl.ext rmk_lasts HM6.out (by repeat (first | refine Ext.st ?_ (by first | exact Nat.le_refl _ | exact Nat.le_succ _ | assumption | omega) _ | refine Ext.al ?_ _ | refine Ext.dr ?_ | refine Ext.drN ?_ _ | exact Ext.rf _))) (marks_sl (m1 := ⟨1, [true, true], [[], []]⟩) (m2 := ⟨0, [true, true], [[1], []]⟩) (HB6.out 5 _ rfl) (bools_laid [true, true] (HB6.out 0 _ rfl)) (rowsN_sl (HB6.out 1 _ rfl)) (bools_laid [true, true] (HB6.out 2 _ rfl)) (rows_sl (ls := [[1], []]) (HB6.out 4 _ rfl) rfl rfl (fun i hi => by
  rcases two_at hi with rfl | rfl
  ·exact ints_laid [1] (HB6.out 3 _ rfl)
  ·exact ⟨none, 0, rfl, Nat.le_refl _, fun h => absurd rfl h⟩))) exM_light exM_light).mono ?_
 rintro e x6 ⟨rfl, hD⟩
 rw [show decide (exM = exM) = true from decide_eq_true rfl]
 have HX7 : Hid (Ext x5 x6) := Lib.hid (Ext.trans' (by repeat (first | refine Ext.st ?_ (by first | exact Nat.le_refl _ | exact Nat.le_succ _ | assumption | omega) _ | refine Ext.al ?_ _ | refine Ext.dr ?_ | refine Ext.drN ?_ _ | exact Ext.rf _)) hD.ext)
 clear hD HB6 HM6
 go_wp2
 go_ret
 exact ⟨rfl, HX5.out.trans' (HX6.out.trans' HX7.out)⟩
end Go.Proofs.Ytfagfooggcinoaa
