import Derived.Test.YtbpdbikphlhaiaaGreatDoorGa
import Derived.Test.YtbpdbikphlhaiaaGreatDoorProg
import Derived.Test.YtbpdbikphlhaiaaGreatDoorGg
import Derived.Test.YtbpdbikphlhaiaaGreatDoorGe
import Derived.Test.YtbpdbikphlhaiaaGreatDoorGb
import Derived.BigQuiet
import Derived.Deep.QuietTactic
import Derived.Deep.LoopGhost
import Derived.Shelf.Abstract
import Derived.Laws.EntriesVeiled
namespace Go.Proofs.YtbpdbikphlhaiaaGreatDoor
open Go.RowKit
set_option linter.unusedVariables false
attribute [local go_sem ↓] Go.wp_at_zero Go.wp_at_succ
set_option maxHeartbeats 4000000 in
set_option maxRecDepth 100000 in
theorem closedP_calls (v vc : Value) (t : Tr) (c : List Int) (w : World) (h : TrAt w v t) (hs : SmallTr t) (hv : validT t = true) (hc : Ints w vc c) (hr : RangeC t c) :
  Calls Tryz.prog 54 #[.agg #[v], vc] w fun e w' => e = .returned (.bool (missE t c).isNone) ∧ Ext w w' := by
 have HM := Lib.hid (fun W (hW : Ext w W) => missingP_calls v vc t c W (h.ext hW) hs hv (hc.ext hW) hr)
 obtain ⟨ta, tc, rfl, htc⟩ := h.sh
 obtain ⟨ca, cc, rfl, hlc, _⟩ := hc
 generalize t.length = N at *
 generalize c.length = M at *
 have HE1 := Lib.hid ((Ext.rf w).al (.cells #[.slice ta N tc] 24))
 have HN : Hid ((missE t c).isNone = !(missE t c).isSome) := Lib.hid (by cases missE t c <;> rfl)
 rw [HN.out]
 obtain ⟨f, hf⟩ : ∃ f, (missE t c).isSome = f := ⟨_, rfl⟩
 rw [hf]
 have HF := Lib.hid hf
 clear h hs hv hr HN hf
 go_enter Tryz.func54, Tryz.ntmps54
 go_wp2_with fail
 refine (HM.out _ HE1.out).mono ?_
 rintro e w2 ⟨rfl, hX⟩
 have HX := Lib.hid (HE1.out.trans' hX)
 rw [HF.out]
 generalize eidA (misS t c) = a1 at *
 generalize eidB (misS t c) = b1 at *
 generalize eidA (missE t c) = a2 at *
 generalize eidB (missE t c) = b2 at *
 clear hX
 go_wp2
 go_ret
 exact ⟨rfl, (HX.out.al _).al _⟩
theorem stamp_at' {w : World} {a : Option Addr} {m c : Nat} {q : List (List Int)} (h : Sl RInts 1 w (.slice a m c) q) (i : Nat) (hi : i < q.length) :
  ∃ b o sv, a = some ⟨b, o, none⟩ ∧ w.cell? ⟨b, o + i, none⟩ = some sv ∧ Ints w sv q[i]! := by
 obtain ⟨b, o, c2, cv, he, _, _, hc, ⟨u, hu, hi2⟩⟩ := h.at1 i hi
 simp only [List.cons.injEq, and_true] at hu
 subst hu
 simp only [Value.slice.injEq] at he
 exact ⟨b, o, _, he.1, hc, hi2⟩
noncomputable def givenE (t : Tr) (l : List (List Int)) (ps : List Int) : Int :=
 if (validT t && l.all (fitsB t)) = true then
  if l.all (rangeB t) = true then
   if (ps.all fun p => decide (0 ≤ p) && decide (p < (t.length : Int))) = true then
    if (l.all fun c => (missE t c).isNone) = true then 0 else 18
   else 2
  else 2
 else 1
theorem all_of {α : Type} [Inhabited α] {l : List α} {f : α → Bool} (h : ∀ i, i < l.length → f l[i]! = true) : l.all f = true := by
 rw [List.all_eq_true]
 intro x hx
 obtain ⟨i, hi, rfl⟩ := List.getElem_of_mem hx
 have := h i hi
 rwa [getElem!_pos l i hi] at this
theorem all_at {α : Type} [Inhabited α] {l : List α} {f : α → Bool} (h : l.all f = true) {i : Nat} (hi : i < l.length) : f l[i]! = true := by
 rw [List.all_eq_true] at h
 rw [getElem!_pos l i hi]
 exact h _ (List.getElem_mem hi)
theorem all_not {α : Type} [Inhabited α] {l : List α} {f : α → Bool} {i : Nat} (hi : i < l.length) (h : f l[i]! = false) : l.all f = false := by
 rw [Bool.eq_false_iff]; intro e; have := all_at e hi; rw [h] at this; cases this
set_option maxHeartbeats 8000000 in
set_option maxRecDepth 100000 in
theorem givenP_calls (v vl vp : Value) (t : Tr) (l : List (List Int)) (ps : List Int) (w : World) (h : TrAt w v t) (hs : LooseTr t) (hl : Sl RInts 1 w vl l) (hn : l.length ≤ 1000000) (hp : Ints w vp ps) (hm : ps.length ≤ 1000000) :
  Calls Tryz.prog 33 #[.agg #[v], vl, vp] w fun e w' => e = .returned (.int .i64 (givenE t l ps)) ∧ Ext w w' := by
 have HSZ := Lib.hid (fun W (hW : Ext w W) => sizedP_calls v vl t l W (h.ext hW) hs (hl.ext rints_lasts hW) hn)
 have HRG := Lib.hid (fun W (hW : Ext w W) (hv : validT t = true) vc c (hc : Ints W vc c) (hf : c.length = t.length) => inRangeP_calls v vc t c W (h.ext hW) (valid_small hv) hc hf)
 have HPR := Lib.hid (fun W (hW : Ext w W) p => processP_calls v t p W (h.ext hW) hs)
 have HCL := Lib.hid (fun W (hW : Ext w W) vc c (hc : Ints W vc c) (hv : validT t = true) (hf : RangeC t c) => closedP_calls v vc t c W (h.ext hW) (valid_small hv) hv hc hf)
 have HT := Lib.hid h
 have HLL := Lib.hid hl
 have HPP := Lib.hid hp
 obtain ⟨ta, tc, rfl, htc⟩ := h.sh
 obtain ⟨la, lc, rfl, hlc⟩ := hl.shape
 obtain ⟨pa, pc, rfl, hpc, _⟩ := hp
 obtain ⟨tn, htn⟩ : ∃ n, t.length = n := ⟨_, rfl⟩
 obtain ⟨n, hln⟩ : ∃ n, l.length = n := ⟨_, rfl⟩
 obtain ⟨m, hpn⟩ : ∃ n, ps.length = n := ⟨_, rfl⟩
 obtain ⟨ge, hge⟩ : ∃ E, givenE t l ps = E := ⟨_, rfl⟩
 have HG := Lib.hid hge
 have HN := Lib.hid hln
 have HM := Lib.hid hpn
 rw [hge]
 rw [hln] at HSZ hlc hn ⊢
 rw [hpn] at hpc hm ⊢
 rw [htn] at HPR HRG HSZ HCL ⊢
 have HX0 := Lib.hid (heap_alloc_new w (.cells #[.slice ta tn tc] 24))
 have HE1 := Lib.hid ((Ext.rf w).al (.cells #[.slice ta tn tc] 24))
 obtain ⟨sz, hsz⟩ : ∃ b, (validT t && l.all (fitsB t)) = b := ⟨_, rfl⟩
 rw [hsz] at HSZ
 have HSB := Lib.hid hsz
 clear h hs hl hge hln hpn htc hsz
 go_enter Tryz.func33, Tryz.ntmps33
 go_wp2_with fail
 refine (HSZ.out _ HE1.out).mono ?_
 rintro e w2 ⟨rfl, hX⟩
 have HY0 := Lib.hid (hX.hp HX0.out)
 have HE2 := Lib.hid (HE1.out.trans' hX)
 clear hX
 cases sz with
 | false =>
   have HF : Hid (ge = 1) := Lib.hid (by rw [← HG.out]; unfold givenE; rw [HSB.out]; rfl)
   go_wp2
   go_ret
   exact ⟨by rw [HF.out]; rfl, HE2.out⟩
 | true =>
 have HVF := Lib.hid (Bool.and_eq_true _ _ ▸ HSB.out : validT t = true ∧ l.all (fitsB t) = true)
 go_wp2
 go_loopg [19] n (fun g s19 wr => ∃ i : Nat, i ≤ n ∧ n - i ≤ g ∧ s19 = .int .i64 i ∧ Aside (∀ j, j < i → rangeB t l[j]! = true) ∧ Aside (Ext w2 wr))
 case atStart => exact ⟨0, Nat.zero_le _, by omega, rfl, (fun j hj => absurd hj (Nat.not_lt_zero _)), Ext.rf _⟩
 case round =>
  obtain ⟨i, hi, hg, rfl, A, HEK⟩ := hrel
  have HEW := Lib.hid (HE2.out.trans' HEK.out)
  have HZ0 := Lib.hid (HEK.out.hp HY0.out)
  have t0 := cellOf HZ0.out 0
  simp only [List.getElem?_toArray, List.getElem?_cons_zero] at t0
  by_cases hlt : i < n
  ·have hltz : (i : Int) < (n : Int) := by omega
   have hiz : (0 : Int) ≤ (i : Int) := by omega
   have HIL := Lib.hid (show i < l.length from by rw [HN.out]; exact hlt)
   obtain ⟨b, o, cv, rfl, hcell, hci⟩ := stamp_at' HLL.out i HIL.out
   have hc1 := HEW.out.cl hcell
   have HCI := Lib.hid (hci.ext HEW.out)
   obtain ⟨ca, cc, rfl, hcc, _⟩ := hci
   have HCR := Lib.hid (HRG.out wr HEW.out HVF.out.1 _ _ HCI.out (by have := all_at HVF.out.2 HIL.out; unfold fitsB at this; rw [← htn]; exact of_decide_eq_true this))
   generalize l[i]!.length = ci at *
   obtain ⟨rb, hrb⟩ : ∃ b, rangeB t l[i]! = b := ⟨_, rfl⟩
   rw [hrb] at HCR
   have HRB := Lib.hid hrb
   clear hrb hcell
   go_wp2_with fail
   refine HCR.out.mono ?_
   rintro e w5 ⟨rfl, hX5⟩
   cases rb with
   | true =>
     go_wp2
     go_roundg (n - (i + 1))
     case measure => omega
     case rel =>
      refine ⟨i + 1, by omega, by omega, by go_num, (show Aside _ from fun j hj => ?_), (show Ext _ _ from HEK.out.trans' hX5)⟩
      by_cases e : j = i
      ·subst e; exact HRB.out
      ·exact A.out j (by omega)
   | false =>
     have HF : Hid (ge = 2) := Lib.hid (by rw [← HG.out]; unfold givenE; rw [HSB.out, all_not HIL.out HRB.out]; rfl)
     go_wp2
     go_ret
     exact ⟨by rw [HF.out]; rfl, HEW.out.trans' hX5⟩
  ·have hltz : ¬ (i : Int) < (n : Int) := by omega
   obtain rfl : n = i := by omega
   have HALR := Lib.hid (show l.all (rangeB t) = true from all_of (fun j hj => A.out j (by rw [HN.out] at hj; exact hj)))
   clear A
   go_wp2
   obtain ⟨wA, rfl⟩ : ∃ x, x = wr := ⟨_, rfl⟩
   clear t0
   go_loopg [30] m (fun g s30 wr => ∃ i : Nat, i ≤ m ∧ m - i ≤ g ∧ s30 = .int .i64 i ∧ Aside (∀ j, j < i → (decide (0 ≤ ps[j]!) && decide (ps[j]! < (tn : Int))) = true) ∧ Aside (Ext wA wr))
   case atStart => exact ⟨0, Nat.zero_le _, by omega, rfl, (fun j hj => absurd hj (Nat.not_lt_zero _)), Ext.rf _⟩
   case round =>
    obtain ⟨i, hi, hg2, rfl, A, HEK2⟩ := hrel
    have HEW2 := Lib.hid (HEW.out.trans' HEK2.out)
    have HZ2 := Lib.hid (HEK2.out.hp HZ0.out)
    have t0 := cellOf HZ2.out 0
    simp only [List.getElem?_toArray, List.getElem?_cons_zero] at t0
    by_cases hlt : i < m
    ·have hltz : (i : Int) < (m : Int) := by omega
     have hiz : (0 : Int) ≤ (i : Int) := by omega
     have HIL := Lib.hid (show i < ps.length from by rw [HM.out]; exact hlt)
     obtain ⟨b, o, rfl, hb, hcell⟩ := ints_at HPP.out i HIL.out
     have hc1 := HEW2.out.cl hcell
     have HCR := Lib.hid (HPR.out wr HEW2.out ps[i]!)
     obtain ⟨rb, hrb⟩ : ∃ b, (decide (0 ≤ ps[i]!) && decide (ps[i]! < (tn : Int))) = b := ⟨_, rfl⟩
     rw [hrb] at HCR
     have HRB := Lib.hid hrb
     generalize hpi : ps[i]! = pi at *
     have HPI := Lib.hid hpi
     clear hrb hcell hpi hb
     go_wp2_with fail
     refine HCR.out.mono ?_
     rintro e w5 ⟨rfl, hX5⟩
     cases rb with
     | true =>
       go_wp2
       go_roundg (m - (i + 1))
       case measure => omega
       case rel =>
        refine ⟨i + 1, by omega, by omega, by go_num, (show Aside _ from fun j hj => ?_), (show Ext _ _ from HEK2.out.trans' hX5)⟩
        by_cases e : j = i
        ·subst e; rw [HPI.out]; exact HRB.out
        ·exact A.out j (by omega)
     | false =>
       have HF : Hid (ge = 2) := Lib.hid (by rw [← HG.out]; unfold givenE; rw [HSB.out, HALR.out, htn, all_not HIL.out (by rw [HPI.out]; exact HRB.out)]; rfl)
       go_wp2
       go_ret
       exact ⟨by rw [HF.out]; rfl, HEW2.out.trans' hX5⟩
    ·have hltz : ¬ (i : Int) < (m : Int) := by omega
     obtain rfl : m = i := by omega
     have HALP := Lib.hid (show (ps.all fun p => decide (0 ≤ p) && decide (p < (tn : Int))) = true from all_of (fun j hj => A.out j (by rw [HM.out] at hj; exact hj)))
     clear A
     go_wp2
     obtain ⟨wB, rfl⟩ : ∃ x, x = wr := ⟨_, rfl⟩
     clear t0
     go_loopg [41] n (fun g s41 wr => ∃ i : Nat, i ≤ n ∧ n - i ≤ g ∧ s41 = .int .i64 i ∧ Aside (∀ j, j < i → (missE t l[j]!).isNone = true) ∧ Aside (Ext wB wr))
     case atStart => exact ⟨0, Nat.zero_le _, by omega, rfl, (fun j hj => absurd hj (Nat.not_lt_zero _)), Ext.rf _⟩
     case round =>
      obtain ⟨i, hi, hg3, rfl, A, HEK3⟩ := hrel
      have HEW3 := Lib.hid (HEW2.out.trans' HEK3.out)
      have HZ3 := Lib.hid (HEK3.out.hp HZ2.out)
      have t0 := cellOf HZ3.out 0
      simp only [List.getElem?_toArray, List.getElem?_cons_zero] at t0
      by_cases hlt : i < n
      ·have hltz : (i : Int) < (n : Int) := by omega
       have hiz : (0 : Int) ≤ (i : Int) := by omega
       have HIL := Lib.hid (show i < l.length from by rw [HN.out]; exact hlt)
       obtain ⟨b, o, cv, rfl, hcell, hci⟩ := stamp_at' HLL.out i HIL.out
       have hc1 := HEW3.out.cl hcell
       have HCI := Lib.hid (hci.ext HEW3.out)
       obtain ⟨ca, cc, rfl, hcc, _⟩ := hci
       have HCR := Lib.hid (HCL.out wr HEW3.out _ _ HCI.out HVF.out.1 ⟨(by have := all_at HVF.out.2 HIL.out; unfold fitsB at this; exact of_decide_eq_true this), all_at HALR.out HIL.out⟩)
       generalize l[i]!.length = ci at *
       obtain ⟨rb, hrb⟩ : ∃ b, (missE t l[i]!).isNone = b := ⟨_, rfl⟩
       rw [hrb] at HCR
       have HRB := Lib.hid hrb
       clear hrb hcell
       go_wp2_with fail
       refine HCR.out.mono ?_
       rintro e w5 ⟨rfl, hX5⟩
       cases rb with
       | true =>
         go_wp2
         go_roundg (n - (i + 1))
         case measure => omega
         case rel =>
          refine ⟨i + 1, by omega, by omega, by go_num, (show Aside _ from fun j hj => ?_), (show Ext _ _ from HEK3.out.trans' hX5)⟩
          by_cases e : j = i
          ·subst e; exact HRB.out
          ·exact A.out j (by omega)
       | false =>
         have HF : Hid (ge = 18) := Lib.hid (by rw [← HG.out]; unfold givenE; rw [HSB.out, HALR.out, htn, HALP.out, all_not HIL.out HRB.out]; rfl)
         go_wp2
         go_ret
         exact ⟨by rw [HF.out]; rfl, HEW3.out.trans' hX5⟩
      ·have hltz : ¬ (i : Int) < (n : Int) := by omega
       obtain rfl : n = i := by omega
       have HF : Hid (ge = 0) := Lib.hid (by rw [← HG.out]; unfold givenE; rw [HSB.out, HALR.out, htn, HALP.out, show (l.all fun c => (missE t c).isNone) = true from all_of (fun j hj => A.out j (by rw [HN.out] at hj; exact hj))]; rfl)
       go_wp2
       go_ret
       exact ⟨by rw [HF.out]; rfl, HEW3.out⟩
theorem rows_one {w : World} {b : Nat} {ty : TypeId} {vc : Value} {c : List Int} {fr : Nat × Nat} (hb : w.heap[b]? = some (.cells #[vc] ty fr)) (hc : Ints w vc c) : Sl RInts 1 w (.slice (some ⟨b, 0, none⟩) 1 1) [c] := by
 refine ⟨_, _, rfl, Nat.le_refl _, fun _ => ⟨b, 0, rfl, (Array.getElem?_eq_some_iff.1 hb).1, fun i hi => ?_⟩⟩
 obtain rfl : i = 0 := by simpa using hi
 refine ⟨[vc], rfl, ⟨vc, rfl, hc⟩, fun j hj => ?_⟩
 obtain rfl : j = 0 := by omega
 have := cellOf hb 0
 simpa using this
theorem ints_none (w : World) : Ints w (.slice none 0 0) [] := ⟨none, 0, rfl, Nat.le_refl _, fun h => absurd rfl h⟩
theorem givenE_one (t : Tr) (c : List Int) : (givenE t [c] [] = 0) ↔ consB t c = true := by
 unfold givenE consB
 simp only [List.all_cons, List.all_nil, Bool.and_true]
 generalize (missE t c).isNone = q
 cases validT t <;> cases fitsB t c <;> cases rangeB t c <;> cases q <;> simp
end Go.Proofs.YtbpdbikphlhaiaaGreatDoor
namespace Go.Proofs.YtbpdbikphlhaiaaGreatDoor
open Go.RowKit
set_option linter.unusedVariables false
theorem givenE_ps {t : Tr} {c : List Int} {ps : List Int} (h : givenE t [c] ps = 0) : validT t = true ∧ ConsC t c ∧ ∀ p, p ∈ ps → 0 ≤ p ∧ p < (t.length : Int) := by
 unfold givenE at h
 simp only [List.all_cons, List.all_nil, Bool.and_true] at h
 split at h
 ·rename_i h1
  split at h
  ·rename_i h2
   split at h
   ·rename_i h3
    split at h
    ·rename_i h4
     simp only [Bool.and_eq_true] at h1
     refine ⟨h1.1, ⟨⟨of_decide_eq_true h1.2, h2⟩, Option.isNone_iff_eq_none.1 h4⟩, fun p hp => ?_⟩
     have := List.all_eq_true.1 h3 p hp
     simpa using this
    ·simp at h
   ·simp at h
  ·simp at h
 ·simp at h
end Go.Proofs.YtbpdbikphlhaiaaGreatDoor
namespace Go.Proofs.YtbpdbikphlhaiaaGreatDoor
open Go.RowKit
def IntsRes (w w' : World) (e : Ending) (E : Int) (l : List Int) : Prop := ∃ v, e = .returned (.tuple #[v, .int .i64 E]) ∧ Row w' w.heap.size 3 1 v l.length (l.map (Value.int .i64)) ∧ Ext w w'
theorem IntsRes.none {w w' : World} {E : Int} (h : Ext w w') : IntsRes w w' (.returned (.tuple #[.slice none 0 0, .int .i64 E])) E [] := ⟨_, rfl, Row.mkNil _ _ _ _, h⟩
def IntsOut (w w' : World) (e : Ending) (l : List Int) : Prop := ∃ v, e = .returned v ∧ Row w' w.heap.size 3 1 v l.length (l.map (Value.int .i64)) ∧ Ext w w'
end Go.Proofs.YtbpdbikphlhaiaaGreatDoor
namespace Go.Proofs.YtbpdbikphlhaiaaGreatDoor
open Go.RowKit
set_option linter.unusedVariables false
set_option maxHeartbeats 2000000 in
theorem receiverP_calls (v : Value) (t : Tr) (m : Int) (w : World) (h : TrAt w v t) (hs : SmallTr t) : Calls Tryz.prog 40 #[.agg #[v], .int .i64 m] w fun e w' => FndOut t 3 m w w' e := by
 have HFC := Lib.hid (fun W (hW : Ext w W) => findP_calls v t 3 m W (h.ext hW) hs)
 obtain ⟨ta, tc, rfl, htc⟩ := h.sh
 generalize t.length = N at *
 have HX1 := Lib.hid (heap_new_eq (w := w.alloc (.cells #[.slice ta N tc] 24)) (o := idO 0 0) (b := w.heap.size + 1) (by simp))
 have HE2 : Hid (Ext w ((w.alloc (.cells #[.slice ta N tc] 24)).alloc (idO 0 0))) := Lib.hid (((Ext.rf w).al _).al _)
 clear h hs
 go_enter Tryz.func40, Tryz.ntmps40
 go_wp2_with fail
 generalize hw2 : (w.alloc (.cells #[.slice ta N tc] 24)).alloc (idO 0 0) = w2 at *
 clear hw2
 refine (HFC.out _ HE2.out).mono ?_
 rintro e w3 ⟨rfl, hX⟩
 have HZ1 := Lib.hid (hX.hp HX1.out)
 have HE3 := Lib.hid (HE2.out.trans' hX)
 clear hX
 generalize hA : eidA (fndO t 3 m) = za at *
 generalize hB : eidB (fndO t 3 m) = zb at *
 generalize hC : (fndO t 3 m).isSome = zc at *
 have HABC := Lib.hid (And.intro hA (And.intro hB hC))
 clear hA hB hC
 have q0 := cellOf HZ1.out 0
 have q1 := cellOf HZ1.out 1
 have g0 := freeOf HZ1.out 0
 have g1 := freeOf HZ1.out 1
 simp only [List.getElem?_toArray, List.getElem?_cons_zero, List.getElem?_cons_succ] at q0 q1
 go_wp2
 clear q0 q1 g0 g1
 have r0 := cellOf (id_set HZ1.out (.int .i64 za) (.int .i64 zb)) 0
 have r1 := cellOf (id_set HZ1.out (.int .i64 za) (.int .i64 zb)) 1
 simp only [List.getElem?_toArray, List.getElem?_cons_zero, List.getElem?_cons_succ] at r0 r1
 refine bodyPost_ret (v := .tuple #[.agg #[.int .i64 za, .int .i64 zb], .bool zc]) (by simp [results, Tryz.results40, go_sem, r0, r1]) rfl ?_
 exact ⟨by rw [HABC.out.1, HABC.out.2.1, HABC.out.2.2], id_ext HE3.out (by omega) _ _⟩
end Go.Proofs.YtbpdbikphlhaiaaGreatDoor
namespace Go.Proofs.YtbpdbikphlhaiaaGreatDoor
open Go.RowKit
set_option linter.unusedVariables false
attribute [local go_sem ↓] Go.wp_at_zero Go.wp_at_succ
def uwB (t : Tr) (c : List Int) (q : Int) (x : Eid) : Bool :=
 decide ((ev t x).kind = 2) && (decide ((ev t x).peer = q) && (match findE t 3 (ev t x).msg with | none => true | some r => decide (c[r.1]! < (r.2 : Int) + 1)))
def uwTo (t : Tr) (c : List Int) (q : Int) (p i : Nat) : List Int := ((List.range i).filter fun (j : Nat) => uwB t c q (p, j)).map fun (j : Nat) => (ev t (p, j)).msg
def underC (t : Tr) (c : List Int) (p : Nat) (q : Int) : List Int := uwTo t c q p c[p]!.toNat
theorem uwTo_yes {t : Tr} {c : List Int} {q : Int} {p i : Nat} (h : uwB t c q (p, i) = true) : uwTo t c q p (i + 1) = uwTo t c q p i ++ [(ev t (p, i)).msg] := by
 unfold uwTo; rw [List.range_succ, List.filter_append, List.filter_cons_of_pos (p := fun (j : Nat) => uwB t c q (p, j)) (a := i) h, List.map_append]; rfl
theorem uwTo_no {t : Tr} {c : List Int} {q : Int} {p i : Nat} (h : uwB t c q (p, i) = false) : uwTo t c q p (i + 1) = uwTo t c q p i := by
 unfold uwTo; rw [List.range_succ, List.filter_append, List.filter_cons_of_neg (p := fun (j : Nat) => uwB t c q (p, j)) (a := i) (by rw [h]; decide)]; simp
theorem uwTo_len (t : Tr) (c : List Int) (q : Int) (p i : Nat) : (uwTo t c q p i).length ≤ i := by
 unfold uwTo; rw [List.length_map]; exact Nat.le_trans (List.length_filter_le _ _) (by simp)
theorem uwB_kind {t : Tr} {c : List Int} {q : Int} {x : Eid} (h : (ev t x).kind ≠ 2) : uwB t c q x = false := by simp [uwB, h]
theorem uwB_peer {t : Tr} {c : List Int} {q : Int} {x : Eid} (h : (ev t x).peer ≠ q) : uwB t c q x = false := by simp [uwB, h]
theorem uwB_none {t : Tr} {c : List Int} {q : Int} {x : Eid} (h1 : (ev t x).kind = 2) (h2 : (ev t x).peer = q) (h3 : findE t 3 (ev t x).msg = none) : uwB t c q x = true := by simp [uwB, h1, h2, h3]
theorem uwB_some {t : Tr} {c : List Int} {q : Int} {x r : Eid} (h1 : (ev t x).kind = 2) (h2 : (ev t x).peer = q) (h3 : findE t 3 (ev t x).msg = some r) : uwB t c q x = decide (c[r.1]! < (r.2 : Int) + 1) := by simp [uwB, h1, h2, h3]
set_option maxHeartbeats 8000000 in
set_option maxRecDepth 100000 in
theorem underWayP_calls (v vc : Value) (t : Tr) (c : List Int) (p q : Int) (w : World) (h : TrAt w v t) (hs : LooseTr t) (hc : Ints w vc c) :
  Calls Tryz.prog 19 #[.agg #[v], vc, .int .i64 p, .int .i64 q] w fun e w' => IntsRes w w' e (givenE t [c] [p, q]) (if givenE t [c] [p, q] = 0 then underC t c p.toNat q else []) := by
 have HCC := Lib.hid hc
 have HT := Lib.hid h
 have HS := Lib.hid hs
 obtain ⟨ii, hii, iz0, iz1, iz2⟩ := info_parts info_int3
 have HRE0 : Hid (validT t = true → ∀ W, Ext w W → ∀ m, Calls Tryz.prog 40 #[.agg #[v], .int .i64 m] W fun e w' => FndOut t 3 m W w' e) := Lib.hid (fun hv W hW m => receiverP_calls v t m W (h.ext hW) (valid_small hv))
 obtain ⟨ta, tc, rfl, htc⟩ := h.sh
 obtain ⟨ca, cc, rfl, hlc, _⟩ := hc
 have HX2 : Hid (Ext w (((w.alloc (.cells #[.slice ta t.length tc] 24)).alloc (.cells #[.slice ca c.length cc] 25)).alloc (.cells #[.int .i64 p, .int .i64 q] 3))) := Lib.hid (by repeat (first | refine Ext.st ?_ (by first | exact Nat.le_refl _ | exact Nat.le_succ _ | assumption | omega) _ | refine Ext.al ?_ _ | refine Ext.dr ?_ | refine Ext.drN ?_ _ | exact Ext.rf _))
 have HBX := Lib.hid (fun i o => allocs_at [.cells #[.slice ta t.length tc] 24, .cells #[.slice ca c.length cc] 25, .cells #[.int .i64 p, .int .i64 q] 3] w i o)
 have HG := Lib.hid (givenP_calls (.slice ta t.length tc) (.slice (some ⟨w.heap.size + 1, 0, none⟩) 1 1) (.slice (some ⟨w.heap.size + 1 + 1, 0, none⟩) 2 2) t [c] [p, q] _ (h.ext HX2.out) hs (rows_one (HBX.out 1 _ rfl) (HCC.out.ext HX2.out)) (by simp) (ints_laid [p, q] (HBX.out 2 _ rfl)) (by simp))
 obtain ⟨ge, hge⟩ : ∃ E, givenE t [c] [p, q] = E := ⟨_, rfl⟩
 rw [hge] at HG ⊢
 have HOK : Hid (ge = 0 → validT t = true ∧ ConsC t c ∧ 0 ≤ p ∧ p < (t.length : Int)) := Lib.hid (fun h0 => by obtain ⟨h1, h2, h3⟩ := givenE_ps (hge.trans h0); exact ⟨h1, h2, h3 p (by simp)⟩)
 obtain ⟨R, hR⟩ : ∃ R, (if ge = 0 then underC t c p.toNat q else []) = R := ⟨_, rfl⟩
 rw [hR]
 have HR0 := Lib.hid hR
 have HX0 : Hid ((((w.alloc (.cells #[.slice ta t.length tc] 24)).alloc (.cells #[.slice ca c.length cc] 25)).alloc (.cells #[.int .i64 p, .int .i64 q] 3)).heap[w.heap.size]? = some (.cells #[.slice ta t.length tc] 24)) := Lib.hid (HBX.out 0 _ rfl)
 have hsm := hs.1
 generalize hN : t.length = N at *
 generalize hM : c.length = M at *
 have HN := Lib.hid hN
 have HM := Lib.hid hM
 clear h hs hge hR hN hM HBX
 go_enter Tryz.func19, Tryz.ntmps19
 go_wp2_with fail
 refine HG.out.mono ?_
 rintro e w2 ⟨rfl, hX⟩
 have HE2 := Lib.hid (HX2.out.trans' hX)
 have HY0 := Lib.hid (hX.hp HX0.out)
 clear hX
 by_cases h0 : ge = 0
 case neg =>
  have c9 : (ge != 0) = true := by simp [h0]
  obtain rfl := HR0.out.symm.trans (if_neg h0)
  clear h0
  go_wp2
  go_ret2
  exact IntsRes.none HE2.out
 subst h0
 have HRZ := Lib.hid (HR0.out.symm.trans (if_pos rfl))
 have HVC := Lib.hid (HOK.out rfl)
 have HRE := Lib.hid (HRE0.out HVC.out.1)
 have HFV : Hid (∀ m, fndO t 3 m = findE t 3 m) := Lib.hid (fun m => by unfold fndO; rw [if_pos HVC.out.1])
 obtain rfl : M = N := by have := HVC.out.2.1.1.1; rw [HN.out, HM.out] at this; exact this
 have hp0 := HVC.out.2.2.1
 have hpM := HVC.out.2.2.2
 obtain ⟨P, rfl⟩ : ∃ P : Nat, p = (P : Int) := ⟨p.toNat, by omega⟩
 rw [Int.toNat_natCast] at HRZ
 have hqM : P < M := by omega
 have HPL := Lib.hid (show P < t.length from by rw [HN.out]; exact hqM)
 obtain ⟨B, O, C, vv, ve, hve, hlC, hB, hn0, hv0, he0, hV, hE0⟩ := proc_at HT.out P HPL.out
 simp only [Value.slice.injEq] at hve
 obtain ⟨rfl, hzz, rfl⟩ := hve
 have HEV := Lib.hid hE0
 obtain ⟨ea, ec, rfl, hec⟩ := hE0.sh
 obtain ⟨cb, co, rfl, hcb, hcp⟩ := ints_at HCC.out P (by rw [HM.out]; exact hqM)
 have he1 := HE2.out.cl he0
 have hc1 := HE2.out.cl hcp
 have hen := ((valid_small HVC.out.1).2 P HPL.out).2.1
 have hkr := HVC.out.2.1.1.at HPL.out
 have t0 := cellOf HY0.out 0
 simp only [List.getElem?_toArray, List.getElem?_cons_zero] at t0
 generalize hne : t[P]!.events.length = ne at *
 have HNE := Lib.hid hne
 obtain ⟨k, hk⟩ : ∃ k : Nat, c[P]! = (k : Int) := ⟨c[P]!.toNat, by omega⟩
 rw [hk] at hc1 hkr
 have HK := Lib.hid hk
 have hkz : (0 : Int) ≤ (k : Int) := by omega
 have hkc : (k : Int) ≤ (ec : Int) := by omega
 have hkm : k ≤ 1000000 := by omega
 have HKN := Lib.hid (show k ≤ ne from by omega)
 clear hn0 hv0 hV hE0 hzz hne he0 hk hcp hkr
 go_wp2
 go_quiet (fail)
 have HE3 := Lib.hid (HE2.out.drN nq)
 have HE23 := Lib.hid ((Ext.rf w2).drN nq)
 have HZ0 := Lib.hid (HE23.out.hp HY0.out)
 generalize w2.drewN nq = w3 at *
 clear t0 he1 hc1
 go_wp2
 go_loopg [11, 38] k (fun g s11 s38 wr => ∃ i : Nat, i ≤ k ∧ k - i ≤ g ∧ s38 = .int .i64 i ∧ Aside (Row wr w2.heap.size 3 1 s11 (uwTo t c q P i).length ((uwTo t c q P i).map (Value.int .i64))) ∧ Aside (Ext w2 wr))
 case atStart => exact ⟨0, Nat.zero_le _, by omega, rfl, (show Row _ _ _ _ _ _ _ from Row.mkNil _ _ _ _), HE23⟩
 case round =>
  obtain ⟨i, hi, hg, rfl, HR, HEK⟩ := hrel
  have HEW := Lib.hid (HE2.out.trans' HEK.out)
  by_cases hli : i < k
  ·have hliz : (i : Int) < (k : Int) := by omega
   have hiz : (0 : Int) ≤ (i : Int) := by omega
   obtain ⟨EB, EO, EC, va, hee, hlE, hEB, k0, k1, k2, k3, k4, ha⟩ := event_at HEV.out i (by rw [HNE.out]; have := HKN.out; omega)
   simp only [Value.slice.injEq] at hee
   obtain ⟨rfl, hzz, rfl⟩ := hee
   obtain ⟨va1, va2, rfl, _⟩ := ha.sh
   have m0 := HEW.out.cl k0
   have m1 := HEW.out.cl k1
   have m2 := HEW.out.cl k2
   have m3 := HEW.out.cl k3
   have m4 := HEW.out.cl k4
   have HEVE : Hid (ev t (P, i) = t[P]!.events[i]!) := Lib.hid rfl
   generalize t[P]!.events[i]! = y at *
   generalize y.asg.length = nb at *
   have hel := uwTo_len t c q P i
   have hsz := HEK.out.sz
   clear k0 k1 k2 k3 k4 hzz ha
   have HB6 := Lib.hid (heap_alloc_new wr (e5 (.int .i64 y.kind) (.int .i64 y.peer) (.int .i64 y.msg) (.int .i64 y.time) (.slice va1 nb va2)))
   have HXT := Lib.hid ((Ext.rf wr).al (e5 (.int .i64 y.kind) (.int .i64 y.peer) (.int .i64 y.msg) (.int .i64 y.time) (.slice va1 nb va2)))
   have HT6 := Lib.hid (HXT.out.hp (HEK.out.hp HY0.out))
   obtain ⟨ck, hck⟩ : ∃ b, (y.kind != 2) = b := ⟨_, rfl⟩
   obtain ⟨cp, hcp⟩ : ∃ b, (y.peer != q) = b := ⟨_, rfl⟩
   have HCK := Lib.hid hck
   have HCP := Lib.hid hcp
   cases ck with
   | true =>
     have HUB : Hid (uwB t c q (P, i) = false) := Lib.hid (uwB_kind (by rw [HEVE.out]; have := HCK.out; simpa using this))
     go_wp2
     go_roundg (k - (i + 1))
     case measure => omega
     case rel => exact ⟨i + 1, by omega, by omega, by go_num, (show Row _ _ _ _ _ _ _ from by rw [uwTo_no HUB.out]; exact HR.out.ext HXT.out), HEK.out.trans' HXT.out⟩
   | false =>
     cases cp with
     | true =>
       have HUB : Hid (uwB t c q (P, i) = false) := Lib.hid (uwB_peer (by rw [HEVE.out]; have := HCP.out; simpa using this))
       go_wp2
       go_roundg (k - (i + 1))
       case measure => omega
       case rel => exact ⟨i + 1, by omega, by omega, by go_num, (show Row _ _ _ _ _ _ _ from by rw [uwTo_no HUB.out]; exact HR.out.ext HXT.out), HEK.out.trans' HXT.out⟩
     | false =>
       have HU2 : Hid ((ev t (P, i)).kind = 2 ∧ (ev t (P, i)).peer = q) := Lib.hid (by rw [HEVE.out]; exact ⟨by have := HCK.out; simpa using this, by have := HCP.out; simpa using this⟩)
       have HFW := Lib.hid (HRE.out _ (HEW.out.trans' HXT.out) y.msg)
       unfold FndOut at HFW
       rw [HFV.out] at HFW
       have t6 := cellOf (HEK.out.hp HY0.out) 0
       simp only [List.getElem?_toArray, List.getElem?_cons_zero] at t6
       have l1 : w.heap.size < wr.heap.size := World.block_lt_of_cell? wr _ t6
       have l2 : w.heap.size ≠ wr.heap.size := by omega
       obtain ⟨fe, hfe⟩ : ∃ f, findE t 3 y.msg = f := ⟨_, rfl⟩
       rw [hfe] at HFW
       have HFE := Lib.hid hfe
       clear hfe
       cases fe with
       | none =>
         have HUB : Hid (uwB t c q (P, i) = true) := Lib.hid (uwB_none HU2.out.1 HU2.out.2 (by rw [HEVE.out]; exact HFE.out))
         simp only [eidA, eidB, Option.isSome_none] at HFW
         go_wp2_with fail
         clear t6 l1 l2 m0 m1 m2 m3 m4
         refine HFW.out.mono ?_
         rintro e w7 ⟨rfl, hE7⟩
         have HX8 := Lib.hid ((HXT.out.trans' hE7).al (idO 0 0))
         have HB8 := Lib.hid (((Ext.rf w7).al (idO 0 0)).hp (hE7.hp HB6.out))
         have HR8 := Lib.hid (HR.out.ext HX8.out)
         have HEK8 := Lib.hid (HEK.out.trans' HX8.out)
         clear hE7 HXT
         go_wp2
         go_quiet (fail)
         have HBA := Lib.hid (((Ext.rf _).drN nq).hp HB8.out)
         have HRA := Lib.hid (HR8.out.ext ((Ext.rf _).drN nq))
         have HEA := Lib.hid (HEK8.out.drN nq)
         generalize World.drewN _ nq = wA at *
         have hszA := HEA.out.sz
         have y2 := cellOf HBA.out 2
         simp only [List.getElem?_toArray] at y2
         generalize hell : (uwTo t c q P i).length = ell at *
         have HELL := Lib.hid hell
         clear hell
         go_wp2_with ((at_builtin; go_loud (refine wpList_append_one rfl _ _ 25 rfl w2.heap.size 3 ii (.int .i64 0) 1 8 Tryz.underlying25 hii iz0 iz1 iz2 rfl (by decide) _ ell _ rfl (HRA.out.al _) wA.heap.size 1 [.int .i64 y.msg] rfl rfl ⟨_, heap_alloc_new _ _⟩ (by simp [Value.oneCell']) (by unfold maxLen; omega) (by omega) (by simp; omega) ?_; intro v8 w8 hown8 hgrow8 hblk8; have HOWN := Lib.hid hown8; have HX9 := Lib.hid ((HEA.out.al _).gr hgrow8 (fun z hz => (HRA.out.lt z hz).1)); clear hown8 hgrow8 hblk8)))
         go_roundg (k - (i + 1))
         case measure => omega
         case rel =>
          refine ⟨i + 1, by omega, by omega, by go_num, (show Row _ _ _ _ _ _ _ from ?_), (show Ext _ _ from HX9.out)⟩
          rw [uwTo_yes HUB.out, List.length_append, List.map_append, HELL.out, HEVE.out]
          exact HOWN.out
       | some r =>
         simp only [eidA, eidB, Option.isSome_some] at HFW
         go_wp2_with fail
         clear t6 l1 l2 m0 m1 m2 m3 m4
         refine HFW.out.mono ?_
         rintro e w7 ⟨rfl, hE7⟩
         have HX8 := Lib.hid ((HXT.out.trans' hE7).al (idO (r.1 : Int) ((r.2 : Int) + 1)))
         have HB8 := Lib.hid (((Ext.rf w7).al (idO (r.1 : Int) ((r.2 : Int) + 1))).hp (hE7.hp HB6.out))
         have HI8 := Lib.hid (heap_alloc_new w7 (idO (r.1 : Int) ((r.2 : Int) + 1)))
         have HR8 := Lib.hid (HR.out.ext HX8.out)
         have HEK8 := Lib.hid (HEK.out.trans' HX8.out)
         have HRN := Lib.hid (findE_some HFE.out).1
         have HUS := Lib.hid (uwB_some (c := c) HU2.out.1 HU2.out.2 (by rw [HEVE.out]; exact HFE.out))
         clear hE7 HXT
         obtain ⟨r1, r2⟩ := r
         simp only at *
         have hr1 : r1 < M := by have := HRN.out.1; rw [HN.out] at this; exact this
         obtain ⟨cb', co', hcc, _, hcs⟩ := ints_at HCC.out r1 (by rw [HM.out]; exact hr1)
         simp only [Option.some.injEq, Addr.mk.injEq, and_true] at hcc
         obtain ⟨rfl, rfl⟩ := hcc
         have dsp := (HE2.out.trans' HEK8.out).cl hcs
         have s0 := cellOf HI8.out 0
         have s1c := cellOf HI8.out 1
         simp only [List.getElem?_toArray, List.getElem?_cons_zero, List.getElem?_cons_succ] at s0 s1c
         have hspz : (0 : Int) ≤ (r1 : Int) := by omega
         have hspi : (r1 : Int) < (M : Int) := by omega
         generalize hdg : c[r1]! = dg at *
         clear hdg hcs
         go_wp2
         by_cases hcmp : dg < (r2 : Int) + 1
         ·have d1 : decide (dg < (r2 : Int) + 1) = true := decide_eq_true hcmp
          have HUB : Hid (uwB t c q (P, i) = true) := Lib.hid (by rw [HUS.out]; exact d1)
          clear hcmp
          go_quiet (fail)
          clear d1 dsp s0 s1c
          have HBA := Lib.hid (((Ext.rf _).drN nq).hp HB8.out)
          have HRA := Lib.hid (HR8.out.ext ((Ext.rf _).drN nq))
          have HEA := Lib.hid (HEK8.out.drN nq)
          generalize World.drewN _ nq = wA at *
          have hszA := HEA.out.sz
          have y2 := cellOf HBA.out 2
          simp only [List.getElem?_toArray] at y2
          generalize hell : (uwTo t c q P i).length = ell at *
          have HELL := Lib.hid hell
          clear hell
          go_wp2_with ((at_builtin; go_loud (refine wpList_append_one rfl _ _ 25 rfl w2.heap.size 3 ii (.int .i64 0) 1 8 Tryz.underlying25 hii iz0 iz1 iz2 rfl (by decide) _ ell _ rfl (HRA.out.al _) wA.heap.size 1 [.int .i64 y.msg] rfl rfl ⟨_, heap_alloc_new _ _⟩ (by simp [Value.oneCell']) (by unfold maxLen; omega) (by omega) (by simp; omega) ?_; intro v8 w8 hown8 hgrow8 hblk8; have HOWN := Lib.hid hown8; have HX9 := Lib.hid ((HEA.out.al _).gr hgrow8 (fun z hz => (HRA.out.lt z hz).1)); clear hown8 hgrow8 hblk8)))
          go_roundg (k - (i + 1))
          case measure => omega
          case rel =>
           refine ⟨i + 1, by omega, by omega, by go_num, (show Row _ _ _ _ _ _ _ from ?_), (show Ext _ _ from HX9.out)⟩
           rw [uwTo_yes HUB.out, List.length_append, List.map_append, HELL.out, HEVE.out]
           exact HOWN.out
         ·have d1 : decide (dg < (r2 : Int) + 1) = false := decide_eq_false hcmp
          have HUB : Hid (uwB t c q (P, i) = false) := Lib.hid (by rw [HUS.out]; exact d1)
          clear hcmp
          go_quiet (fail)
          go_wp2
          go_roundg (k - (i + 1))
          case measure => omega
          case rel => exact ⟨i + 1, by omega, by omega, by go_num, (show Row _ _ _ _ _ _ _ from by rw [uwTo_no HUB.out]; exact HR8.out.ext ((Ext.rf _).drN _)), HEK8.out.drN _⟩
  ·have hliz : ¬ (i : Int) < (k : Int) := by omega
   obtain rfl : k = i := by omega
   go_wp2
   go_ret2
   refine ⟨_, rfl, ?_, HEW.out⟩
   rw [HRZ.out]
   unfold underC
   rw [HK.out, Int.toNat_natCast]
   exact HR.out.mono HE2.out.sz
end Go.Proofs.YtbpdbikphlhaiaaGreatDoor
namespace Go.Proofs.YtbpdbikphlhaiaaGreatDoor
open Go.RowKit
set_option linter.unusedVariables false
theorem info_cints : (Tryz.prog.info? 3).map (fun i => (i.zero, i.size, i.bytes)) = some (some (.int .i64 0), 1, 8) := by kernel_rfl
set_option maxHeartbeats 400000 in
theorem clone_cints (v : Value) (n : Nat) (xs : List Value) (w : World) (hv : CellsAt w v 1 n xs) (h1 : ∀ u ∈ xs, u.oneCell' = true) (hn : n ≤ 1000000) :
  Calls Tryz.prog 58 #[v] w fun e w' => ∃ v', e = .returned v' ∧ Row w' w.heap.size 3 1 v' n xs ∧ Ext w w' := by
 obtain ⟨i0, hi, hz0, hz1, hz2⟩ := info_parts info_cints
 obtain ⟨hl, a, c, rfl, hlc, hv⟩ := hv
 have HLC := Lib.hid hlc; clear hlc
 cases a with
 | none =>
   have hn0 : n = 0 := by
    rcases Nat.eq_zero_or_pos n with h | h
    ·exact h
    ·obtain ⟨_, _, h, _⟩ := hv h; simp at h
   subst hn0
   obtain rfl : xs = [] := List.eq_nil_of_length_eq_zero (by omega)
   clear hv h1 hn hl
   have heq := fun wx => Lib.run_eql_slice_nil (P := Tryz.prog) wx 25 3 none 0 c 0 0 Tryz.underlying25
   go_enter Tryz.func58, Tryz.ntmps58
   go_wp2
   go_ret
   exact ⟨_, rfl, Row.mkNil _ _ _ _, Ext.rf _⟩
 | some ad =>
   have heq := fun wx => Lib.run_eql_slice_nil (P := Tryz.prog) wx 25 3 (some ad) n c 0 0 Tryz.underlying25
   have HV := Lib.hid hv; clear hv
   have H1 := Lib.hid h1; clear h1
   have HL := Lib.hid hl; clear hl
   have hrow : Row (w.alloc (.cells #[] 3)) w.heap.size 3 1 (.slice (some ⟨w.heap.size, 0, none⟩) 0 0) 0 [] :=
    ⟨by simp, .inr ⟨w.heap.size, 0, 0, #[], rfl, Nat.le_refl _, heap_alloc_new w _, Nat.le_refl _, Nat.zero_le _, by simp, by simp⟩⟩
   have HR := Lib.hid hrow; clear hrow
   have hcs : 0 < n → ∃ ad', some ad = some ad' ∧ ∀ j u, xs[j]? = some u → (w.alloc (.cells #[] 3)).cell? (ad'.add j) = some u := by
    intro hp
    obtain ⟨b, off, hab, hb, hc⟩ := HV.out hp
    refine ⟨ad, rfl, fun j u hj => ?_⟩
    simp only [Option.some.injEq] at hab
    subst hab
    have hjl : j < n * 1 := by have := (List.getElem?_eq_some_iff.1 hj).1; rw [HL.out] at this; exact this
    rw [Addr.add_lit]
    exact ((Ext.rf w).al _).cl ((hc j hjl).trans hj)
   have HC := Lib.hid hcs; clear hcs
   go_enter Tryz.func58, Tryz.ntmps58
   go_wp2_with ((at_builtin; refine wpList_append_row rfl _ _ 25 rfl w.heap.size 3 i0 (.int .i64 0) 1 8 Tryz.underlying25 hi hz0 hz1 hz2 rfl (by decide) _ 0 [] rfl HR.out _ n c xs rfl HL.out HC.out H1.out (by unfold maxLen; omega) (by omega) (by simp) ?_; intro v' w1 hown1 hgrow1 hblk))
   go_ret
   exact ⟨_, rfl, by simpa using hown1, ((Ext.rf w).al _).gr hgrow1 (fun k hk => by have e : some w.heap.size = some k := hk; simp at e; omega)⟩
end Go.Proofs.YtbpdbikphlhaiaaGreatDoor
namespace Go.Proofs.YtbpdbikphlhaiaaGreatDoor
open Go.RowKit
set_option linter.unusedVariables false
attribute [local go_sem ↓] Go.wp_at_zero Go.wp_at_succ
open Classical in
noncomputable def fixC (t : Tr) (F : List Int → Eid → List Int) (c : List Int) : List Int := if h : ∃ d, ∃ n, FixN t F n c d then Exists.choose h else c
theorem fixC_eq {t : Tr} {F : List Int → Eid → List Int} {n : Nat} {c d : List Int} (h : FixN t F n c d) : fixC t F c = d := by
 unfold fixC
 have hd : ∃ d, ∃ n, FixN t F n c d := ⟨d, n, h⟩
 rw [dif_pos hd]
 obtain ⟨m, hm⟩ := Exists.choose_spec hd
 exact (hm.same h).1
noncomputable def closeC (t : Tr) (c : List Int) : List Int := fixC t (upS t) c
noncomputable def openC (t : Tr) (c : List Int) : List Int := fixC t (dnS t) c
theorem closeC_fix {t : Tr} {c : List Int} (hr : RangeC t c) : ∃ n, FixN t (upS t) n c (closeC t c) := by
 obtain ⟨n, d, _, h⟩ := up_ends _ c hr (Nat.le_refl _)
 exact ⟨n, by unfold closeC; rw [fixC_eq h]; exact h⟩
theorem openC_fix {t : Tr} {c : List Int} (hr : RangeC t c) : ∃ n, FixN t (dnS t) n c (openC t c) := by
 obtain ⟨n, d, _, h⟩ := dn_ends _ c hr (Nat.le_refl _)
 exact ⟨n, by unfold openC; rw [fixC_eq h]; exact h⟩
noncomputable def repE (t : Tr) (c : List Int) : Int := if (validT t && fitsB t c) = true then if rangeB t c = true then 0 else 2 else 1
def FnS (g : Nat) (t : Tr) (F : List Int → Eid → List Int) : Prop :=
 ∀ (W : World) (base G O n cap : Nat) (c : List Int) (x s : Eid), missE t c = some x → findE t 2 (ev t x).msg = some s → RangeC t c → n = t.length → Row W base 3 1 (.slice (some ⟨G, O, none⟩) n cap) n (c.map (Value.int .i64)) →
  Calls Tryz.prog g #[.slice (some ⟨G, O, none⟩) n cap, .agg #[.int .i64 s.1, .int .i64 ((s.2 : Int) + 1)], .agg #[.int .i64 x.1, .int .i64 ((x.2 : Int) + 1)]] W fun e w' =>
   e = .returned (.tuple #[]) ∧ Row w' base 3 1 (.slice (some ⟨G, O, none⟩) n cap) n ((F c x).map (Value.int .i64)) ∧ ∀ w0, Ext w0 W → w0.heap.size ≤ G → Ext w0 w'
theorem enters_38 : ∀ args w, (callFunc 38 args).run Tryz.prog w = .ok (.enter 38 args) w := enters_of Tryz.func38 (by kernel_rfl) rfl
set_option maxHeartbeats 4000000 in
theorem open1_calls (t : Tr) (hsm : SmallTr t) : FnS 38 t (dnS t) := fun W base G O n cap c x s hm hs hr hn hrow => by
 obtain ⟨hin, hk, s', hs', hlt, hsi⟩ := miss_parts hm
 obtain rfl : s = s' := Option.some.inj (hs.symm.trans hs')
 have hp : x.1 < n := by rw [hn]; exact (hr.inn hin).1
 have hX := Lib.hid (show Ext W ((W.alloc (.cells #[.int .i64 s.1, .int .i64 ((s.2 : Int) + 1)] 39)).alloc (.cells #[.int .i64 x.1, .int .i64 ((x.2 : Int) + 1)] 39)) from ((Ext.rf W).al _).al _)
 have hX0 := Lib.hid (heap_new_eq (w := W.alloc (.cells #[.int .i64 s.1, .int .i64 ((s.2 : Int) + 1)] 39)) (o := .cells #[.int .i64 x.1, .int .i64 ((x.2 : Int) + 1)] 39) (b := W.heap.size + 1) (by simp))
 have hR2 := Lib.hid (hrow.ext hX.out)
 have HUP : Hid (dnS t c x = c.set x.1 (x.2 : Int)) := Lib.hid rfl
 obtain ⟨s1, s2⟩ := s
 obtain ⟨x1, x2⟩ := x
 simp only at *
 have hz1 : (0 : Int) ≤ ((x1 : Nat) : Int) := by omega
 have hz2 : ((x1 : Nat) : Int) < (n : Int) := by omega
 have hcell := hR2.out.cell x1 (by omega)
 have hfree := hR2.out.free (O + x1)
 obtain ⟨old, hold⟩ : ∃ u, (c.map (Value.int .i64))[x1]? = some u := ⟨_, List.getElem?_eq_getElem (by rw [List.length_map, hr.1, ← hn]; exact hp)⟩
 rw [hold] at hcell
 have hb2 : x2 ≤ 1000000 := by have h1 := hr.inn hin; have h2 := (hsm.2 _ h1.1).2.1; have h3 := h1.2; simp only at h2 h3; omega
 clear hn hm hs hr hrow hin hk hs' hlt hsi hsm
 go_enter Tryz.func38, Tryz.ntmps38
 generalize hw2 : (W.alloc (.cells #[.int .i64 s1, .int .i64 ((s2 : Int) + 1)] 39)).alloc (.cells #[.int .i64 x1, .int .i64 ((x2 : Int) + 1)] 39) = w2 at *
 have q0 := cellOf hX0.out 0
 have q1 := cellOf hX0.out 1
 simp only [List.getElem?_toArray, List.getElem?_cons_zero, List.getElem?_cons_succ] at q0 q1
 go_wp2
 go_end0
 refine ⟨rfl, ?_, fun w0 h0 hG => (h0.trans' hX.out).st hG _⟩
 have := hR2.out.set x1 (.int .i64 ((x2 : Int))) (by omega)
 rw [← List.map_set] at this
 rw [HUP.out]
 first
  | exact this
  | (simpa using this)
set_option maxHeartbeats 8000000 in
set_option maxRecDepth 100000 in
theorem repairedP_calls (g : Nat) (eg : ∀ args w, (callFunc g args).run Tryz.prog w = .ok (.enter g args) w) (t : Tr) (F : List Int → Eid → List Int) (hF : validT t = true → FnS g t F)
  (hfix : ∀ c, RangeC t c → ∃ n, FixN t F n c (fixC t F c)) (hrange : ∀ c x, RangeC t c → missE t c = some x → RangeC t (F c x))
  (v vc : Value) (c : List Int) (w : World) (h : TrAt w v t) (hs : LooseTr t) (hc : Ints w vc c) (hcn : c.length ≤ 1000000) :
  Calls Tryz.prog 36 #[.agg #[v], vc, .func (.func g) #[] #[]] w fun e w' => IntsRes w w' e (repE t c) (if repE t c = 0 then fixC t F c else []) := by
 have HF := Lib.hid hF
 have HFX := Lib.hid hfix
 have HRA := Lib.hid hrange
 have HCC := Lib.hid hc
 have HMI := Lib.hid (fun W (hW : Ext w W) u d (hd : Ints W u d) (hv : validT t = true) (hr : RangeC t d) => missingP_calls v u t d W (h.ext hW) (valid_small hv) hv hd hr)
 have HRG := Lib.hid (fun (hv : validT t = true) W (hW : Ext w W) (hf : c.length = t.length) => inRangeP_calls v vc t c W (h.ext hW) (valid_small hv) (hc.ext hW) hf)
 have HCLN := Lib.hid (fun W (hW : Ext w W) => clone_cints vc c.length (c.map (Value.int .i64)) W (hc.ext hW).cells (by simp [Value.oneCell']) hcn)
 obtain ⟨ta, tc, rfl, htc⟩ := h.sh
 obtain ⟨ca, cc, rfl, hlc, _⟩ := hc
 have HX2 : Hid (Ext w ((w.alloc (.cells #[.slice ta t.length tc] 24)).alloc (.cells #[.slice ca c.length cc] 25))) := Lib.hid (by repeat (first | refine Ext.st ?_ (by first | exact Nat.le_refl _ | exact Nat.le_succ _ | assumption | omega) _ | refine Ext.al ?_ _ | refine Ext.dr ?_ | refine Ext.drN ?_ _ | exact Ext.rf _))
 have HSZ := Lib.hid (sizedP_calls (.slice ta t.length tc) (.slice (some ⟨w.heap.size + 1, 0, none⟩) 1 1) t [c] _ (h.ext HX2.out) hs (rows_one (heap_new_eq (by simp)) (HCC.out.ext HX2.out)) (by simp))
 have HX0 := Lib.hid (((Ext.rf _).al (.cells #[.slice ca c.length cc] 25)).hp (heap_alloc_new w (.cells #[.slice ta t.length tc] 24)))
 obtain ⟨ge, hge⟩ : ∃ E, repE t c = E := ⟨_, rfl⟩
 rw [hge]
 have HGE := Lib.hid hge
 obtain ⟨R, hR⟩ : ∃ R, (if ge = 0 then fixC t F c else []) = R := ⟨_, rfl⟩
 rw [hR]
 have HR0 := Lib.hid hR
 obtain ⟨sb, hsb⟩ : ∃ b, (validT t && [c].all (fitsB t)) = b := ⟨_, rfl⟩
 rw [hsb] at HSZ
 have HSB : Hid ((validT t && fitsB t c) = sb) := Lib.hid (by rw [← hsb]; simp)
 obtain ⟨rb, hrb⟩ : ∃ b, rangeB t c = b := ⟨_, rfl⟩
 rw [hrb] at HRG
 have HRB := Lib.hid hrb
 have htn := hs.1
 generalize hN : t.length = N at *
 generalize hM : c.length = M at *
 have HN := Lib.hid hN
 have HM := Lib.hid hM
 clear h hs hF hfix hrange hge hR hsb hrb hN hM
 go_enter Tryz.func36, Tryz.ntmps36
 go_wp2_with fail
 refine HSZ.out.mono ?_
 rintro e w2 ⟨rfl, hX⟩
 have HE2 := Lib.hid (HX2.out.trans' hX)
 have HY0 := Lib.hid (hX.hp HX0.out)
 have t0 := cellOf HY0.out 0
 simp only [List.getElem?_toArray, List.getElem?_cons_zero] at t0
 clear hX
 cases sb with
 | false =>
   have HG1 : Hid (ge = 1) := Lib.hid (by rw [← HGE.out]; unfold repE; rw [HSB.out]; rfl)
   have hR1 := HR0.out
   rw [HG1.out] at hR1
   obtain rfl := hR1
   go_wp2
   go_ret2
   rw [HG1.out]
   exact IntsRes.none HE2.out
 | true =>
 have HVF := Lib.hid (Bool.and_eq_true _ _ ▸ HSB.out : validT t = true ∧ fitsB t c = true)
 have HCL := Lib.hid (show c.length = t.length from of_decide_eq_true HVF.out.2)
 go_wp2_with fail
 clear t0
 refine (HRG.out HVF.out.1 _ HE2.out (by first | (rw [← HN.out, ← HM.out]; exact HCL.out) | (have := HCL.out; rw [HN.out, HM.out] at this; exact this))).mono ?_
 rintro e w3 ⟨rfl, hX⟩
 have HE3 := Lib.hid (HE2.out.trans' hX)
 have HZ0 := Lib.hid (hX.hp HY0.out)
 clear hX
 cases rb with
 | false =>
   have HG1 : Hid (ge = 2) := Lib.hid (by rw [← HGE.out]; unfold repE; rw [HSB.out, HRB.out]; rfl)
   have hR1 := HR0.out
   rw [HG1.out] at hR1
   obtain rfl := hR1
   go_wp2
   go_ret2
   rw [HG1.out]
   exact IntsRes.none HE3.out
 | true =>
 have HG1 : Hid (ge = 0) := Lib.hid (by rw [← HGE.out]; unfold repE; rw [HSB.out, HRB.out]; rfl)
 have HRZ : Hid (R = fixC t F c) := Lib.hid (by rw [← HR0.out, if_pos HG1.out])
 obtain rfl : M = N := by have := HCL.out; rw [HN.out, HM.out] at this; exact this
 have HRC := Lib.hid (show RangeC t c from ⟨HCL.out, HRB.out⟩)
 have HMP : Hid (0 < M) := Lib.hid (by have := ((shapeB_parts2.1 (validT_parts2.1 HVF.out.1).1)).1; rw [HN.out] at this; exact this)
 go_wp2_with fail
 refine (HCLN.out _ HE3.out).mono ?_
 rintro e w4 ⟨v8, rfl, hR8, hX⟩
 have HE4 := Lib.hid (HE3.out.trans' hX)
 have HE4' := Lib.hid hX
 have HU0 := Lib.hid (hX.hp HZ0.out)
 obtain ⟨G, O, cap, rfl, hG, _, _⟩ := hR8.shape HMP.out
 have HR8 := Lib.hid hR8
 have HGG := Lib.hid hG
 obtain ⟨n0, hn0⟩ := HFX.out c HRC.out
 have HFN := Lib.hid hn0
 clear hX hR8 hG hn0
 go_wp2
 go_loopg [] n0 (fun gh wr => ∃ (n : Nat) (d : List Int), n ≤ gh ∧ Aside (FixN t F n d (fixC t F c)) ∧ Aside (RangeC t d) ∧ Aside (Row wr w3.heap.size 3 1 (.slice (some ⟨G, O, none⟩) M cap) M (d.map (Value.int .i64))) ∧ Aside (wr.heap[w.heap.size]? = some (.cells #[.slice ta M tc] 24)) ∧ Aside (Ext w3 wr))
 case atStart => exact ⟨n0, c, Nat.le_refl _, HFN, HRC, HR8, HU0, HE4'⟩
 case round =>
  obtain ⟨n, d, hn, HFD, HRD, HRW, HUT, HEK⟩ := hrel
  have HEW := Lib.hid (HE3.out.trans' HEK.out)
  have t0 := cellOf HUT.out 0
  simp only [List.getElem?_toArray, List.getElem?_cons_zero] at t0
  have HDL := Lib.hid (show d.length = M from by rw [HRD.out.1, HN.out])
  have HDI := Lib.hid (show Ints wr (.slice (some ⟨G, O, none⟩) M cap) d from HRW.out.ints)
  have HCM := Lib.hid (HMI.out wr HEW.out _ d HDI.out HVF.out.1 HRD.out)
  unfold MissOut at HCM
  cases hmm : missE t d with
  | none =>
    have HMS : Hid (misS t d = none) := Lib.hid (by unfold misS; rw [hmm]; rfl)
    rw [hmm, HMS.out] at HCM
    simp only [eidA, eidB, Option.isSome_none] at HCM
    have HD : Hid (R = d) := Lib.hid (by
     rw [HRZ.out]
     cases n with
     | zero => exact HFD.out.2
     | succ n => obtain ⟨x, hx, _⟩ := HFD.out; rw [hmm] at hx; cases hx)
    clear hmm
    go_wp2_with fail
    refine HCM.out.mono ?_
    rintro e w5 ⟨rfl, hX5⟩
    go_wp2
    go_ret2
    rw [HG1.out, HD.out]
    refine ⟨_, rfl, ?_, ((HEW.out.trans' hX5).al _).al _⟩
    rw [HDL.out]
    exact (((HRW.out.ext hX5).al _).al _).mono HE3.out.sz
  | some x =>
    obtain ⟨hin, hk, s, hss, hlt, hsi⟩ := miss_parts hmm
    have HMS : Hid (misS t d = some s) := Lib.hid (by unfold misS; rw [hmm]; exact hss)
    rw [hmm, HMS.out] at HCM
    simp only [eidA, eidB, Option.isSome_some] at HCM
    have HMX := Lib.hid hmm
    have HSS := Lib.hid hss
    have HNX : Hid (∃ n', n = n' + 1 ∧ FixN t F n' (F d x) (fixC t F c)) := Lib.hid (by
     cases n with
     | zero => have := HFD.out.1; rw [hmm] at this; cases this
     | succ n => obtain ⟨y, hy, hz⟩ := HFD.out; rw [hmm] at hy; cases hy; exact ⟨n, rfl, hz⟩)
    have HCF := Lib.hid (fun W (hR : Row W w3.heap.size 3 1 (.slice (some ⟨G, O, none⟩) M cap) M (d.map (Value.int .i64))) => HF.out HVF.out.1 W w3.heap.size G O M cap d x s hmm hss HRD.out HN.out.symm hR)
    obtain ⟨x1, x2⟩ := x
    obtain ⟨s1, s2⟩ := s
    simp only at HCM HCF
    clear hmm hin hk hss hlt hsi
    go_wp2_with fail
    clear t0
    refine HCM.out.mono ?_
    rintro e w5 ⟨rfl, hX5⟩
    have HX6 := Lib.hid ((hX5.al (idO (s1 : Int) ((s2 : Int) + 1))).al (idO (x1 : Int) ((x2 : Int) + 1)))
    have HB0 := Lib.hid (((Ext.rf _).al (idO (x1 : Int) ((x2 : Int) + 1))).hp (heap_alloc_new w5 (idO (s1 : Int) ((s2 : Int) + 1))))
    have HB1 := Lib.hid (heap_new_eq (w := w5.alloc (idO (s1 : Int) ((s2 : Int) + 1))) (o := idO (x1 : Int) ((x2 : Int) + 1)) (b := w5.heap.size + 1) (by simp))
    have HRW6 := Lib.hid (HRW.out.ext HX6.out)
    clear hX5
    go_wp2_with fail
    refine (HCF.out _ HRW6.out).mono ?_
    rintro e w9 ⟨rfl, hR9, hX9⟩
    have HR9 := Lib.hid hR9
    have HX9 := Lib.hid (hX9 w3 (HEK.out.trans' HX6.out) HGG.out)
    clear hR9 hX9
    obtain ⟨n', rfl, hnx⟩ := HNX.out
    have HFN' := Lib.hid hnx
    clear hnx
    go_wp2
    go_roundg n'
    case measure => omega
    case rel => exact ⟨n', F d (x1, x2), Nat.le_refl _, HFN', (show RangeC _ _ from HRA.out d _ HRD.out HMX.out), HR9, HX9.out.hp HZ0.out, HX9.out⟩
set_option maxHeartbeats 2000000 in
theorem openP_calls (v vc : Value) (t : Tr) (c : List Int) (w : World) (h : TrAt w v t) (hs : LooseTr t) (hc : Ints w vc c) (hcn : c.length ≤ 1000000) :
  Calls Tryz.prog 17 #[.agg #[v], vc] w fun e w' => IntsRes w w' e (repE t c) (if repE t c = 0 then openC t c else []) := by
 have HCB := Lib.hid (fun W (hW : Ext w W) => repairedP_calls 38 enters_38 t (dnS t) (fun hv => open1_calls t (valid_small hv)) (fun d hd => openC_fix hd) (fun d x hd hx => dnS_range hd hx) v vc c W (h.ext hW) hs (hc.ext hW) hcn)
 obtain ⟨ta, tc, rfl, htc⟩ := h.sh
 obtain ⟨ca, cc, rfl, hlc, _⟩ := hc
 have HE1 := Lib.hid ((Ext.rf w).al (.cells #[.slice ta t.length tc] 24))
 show Calls _ _ _ _ fun e w' => IntsRes w w' e (repE t c) (if repE t c = 0 then fixC t (dnS t) c else [])
 generalize (if repE t c = 0 then fixC t (dnS t) c else []) = R at *
 generalize repE t c = ge at *
 generalize t.length = N at *
 generalize c.length = n at *
 clear h hs
 go_enter Tryz.func17, Tryz.ntmps17
 go_wp2_with fail
 refine (HCB.out _ HE1.out).mono ?_
 rintro e w2 ⟨u, rfl, hR, hX⟩
 have HR := Lib.hid (hR.mono HE1.out.sz)
 obtain ⟨ra, rc, rfl, _⟩ := hR.any
 generalize hrl : R.length = rl at *
 have HRL := Lib.hid hrl
 have HX := Lib.hid (HE1.out.trans' hX)
 clear hR hX hrl
 go_wp2
 go_ret2
 exact ⟨_, rfl, by rw [HRL.out]; exact HR.out, HX.out⟩
end Go.Proofs.YtbpdbikphlhaiaaGreatDoor
namespace Go.Proofs.YtbpdbikphlhaiaaGreatDoor
open Go.RowKit
set_option linter.unusedVariables false
attribute [local go_sem ↓] Go.wp_at_zero Go.wp_at_succ
theorem enters_37 : ∀ args w, (callFunc 37 args).run Tryz.prog w = .ok (.enter 37 args) w := enters_of Tryz.func37 (by kernel_rfl) rfl
set_option maxHeartbeats 4000000 in
theorem close1_calls (t : Tr) (hsm : SmallTr t) : FnS 37 t (upS t) := fun W base G O n cap c x s hm hs hr hn hrow => by
 obtain ⟨hin, hk, s', hs', hlt, hsi⟩ := miss_parts hm
 obtain rfl : s = s' := Option.some.inj (hs.symm.trans hs')
 have hp : s.1 < n := by rw [hn]; exact hsi.1
 have hX := Lib.hid (show Ext W ((W.alloc (.cells #[.int .i64 s.1, .int .i64 ((s.2 : Int) + 1)] 39)).alloc (.cells #[.int .i64 x.1, .int .i64 ((x.2 : Int) + 1)] 39)) from ((Ext.rf W).al _).al _)
 have hX0 := Lib.hid (((Ext.rf _).al (.cells #[.int .i64 x.1, .int .i64 ((x.2 : Int) + 1)] 39)).hp (heap_alloc_new W (.cells #[.int .i64 s.1, .int .i64 ((s.2 : Int) + 1)] 39)))
 have hR2 := Lib.hid (hrow.ext hX.out)
 have HUP : Hid (upS t c x = c.set s.1 ((s.2 : Int) + 1)) := Lib.hid (upS_eq hs)
 obtain ⟨s1, s2⟩ := s
 obtain ⟨x1, x2⟩ := x
 simp only at *
 have hz1 : (0 : Int) ≤ ((s1 : Nat) : Int) := by omega
 have hz2 : ((s1 : Nat) : Int) < (n : Int) := by omega
 have hcell := hR2.out.cell s1 (by omega)
 have hfree := hR2.out.free (O + s1)
 obtain ⟨old, hold⟩ : ∃ u, (c.map (Value.int .i64))[s1]? = some u := ⟨_, List.getElem?_eq_getElem (by rw [List.length_map, hr.1, ← hn]; exact hp)⟩
 rw [hold] at hcell
 have hb2 : x2 ≤ 1000000 := by have h1 := hr.inn hin; have h2 := (hsm.2 _ h1.1).2.1; have h3 := h1.2; simp only at h2 h3; omega
 clear hn hm hs hr hrow hin hk hs' hlt hsi hsm
 go_enter Tryz.func37, Tryz.ntmps37
 generalize hw2 : (W.alloc (.cells #[.int .i64 s1, .int .i64 ((s2 : Int) + 1)] 39)).alloc (.cells #[.int .i64 x1, .int .i64 ((x2 : Int) + 1)] 39) = w2 at *
 have q0 := cellOf hX0.out 0
 have q1 := cellOf hX0.out 1
 simp only [List.getElem?_toArray, List.getElem?_cons_zero, List.getElem?_cons_succ] at q0 q1
 go_wp2
 go_end0
 refine ⟨rfl, ?_, fun w0 h0 hG => (h0.trans' hX.out).st hG _⟩
 have := hR2.out.set s1 (.int .i64 ((s2 : Int) + 1)) (by omega)
 rw [← List.map_set] at this
 rw [HUP.out]
 first
  | exact this
  | (simpa using this)
set_option maxHeartbeats 2000000 in
theorem closeP_calls (v vc : Value) (t : Tr) (c : List Int) (w : World) (h : TrAt w v t) (hs : LooseTr t) (hc : Ints w vc c) (hcn : c.length ≤ 1000000) :
  Calls Tryz.prog 15 #[.agg #[v], vc] w fun e w' => IntsRes w w' e (repE t c) (if repE t c = 0 then closeC t c else []) := by
 have HCB := Lib.hid (fun W (hW : Ext w W) => repairedP_calls 37 enters_37 t (upS t) (fun hv => close1_calls t (valid_small hv)) (fun d hd => closeC_fix hd) (fun d x hd hx => upS_range hd hx) v vc c W (h.ext hW) hs (hc.ext hW) hcn)
 obtain ⟨ta, tc, rfl, htc⟩ := h.sh
 obtain ⟨ca, cc, rfl, hlc, _⟩ := hc
 have HE1 := Lib.hid ((Ext.rf w).al (.cells #[.slice ta t.length tc] 24))
 show Calls _ _ _ _ fun e w' => IntsRes w w' e (repE t c) (if repE t c = 0 then fixC t (upS t) c else [])
 generalize (if repE t c = 0 then fixC t (upS t) c else []) = R at *
 generalize repE t c = ge at *
 generalize t.length = N at *
 generalize c.length = n at *
 clear h hs
 go_enter Tryz.func15, Tryz.ntmps15
 go_wp2_with fail
 refine (HCB.out _ HE1.out).mono ?_
 rintro e w2 ⟨u, rfl, hR, hX⟩
 have HR := Lib.hid (hR.mono HE1.out.sz)
 obtain ⟨ra, rc, rfl, _⟩ := hR.any
 generalize hrl : R.length = rl at *
 have HRL := Lib.hid hrl
 have HX := Lib.hid (HE1.out.trans' hX)
 clear hR hX hrl
 go_wp2
 go_ret2
 exact ⟨_, rfl, by rw [HRL.out]; exact HR.out, HX.out⟩
end Go.Proofs.YtbpdbikphlhaiaaGreatDoor
namespace Go.Proofs.YtbpdbikphlhaiaaGreatDoor
open Go.RowKit
set_option linter.unusedVariables false
attribute [local go_sem ↓] Go.wp_at_zero Go.wp_at_succ
def enC (t : Tr) (c : List Int) (p : Nat) : Bool := decide (c[p]! < (t[p]!.events.length : Int)) && sentB t c (p, c[p]!.toNat)
def enTo (t : Tr) (c : List Int) (p : Nat) : List Int := ((List.range p).filter (enC t c)).map fun (q : Nat) => (q : Int)
def enabledC (t : Tr) (c : List Int) : List Int := enTo t c c.length
theorem enTo_yes {t : Tr} {c : List Int} {p : Nat} (h : enC t c p = true) : enTo t c (p + 1) = enTo t c p ++ [(p : Int)] := by
 unfold enTo; rw [List.range_succ, List.filter_append]; simp [h]
theorem enTo_no {t : Tr} {c : List Int} {p : Nat} (h : enC t c p = false) : enTo t c (p + 1) = enTo t c p := by
 unfold enTo; rw [List.range_succ, List.filter_append]; simp [h]
theorem enTo_len (t : Tr) (c : List Int) (p : Nat) : (enTo t c p).length ≤ p := by
 unfold enTo; rw [List.length_map]; exact Nat.le_trans (List.length_filter_le _ _) (by simp)
set_option maxHeartbeats 8000000 in
set_option maxRecDepth 100000 in
theorem enabledP1_calls (v vc : Value) (t : Tr) (c : List Int) (p : Nat) (w : World) (h : TrAt w v t) (hs : SmallTr t) (hv : validT t = true) (hc : Ints w vc c) (hr : RangeC t c) (hp : p < t.length) (hlt : c[p]! < (t[p]!.events.length : Int)) :
  Calls Tryz.prog 39 #[.agg #[v], vc, .int .i64 p] w fun e w' => e = .returned (.bool (sentB t c (p, c[p]!.toNat))) ∧ Ext w w' := by
 have HC := Lib.hid hc
 obtain ⟨i, hci⟩ : ∃ i : Nat, c[p]! = (i : Int) := ⟨c[p]!.toNat, by have := hr.at hp; omega⟩
 rw [hci] at hlt ⊢
 rw [Int.toNat_natCast]
 have hi : i < t[p]!.events.length := by omega
 have hx : Inn t (p, i) := ⟨hp, hi⟩
 have HSD := Lib.hid (fun (hk : (ev t (p, i)).kind = 3) => valid_send hv hx hk)
 have HSE : Hid (∀ W, Ext w W → ∀ m, Calls Tryz.prog 60 #[.agg #[v], .int .i64 m] W fun e w' => FndOut t 2 m W w' e) := Lib.hid (fun W hW m => senderP_calls v t m W (h.ext hW) hs)
 have HFV : Hid (∀ m, fndO t 2 m = findE t 2 m) := Lib.hid (fun m => by unfold fndO; rw [if_pos hv])
 obtain ⟨sb, hsb⟩ : ∃ b, sentB t c (p, i) = b := ⟨_, rfl⟩
 rw [hsb]
 have HSB := Lib.hid hsb
 have HEVE : Hid (ev t (p, i) = t[p]!.events[i]!) := Lib.hid rfl
 obtain ⟨B, O, C, vv, ve, rfl, hlC, hB, hn0, hv0, he0, hV, hE0⟩ := proc_at h p hp
 obtain ⟨EB, EO, EC, va, rfl, hlE, hEB, k0, k1, k2, k3, k4, ha⟩ := event_at hE0 i hi
 obtain ⟨va1, va2, rfl, huc⟩ := ha.sh
 obtain ⟨cb, co, cc, rfl, hlc, hcb, hcp⟩ := hc.at1 p (by rw [hr.1]; exact hp)
 have hn := hs.1
 have hen := (hs.2 p hp).2.1
 have HCL := Lib.hid hr.1
 rw [hr.1] at hlc ⊢
 rw [hci] at hcp
 generalize hxx : t[p]! = x at *
 generalize hev : x.events[i]! = y at *
 generalize hln : t.length = n at *
 generalize hne : x.events.length = ne at *
 generalize hna : y.asg.length = nb at *
 have HLN := Lib.hid hln
 have HX0 := Lib.hid (heap_alloc_new w (.cells #[.slice (some ⟨B, O, none⟩) n C] 24))
 have HE1 := Lib.hid ((Ext.rf w).al (.cells #[.slice (some ⟨B, O, none⟩) n C] 24))
 have hpz : (0 : Int) ≤ (p : Int) := by omega
 have hpi : (p : Int) < (n : Int) := by omega
 have hiz : (0 : Int) ≤ (i : Int) := by omega
 have hii : (i : Int) < (ne : Int) := by omega
 have he1 := HE1.out.cl he0
 have hc1 := HE1.out.cl hcp
 have m0 := HE1.out.cl k0
 have m1 := HE1.out.cl k1
 have m2 := HE1.out.cl k2
 have m3 := HE1.out.cl k3
 have m4 := HE1.out.cl k4
 have HCI := Lib.hid hci
 clear h hs hv hx hp hi hn0 hv0 he0 hV hE0 ha k0 k1 k2 k3 k4 hxx hev hln hne hna hsb hr hci hcp hlt hc
 go_enter Tryz.func39, Tryz.ntmps39
 obtain ⟨ck, hck⟩ : ∃ b, (y.kind != 3) = b := ⟨_, rfl⟩
 have HCK := Lib.hid hck
 generalize hw1 : w.alloc (.cells #[.slice (some ⟨B, O, none⟩) n C] 24) = w1 at *
 have t0 := cellOf HX0.out 0
 simp only [List.getElem?_toArray, List.getElem?_cons_zero] at t0
 have l1 : w.heap.size < w1.heap.size := World.block_lt_of_cell? w1 _ t0
 have l2 : w.heap.size ≠ w1.heap.size := by omega
 have l3 : B < w1.heap.size := World.block_lt_of_cell? w1 _ he1
 have l4 : B ≠ w1.heap.size := by omega
 have l5 : EB < w1.heap.size := World.block_lt_of_cell? w1 _ m0
 have l6 : EB ≠ w1.heap.size := by omega
 have l7 : cb < w1.heap.size := World.block_lt_of_cell? w1 _ hc1
 have l8 : cb ≠ w1.heap.size := by omega
 go_wp2
 go_region
 have HB6 := Lib.hid (show (w1.alloc (e5 (.int .i64 y.kind) (.int .i64 y.peer) (.int .i64 y.msg) (.int .i64 y.time) (.slice va1 nb va2))).drew.heap[w1.heap.size]? = some (e5 (.int .i64 y.kind) (.int .i64 y.peer) (.int .i64 y.msg) (.int .i64 y.time) (.slice va1 nb va2)) from heap_alloc_new w1 _)
 have HXT := Lib.hid (((Ext.rf w1).al (e5 (.int .i64 y.kind) (.int .i64 y.peer) (.int .i64 y.msg) (.int .i64 y.time) (.slice va1 nb va2))).dr)
 generalize (w1.alloc (.cells #[.int .i64 y.kind, .int .i64 y.peer, .int .i64 y.msg, .int .i64 y.time, .slice va1 nb va2] 58)).drew = w6 at *
 clear t0 l1 l2 l3 l4 l5 l6 l7 l8 he1 hc1 m0 m1 m2 m3 m4
 have y0 := cellOf HB6.out 0
 have y2 := cellOf HB6.out 2
 simp only [List.getElem?_toArray, List.getElem?_cons_zero, List.getElem?_cons_succ] at y0 y2
 cases ck with
 | true =>
   have HF : Hid (sb = true) := Lib.hid (by rw [← HSB.out]; exact sentB_other (by rw [HEVE.out]; have := HCK.out; simpa using this))
   go_wp2
   go_ret
   exact ⟨by rw [HF.out]; rfl, HE1.out.trans' HXT.out⟩
 | false =>
   have HK3 := Lib.hid (show y.kind = 3 from by have := HCK.out; simpa using this)
   obtain ⟨s, hs⟩ := HSD.out (by rw [HEVE.out]; exact HK3.out)
   have HFS := Lib.hid hs
   rw [HEVE.out] at hs
   have HSN := Lib.hid (findE_some hs).1
   have HFW := Lib.hid (HSE.out _ (HE1.out.trans' HXT.out) y.msg)
   unfold FndOut at HFW
   rw [HFV.out, hs] at HFW
   simp only [eidA, eidB, Option.isSome_some] at HFW
   clear hs
   obtain ⟨s1, s2⟩ := s
   simp only at HFW HFS HSN
   have hs1 : s1 < n := by have := HSN.out.1; rw [HLN.out] at this; exact this
   obtain ⟨cb', co', hcc, _, hcs⟩ := ints_at HC.out s1 (by rw [HCL.out]; exact hs1)
   simp only [Option.some.injEq, Addr.mk.injEq, and_true] at hcc
   obtain ⟨rfl, rfl⟩ := hcc
   have HCS := Lib.hid hcs
   have HSR := Lib.hid (sentB_recv (c := c) (by rw [HEVE.out]; exact HK3.out) HFS.out)
   simp only at HSR
   have HX6 := Lib.hid (HXT.out.hp HX0.out)
   have t6 := cellOf HX6.out 0
   simp only [List.getElem?_toArray, List.getElem?_cons_zero] at t6
   clear hcs
   go_wp2_with fail
   clear t6 y0 y2
   refine HFW.out.mono ?_
   rintro e w7 ⟨rfl, hE7⟩
   have HB8 := Lib.hid (heap_alloc_new w7 (idO (s1 : Int) ((s2 : Int) + 1)))
   have HE8 := Lib.hid ((HE1.out.trans' (HXT.out.trans' hE7)).al (idO (s1 : Int) ((s2 : Int) + 1)))
   have dsp := HE8.out.cl HCS.out
   have s0 := cellOf HB8.out 0
   have s1c := cellOf HB8.out 1
   simp only [List.getElem?_toArray, List.getElem?_cons_zero, List.getElem?_cons_succ] at s0 s1c
   have hspz : (0 : Int) ≤ (s1 : Int) := by omega
   have hspi : (s1 : Int) < (n : Int) := by omega
   generalize hdg : c[s1]! = dg at *
   clear hdg hE7 HB6
   go_wp2
   generalize hw8 : w7.alloc (idO (s1 : Int) ((s2 : Int) + 1)) = w8 at *
   clear hw8
   obtain ⟨r, hr⟩ : ∃ r, decide ((s2 : Int) + 1 ≤ dg) = r := ⟨_, rfl⟩
   have HF : Hid (sb = r) := Lib.hid (by rw [← HSB.out, HSR.out, hr])
   go_quiet (fail)
   go_wp2
   go_ret
   exact ⟨by rw [HF.out]; rfl, HE8.out.drN _⟩
set_option maxHeartbeats 8000000 in
set_option maxRecDepth 100000 in
theorem enabledP_calls (v vc : Value) (t : Tr) (c : List Int) (w : World) (h : TrAt w v t) (hs : LooseTr t) (hc : Ints w vc c) :
  Calls Tryz.prog 18 #[.agg #[v], vc] w fun e w' => IntsRes w w' e (givenE t [c] []) (if givenE t [c] [] = 0 then enabledC t c else []) := by
 have HCC := Lib.hid hc
 have HT := Lib.hid h
 have HS := Lib.hid hs
 obtain ⟨ii, hii, iz0, iz1, iz2⟩ := info_parts info_int3
 have HEN := Lib.hid (fun W (hW : Ext w W) p hv hr hp hlt => enabledP1_calls v vc t c p W (h.ext hW) (valid_small hv) hv (hc.ext hW) hr hp hlt)
 obtain ⟨ta, tc, rfl, htc⟩ := h.sh
 obtain ⟨ca, cc, rfl, hlc, _⟩ := hc
 have HX2 : Hid (Ext w ((w.alloc (.cells #[.slice ta t.length tc] 24)).alloc (.cells #[.slice ca c.length cc] 25))) := Lib.hid (by repeat (first | refine Ext.st ?_ (by first | exact Nat.le_refl _ | exact Nat.le_succ _ | assumption | omega) _ | refine Ext.al ?_ _ | refine Ext.dr ?_ | refine Ext.drN ?_ _ | exact Ext.rf _))
 have HX0 := Lib.hid (((Ext.rf _).al (.cells #[.slice ca c.length cc] 25)).hp (heap_alloc_new w (.cells #[.slice ta t.length tc] 24)))
 have HG := Lib.hid (givenP_calls (.slice ta t.length tc) (.slice (some ⟨w.heap.size + 1, 0, none⟩) 1 1) (.slice none 0 0) t [c] [] _ (h.ext HX2.out) hs (rows_one (heap_new_eq (by simp)) (HCC.out.ext HX2.out)) (by simp) (ints_none _) (by simp))
 obtain ⟨ge, hge⟩ : ∃ E, givenE t [c] [] = E := ⟨_, rfl⟩
 rw [hge] at HG ⊢
 have HOK : Hid (ge = 0 → validT t = true ∧ ConsC t c) := Lib.hid (fun h0 => consB_iff.1 ((givenE_one t c).1 (hge.trans h0)))
 obtain ⟨R, hR⟩ : ∃ R, (if ge = 0 then enabledC t c else []) = R := ⟨_, rfl⟩
 rw [hR]
 have HR0 := Lib.hid hR
 have hsm := hs.1
 generalize hN : t.length = N at *
 generalize hM : c.length = M at *
 have HN := Lib.hid hN
 have HM := Lib.hid hM
 clear h hs hge hR hN hM
 go_enter Tryz.func18, Tryz.ntmps18
 go_wp2_with fail
 refine HG.out.mono ?_
 rintro e w2 ⟨rfl, hX⟩
 have HE2 := Lib.hid (HX2.out.trans' hX)
 have HY0 := Lib.hid (hX.hp HX0.out)
 clear hX
 by_cases h0 : ge = 0
 case neg =>
  have c9 : (ge != 0) = true := by simp [h0]
  obtain rfl := HR0.out.symm.trans (if_neg h0)
  clear h0
  go_wp2
  go_ret2
  exact IntsRes.none HE2.out
 subst h0
 have HRZ := Lib.hid (HR0.out.symm.trans (if_pos rfl))
 have HVC := Lib.hid (HOK.out rfl)
 obtain rfl : M = N := by have := HVC.out.2.1.1; rw [HN.out, HM.out] at this; exact this
 go_wp2
 go_loopg [7, 18] M (fun g s7 s18 wr => ∃ p : Nat, p ≤ M ∧ M - p ≤ g ∧ s18 = .int .i64 p ∧ Aside (Row wr w2.heap.size 3 1 s7 (enTo t c p).length ((enTo t c p).map (Value.int .i64))) ∧ Aside (Ext w2 wr))
 case atStart => exact ⟨0, Nat.zero_le _, by omega, rfl, (show Row _ _ _ _ _ _ _ from Row.mkNil _ _ _ _), Ext.rf _⟩
 case round =>
  obtain ⟨p, hp, hg, rfl, HR, HEK⟩ := hrel
  have HEW := Lib.hid (HE2.out.trans' HEK.out)
  have HZ0 := Lib.hid (HEK.out.hp HY0.out)
  have t0 := cellOf HZ0.out 0
  simp only [List.getElem?_toArray, List.getElem?_cons_zero] at t0
  by_cases hlt : p < M
  ·have hltz : (p : Int) < (M : Int) := by omega
   have hpz : (0 : Int) ≤ (p : Int) := by omega
   have HPL := Lib.hid (show p < t.length from by rw [HN.out]; exact hlt)
   obtain ⟨B, O, C, vv, ve, hve, hlC, hB, hn0, hv0, he0, hV, hE0⟩ := proc_at HT.out p HPL.out
   simp only [Value.slice.injEq] at hve
   obtain ⟨rfl, hzz, rfl⟩ := hve
   obtain ⟨ea, ec, rfl, hec⟩ := hE0.sh
   obtain ⟨cb, co, rfl, hcb, hcp⟩ := ints_at HCC.out p (by rw [HM.out]; exact hlt)
   have he1 := HEW.out.cl he0
   have hc1 := HEW.out.cl hcp
   have hen := ((valid_small HVC.out.1).2 p HPL.out).2.1
   have HNO : Hid (¬ c[p]! < (t[p]!.events.length : Int) → enC t c p = false) := Lib.hid (fun hno => by unfold enC; rw [decide_eq_false hno]; rfl)
   have HYE : Hid (c[p]! < (t[p]!.events.length : Int) → enC t c p = sentB t c (p, c[p]!.toNat)) := Lib.hid (fun hyes => by unfold enC; rw [decide_eq_true hyes]; simp)
   have HCE := Lib.hid (fun (hyes : c[p]! < (t[p]!.events.length : Int)) W (hW : Ext w W) => HEN.out W hW p HVC.out.1 HVC.out.2.1 (by first | exact hlt | exact HPL.out) hyes)
   generalize sentB t c (p, c[p]!.toNat) = sb at *
   generalize hne : t[p]!.events.length = ne at *
   generalize hk : c[p]! = k at *
   have hel := enTo_len t c p
   have hsz := HEK.out.sz
   clear hn0 hv0 hV hE0 hzz hne he0 hk hcp
   by_cases hkn : k < (ne : Int)
   ·have d1 : decide (k < (ne : Int)) = true := decide_eq_true hkn
    have HEC := Lib.hid (HYE.out hkn)
    have HCW := Lib.hid (HCE.out hkn)
    clear hkn
    go_upto_region 8 with (fail)
    go_cut [38] (fun s38 wx => s38 = .bool sb ∧ Aside (Ext wr wx))
    case first =>
     go_wp2
     go_region_with (refine (HCW.out _ (by first | exact HEW.out | exact HEW.out.dr | exact HEW.out.dr.dr | exact HEW.out.dr.dr.dr)).mono ?_; rintro e w9 ⟨rfl, hX9⟩)
     all_goals
      have HX9 := Lib.hid hX9
      clear hX9
      go_wp2
      go_meet
      exact ⟨rfl, (show Ext wr _ from by first | exact HX9.out | exact (Ext.rf wr).dr.trans' HX9.out | exact HX9.out.dr | exact ((Ext.rf wr).dr.trans' HX9.out).dr)⟩
    case rest =>
     obtain ⟨rfl, HXW⟩ := hcut
     have HEK3 := Lib.hid (HEK.out.trans' HXW.out)
     have HR3 := Lib.hid (HR.out.ext HXW.out)
     have hsz3 := HEK3.out.sz
     clear t0 he1 hc1 d1
     cases sb with
     | false =>
       go_wp2
       go_roundg (M - (p + 1))
       case measure => omega
       case rel => exact ⟨p + 1, by omega, by omega, by go_num, (show Row _ _ _ _ _ _ _ from by rw [enTo_no HEC.out]; exact HR3.out), (show Ext _ _ from HEK3.out)⟩
     | true =>
       generalize hell : (enTo t c p).length = ell at *
       have HELL := Lib.hid hell
       clear hell
       go_wp2_with ((at_builtin; go_loud (refine wpList_append_one rfl _ _ 25 rfl w2.heap.size 3 ii (.int .i64 0) 1 8 Tryz.underlying25 hii iz0 iz1 iz2 rfl (by decide) _ ell _ rfl (HR3.out.al _) _ 1 [.int .i64 p] rfl rfl ⟨_, heap_alloc_new _ _⟩ (by simp [Value.oneCell']) (by unfold maxLen; omega) (by omega) (by simp; omega) ?_; intro v8 w8 hown8 hgrow8 hblk8; have HOWN := Lib.hid hown8; have HX8 := Lib.hid ((HEK3.out.al _).gr hgrow8 (fun q hq => (HR3.out.lt q hq).1)); clear hown8 hgrow8 hblk8)))
       go_roundg (M - (p + 1))
       case measure => omega
       case rel =>
        refine ⟨p + 1, by omega, by omega, by go_num, (show Row _ _ _ _ _ _ _ from ?_), (show Ext _ _ from HX8.out)⟩
        rw [enTo_yes HEC.out, List.length_append, List.map_append, HELL.out]
        exact HOWN.out
   ·have d1 : decide (k < (ne : Int)) = false := decide_eq_false hkn
    have HEC := Lib.hid (HNO.out hkn)
    clear hkn
    go_wp2
    go_quiet (fail)
    go_wp2
    go_roundg (M - (p + 1))
    case measure => omega
    case rel => exact ⟨p + 1, by omega, by omega, by go_num, (show Row _ _ _ _ _ _ _ from by rw [enTo_no HEC.out]; exact HR.out.ext ((Ext.rf wr).drN _)), (show Ext _ _ from HEK.out.drN _)⟩
  ·have hltz : ¬ (p : Int) < (M : Int) := by omega
   obtain rfl : M = p := by omega
   go_wp2
   go_ret2
   refine ⟨_, rfl, ?_, HEW.out⟩
   rw [HRZ.out]
   show Row _ _ _ _ _ (enTo t c c.length).length _
   unfold enabledC
   rw [HM.out]
   exact HR.out.mono HE2.out.sz
end Go.Proofs.YtbpdbikphlhaiaaGreatDoor
namespace Go.Proofs.YtbpdbikphlhaiaaGreatDoor
open Go.RowKit
set_option linter.unusedVariables false
theorem ex_small : SmallTr exT := by
 refine ⟨by decide, fun p hp => ?_⟩
 have hp : p < 2 := hp
 rcases two_at hp with rfl | rfl
 ·refine ⟨by decide, by decide, fun i hi => ?_⟩
  have hi : i < 2 := hi
  rcases two_at hi with rfl | rfl <;> decide
 ·refine ⟨by decide, by decide, fun i hi => ?_⟩
  have hi : i < 2 := hi
  rcases two_at hi with rfl | rfl <;> decide
theorem ex_shape : shapeB exT = true := by decide +kernel
theorem ex_pair : pairB exT = true := by decide +kernel
theorem ex_dir {y x : Eid} (h : Dir exT y x) : 10 * y.1 + y.2 < 10 * x.1 + x.2 := by
 obtain ⟨⟨h1, h2⟩, h⟩ := h
 obtain ⟨p, i⟩ := x
 obtain ⟨q, j⟩ := y
 simp only at h1 h2 h ⊢
 rcases h with ⟨rfl, rfl⟩ | ⟨hk, hf⟩
 ·omega
 ·have h1 : p < 2 := h1
  rcases two_at h1 with rfl | rfl
  ·have h2 : i < 2 := h2
   rcases two_at h2 with rfl | rfl
   ·exact absurd hk (by decide)
   ·exact absurd hk (by decide)
  ·have h2 : i < 2 := h2
   rcases two_at h2 with rfl | rfl
   ·exact absurd hk (by decide)
   ·have e : findE exT 2 (ev exT (1, 1)).msg = some (0, 0) := by decide +kernel
    rw [e] at hf
    cases hf
    omega
theorem ex_cyc : ¬ Cyc exT := by
 rintro ⟨x, hx⟩
 have key : ∀ {y x : Eid}, Relation.TransGen (Dir exT) y x → 10 * y.1 + y.2 < 10 * x.1 + x.2 := by
  intro y x h
  induction h with
  | single h => exact ex_dir h
  | tail _ h ih => exact Nat.lt_trans ih (ex_dir h)
 exact Nat.lt_irrefl _ (key hx)
theorem ex_valid : validT exT = true := validT_parts2.2 ⟨ex_shape, ex_pair, ex_cyc⟩
theorem ex_close : repE exT [0, 2] = 0 ∧ closeC exT [0, 2] = [1, 2] := by
 refine ⟨?_, ?_⟩
 ·unfold repE; rw [ex_valid]; decide +kernel
 ·unfold closeC
  exact fixC_eq (n := 1) ⟨(1, 1), by decide +kernel, by decide +kernel, by decide +kernel⟩
theorem ex_open : openC exT [0, 2] = [0, 1] := by
 unfold openC
 exact fixC_eq (n := 1) ⟨(1, 1), by decide +kernel, by decide +kernel, by decide +kernel⟩
theorem ex_given1 : givenE exT [[0, 1]] [] = 0 := by unfold givenE; rw [ex_valid]; decide +kernel
theorem ex_given2 : givenE exT [[1, 1]] [0, 1] = 0 := by unfold givenE; rw [ex_valid]; decide +kernel
theorem ex_enabled : enabledC exT [0, 1] = [0] := by decide +kernel
theorem ex_under : underC exT [1, 1] (0 : Int).toNat 1 = [1] := by decide +kernel
end Go.Proofs.YtbpdbikphlhaiaaGreatDoor
namespace Go.Proofs.YtbpdbikphlhaiaaGreatDoor
open Go.RowKit
set_option linter.unusedVariables false
theorem beq_at (l m : List Int) (h : l.length = m.length) : (∃ k, k < l.length ∧ l[k]! ≠ m[k]!) → (l == m) = false := by
 rintro ⟨k, hk, hne⟩
 rw [beq_eq_false_iff_ne]
 rintro rfl
 exact hne rfl
theorem beq_all (l m : List Int) (h : l.length = m.length) (hall : ∀ k, k < l.length → l[k]! = m[k]!) : (l == m) = true := by
 rw [beq_iff_eq]
 refine List.ext_getElem h fun i h1 h2 => ?_
 have := hall i h1
 rwa [getElem!_pos l i h1, getElem!_pos m i h2] at this
theorem beq_len (l m : List Int) (h : l.length ≠ m.length) : (l == m) = false := by
 rw [beq_eq_false_iff_ne]
 rintro rfl
 exact h rfl
set_option maxHeartbeats 400000 in
theorem equal_int (u v : Value) (l m : List Int) (w : World) (hu : Ints w u l) (hv : Ints w v m) (hn : l.length ≤ 1000000) (hm : m.length ≤ 1000000) :
  Calls Tryz.prog 20 #[u, v] w fun e w' => e = .returned (.bool (l == m)) ∧ Ext w w' := by
 obtain ⟨a, c, rfl, _, hu⟩ := hu
 obtain ⟨a2, c2, rfl, _, hv⟩ := hv
 have HU := Lib.hid hu; clear hu
 have HV := Lib.hid hv; clear hv
 generalize hln : l.length = n at hn
 generalize hlm : m.length = n2 at hm
 have HL := Lib.hid hln; clear hln
 have HM := Lib.hid hlm; clear hlm
 by_cases hne : n = n2
 ·subst hne
  go_enter Tryz.func20, Tryz.ntmps20
  go_wp2
  go_loopg [5, 13] n (fun g _ s13 wr => ∃ k : Nat, k ≤ n ∧ n - k ≤ g ∧ s13 = .int .i64 k ∧ Ext w wr ∧ Aside (∀ j, j < k → l[j]! = m[j]!))
  case atStart => exact ⟨0, Nat.zero_le _, by omega, rfl, Ext.rf _, (fun j hj => absurd hj (Nat.not_lt_zero _))⟩
  case round =>
   obtain ⟨k, hk, hg, rfl, he, A⟩ := hrel
   have HE := Lib.hid he; clear he
   by_cases hlt : k < n
   ·obtain ⟨b, off, rfl, hb, hc⟩ := HU.out (by intro e; have := HL.out; simp [e] at this; omega)
    obtain ⟨b2, off2, rfl, hb2, hc2⟩ := HV.out (by intro e; have := HM.out; simp [e] at this; omega)
    have hcell : wr.cell? ⟨b, off + k, none⟩ = some (.int .i64 l[k]!) := HE.out.cl (hc k (by rw [HL.out]; exact hlt))
    have hcell2 : wr.cell? ⟨b2, off2 + k, none⟩ = some (.int .i64 m[k]!) := HE.out.cl (hc2 k (by rw [HM.out]; exact hlt))
    have hltz : (k : Int) < (n : Int) := by omega
    have hkz : (0 : Int) ≤ (k : Int) := by omega
    clear hc HV hc2 HU
    generalize hy : l[k]! = y at hcell
    generalize hz : m[k]! = z at hcell2
    have B := Lib.hid hy
    have C := Lib.hid hz
    clear hy hz
    cases hq : (y != z) with
    | true =>
      go_wp2
      go_quiet (fail)
      go_wp2
      go_ret
      exact ⟨by rw [beq_at l m (by rw [HL.out, HM.out]) ⟨k, by rw [HL.out]; exact hlt, by rw [B.out, C.out]; simpa using hq⟩]; rfl, HE.out.drN _⟩
    | false =>
      go_wp2
      go_quiet (fail)
      go_wp2
      go_roundg (n - (k + 1))
      case measure => omega
      case rel =>
       refine ⟨k + 1, by omega, by omega, by go_num, HE.out.drN _, (show Aside _ from fun j hj => ?_)⟩
       by_cases e : j = k
       ·subst e
        rw [B.out, C.out]; simpa using hq
       ·exact A.out j (by omega)
   ·have hltz : ¬ (k : Int) < (n : Int) := by omega
    go_wp2
    go_ret
    exact ⟨by rw [beq_all l m (by rw [HL.out, HM.out]) (fun j hj => A.out j (by rw [HL.out] at hj; omega))]; rfl, HE.out⟩
 ·have h1 : ((n : Int) != (n2 : Int)) = true := by rw [bne_iff_ne]; omega
  go_enter Tryz.func20, Tryz.ntmps20
  go_wp2
  go_ret
  exact ⟨by rw [beq_len l m (by rw [HL.out, HM.out]; exact hne)]; rfl, Ext.rf _⟩
end Go.Proofs.YtbpdbikphlhaiaaGreatDoor
namespace Go.Proofs.YtbpdbikphlhaiaaGreatDoor
open Go.RowKit
set_option linter.unusedVariables false
theorem IntsRes.to {w w' : World} {e : Ending} {E E' : Int} {l l' : List Int} (h : IntsRes w w' e E l) (hE : E = E') (hl : l = l') : IntsRes w w' e E' l' := by subst hE; subst hl; exact h
theorem eqT (u v : Value) (l : List Int) (w : World) (hu : Ints w u l) (hv : Ints w v l) (hl : l.length ≤ 1000000) : Calls Tryz.prog 20 #[u, v] w fun e w' => e = .returned (.bool true) ∧ Ext w w' := by
 have := equal_int u v l l w hu hv hl hl
 rw [show (l == l) = true from by simp] at this
 exact this
set_option maxHeartbeats 4000000 in
set_option maxRecDepth 100000 in
theorem awake22_calls (w : World) : Calls Tryz.prog 4 #[] w fun e w' => e = .returned (.bool true) ∧ Ext w w' := by
 have HE0 := Lib.hid (Ext.rf w)
 go_enter Tryz.func4, Tryz.ntmps4
 go_wp2_with fail
 refine (example_calls _).mono ?_
 rintro e x1 ⟨v1, rfl, hT1, hX1⟩
 have HT1 := Lib.hid (hT1.ext ((Ext.rf _).al (.cells #[.int .i64 0, .int .i64 2] 3)))
 have HX1 := Lib.hid (hX1.al (.cells #[.int .i64 0, .int .i64 2] 3))
 have HB1 := Lib.hid (heap_alloc_new x1 (.cells #[.int .i64 0, .int .i64 2] 3))
 clear hT1 hX1
 go_wp2_with fail
 refine (closeP_calls _ _ exT [0, 2] _ HT1.out ex_small.loose (ints_laid [0, 2] HB1.out) (by decide)).mono ?_
 intro e y1 hres
 obtain ⟨u1, rfl, hR1, hY1⟩ := hres.to ex_close.1 (by rw [if_pos ex_close.1, ex_close.2])
 have HE1 := Lib.hid (HE0.out.trans' (HX1.out.trans' hY1))
 have HI1 := Lib.hid hR1.ints
 have HY1 := Lib.hid (HX1.out.trans' hY1)
 obtain ⟨au1, cu1, hu1, _⟩ := hR1.any
 subst hu1
 clear hR1 hY1 hres
 go_wp2_with fail
 refine (example_calls _).mono ?_
 rintro e x2 ⟨v2, rfl, hT2, hX2⟩
 have HT2 := Lib.hid (hT2.ext ((Ext.rf _).al (.cells #[.int .i64 0, .int .i64 2] 3)))
 have HX2 := Lib.hid (hX2.al (.cells #[.int .i64 0, .int .i64 2] 3))
 have HB2 := Lib.hid (heap_alloc_new x2 (.cells #[.int .i64 0, .int .i64 2] 3))
 clear hT2 hX2
 go_wp2_with fail
 refine (openP_calls _ _ exT [0, 2] _ HT2.out ex_small.loose (ints_laid [0, 2] HB2.out) (by decide)).mono ?_
 intro e y2 hres
 obtain ⟨u2, rfl, hR2, hY2⟩ := hres.to ex_close.1 (by rw [if_pos ex_close.1, ex_open])
 have HE2 := Lib.hid (HE1.out.trans' (HX2.out.trans' hY2))
 have HI2 := Lib.hid hR2.ints
 have HY2 := Lib.hid (HX2.out.trans' hY2)
 obtain ⟨au2, cu2, hu2, _⟩ := hR2.any
 subst hu2
 clear hR2 hY2 hres
 go_wp2_with fail
 refine (example_calls _).mono ?_
 rintro e x3 ⟨v3, rfl, hT3, hX3⟩
 have HT3 := Lib.hid (hT3.ext ((Ext.rf _).al (.cells #[.int .i64 0, .int .i64 1] 3)))
 have HX3 := Lib.hid (hX3.al (.cells #[.int .i64 0, .int .i64 1] 3))
 have HB3 := Lib.hid (heap_alloc_new x3 (.cells #[.int .i64 0, .int .i64 1] 3))
 clear hT3 hX3
 go_wp2_with fail
 refine (enabledP_calls _ _ exT [0, 1] _ HT3.out ex_small.loose (ints_laid [0, 1] HB3.out)).mono ?_
 intro e y3 hres
 obtain ⟨u3, rfl, hR3, hY3⟩ := hres.to ex_given1 (by rw [if_pos ex_given1, ex_enabled])
 have HE3 := Lib.hid (HE2.out.trans' (HX3.out.trans' hY3))
 have HI3 := Lib.hid hR3.ints
 have HY3 := Lib.hid (HX3.out.trans' hY3)
 obtain ⟨au3, cu3, hu3, _⟩ := hR3.any
 subst hu3
 clear hR3 hY3 hres
 go_wp2_with fail
 refine (example_calls _).mono ?_
 rintro e x4 ⟨v4, rfl, hT4, hX4⟩
 have HT4 := Lib.hid (hT4.ext ((Ext.rf _).al (.cells #[.int .i64 1, .int .i64 1] 3)))
 have HX4 := Lib.hid (hX4.al (.cells #[.int .i64 1, .int .i64 1] 3))
 have HB4 := Lib.hid (heap_alloc_new x4 (.cells #[.int .i64 1, .int .i64 1] 3))
 clear hT4 hX4
 go_wp2_with fail
 refine (underWayP_calls _ _ exT [1, 1] 0 1 _ HT4.out ex_small.loose (ints_laid [1, 1] HB4.out)).mono ?_
 intro e y4 hres
 obtain ⟨u4, rfl, hR4, hY4⟩ := hres.to ex_given2 (by rw [if_pos ex_given2, ex_under])
 have HE4 := Lib.hid (HE3.out.trans' (HX4.out.trans' hY4))
 have HI4 := Lib.hid hR4.ints
 have HY4 := Lib.hid (HX4.out.trans' hY4)
 obtain ⟨au4, cu4, hu4, _⟩ := hR4.any
 subst hu4
 clear hR4 hY4 hres
 have HA1 := Lib.hid (HI1.out.ext (HY2.out.trans' (HY3.out.trans' HY4.out)))
 have HA2 := Lib.hid (HI2.out.ext (HY3.out.trans' HY4.out))
 have HA3 := Lib.hid (HI3.out.ext HY4.out)
 go_wp2_with fail
 refine (eqT _ _ [1, 2] _ (HA1.out.ext ((Ext.rf _).al _)) (ints_laid [1, 2] (heap_alloc_new y4 _)) (by decide)).mono ?_
 rintro e z1 ⟨rfl, hZ1⟩
 have HE5 := Lib.hid (((Ext.rf y4).al (.cells #[.int .i64 1, .int .i64 2] 3)).trans' hZ1)
 clear hZ1
 go_wp2_with fail
 refine (eqT _ _ [0, 1] _ ((HA2.out.ext HE5.out).ext ((Ext.rf _).al _)) (ints_laid [0, 1] (heap_alloc_new z1 _)) (by decide)).mono ?_
 rintro e z2 ⟨rfl, hZ2⟩
 have HE6 := Lib.hid (HE5.out.trans' (((Ext.rf z1).al (.cells #[.int .i64 0, .int .i64 1] 3)).trans' hZ2))
 clear hZ2
 go_wp2_with fail
 refine (eqT _ _ [0] _ ((HA3.out.ext HE6.out).ext ((Ext.rf _).al _)) (ints_laid [0] (heap_alloc_new z2 _)) (by decide)).mono ?_
 rintro e z3 ⟨rfl, hZ3⟩
 have HE7 := Lib.hid (HE6.out.trans' (((Ext.rf z2).al (.cells #[.int .i64 0] 3)).trans' hZ3))
 clear hZ3
 go_wp2_with fail
 refine (eqT _ _ [1] _ ((HI4.out.ext HE7.out).ext ((Ext.rf _).al _)) (ints_laid [1] (heap_alloc_new z3 _)) (by decide)).mono ?_
 rintro e z4 ⟨rfl, hZ4⟩
 go_wp2
 go_ret
 exact ⟨rfl, HE4.out.trans' (HE7.out.trans' (((Ext.rf z3).al _).trans' hZ4))⟩
end Go.Proofs.YtbpdbikphlhaiaaGreatDoor
