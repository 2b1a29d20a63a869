import Derived.Test.YtbpdbikphlhaiaaGreatDoorGa
import Derived.Test.YtbpdbikphlhaiaaGreatDoorProg
import Derived.Test.YtbpdbikphlhaiaaGreatDoorGh
import Derived.Test.YtbpdbikphlhaiaaGreatDoorGg
import Derived.Test.YtbpdbikphlhaiaaGreatDoorGc
import Derived.Test.YtbpdbikphlhaiaaGreatDoorGb
import Derived.Test.YtbpdbikphlhaiaaGreatDoorGd
import Derived.ProofKit
import Derived.OpenShut
import Derived.ChangeArms
import Derived.ChangeSlices
import Derived.BigQuiet
import Derived.Deep.QuietTactic
import Derived.Deep.LoopGhost
import Derived.Shelf.Abstract
import Derived.BigRegion
namespace Go.Proofs.YtbpdbikphlhaiaaGreatDoor
open Go.RowKit Go.ChangeShapes Go.WideShapes
set_option linter.unusedVariables false
section
variable {H : Type} {enc : TypeId × Value → H} {P : Program} {w : World} {base : Nat} {spare : Nat → Bool} {held : Bool}
def Gives {α : Type} (enc : TypeId × Value → H) (P : Program) (w : World) (base : Nat) (spare : Nat → Bool) (held : Bool) (t : TypeId) (R : World → List Value → α → Prop) : Prop :=
 ∀ fuel cs x, DataW.trod enc P w base spare held fuel t cs = some x → ∃ y, R w cs y
theorem gives_int {t : TypeId} (ht : P.underlying t = some (.int .i64)) : Gives enc P w base spare held t (fun _ cs (n : Int) => cs = [.int .i64 n] ∧ -9223372036854775808 ≤ n ∧ n ≤ 9223372036854775807) := by
 intro fuel cs x h
 obtain ⟨n, rfl, _, hw⟩ := DataW.trod_int ht h
 refine ⟨n, rfl, ?_⟩
 simpa [Lit.wf, IntKind.min, IntKind.max, IntKind.signed, IntKind.bits] using hw
theorem gives_slice {α : Type} [Inhabited α] {t e : TypeId} {R : World → List Value → α → Prop} {k : Nat} (ht : P.underlying t = some (.slice e)) (hk : P.cellsOf e = k) (hk0 : 0 < k) (hR : Gives enc P w base spare held e R) :
  Gives enc P w base spare held t (fun w cs (l : List α) => ∃ v, cs = [v] ∧ Sl R k w v l ∧ l.length ≤ 9223372036854775807) := by
 intro fuel cs x h
 rcases DataW.trod_slice ht h with ⟨rfl, _⟩ | ⟨a, len, cap, elems, rest, n, _, rfl, _, hb, hl, hm, hlen, hel, _, _⟩
 ·exact ⟨[], _, rfl, ⟨_, _, rfl, Nat.le_refl _, fun h => absurd rfl h⟩, by simp⟩
 ·have hlm : len ≤ 9223372036854775807 := by unfold maxLen at hm; omega
  have one : ∀ i, i < len → ∃ vs y, w.cells? base (a.add (i * k)) k = some vs ∧ R w vs y := by
   intro i hi
   have := hel i hi
   rw [List.getElem?_eq_getElem (by omega), hk] at this
   obtain ⟨cs', h1, h2⟩ := Option.bind_eq_some_iff.1 this
   obtain ⟨y, hy⟩ := hR _ _ _ h2
   exact ⟨cs', y, h1, hy⟩
  by_cases h0 : len = 0
  ·subst h0
   exact ⟨[], _, rfl, ⟨_, _, rfl, hl, fun h => absurd rfl h⟩, by simp⟩
  have haddr : ∃ b off, a = ⟨b, off, none⟩ ∧ b < w.heap.size := by
   obtain ⟨vs, y, h1, _⟩ := one 0 (by omega)
   obtain ⟨_, hlen', hc⟩ := World.cells?_some h1
   have hc0 := hc 0 (by omega)
   rw [List.getElem?_eq_getElem (by omega)] at hc0
   have hsp := World.cell?_spot hc0
   obtain ⟨b, off, sp⟩ := a
   simp only [Nat.zero_mul, Addr.add, if_true] at hsp hc0
   subst hsp
   exact ⟨b, off, rfl, World.block_lt_of_cell? w _ hc0⟩
  obtain ⟨b, off, rfl, hbw⟩ := haddr
  classical
  let f : Nat → α := fun i => if hi : i < len then Classical.choose (Classical.choose_spec (one i hi)) else default
  refine ⟨(List.range len).map f, _, rfl, ⟨_, cap, by simp, by simpa using hl, fun _ => ⟨b, off, rfl, hbw, fun i hi => ?_⟩⟩, by simpa using hlm⟩
  have hi' : i < len := by simpa using hi
  have hspec := Classical.choose_spec (Classical.choose_spec (one i hi'))
  refine ⟨Classical.choose (one i hi'), ?_, ?_, fun j hj => ?_⟩
  ·exact (World.cells?_some hspec.1).2.1
  ·have : ((List.range len).map f)[i]! = f i := by rw [getElem!_pos _ i hi]; simp
   rw [this]
   simp only [f, dif_pos hi']
   exact hspec.2
  ·obtain ⟨_, hl2, hc⟩ := World.cells?_some hspec.1
   have := hc j hj
   rw [getElem!_pos _ j (by rw [hl2]; exact hj)]
   rw [← List.getElem?_eq_getElem, ← this]
   congr 1
   by_cases hik : i * k = 0
   ·by_cases hj0 : j = 0
    ·simp [Addr.add, hik, hj0]
    ·simp [Addr.add, hik, hj0]
   ·by_cases hj0 : j = 0
    ·simp [Addr.add, hik, hj0]
    ·simp [Addr.add, hik, hj0]
theorem sl_ints {w : World} {v : Value} {l : List Int} (h : Sl (fun _ cs (n : Int) => cs = [.int .i64 n] ∧ -9223372036854775808 ≤ n ∧ n ≤ 9223372036854775807) 1 w v l) : Ints w v l := by
 obtain ⟨a, c, rfl, hlc, h⟩ := h
 refine ⟨a, c, rfl, hlc, fun hl => ?_⟩
 obtain ⟨b, off, rfl, hb, hc⟩ := h hl
 refine ⟨b, off, rfl, hb, fun i hi => ?_⟩
 obtain ⟨vs, _, ⟨rfl, _⟩, h3⟩ := hc i hi
 have := h3 0 (by omega)
 simpa using this
theorem gives_ints {t e : TypeId} (ht : P.underlying t = some (.slice e)) (he : P.underlying e = some (.int .i64)) (hk : P.cellsOf e = 1) :
  Gives enc P w base spare held t (fun w cs (l : List Int) => ∃ v, cs = [v] ∧ Ints w v l ∧ l.length ≤ 9223372036854775807) := by
 intro fuel cs x h
 obtain ⟨l, v, rfl, hs, hl⟩ := gives_slice ht hk (by omega) (gives_int he) fuel cs x h
 exact ⟨l, v, rfl, sl_ints hs, hl⟩
theorem gives_arg {α : Type} {t : TypeId} {R : World → List Value → α → Prop} {v : Value} {d : DataW H} {ps : List MemPlace} (h : Gives enc P w base spare held t R) (hd : DataW.Trod enc P w base spare held t v d ps) : ∃ y, R w v.cells.toList y := by
 obtain ⟨fuel, hf⟩ := hd
 exact h _ _ _ hf
end
end Go.Proofs.YtbpdbikphlhaiaaGreatDoor
namespace Go.Proofs.YtbpdbikphlhaiaaGreatDoor
open Go.RowKit
set_option linter.unusedVariables false
attribute [local go_sem ↓] Go.wp_at_zero Go.wp_at_succ
set_option maxHeartbeats 1000000 in
theorem fitsR_calls (v vc : Value) (t : Tr) (c : List Int) (w : World) (h : TrAt w v t) (hc : Ints w vc c) :
  Calls Tryz.prog 8 #[.agg #[v], vc] w fun e w' => e = .returned (.bool (fitsB t c)) ∧ Ext w w' := by
 obtain ⟨ta, tc, rfl, htc⟩ := h.sh
 obtain ⟨ca, cc, rfl, hlc, _⟩ := hc
 obtain ⟨r, hr⟩ : ∃ r, ((c.length : Int) == (t.length : Int)) = r := ⟨_, rfl⟩
 have HR : Hid (fitsB t c = r) := Lib.hid (by unfold fitsB; rw [← hr]; by_cases h : c.length = t.length <;> simp [h]; omega)
 rw [HR.out]
 generalize c.length = m at *
 generalize t.length = n at *
 have HE1 := Lib.hid ((Ext.rf w).al (.cells #[.slice ta n tc] 24))
 clear h
 go_enter Tryz.func8, Tryz.ntmps8
 go_wp2
 go_ret
 exact ⟨rfl, HE1.out⟩
set_option maxHeartbeats 4000000 in
set_option maxRecDepth 100000 in
theorem rangeR_calls (v vc : Value) (t : Tr) (c : List Int) (w : World) (h : TrAt w v t) (hs : SmallTr t) (hc : Ints w vc c) (hl : c.length = t.length) :
  Calls Tryz.prog 9 #[.agg #[v], vc] w fun e w' => e = .returned (.bool (rangeB t c)) ∧ Ext w w' := by
 have HT := Lib.hid h
 have HC := Lib.hid hc
 have HS := Lib.hid hs
 obtain ⟨ta, tc, rfl, htc⟩ := h.sh
 obtain ⟨ca, cc, rfl, hlc, _⟩ := hc
 have hn1 := hs.1
 rw [hl] at hlc ⊢
 have HCL := Lib.hid hl
 obtain ⟨rb, hrb⟩ : ∃ b, rangeB t c = b := ⟨_, rfl⟩
 rw [hrb]
 have HRB := Lib.hid hrb
 generalize hln : t.length = n at *
 have HL := Lib.hid hln
 have HX0 := Lib.hid (heap_alloc_new w (.cells #[.slice ta n tc] 24))
 have HE1 := Lib.hid ((Ext.rf w).al (.cells #[.slice ta n tc] 24))
 clear h hs hln hl hrb
 go_enter Tryz.func9, Tryz.ntmps9
 go_wp2
 generalize hw2 : w.alloc (.cells #[.slice ta n tc] 24) = w2 at *
 clear hw2
 go_loopg [5] n (fun g s5 wr => ∃ p : Nat, p ≤ n ∧ n - p ≤ g ∧ s5 = .int .i64 p ∧ Aside (∀ q, q < p → 0 ≤ c[q]! ∧ c[q]! ≤ (t[q]!.events.length : Int)) ∧ Aside (Ext w2 wr))
 case atStart => exact ⟨0, Nat.zero_le _, by omega, rfl, (fun j hj => absurd hj (Nat.not_lt_zero _)), Ext.rf _⟩
 case round =>
  obtain ⟨p, hp, hg, rfl, A, HEK⟩ := hrel
  have HEW := Lib.hid (HE1.out.trans' HEK.out)
  have HY0 := Lib.hid (HEK.out.hp HX0.out)
  have t0 := cellOf HY0.out 0
  simp only [List.getElem?_toArray, List.getElem?_cons_zero] at t0
  by_cases hlt : p < n
  ·have hltz : (p : Int) < (n : Int) := by omega
   have hpz : (0 : Int) ≤ (p : Int) := by omega
   obtain ⟨B, O, C, vv, ve, hve, hlC, hB, hn0, hv0, he0, hV, hE0⟩ := proc_at HT.out p (by rw [HL.out]; exact hlt)
   simp only [Value.slice.injEq] at hve
   obtain ⟨rfl, hzz, rfl⟩ := hve
   obtain ⟨ea, ec, rfl, hec⟩ := hE0.sh
   obtain ⟨cb, co, rfl, hcb, hcp⟩ := ints_at HC.out p (by rw [HCL.out]; exact hlt)
   have he1 := HEW.out.cl he0
   have hc1 := HEW.out.cl hcp
   have hen := (HS.out.2 p (by rw [HL.out]; exact hlt)).2.1
   generalize hne : t[p]!.events.length = ne at *
   have HNE := Lib.hid hne
   generalize hk : c[p]! = k at *
   have HK := Lib.hid hk
   clear hn0 hv0 hV hE0 hzz hne he0 hk hcp
   have HNO : Hid (¬ (0 ≤ k ∧ k ≤ (ne : Int)) → rb = false) := Lib.hid (fun hno => by
    rw [← HRB.out, Bool.eq_false_iff]
    intro hr
    have := rangeB_iff.1 hr p (by rw [HCL.out]; exact hlt)
    rw [HNE.out, HK.out] at this
    exact hno this)
   by_cases h1 : k < 0
   ·have d1 : decide (k < 0) = true := decide_eq_true h1
    have HF := Lib.hid (HNO.out (by omega))
    clear h1
    go_wp2
    go_quiet (fail)
    go_wp2
    go_ret
    exact ⟨by rw [HF.out]; rfl, HEW.out.drN _⟩
   ·have d1 : decide (k < 0) = false := decide_eq_false h1
    by_cases h2 : (ne : Int) < k
    ·have d2 : decide ((ne : Int) < k) = true := decide_eq_true h2
     have HF := Lib.hid (HNO.out (by omega))
     clear h1 h2
     go_wp2
     go_quiet (fail)
     go_wp2
     go_ret
     exact ⟨by rw [HF.out]; rfl, HEW.out.drN _⟩
    ·have d2 : decide ((ne : Int) < k) = false := decide_eq_false h2
     have HOK := Lib.hid (show 0 ≤ k ∧ k ≤ (ne : Int) by omega)
     clear h1 h2
     go_wp2
     go_quiet (fail)
     go_wp2
     go_roundg (n - (p + 1))
     case measure => omega
     case rel =>
      refine ⟨p + 1, by omega, by omega, by go_num, (show Aside _ from fun j hj => ?_), (show Ext _ _ from HEK.out.drN _)⟩
      by_cases e : j = p
      ·subst e; rw [HNE.out, HK.out]; exact HOK.out
      ·exact A.out j (by omega)
  ·have hltz : ¬ (p : Int) < (n : Int) := by omega
   obtain rfl : n = p := by omega
   go_wp2
   go_ret
   refine ⟨?_, HEW.out⟩
   have e : rangeB t c = true := rangeB_iff.2 (fun q hq => A.out q (by rw [HCL.out] at hq; exact hq))
   rw [← HRB.out, e]; rfl
end Go.Proofs.YtbpdbikphlhaiaaGreatDoor
namespace Go.Proofs.YtbpdbikphlhaiaaGreatDoor
open Go.RowKit
set_option linter.unusedVariables false
attribute [local go_sem ↓] Go.wp_at_zero Go.wp_at_succ
set_option maxHeartbeats 4000000 in
set_option maxRecDepth 100000 in
theorem countT_calls (v : Value) (t : Tr) (w : World) (h : TrAt w v t) (hv : validT t = true) :
  Calls Tryz.prog 6 #[.agg #[v]] w fun e w' => e = .returned (.int .i64 ((sumTo (fun p => t[p]!.events.length) t.length : Nat) : Int)) ∧ Ext w w' := by
 have HT := Lib.hid h
 have hs := valid_small hv
 have HVC := Lib.hid (fun W (hW : Ext w W) => validR_calls v t W (h.ext hW) hs.loose)
 rw [hv] at HVC
 have hn8 := ((shapeB_parts2.1 (validT_parts2.1 hv).1).2.1)
 have HE64 : Hid (∀ p, p < t.length → t[p]!.events.length ≤ 64) := Lib.hid (fun p hp => (headB_parts.1 ((shapeB_parts2.1 (validT_parts2.1 hv).1).2.2.1 p hp)).2.2.2.2)
 have HSU : Hid (∀ p, sumTo (fun p => t[p]!.events.length) (p + 1) = sumTo (fun p => t[p]!.events.length) p + t[p]!.events.length) := Lib.hid (fun p => rfl)
 have HS0 : Hid (sumTo (fun p => t[p]!.events.length) 0 = 0) := Lib.hid rfl
 generalize (sumTo fun p => t[p]!.events.length) = f at *
 obtain ⟨ta, tc, rfl, htc⟩ := h.sh
 generalize hln : t.length = n at *
 have HL := Lib.hid hln
 have HY1 := Lib.hid (heap_alloc_new w (.cells #[.slice ta n tc] 24))
 have HE1 := Lib.hid ((Ext.rf w).al (.cells #[.slice ta n tc] 24))
 clear h hs hln hv
 go_enter Tryz.func6, Tryz.ntmps6
 go_wp2_with fail
 refine (HVC.out _ HE1.out).mono ?_
 rintro e w2 ⟨rfl, hX⟩
 have HE2 := Lib.hid (HE1.out.trans' hX)
 have HY2 := Lib.hid (hX.hp HY1.out)
 have t2 := cellOf HY2.out 0
 simp only [List.getElem?_toArray, List.getElem?_cons_zero] at t2
 clear hX
 go_wp2
 clear t2
 go_loopg [3, 4] n (fun g s3 s4 wr => ∃ p : Nat, p ≤ n ∧ n - p ≤ g ∧ s4 = .int .i64 p ∧ (∃ q : Nat, s3 = .int .i64 q ∧ q ≤ 64 * p ∧ Aside (f p = q)) ∧ wr = w2)
 case atStart => exact ⟨0, Nat.zero_le _, by omega, rfl, ⟨0, rfl, by omega, (show Aside _ from HS0.out)⟩, rfl⟩
 case round =>
  obtain ⟨p, hp, hg, rfl, ⟨q, rfl, hq, A⟩, rfl⟩ := hrel
  have t0 := cellOf HY2.out 0
  simp only [List.getElem?_toArray, List.getElem?_cons_zero] at t0
  by_cases hlt : p < n
  ·have hltz : (p : Int) < (n : Int) := by omega
   have hpz : (0 : Int) ≤ (p : Int) := by omega
   obtain ⟨B, O, C, vv, ve, hve, hlC, hB, hn0, hv0, he0, hV, hE0⟩ := proc_at HT.out p (by rw [HL.out]; exact hlt)
   simp only [Value.slice.injEq] at hve
   obtain ⟨rfl, hzz, rfl⟩ := hve
   obtain ⟨ea, ec, rfl, hec⟩ := hE0.sh
   have he1 := HE2.out.cl he0
   have hen := HE64.out p hlt
   have HSP := Lib.hid (HSU.out p)
   generalize t[p]!.events.length = ne at *
   clear hn0 hv0 hV hE0 hzz he0
   go_wp2
   go_roundg (n - (p + 1))
   case measure => omega
   case rel => exact ⟨p + 1, by omega, by omega, by go_num, ⟨q + ne, by go_num, by omega, (show Aside _ from HSP.out.trans (congrArg (· + ne) A.out))⟩, rfl⟩
  ·have hltz : ¬ (p : Int) < (n : Int) := by omega
   obtain rfl : n = p := by omega
   have HA := Lib.hid A.out
   go_wp2
   go_ret
   exact ⟨by rw [HA.out]; rfl, HE2.out⟩
theorem ids_len (t : Tr) : (ids t).length = sumTo (fun p => t[p]!.events.length) t.length := by
 have key : ∀ p, (idsTo t p 0).length = sumTo (fun p => t[p]!.events.length) p := by
  intro p
  induction p with
  | zero => rfl
  | succ p ih =>
    rw [← idsTo_next]
    have e : idsTo t p t[p]!.events.length = idsTo t p 0 ++ (List.range t[p]!.events.length).map fun j => (p, j) := by simp [idsTo]
    rw [e, List.length_append, List.length_map, List.length_range, ih]; rfl
 exact key _
end Go.Proofs.YtbpdbikphlhaiaaGreatDoor
namespace Go.Proofs.YtbpdbikphlhaiaaGreatDoor
open Go.RowKit
set_option linter.unusedVariables false
attribute [local go_sem ↓] Go.wp_at_zero Go.wp_at_succ
set_option maxHeartbeats 4000000 in
theorem consistentP_calls (v vc : Value) (t : Tr) (c : List Int) (w : World) (h : TrAt w v t) (hs : LooseTr t) (hc : Ints w vc c) :
  Calls Tryz.prog 13 #[.agg #[v], vc] w fun e w' => e = .returned (.bool (consB t c)) ∧ Ext w w' := by
 obtain ⟨ta, tc, rfl, htc⟩ := h.sh
 have HCC := Lib.hid hc
 obtain ⟨ca, cc, rfl, hlc, _⟩ := hc
 have HX2 : Hid (Ext w ((w.alloc (.cells #[.slice ta t.length tc] 24)).alloc (.cells #[.slice ca c.length cc] 25))) := Lib.hid (by repeat (first | refine Ext.st ?_ (by first | exact Nat.le_refl _ | exact Nat.le_succ _ | assumption | omega) _ | refine Ext.al ?_ _ | refine Ext.dr ?_ | refine Ext.drN ?_ _ | exact Ext.rf _))
 have HG := Lib.hid (givenP_calls (.slice ta t.length tc) (.slice (some ⟨w.heap.size + 1, 0, none⟩) 1 1) (.slice none 0 0) t [c] [] _ (h.ext HX2.out) hs (rows_one (heap_new_eq (by simp)) (HCC.out.ext HX2.out)) (by simp) (ints_none _) (by simp))
 obtain ⟨ge, hge⟩ : ∃ E, givenE t [c] [] = E := ⟨_, rfl⟩
 rw [hge] at HG
 obtain ⟨cb, hcb⟩ : ∃ b, consB t c = b := ⟨_, rfl⟩
 rw [hcb]
 have HI : Hid ((ge == 0) = cb) := Lib.hid (by have := givenE_one t c; rw [hge, hcb] at this; cases cb <;> simp_all)
 generalize t.length = N at *
 generalize c.length = M at *
 clear h hs hge hcb
 go_enter Tryz.func13, Tryz.ntmps13
 go_wp2_with fail
 refine HG.out.mono ?_
 rintro e w2 ⟨rfl, hX⟩
 obtain ⟨r, hr⟩ : ∃ r, (ge == 0) = r := ⟨_, rfl⟩
 have HR := Lib.hid (HI.out.symm.trans hr)
 go_wp2
 go_ret
 exact ⟨by rw [HR.out]; rfl, HX2.out.trans' hX⟩
end Go.Proofs.YtbpdbikphlhaiaaGreatDoor
namespace Go.Proofs.YtbpdbikphlhaiaaGreatDoor
open Go.RowKit
set_option linter.unusedVariables false
theorem shape_peers {t : Tr} (hv : validT t = true) {x : Eid} (hx : Inn t x) (hk : (ev t x).kind ≠ 1) : 0 ≤ (ev t x).peer ∧ (ev t x).peer < t.length ∧ (ev t x).peer ≠ x.1 ∧ 0 ≤ (ev t x).msg ∧ (ev t x).msg ≤ 199 := by
 have hf := (eventB_parts.1 ((shapeB_parts2.1 (validT_parts2.1 hv).1).2.2.2 x.1 hx.1 x.2 hx.2)).1
 have hf : formedB t.length x.1 (ev t x) = true := hf
 unfold formedB at hf
 rw [if_neg hk] at hf
 simp only [Bool.and_eq_true, decide_eq_true_eq] at hf
 exact ⟨hf.2.1, hf.2.2.1, hf.2.2.2.1, hf.2.2.2.2.1, hf.2.2.2.2.2⟩
theorem send_peer {t : Tr} (hv : validT t = true) {x : Eid} (hx : Inn t x) (hk : (ev t x).kind = 3) : ∃ s, findE t 2 (ev t x).msg = some s ∧ (ev t x).peer = (s.1 : Int) ∧ (ev t s).peer = (x.1 : Int) ∧ Inn t s ∧ s.1 ≠ x.1 := by
 obtain ⟨h1, h2, _⟩ := validT_parts2.1 hv
 have hp := shape_peers hv hx (by rw [hk]; decide)
 have hs := (pairB_at h2 hx (by rw [hk]; decide)).2 hk
 unfold sendsB at hs
 rw [List.any_eq_true] at hs
 obtain ⟨s, hs1, hs2⟩ := hs
 obtain ⟨j, hj, rfl⟩ := List.getElem_of_mem hs1
 simp only [Bool.and_eq_true, decide_eq_true_eq] at hs2
 have he : ev t ((ev t x).peer.toNat, j) = t[(ev t x).peer.toNat]!.events[j] := by unfold ev; simp only; rw [getElem!_pos _ j hj]
 have hin : Inn t ((ev t x).peer.toNat, j) := ⟨by simp only; omega, hj⟩
 have hpa := (pairB_at h2 hin (by rw [he, hs2.1]; decide)).1
 rw [he, hs2.1, hs2.2.1] at hpa
 exact ⟨_, hpa, by simp only; omega, by rw [he]; exact hs2.2.2, hin, by simp only; omega⟩
end Go.Proofs.YtbpdbikphlhaiaaGreatDoor
namespace Go.Proofs.YtbpdbikphlhaiaaGreatDoor
open Go.RowKit
set_option linter.unusedVariables false
open Go.Maps
theorem inj_eid {v : Value} {x : Eid} (h1 : x.1 < 1000000) (h2 : x.2 < 1000000) (h : keyOf Tryz.prog 39 v = some (ekey x)) : v = .agg #[.int .i64 x.1, .int .i64 ((x.2 : Int) + 1)] :=
 eid_keyed.inj h (ekey_of h1 h2)
noncomputable def eidElem (v : Value) : Option (DataW Unit × List MemPlace) := (keyOf Tryz.prog 39 v).map fun l => (.lit l, [])
theorem eidElem_of {x : Eid} (h1 : x.1 < 1000000) (h2 : x.2 < 1000000) : eidElem (.agg #[.int .i64 x.1, .int .i64 ((x.2 : Int) + 1)]) = some (.lit (ekey x), []) := by
 unfold eidElem; rw [ekey_of h1 h2]; rfl
theorem eidElem_inv {v : Value} {x : Eid} {ps : List MemPlace} (h1 : x.1 < 1000000) (h2 : x.2 < 1000000) (h : eidElem v = some (.lit (ekey x), ps)) : v = .agg #[.int .i64 x.1, .int .i64 ((x.2 : Int) + 1)] := by
 unfold eidElem at h
 cases hk : keyOf Tryz.prog 39 v with
 | none => rw [hk] at h; cases h
 | some l =>
   rw [hk] at h
   simp only [Option.map_some, Option.some.injEq, Prod.mk.injEq, DataW.lit.injEq] at h
   exact inj_eid h1 h2 (hk.trans (congrArg some h.1))
theorem zero_eidV (w : World) : (zeroValue 39).run Tryz.prog w = .ok (.agg #[.int .i64 0, .int .i64 0]) w := by kernel_rfl
theorem zero_key : (keyOf Tryz.prog 39 (.agg #[.int .i64 0, .int .i64 0])).isSome = true := by kernel_rfl
def EvM (w : World) (b n : Nat) (t : Tr) (k : Int) (pre : List Eid) : Prop :=
 ∃ D : DataW Unit, w.ownsMap Tryz.prog 3 eidElem b n D ∧ IsMap D ∧ ∀ x, x ∈ pre → (ev t x).kind = k → ∀ zd, D.atKey (.int .i64 (ev t x).msg) zd = .lit (ekey x)
section
variable {w w' : World} {b n : Nat} {t : Tr} {k : Int} {pre : List Eid}
theorem EvM.made (w : World) (t : Tr) (k : Int) : EvM (w.alloc (.map #[] 0)) w.heap.size 0 t k [] :=
 ⟨.map [], World.ownsMap_made _ _ _ _, isMap_empty, fun x hx => absurd hx (by simp)⟩
theorem EvM.ext (h : EvM w b n t k pre) (x : Ext w w') : EvM w' b n t k pre := by
 obtain ⟨D, ⟨es, clock, hb, r⟩, h2⟩ := h
 exact ⟨D, ⟨es, clock, x.hp hb, r⟩, h2⟩
theorem EvM.grown {row : Option Nat} (h : EvM w b n t k pre) (hg : w.grownBy w' row) (hne : some b ≠ row) : EvM w' b n t k pre := by
 obtain ⟨D, h, r⟩ := h
 exact ⟨D, h.kept hg hne, r⟩
theorem EvM.st (h : EvM w b n t k pre) {p : Addr} (hp : b ≠ p.block) (u : Value) : EvM (w.setCell p u) b n t k pre := by
 obtain ⟨D, ⟨es, clock, hb, r⟩, h2⟩ := h
 exact ⟨D, ⟨es, clock, (Below.heap_setCell w p u b hp).trans hb, r⟩, h2⟩
theorem EvM.skip (h : EvM w b n t k pre) {y : Eid} (hy : (ev t y).kind ≠ k) : EvM w b n t k (pre ++ [y]) := by
 obtain ⟨D, h1, h2, h3⟩ := h
 refine ⟨D, h1, h2, fun x hx hk => ?_⟩
 rcases List.mem_append.1 hx with hx | hx
 ·exact h3 x hx hk
 ·obtain rfl := List.mem_singleton.1 hx
  exact absurd hk hy
theorem msg_wf {m : Int} (h0 : 0 ≤ m) (h1 : m ≤ 199) : (Lit.int .i64 m).wf = true := wf_i64 h0 (by omega)
theorem EvM.look (h : EvM w b n t k pre) (hs : SmallTr t) (x : Eid) (hin : Inn t x) (hx : x ∈ pre) (hk : (ev t x).kind = k) (m : Int) (hm : (ev t x).msg = m) (h0 : 0 ≤ m) (h1 : m ≤ 199) :
  (Instr.lookup 67 (.map (some b)) (.int .i64 m) false).run Tryz.prog w = .ok (.agg #[.int .i64 x.1, .int .i64 ((x.2 : Int) + 1)]) w := by
 subst hm
 obtain ⟨D, h, _, hD⟩ := h
 obtain ⟨l, hl⟩ := Option.isSome_iff_exists.1 zero_key
 obtain ⟨v, ps, hr, hv⟩ := h.lookup (int_keyed Tryz.underlying3) Tryz.underlying67 (zero_eidV w) (zd := .lit l) (zp := []) (by unfold eidElem; rw [hl]; rfl) (keyOf_int_mk Tryz.underlying3 (msg_wf h0 h1))
 rw [hD x hx hk] at hv
 rw [hr, eidElem_inv (inn_small hs hin).1 (inn_small hs hin).2 hv]
end
theorem wpList_put_ev {w : World} {ops : Array Oper} {rest : List Oper} {o : Oper} {a : Act} {Q : Exit → Act → World → Prop}
  (hg : o.guard = none) (m x v : Operand) (hop : o.op = Op.mapUpdate 67 m x v) (b n : Nat) (t : Tr) (k : Int) (pre : List Eid) (hown : EvM w b n t k pre) (hn : n < maxLen)
  (hv : validT t = true) (hin : ∀ x, x ∈ pre → Inn t x) (y : Eid) (hy : Inn t y) (hk : (ev t y).kind = k) (hk1 : k ≠ 1) (ms : Int) (hms : (ev t y).msg = ms)
  (hm : a.eval m = .map (some b)) (hx : a.eval x = .int .i64 ms) (hvv : a.eval v = .agg #[.int .i64 y.1, .int .i64 ((y.2 : Int) + 1)])
  (hK : ∀ w', EvM w' b (n + 1) t k (pre ++ [y]) → w.grownBy w' (some b) → wpList Tryz.prog ops Q rest (a.put o.dst undef) w') :
  wpList Tryz.prog ops Q (o :: rest) a w := by
 subst hms
 obtain ⟨D, h, hi, hD⟩ := hown
 have hs := valid_small hv
 have hp := shape_peers hv hy (by rw [hk]; exact hk1)
 refine wpList_mapUpdate_own w hg m x v 67 hop 3 39 (int_keyed Tryz.underlying3) Tryz.underlying67 _ b n D hm h hn _ _ (.int .i64 (ev t y).msg) hx hvv (keyOf_int_mk Tryz.underlying3 (msg_wf hp.2.2.2.1 hp.2.2.2.2)) (.lit (ekey y)) [] (eidElem_of (inn_small hs hy).1 (inn_small hs hy).2) ?_
 intro w' h' hg'
 refine hK w' ⟨_, h', hi.put _ _, fun z hz hkz zd => ?_⟩ hg'
 by_cases e : (ev t z).msg = (ev t y).msg
 ·have hz2 : z = y := by
   rcases List.mem_append.1 hz with hz | hz
   ·have h1 := (pairB_at (validT_parts2.1 hv).2.1 (hin z hz) (by rw [hkz]; exact hk1)).1
    have h2 := (pairB_at (validT_parts2.1 hv).2.1 hy (by rw [hk]; exact hk1)).1
    rw [hkz, e, ← hk, h2] at h1
    exact (Option.some.inj h1).symm
   ·exact List.mem_singleton.1 hz
  subst hz2
  exact atKey_put_same hi (by trivial) _ _
 ·rw [atKey_put_other (by simp only [ne_eq, Lit.int.injEq, true_and]; exact e)]
  rcases List.mem_append.1 hz with hz | hz
  ·exact hD z hz hkz zd
  ·exact absurd (by rw [List.mem_singleton.1 hz]) e
end Go.Proofs.YtbpdbikphlhaiaaGreatDoor
namespace Go.Proofs.YtbpdbikphlhaiaaGreatDoor
open Go.RowKit
set_option linter.unusedVariables false
attribute [local go_sem ↓] Go.wp_at_zero Go.wp_at_succ
def knV (v : Value) (b1 b2 : Nat) : Value := .agg #[v, .map (some b1), .map (some b2)]
set_option maxHeartbeats 4000000 in
set_option maxRecDepth 100000 in
theorem kevent_calls (v : Value) (t : Tr) (b1 b2 p i : Nat) (w : World) (h : TrAt w v t) (hs : SmallTr t) (hx : Inn t (p, i)) :
  Calls Tryz.prog 68 #[.agg #[v, .map (some b1), .map (some b2)], .agg #[.int .i64 p, .int .i64 ((i : Int) + 1)]] w fun e w' => ∃ va, Sl RAsg 2 w va (ev t (p, i)).asg ∧ e = .returned (.agg #[.int .i64 (ev t (p, i)).kind, .int .i64 (ev t (p, i)).peer, .int .i64 (ev t (p, i)).msg, .int .i64 (ev t (p, i)).time, va]) ∧ Ext w w' := by
 obtain ⟨hp, hi⟩ := hx
 simp only at hp hi
 obtain ⟨TB, TO, TC, vv, ve, rfl, hlC, hB, hn0, hv0, he0, hV, hE0⟩ := proc_at h p hp
 obtain ⟨EB, EO, EC, va, rfl, hlE, hEB, k0, k1, k2, k3, k4, ha⟩ := event_at hE0 i hi
 have HEV : Hid (ev t (p, i) = t[p]!.events[i]!) := Lib.hid rfl
 rw [HEV.out]
 have HA := Lib.hid ha
 obtain ⟨va1, va2, rfl, _⟩ := ha.sh
 have hn1 := hs.1
 have hen := (hs.2 p hp).2.1
 generalize t[p]!.events[i]! = y at *
 generalize t[p]!.events.length = ne at *
 generalize t.length = n at *
 generalize y.asg.length = nb at *
 obtain ⟨ix, hix⟩ : ∃ x : Int, (i : Int) + 1 = x := ⟨_, rfl⟩
 rw [hix]
 have hpz : (0 : Int) ≤ (p : Int) := by omega
 have hpi : (p : Int) < (n : Int) := by omega
 have hb1 : 1 ≤ ix := by omega
 have hb2 : ix ≤ 1000000 := by omega
 have hix2 : ix - 1 < (ne : Int) := by omega
 have hix3 : (ix - 1).toNat = i := by omega
 have hix4 : 0 ≤ ix - 1 := by omega
 have HE1 := Lib.hid (((((Ext.rf w).al (.cells #[.slice (some ⟨TB, TO, none⟩) n TC, .map (some b1), .map (some b2)] 69)).al (.cells #[.int .i64 p, .int .i64 ix] 39)).al (.cells #[.int .i64 0, .int .i64 0, .int .i64 0, .int .i64 0, .slice none 0 0] 58)))
 have q2 := HE1.out.cl he0
 have m0 := HE1.out.cl k0
 have m1 := HE1.out.cl k1
 have m2 := HE1.out.cl k2
 have m3 := HE1.out.cl k3
 have m4 := HE1.out.cl k4
 clear hn0 hv0 hV hE0 ha h hs hix he0 k0 k1 k2 k3 k4
 go_enter Tryz.func68, Tryz.ntmps68
 go_wp2
 go_region
 all_goals
  go_wp2
  have e1 := heap_new_eq (w := ((w.alloc (.cells #[.slice (some ⟨TB, TO, none⟩) n TC, .map (some b1), .map (some b2)] 69)).alloc (.cells #[.int .i64 p, .int .i64 ix] 39))) (o := .cells #[.int .i64 y.kind, .int .i64 y.peer, .int .i64 y.msg, .int .i64 y.time, .slice va1 nb va2] 58) (b := w.heap.size + 1 + 1) (by simp)
  have r0 := cellOf e1 0
  have r1 := cellOf e1 1
  have r2 := cellOf e1 2
  have r3 := cellOf e1 3
  have r4 := cellOf e1 4
  simp only [List.getElem?_toArray, List.getElem?_cons_zero, List.getElem?_cons_succ] at r0 r1 r2 r3 r4
  refine bodyPost_ret (v := .agg #[.int .i64 y.kind, .int .i64 y.peer, .int .i64 y.msg, .int .i64 y.time, .slice va1 nb va2]) (by simp [results, Tryz.results68, go_sem, r0, r1, r2, r3, r4]) rfl ?_
  exact ⟨.slice va1 nb va2, HA.out, rfl, ((((Ext.rf w).al _).al _).al _).dr⟩
set_option maxHeartbeats 4000000 in
set_option maxRecDepth 100000 in
theorem back_calls (v : Value) (t : Tr) (b1 b2 m p i : Nat) (w : World) (h : TrAt w v t) (hv : validT t = true) (hx : Inn t (p, i)) (hm : EvM w b1 m t 2 (ids t)) :
  Calls Tryz.prog 50 #[.agg #[v, .map (some b1), .map (some b2)], .agg #[.int .i64 p, .int .i64 ((i : Int) + 1)]] w fun e w' => EidsOut w w' e (bef t (p, i)) := by
 have hs := valid_small hv
 have HX := Lib.hid hx
 have HS := Lib.hid hs
 have HKC := Lib.hid (fun W (hW : Ext w W) => kevent_calls v t b1 b2 p i W (h.ext hW) hs hx)
 have HBEF : Hid (bef t (p, i) = (if 0 < i then [(p, i - 1)] else []) ++ (if (ev t (p, i)).kind = 3 then (findE t 2 (ev t (p, i)).msg).toList else [])) := Lib.hid rfl
 have HSD : Hid ((ev t (p, i)).kind = 3 → ∃ s, findE t 2 (ev t (p, i)).msg = some s ∧ Inn t s ∧ (ev t s).kind = 2 ∧ (ev t s).msg = (ev t (p, i)).msg ∧ 0 ≤ (ev t (p, i)).msg ∧ (ev t (p, i)).msg ≤ 199) := Lib.hid (fun hk => by
  obtain ⟨s, h1, _⟩ := send_peer hv hx hk
  obtain ⟨g1, g2, g3⟩ := findE_some h1
  have := shape_peers hv hx (by rw [hk]; decide)
  exact ⟨s, h1, g1, g2, g3, this.2.2.2.1, this.2.2.2.2⟩)
 have HM := Lib.hid hm
 have hi6 : i ≤ 1000000 := by have := (hs.2 p hx.1).2.1; have h2 : i < t[p]!.events.length := hx.2; omega
 have hp6 : p ≤ 1000000 := by have := hs.1; have h1 : p < t.length := hx.1; omega
 obtain ⟨ix, hix⟩ : ∃ x : Int, (i : Int) + 1 = x := ⟨_, rfl⟩
 rw [hix] at HKC ⊢
 have HIX := Lib.hid hix
 obtain ⟨ie, hie, iz0, iz1, iz2⟩ := info_parts info_eid
 have hb1 : 1 ≤ ix := by omega
 have hb2 : ix ≤ 1000001 := by omega
 obtain ⟨ta, tc, rfl, htc⟩ := h.sh
 generalize ev t (p, i) = y at *
 obtain ⟨kd, pe, ms, ti, al⟩ := y
 simp only at *
 generalize t.length = n at *
 obtain ⟨bt, hbt⟩ : ∃ b, decide (1 < ix) = b := ⟨_, rfl⟩
 clear h hs hv hx hm hix htc
 have HE2 := Lib.hid (((Ext.rf w).al (.cells #[.slice ta n tc, .map (some b1), .map (some b2)] 69)).al (.cells #[.int .i64 p, .int .i64 ix] 39))
 have HX0 := Lib.hid (((Ext.rf _).al (.cells #[.int .i64 p, .int .i64 ix] 39)).hp (heap_alloc_new w (.cells #[.slice ta n tc, .map (some b1), .map (some b2)] 69)))
 have HX1 := Lib.hid (heap_new_eq (w := w.alloc (.cells #[.slice ta n tc, .map (some b1), .map (some b2)] 69)) (o := .cells #[.int .i64 p, .int .i64 ix] 39) (b := w.heap.size + 1) (by simp))
 go_enter Tryz.func50, Tryz.ntmps50
 go_upto_if 9 with (fail)
 generalize hw2 : (w.alloc (.cells #[.slice ta n tc, .map (some b1), .map (some b2)] 69)).alloc (.cells #[.int .i64 p, .int .i64 ix] 39) = w2 at *
 clear hw2
 have HBT := Lib.hid hbt
 clear hbt
 go_cut [5] (fun s5 wx => ∃ L : List Eid, Aside (L = if 0 < i then [(p, i - 1)] else []) ∧ Aside (Row wx w.heap.size 39 2 s5 L.length (L.flatMap eidC)) ∧ Aside (Ext w2 wx))
 case first =>
  cases bt with
  | false =>
    have HI := Lib.hid (show ¬ 0 < i from by have h9 : ¬ 1 < ix := of_decide_eq_false HBT.out; have := HIX.out; omega)
    go_wp2
    go_meet
    exact ⟨[], (show _ = _ from by rw [if_neg HI.out]), Row.mkNil _ _ _ _, Ext.rf _⟩
  | true =>
    have HI := Lib.hid (show 0 < i from by have h9 : 1 < ix := of_decide_eq_true HBT.out; have := HIX.out; omega)
    have j0 := cellOf HX1.out 0
    have j1 := cellOf HX1.out 1
    simp only [List.getElem?_toArray, List.getElem?_cons_zero, List.getElem?_cons_succ] at j0 j1
    have hsz := HE2.out.sz
    go_wp2_with ((at_builtin; go_loud (refine wpList_append_one rfl _ _ 71 rfl w.heap.size 39 ie (.agg #[.int .i64 0, .int .i64 0]) 2 16 Tryz.underlying71 hie iz0 iz1 iz2 rfl (by decide) _ 0 [] rfl (Row.mkNil _ _ _ _) w2.heap.size 1 [.int .i64 p, .int .i64 (ix - 1)] rfl rfl ⟨_, heap_alloc_new _ _⟩ (by simp [Value.oneCell']) (by unfold maxLen; omega) (by omega) (by simp; omega) ?_; intro v5 w5 hown5 hgrow5 hblk5; have HOWN := Lib.hid hown5; have HGR := Lib.hid (show (w2.alloc (.cells #[.int .i64 p, .int .i64 (ix - 1)] 39)).grownBy w5 none from hgrow5); clear hown5 hgrow5 hblk5)))
    go_meet
    refine ⟨[(p, i - 1)], (show _ = _ from by rw [if_pos HI.out]), (show Row _ _ _ _ _ _ _ from ?_), ((Ext.rf w2).al _).gr HGR.out (by simp)⟩
    have := HOWN.out
    have e : ix - 1 = ((i - 1 : Nat) : Int) + 1 := by have := HIX.out; have := HI.out; omega
    rw [e] at this
    simpa [eidC] using this
 case rest =>
  obtain ⟨L, HLL, HR, HE⟩ := hcut
  have HEW := Lib.hid (HE2.out.trans' HE.out)
  have HXA := Lib.hid (HE.out.hp HX0.out)
  have HXB := Lib.hid (HE.out.hp HX1.out)
  have i0 := cellOf HXA.out 0
  have i1 := cellOf HXA.out 1
  have i2 := cellOf HXA.out 2
  have j0 := cellOf HXB.out 0
  have j1 := cellOf HXB.out 1
  simp only [List.getElem?_toArray, List.getElem?_cons_zero, List.getElem?_cons_succ] at i0 i1 i2 j0 j1
  have hLn : L.length ≤ 1 := by rw [HLL.out]; split <;> simp
  go_wp2_with fail
  refine (HKC.out _ HEW.out).mono ?_
  rintro e w3 ⟨va, hva, rfl, hX3⟩
  obtain ⟨va1, va2, rfl, _⟩ := hva.sh
  have HE3 := Lib.hid (HEW.out.trans' hX3)
  have HR3 := Lib.hid (HR.out.ext hX3)
  have HXC := Lib.hid (hX3.hp HXA.out)
  have i1 := cellOf HXC.out 1
  simp only [List.getElem?_toArray, List.getElem?_cons_zero, List.getElem?_cons_succ] at i1
  generalize al.length = nb at *
  have HE4 := Lib.hid ((Ext.rf w3).al (.cells #[.int .i64 kd, .int .i64 pe, .int .i64 ms, .int .i64 ti, .slice va1 nb va2] 58))
  have hbw : w.heap.size < w3.heap.size := World.block_lt_of_cell? w3 _ i1
  clear hX3 hva i0 i2 j0 j1
  by_cases h3 : kd = 3
  ·subst h3
   obtain ⟨s, hs1, hs2, hs3, hs4, hs5, hs6⟩ := HSD.out rfl
   have HLK := (HM.out.ext (HE3.out.trans' HE4.out)).look HS.out s hs2 (mem_ids.2 hs2) hs3 ms hs4 hs5 hs6
   have HOUT : Hid (bef t (p, i) = L ++ [s]) := Lib.hid (by rw [HBEF.out, HLL.out, if_pos rfl, hs1]; rfl)
   obtain ⟨sp, hsp⟩ : ∃ x : Int, (s.1 : Int) = x := ⟨_, rfl⟩
   obtain ⟨si, hsi⟩ : ∃ x : Int, (s.2 : Int) + 1 = x := ⟨_, rfl⟩
   have HSS := Lib.hid (And.intro hsp hsi)
   rw [hsp, hsi] at HLK
   generalize hLL : L.length = ln at *
   have HLN := Lib.hid hLL
   clear hs1 hs2 hs3 hs4 hs5 hs6 hsp hsi hLL
   have hsz : w.heap.size ≤ w3.heap.size := HE3.out.sz
   go_wp2_with ((at_builtin; go_loud (refine wpList_append_one rfl _ _ 71 rfl w.heap.size 39 ie (.agg #[.int .i64 0, .int .i64 0]) 2 16 Tryz.underlying71 hie iz0 iz1 iz2 rfl (by decide) _ ln _ rfl ((HR3.out.ext HE4.out).al _) _ 1 [.int .i64 sp, .int .i64 si] rfl rfl ⟨_, heap_new_eq (by simp)⟩ (by simp [Value.oneCell']) (by unfold maxLen; omega) (by omega) (by simp; omega) ?_; intro v5 w5 hown5 hgrow5 hblk5; have HOWN := Lib.hid hown5; have HEN := Lib.hid (show Ext w w5 from ((HE3.out.trans' HE4.out).al (.cells #[.int .i64 sp, .int .i64 si] 39)).gr hgrow5 (fun k hk => (HR3.out.lt k hk).1)); clear hown5 hgrow5 hblk5)))
   go_ret
   refine ⟨_, rfl, ?_, HEN.out⟩
   rw [HOUT.out, List.length_append, List.flatMap_append, HLN.out]
   have := HOWN.out
   rw [← HSS.out.1, ← HSS.out.2] at this
   simpa [eidC] using this
  ·have d3 : (kd == 3) = false := by simp [h3]
   have HOUT : Hid (bef t (p, i) = L) := Lib.hid (by rw [HBEF.out, HLL.out, if_neg h3, List.append_nil])
   clear h3
   go_wp2
   go_ret
   exact ⟨_, rfl, by rw [HOUT.out]; exact HR3.out.ext HE4.out, HE3.out.trans' HE4.out⟩
end Go.Proofs.YtbpdbikphlhaiaaGreatDoor
namespace Go.Proofs.YtbpdbikphlhaiaaGreatDoor
open Go.RowKit
set_option linter.unusedVariables false
structure KwI (w W : World) (t : Tr) (ta : Option Addr) (n tc b1 b2 D : Nat) (pre : List Eid) : Prop where
 tb : W.heap[w.heap.size]? = some (.cells #[.slice ta n tc] 24)
 rb : W.heap[w.heap.size + 1]? = some (.cells #[.slice none 0 0, .map none, .map none] 69)
 kb : W.heap[D]? = some (.cells #[.slice ta n tc, .map (some b1), .map (some b2)] 69)
 m1 : ∃ k, k ≤ pre.length ∧ EvM W b1 k t 2 pre
 m2 : ∃ k, k ≤ pre.length ∧ EvM W b2 k t 3 pre
 x : Ext w W
section
variable {w W W' : World} {t : Tr} {ta : Option Addr} {n tc b1 b2 D : Nat} {pre : List Eid}
theorem KwI.ext (h : KwI w W t ta n tc b1 b2 D pre) (x : Ext W W') : KwI w W' t ta n tc b1 b2 D pre := by
 obtain ⟨h1, h2, h3, ⟨k1, h4, h5⟩, ⟨k2, h6, h7⟩, h8⟩ := h
 exact ⟨x.hp h1, x.hp h2, x.hp h3, ⟨k1, h4, h5.ext x⟩, ⟨k2, h6, h7.ext x⟩, h8.trans' x⟩
theorem KwI.skip (h : KwI w W t ta n tc b1 b2 D pre) {y : Eid} (h2 : (ev t y).kind ≠ 2) (h3 : (ev t y).kind ≠ 3) : KwI w W t ta n tc b1 b2 D (pre ++ [y]) := by
 obtain ⟨g1, g2, g3, ⟨k1, g4, g5⟩, ⟨k2, g6, g7⟩, g8⟩ := h
 exact ⟨g1, g2, g3, ⟨k1, by rw [List.length_append]; omega, g5.skip h2⟩, ⟨k2, by rw [List.length_append]; omega, g7.skip h3⟩, g8⟩
theorem KwI.put1 (h : KwI w W t ta n tc b1 b2 D pre) {y : Eid} {k : Nat} (hk : k ≤ pre.length) (hn : EvM W' b1 (k + 1) t 2 (pre ++ [y])) (hg : W.grownBy W' (some b1)) (h3 : (ev t y).kind ≠ 3) (e1 : w.heap.size + 2 = b1) (e2 : w.heap.size + 3 = b2) (e3 : w.heap.size + 4 = D) : KwI w W' t ta n tc b1 b2 D (pre ++ [y]) := by
 obtain ⟨g1, g2, g3, ⟨k1, g4, g5⟩, ⟨k2, g6, g7⟩, g8⟩ := h
 exact ⟨grownKeep hg (by simp only [ne_eq, Option.some.injEq]; omega) g1, grownKeep hg (by simp only [ne_eq, Option.some.injEq]; omega) g2, grownKeep hg (by simp only [ne_eq, Option.some.injEq]; omega) g3, ⟨k + 1, by rw [List.length_append]; simp; omega, hn⟩, ⟨k2, by rw [List.length_append]; omega, (g7.grown hg (by simp only [ne_eq, Option.some.injEq]; omega)).skip h3⟩, g8.gr hg (fun kk hkk => by simp only [Option.some.injEq] at hkk; omega)⟩
theorem KwI.put2 (h : KwI w W t ta n tc b1 b2 D pre) {y : Eid} {k : Nat} (hk : k ≤ pre.length) (hn : EvM W' b2 (k + 1) t 3 (pre ++ [y])) (hg : W.grownBy W' (some b2)) (h3 : (ev t y).kind ≠ 2) (e1 : w.heap.size + 2 = b1) (e2 : w.heap.size + 3 = b2) (e3 : w.heap.size + 4 = D) : KwI w W' t ta n tc b1 b2 D (pre ++ [y]) := by
 obtain ⟨g1, g2, g3, ⟨k1, g4, g5⟩, ⟨k2, g6, g7⟩, g8⟩ := h
 exact ⟨grownKeep hg (by simp only [ne_eq, Option.some.injEq]; omega) g1, grownKeep hg (by simp only [ne_eq, Option.some.injEq]; omega) g2, grownKeep hg (by simp only [ne_eq, Option.some.injEq]; omega) g3, ⟨k1, by rw [List.length_append]; omega, (g5.grown hg (by simp only [ne_eq, Option.some.injEq]; omega)).skip h3⟩, ⟨k + 1, by rw [List.length_append]; simp; omega, hn⟩, g8.gr hg (fun kk hkk => by simp only [Option.some.injEq] at hkk; omega)⟩
end
theorem ids_len64 {t : Tr} (hv : validT t = true) : ∀ p i, p ≤ t.length → i ≤ 64 → (idsTo t p i).length ≤ 64 * p + i := by
 have h8 := (shapeB_parts2.1 (validT_parts2.1 hv).1).2.2.1
 intro p
 induction p with
 | zero => intro i _ _; simp [idsTo]
 | succ p ih =>
   intro i hp hi
   have h1 := ih t[p]!.events.length (by omega) (headB_parts.1 (h8 p (by omega))).2.2.2.2
   have h2 := (headB_parts.1 (h8 p (by omega))).2.2.2.2
   have e : (idsTo t (p + 1) i).length = (idsTo t (p + 1) 0).length + i := by simp [idsTo]
   rw [e, ← idsTo_next]; omega
set_option maxHeartbeats 8000000 in
set_option maxRecDepth 100000 in
theorem knows_calls (v : Value) (t : Tr) (w : World) (h : TrAt w v t) (hv : validT t = true) :
  Calls Tryz.prog 27 #[.agg #[v]] w fun e w' => ∃ b1 b2 n, e = .returned (.agg #[v, .map (some b1), .map (some b2)]) ∧ EvM w' b1 n t 2 (ids t) ∧ Ext w w' := by
 have hmm := @run_makeMap Tryz.prog
 have HT := Lib.hid h
 have hs := valid_small hv
 have HV := Lib.hid hv
 have HS := Lib.hid hs
 have hn8 : t.length ≤ 8 := (shapeB_parts2.1 (validT_parts2.1 hv).1).2.1
 have HE64 : Hid (∀ p, p < t.length → t[p]!.events.length ≤ 64) := Lib.hid (fun p hp => (headB_parts.1 ((shapeB_parts2.1 (validT_parts2.1 hv).1).2.2.1 p hp)).2.2.2.2)
 have HLB := Lib.hid (ids_len64 hv)
 obtain ⟨ta, tc, rfl, htc⟩ := h.sh
 generalize hln : t.length = n at *
 have HL := Lib.hid hln
 clear h hs hln hv
 go_enter Tryz.func27, Tryz.ntmps27
 go_wp2
 obtain ⟨b1, hb1⟩ : ∃ b, w.heap.size + 1 + 1 = b := ⟨_, rfl⟩
 obtain ⟨b2, hb2⟩ : ∃ b, b1 + 1 = b := ⟨_, rfl⟩
 obtain ⟨D, hD⟩ : ∃ b, b2 + 1 = b := ⟨_, rfl⟩
 rw [hb1, hb2, hD]
 have HQ : Hid (w.heap.size + 2 = b1 ∧ w.heap.size + 3 = b2 ∧ w.heap.size + 4 = D) := Lib.hid (by omega)
 have HI0 : Hid (KwI w (((((w.alloc (.cells #[.slice ta n tc] 24)).alloc (.cells #[.slice none 0 0, .map none, .map none] 69)).alloc (.map #[] 0)).alloc (.map #[] 0)).alloc (.cells #[.slice ta n tc, .map (some b1), .map (some b2)] 69)) t ta n tc b1 b2 D (idsTo t 0 0)) := Lib.hid (by
  have e1 := EvM.made ((w.alloc (.cells #[.slice ta n tc] 24)).alloc (.cells #[.slice none 0 0, .map none, .map none] 69)) t 2
  have e2 := EvM.made (((w.alloc (.cells #[.slice ta n tc] 24)).alloc (.cells #[.slice none 0 0, .map none, .map none] 69)).alloc (.map #[] 0)) t 3
  simp only [World.size_alloc, hb1, hb2] at e1 e2
  refine ⟨?_, ?_, heap_new_eq (by simp; omega), ⟨0, Nat.zero_le _, (e1.ext ((Ext.rf _).al _)).ext ((Ext.rf _).al _)⟩, ⟨0, Nat.zero_le _, e2.ext ((Ext.rf _).al _)⟩, (by repeat (first | refine Ext.st ?_ (by first | exact Nat.le_refl _ | exact Nat.le_succ _ | assumption | omega) _ | refine Ext.al ?_ _ | refine Ext.dr ?_ | refine Ext.drN ?_ _ | exact Ext.rf _))⟩
  ·have h0 := heap_alloc_new w (.cells #[.slice ta n tc] 24)
   exact (((((Ext.rf _).al _).al _).al _).al _).hp h0
  ·have h0 := heap_alloc_new (w.alloc (.cells #[.slice ta n tc] 24)) (.cells #[.slice none 0 0, .map none, .map none] 69)
   rw [World.size_alloc] at h0
   exact ((((Ext.rf _).al _).al _).al _).hp h0)
 clear hmm hb1 hb2 hD
 generalize ((((w.alloc (.cells #[.slice ta n tc] 24)).alloc (.cells #[.slice none 0 0, .map none, .map none] 69)).alloc (.map #[] 0)).alloc (.map #[] 0)).alloc (.cells #[.slice ta n tc, .map (some b1), .map (some b2)] 69) = w5 at *
 go_loopg [16] n (fun g s16 wr => ∃ p : Nat, p ≤ n ∧ n - p ≤ g ∧ s16 = .int .i64 p ∧ Aside (KwI w wr t ta n tc b1 b2 D (idsTo t p 0)))
 case atStart => exact ⟨0, Nat.zero_le _, by omega, rfl, HI0.out⟩
 case round =>
  obtain ⟨p, hp, hg, rfl, HIP⟩ := hrel
  by_cases hlt : p < n
  ·have hltz : (p : Int) < (n : Int) := by omega
   have hpz : (0 : Int) ≤ (p : Int) := by omega
   obtain ⟨B, O, C, vv, ve, hve, hlC, hB, hn0, hv0, he0, hVv, hE0⟩ := proc_at HT.out p (by rw [HL.out]; exact hlt)
   simp only [Value.slice.injEq] at hve
   obtain ⟨rfl, hzz, rfl⟩ := hve
   have HEV := Lib.hid hE0
   obtain ⟨ea, ec, rfl, hec⟩ := hE0.sh
   have hen := HE64.out p hlt
   generalize hne : t[p]!.events.length = ne at *
   have HNE := Lib.hid hne
   have q0 := HIP.out.x.cl hn0
   have q1 := HIP.out.x.cl hv0
   have q2 := HIP.out.x.cl he0
   have t0 := cellOf HIP.out.tb 0
   simp only [List.getElem?_toArray, List.getElem?_cons_zero] at t0
   obtain ⟨va0, vl0, vc0, rfl⟩ : ∃ a l c, vv = .slice a l c := by obtain ⟨a, c, h, _⟩ := hVv.sh; exact ⟨a, _, c, h⟩
   obtain ⟨nm, hnm⟩ : ∃ x, t[p]!.name = x := ⟨_, rfl⟩
   rw [hnm] at q0
   clear hn0 hv0 hVv hE0 hzz he0 hne HI0 hnm
   obtain ⟨wo, rfl⟩ : ∃ x, x = wr := ⟨_, rfl⟩
   have HI1 := Lib.hid (HIP.out.ext ((Ext.rf wo).al (.cells #[.string nm, .slice va0 vl0 vc0, .slice ea ne ec] 54)))
   clear HIP
   go_wp2
   clear q0 q1 q2 t0
   go_loopg [24] ne (fun g s24 wr => ∃ i : Nat, i ≤ ne ∧ ne - i ≤ g ∧ s24 = .int .i64 i ∧ Aside (KwI w wr t (some ⟨B, O, none⟩) n tc b1 b2 D (idsTo t p i)))
   case atStart => exact ⟨0, Nat.zero_le _, by omega, rfl, HI1.out⟩
   case round =>
    obtain ⟨i, hi, hgi, rfl, HII⟩ := hrel
    by_cases hli : i < ne
    ·have hliz : (i : Int) < (ne : Int) := by omega
     have hiz : (0 : Int) ≤ (i : Int) := by omega
     have HI := Lib.hid HII.out
     have HEW := Lib.hid HI.out.x
     obtain ⟨EB, EO, EC, va, hee, hlE, hEB, k0, k1, k2, k3, k4, ha⟩ := event_at HEV.out i (by rw [HNE.out]; omega)
     simp only [Value.slice.injEq] at hee
     obtain ⟨rfl, hzz, rfl⟩ := hee
     obtain ⟨va1, va2, rfl, _⟩ := ha.sh
     have m0 := HEW.out.cl k0
     have m1 := HEW.out.cl k1
     have m2 := HEW.out.cl k2
     have m3 := HEW.out.cl k3
     have m4 := HEW.out.cl k4
     have HEVE : Hid (ev t (p, i) = t[p]!.events[i]!) := Lib.hid rfl
     have HIN := Lib.hid (show Inn t (p, i) from ⟨by rw [HL.out]; exact hlt, by simp only; rw [HNE.out]; exact hli⟩)
     generalize t[p]!.events[i]! = y at *
     obtain ⟨kd, pe, ms, ti, al⟩ := y
     simp only at *
     generalize al.length = nb at *
     clear k0 k1 k2 k3 k4 hzz ha
     have d0 := cellOf HI.out.kb 1
     have d1 := cellOf HI.out.kb 2
     simp only [List.getElem?_toArray, List.getElem?_cons_zero, List.getElem?_cons_succ] at d0 d1
     have HXT := Lib.hid (((Ext.rf wr).al (.cells #[.int .i64 kd, .int .i64 pe, .int .i64 ms, .int .i64 ti, .slice va1 nb va2] 58)).al (.cells #[.int .i64 p, .int .i64 ((i : Int) + 1)] 39))
     have hDw : D < wr.heap.size := (Array.getElem?_eq_some_iff.1 HI.out.kb).1
     clear HII HI1
     by_cases h2 : kd = 2
     ·subst h2
      have d2 : ((2 : Int) == 3) = false := by decide
      obtain ⟨k1, hkl, hkm⟩ := HI.out.m1
      have HM := Lib.hid hkm
      have HKL := Lib.hid hkl
      have hkb : k1 ≤ 1000 := by have := HLB.out p i (by omega) (by omega); omega
      clear hkl hkm
      have HIX := HI.out.ext HXT.out
      clear HI
      go_wp2_with (first | (at_mapUpdate; go_loud (refine wpList_put_ev rfl _ _ _ rfl b1 k1 t 2 (idsTo t p i) (HM.out.ext HXT.out) (by unfold maxLen; omega) HV.out (fun x hx => mem_ids.1 (List.IsPrefix.subset (idsTo_ids (by rw [HL.out]; omega) (by rw [HNE.out]; omega)) hx)) (p, i) HIN.out (by rw [HEVE.out]) (by decide) ms (by rw [HEVE.out]) rfl rfl rfl ?_); intro w8 hb8 hg8; have HB8 := Lib.hid hb8; have HG8 := Lib.hid hg8; clear hb8 hg8) | go_in)
      go_roundg (ne - (i + 1))
      case measure => omega
      case rel => exact ⟨i + 1, by omega, by omega, by go_num, by rw [idsTo_succ]; exact HIX.put1 HKL.out HB8.out HG8.out (by rw [HEVE.out]; exact (by simp)) HQ.out.1 HQ.out.2.1 HQ.out.2.2⟩
     ·by_cases h3 : kd = 3
      ·subst h3
       obtain ⟨k2, hkl, hkm⟩ := HI.out.m2
       have HM := Lib.hid hkm
       have HKL := Lib.hid hkl
       have hkb : k2 ≤ 1000 := by have := HLB.out p i (by omega) (by omega); omega
       clear hkl hkm
       have HIX := HI.out.ext HXT.out
       clear HI
       go_wp2_with (first | (at_mapUpdate; go_loud (refine wpList_put_ev rfl _ _ _ rfl b2 k2 t 3 (idsTo t p i) (HM.out.ext HXT.out) (by unfold maxLen; omega) HV.out (fun x hx => mem_ids.1 (List.IsPrefix.subset (idsTo_ids (by rw [HL.out]; omega) (by rw [HNE.out]; omega)) hx)) (p, i) HIN.out (by rw [HEVE.out]) (by decide) ms (by rw [HEVE.out]) rfl rfl rfl ?_); intro w8 hb8 hg8; have HB8 := Lib.hid hb8; have HG8 := Lib.hid hg8; clear hb8 hg8) | go_in)
       go_roundg (ne - (i + 1))
       case measure => omega
       case rel => exact ⟨i + 1, by omega, by omega, by go_num, by rw [idsTo_succ]; exact HIX.put2 HKL.out HB8.out HG8.out (by rw [HEVE.out]; exact (by simp)) HQ.out.1 HQ.out.2.1 HQ.out.2.2⟩
      ·have d2 : (kd == 2) = false := by simp [h2]
       have d3 : (kd == 3) = false := by simp [h3]
       have HIX := Lib.hid ((HI.out.ext HXT.out).skip (y := (p, i)) (by rw [HEVE.out]; exact h2) (by rw [HEVE.out]; exact h3))
       clear h2 h3 HI
       go_wp2
       go_roundg (ne - (i + 1))
       case measure => omega
       case rel => exact ⟨i + 1, by omega, by omega, by go_num, by rw [idsTo_succ]; exact HIX.out⟩
    ·have hliz : ¬ (i : Int) < (ne : Int) := by omega
     obtain rfl : ne = i := by omega
     clear HI1
     go_wp2
     go_roundg (n - (p + 1))
     case measure => omega
     case rel => exact ⟨p + 1, by omega, by omega, by go_num, by rw [← idsTo_next, HNE.out]; exact HII.out⟩
  ·have hltz : ¬ (p : Int) < (n : Int) := by omega
   obtain rfl : n = p := by omega
   clear HI0
   have z0 := cellOf HIP.out.kb 0
   have z1 := cellOf HIP.out.kb 1
   have z2 := cellOf HIP.out.kb 2
   have y0 := cellOf HIP.out.rb 0
   have y1 := cellOf HIP.out.rb 1
   have y2 := cellOf HIP.out.rb 2
   have f0 := freeOf HIP.out.rb 0
   have f1 := freeOf HIP.out.rb 1
   have f2 := freeOf HIP.out.rb 2
   simp only [List.getElem?_toArray, List.getElem?_cons_zero, List.getElem?_cons_succ] at z0 z1 z2 y0 y1 y2
   obtain ⟨k, hkl, hkm⟩ := HIP.out.m1
   have HM := Lib.hid hkm
   have HB := Lib.hid HIP.out.rb
   have HX := Lib.hid HIP.out.x
   clear hkl hkm HIP
   go_wp2
   have e1 := heap_setCell_same (o := 2) (u := .map (some b2)) (heap_setCell_same (o := 1) (u := .map (some b1)) (heap_setCell_same (o := 0) (u := .slice ta n tc) HB.out))
   have r0 := cellOf e1 0
   have r1 := cellOf e1 1
   have r2 := cellOf e1 2
   simp only [Array.setIfInBounds, List.size_toArray, List.length_cons, List.length_nil, Nat.zero_lt_succ] at r0 r1 r2
   refine bodyPost_ret (v := .agg #[.slice ta n tc, .map (some b1), .map (some b2)]) (by simp [results, Tryz.results27, go_sem, r0, r1, r2]) rfl ⟨b1, ⟨b2, rfl⟩, ⟨k, ?_⟩, ?_⟩
   ·have hne : b1 ≠ w.heap.size + 1 := by have := HQ.out; omega
    have h9 := HM.out
    rw [← HL.out] at h9
    exact ((h9.st hne _).st hne _).st hne _
   ·exact ((HX.out.st (by show w.heap.size ≤ w.heap.size + 1; omega) _).st (by show w.heap.size ≤ w.heap.size + 1; omega) _).st (by show w.heap.size ≤ w.heap.size + 1; omega) _
end Go.Proofs.YtbpdbikphlhaiaaGreatDoor
namespace Go.Proofs.YtbpdbikphlhaiaaGreatDoor
set_option linter.unusedVariables false
def hasM (M : List Nat) (i j : Nat) : Bool := (M[i]!).testBit j
def putM (M : List Nat) (i j : Nat) : List Nat := M.set i (M[i]! ||| 2 ^ j)
def mergeM (M : List Nat) (i k : Nat) : List Nat := M.set i (M[i]! ||| M[k]!)
theorem nat_set_at {l : List Nat} {k : Nat} (hk : k < l.length) (b : Nat) : (l.set k b)[k]! = b := by
 rw [getElem!_pos _ k (by rw [List.length_set]; exact hk), List.getElem_set_self]
theorem nat_set_ne {l : List Nat} {k j : Nat} (h : j ≠ k) (x : Nat) : (l.set k x)[j]! = l[j]! := by
 by_cases hj : j < l.length
 ·rw [getElem!_pos _ j (by rw [List.length_set]; exact hj), getElem!_pos l j hj, List.getElem_set_ne (fun e => h e.symm)]
 ·rw [getElem!_neg _ j (by rw [List.length_set]; exact hj), getElem!_neg l j hj]
theorem putM_has {M : List Nat} {i j : Nat} (hi : i < M.length) (a b : Nat) : hasM (putM M i j) a b = (hasM M a b || (decide (a = i) && decide (b = j))) := by
 unfold hasM putM
 by_cases e : a = i
 ·subst e
  rw [nat_set_at hi, Nat.testBit_or, Nat.testBit_two_pow]
  simp [eq_comm]
 ·rw [nat_set_ne e]; simp [e]
theorem hasM_out {M : List Nat} {i j : Nat} (hi : ¬ i < M.length) : hasM M i j = false := by
 unfold hasM
 rw [getElem!_neg M i hi]
 exact Nat.zero_testBit j
def WalkTo (M : List Nat) (f : Nat) : Nat → Nat → Prop
 | 0, i => i = f
 | d + 1, i => ∃ x, x < M.length ∧ hasM M i x = true ∧ WalkTo M f d x
def PathM (M : List Nat) (i j : Nat) : Prop := ∃ d, WalkTo M j (d + 1) i
def closeI (M : List Nat) (k i : Nat) : List Nat := if hasM M i k = true then mergeM M i k else M
def closeIn (M : List Nat) (k : Nat) : Nat → List Nat
 | 0 => M
 | n + 1 => closeI (closeIn M k n) k n
def closeTo (M : List Nat) : Nat → List Nat
 | 0 => M
 | k + 1 => closeIn (closeTo M k) k M.length
def closeM (M : List Nat) : List Nat := closeTo M M.length
def depM (S : List Int) (f x : Nat) : Int := if x = f then 0 else S[x]!
structure FarM (M : List Nat) (f : Nat) (S : List Int) (Q : List Nat) : Prop where
 len : S.length = M.length
 flt : f < M.length
 qpos : 0 < Q.length
 q0 : Q[0]! = f
 qlt : ∀ j, j < Q.length → Q[j]! < M.length
 qinj : ∀ i j, i < Q.length → j < Q.length → Q[i]! = Q[j]! → i = j
 seen : ∀ i, i < M.length → i ≠ f → (S[i]! = -1 ∧ ∀ j, j < Q.length → Q[j]! ≠ i) ∨ (∃ j, j < Q.length ∧ Q[j]! = i)
 way : ∀ j, j < Q.length → 0 < j → ∃ d : Nat, S[Q[j]!]! = (d : Int) + 1 ∧ WalkTo M f (d + 1) Q[j]! ∧ d < j
 mono : ∀ i j, i ≤ j → j < Q.length → depM S f Q[i]! ≤ depM S f Q[j]!
def SeenM (M : List Nat) (f : Nat) (S : List Int) (Q : List Nat) (L : Int) (k i : Nat) : Prop :=
 ∀ x, x < i → hasM M x Q[k]! = true → (x = f → 1 ≤ L ∧ L ≤ depM S f Q[k]! + 1) ∧ (x ≠ f → (∃ j, j < Q.length ∧ Q[j]! = x) ∧ S[x]! ≤ depM S f Q[k]! + 1)
def NearM (S : List Int) (f : Nat) (Q : List Nat) (k : Nat) : Prop := k < Q.length → ∀ j, j < Q.length → depM S f Q[j]! ≤ depM S f Q[k]! + 1
structure BfsM (M : List Nat) (f : Nat) (S : List Int) (Q : List Nat) (L : Int) (k i : Nat) : Prop where
 far : FarM M f S Q
 low : L = 0 ∨ ∃ j, j ≤ k ∧ j < Q.length ∧ L = depM S f Q[j]! + 1 ∧ hasM M f Q[j]! = true
 kle : k ≤ Q.length
 done : ∀ j, j < k → SeenM M f S Q L j M.length
 near : NearM S f Q k
 part : k < Q.length → SeenM M f S Q L k i
section
variable {M : List Nat} {f : Nat} {S : List Int} {Q : List Nat} {L : Int} {k i : Nat}
def LeastM (M : List Nat) (f x d : Nat) : Prop := WalkTo M f (d + 1) x ∧ ∀ e, WalkTo M f (e + 1) x → d ≤ e
end
def nextB (M : List Nat) (f : Nat) (S : List Int) (x : Nat) (left : Nat) (j : Nat) : Bool := hasM M x j && ((j != f) && (S[j]! == (left : Int)))
def outTo (M : List Nat) (f : Nat) (S : List Int) (l : Nat) : Nat → List Nat
 | 0 => [f]
 | n + 1 => match (List.range M.length).find? (nextB M f S ((outTo M f S l n).getLastD f) (l - n)) with | some j => outTo M f S l n ++ [j] | none => outTo M f S l n
end Go.Proofs.YtbpdbikphlhaiaaGreatDoor
