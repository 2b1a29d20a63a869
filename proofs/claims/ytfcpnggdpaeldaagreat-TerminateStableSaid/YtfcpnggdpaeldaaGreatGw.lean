import Derived.Test.YtfcpnggdpaeldaaGreatJa
import Derived.Test.YtfcpnggdpaeldaaGreatProg
import Derived.Test.YtfcpnggdpaeldaaGreatGv
import Derived.Test.YtfcpnggdpaeldaaGreatGf
import Derived.BigQuiet
import Derived.Deep.QuietTactic
import Derived.Deep.LoopGhost
import Derived.Shelf.Abstract
/-
  Closing and opening counts: the program's repaired, Close and Open.
-/
namespace Go.Proofs.YtfcpnggdpaeldaaGreat
open Go.RowKit
set_option linter.unusedVariables false
attribute [local go_sem ↓] Go.wp_at_zero Go.wp_at_succ

open Classical in
/-- What repairing comes to. -/
noncomputable def fixC (t : Tr) (F : List Int → Eid → List Int) (c : List Int) : List Int := if h : ∃ d, ∃ n, FixN t F n c d then Exists.choose h else c
theorem fixC_eq {t : Tr} {F : List Int → Eid → List Int} {n : Nat} {c d : List Int} (h : FixN t F n c d) : fixC t F c = d := by
  unfold fixC
  have hd : ∃ d, ∃ n, FixN t F n c d := ⟨d, n, h⟩
  rw [dif_pos hd]
  obtain ⟨m, hm⟩ := Exists.choose_spec hd
  exact (hm.same h).1
noncomputable def closeC (t : Tr) (c : List Int) : List Int := fixC t (upS t) c
noncomputable def openC (t : Tr) (c : List Int) : List Int := fixC t (dnS t) c
theorem closeC_fix {t : Tr} {c : List Int} (hr : RangeC t c) : ∃ n, FixN t (upS t) n c (closeC t c) := by
  obtain ⟨n, d, _, h⟩ := up_ends _ c hr (Nat.le_refl _)
  exact ⟨n, by unfold closeC; rw [fixC_eq h]; exact h⟩
theorem openC_fix {t : Tr} {c : List Int} (hr : RangeC t c) : ∃ n, FixN t (dnS t) n c (openC t c) := by
  obtain ⟨n, d, _, h⟩ := dn_ends _ c hr (Nat.le_refl _)
  exact ⟨n, by unfold openC; rw [fixC_eq h]; exact h⟩
/-- The error of counts. -/
noncomputable def repE (t : Tr) (c : List Int) : Int := if (validT t && fitsB t c) = true then if rangeB t c = true then 0 else 2 else 1

/-- A function that changes counts for what is missing. -/
def FnS (g : Nat) (t : Tr) (F : List Int → Eid → List Int) : Prop :=
  ∀ (W : World) (base G O n cap : Nat) (c : List Int) (x s : Eid), missE t c = some x → findE t 2 (ev t x).msg = some s → RangeC t c → n = t.length → Row W base 3 1 (.slice (some ⟨G, O, none⟩) n cap) n (c.map (Value.int .i64)) →
    Calls Tryz.prog g #[.slice (some ⟨G, O, none⟩) n cap, .agg #[.int .i64 s.1, .int .i64 ((s.2 : Int) + 1)], .agg #[.int .i64 x.1, .int .i64 ((x.2 : Int) + 1)]] W fun e w' =>
      e = .returned (.tuple #[]) ∧ Row w' base 3 1 (.slice (some ⟨G, O, none⟩) n cap) n ((F c x).map (Value.int .i64)) ∧ ∀ w0, Ext w0 W → w0.heap.size ≤ G → Ext w0 w'

theorem enters_53 : ∀ args w, (callFunc 53 args).run Tryz.prog w = .ok (.enter 53 args) w := enters_of Tryz.func53 (by kernel_rfl) rfl
theorem enters_54 : ∀ args w, (callFunc 54 args).run Tryz.prog w = .ok (.enter 54 args) w := enters_of Tryz.func54 (by kernel_rfl) rfl

set_option maxHeartbeats 4000000 in
theorem close1_calls (t : Tr) (hsm : SmallTr t) : FnS 53 t (upS t) := fun W base G O n cap c x s hm hs hr hn hrow => by
  obtain ⟨hin, hk, s', hs', hlt, hsi⟩ := miss_parts hm
  obtain rfl : s = s' := Option.some.inj (hs.symm.trans hs')
  have hp : s.1 < n := by rw [hn]; exact hsi.1
  have hX := Lib.hid (show Ext W ((W.alloc (.cells #[.int .i64 s.1, .int .i64 ((s.2 : Int) + 1)] 72)).alloc (.cells #[.int .i64 x.1, .int .i64 ((x.2 : Int) + 1)] 72)) from ((Ext.rf W).al _).al _)
  have hX0 := Lib.hid (((Ext.rf _).al (.cells #[.int .i64 x.1, .int .i64 ((x.2 : Int) + 1)] 72)).hp (heap_alloc_new W (.cells #[.int .i64 s.1, .int .i64 ((s.2 : Int) + 1)] 72)))
  have hR2 := Lib.hid (hrow.ext hX.out)
  have HUP : Hid (upS t c x = c.set s.1 ((s.2 : Int) + 1)) := Lib.hid (upS_eq hs)
  obtain ⟨s1, s2⟩ := s
  obtain ⟨x1, x2⟩ := x
  simp only at *
  have hz1 : (0 : Int) ≤ ((s1 : Nat) : Int) := by omega
  have hz2 : ((s1 : Nat) : Int) < (n : Int) := by omega
  have hcell := hR2.out.cell s1 (by omega)
  have hfree := hR2.out.free (O + s1)
  obtain ⟨old, hold⟩ : ∃ u, (c.map (Value.int .i64))[s1]? = some u := ⟨_, List.getElem?_eq_getElem (by rw [List.length_map, hr.1, ← hn]; exact hp)⟩
  rw [hold] at hcell
  have hb2 : x2 ≤ 1000000 := by have h1 := hr.inn hin; have h2 := (hsm.2 _ h1.1).2.1; have h3 := h1.2; simp only at h2 h3; omega
  clear hn hm hs hr hrow hin hk hs' hlt hsi hsm
  go_enter Tryz.func53, Tryz.ntmps53
  generalize hw2 : (W.alloc (.cells #[.int .i64 s1, .int .i64 ((s2 : Int) + 1)] 72)).alloc (.cells #[.int .i64 x1, .int .i64 ((x2 : Int) + 1)] 72) = w2 at *
  have q0 := cellOf hX0.out 0
  have q1 := cellOf hX0.out 1
  simp only [List.getElem?_toArray, List.getElem?_cons_zero, List.getElem?_cons_succ] at q0 q1
  go_wp2
  go_end0
  refine ⟨rfl, ?_, fun w0 h0 hG => (h0.trans' hX.out).st hG _⟩
  have := hR2.out.set s1 (.int .i64 ((s2 : Int) + 1)) (by omega)
  rw [← List.map_set] at this
  rw [HUP.out]
  first
    | exact this
    | (simpa using this)

set_option maxHeartbeats 4000000 in
theorem open1_calls (t : Tr) (hsm : SmallTr t) : FnS 54 t (dnS t) := fun W base G O n cap c x s hm hs hr hn hrow => by
  obtain ⟨hin, hk, s', hs', hlt, hsi⟩ := miss_parts hm
  obtain rfl : s = s' := Option.some.inj (hs.symm.trans hs')
  have hp : x.1 < n := by rw [hn]; exact (hr.inn hin).1
  have hX := Lib.hid (show Ext W ((W.alloc (.cells #[.int .i64 s.1, .int .i64 ((s.2 : Int) + 1)] 72)).alloc (.cells #[.int .i64 x.1, .int .i64 ((x.2 : Int) + 1)] 72)) from ((Ext.rf W).al _).al _)
  have hX0 := Lib.hid (heap_new_eq (w := W.alloc (.cells #[.int .i64 s.1, .int .i64 ((s.2 : Int) + 1)] 72)) (o := .cells #[.int .i64 x.1, .int .i64 ((x.2 : Int) + 1)] 72) (b := W.heap.size + 1) (by simp))
  have hR2 := Lib.hid (hrow.ext hX.out)
  have HUP : Hid (dnS t c x = c.set x.1 (x.2 : Int)) := Lib.hid rfl
  obtain ⟨s1, s2⟩ := s
  obtain ⟨x1, x2⟩ := x
  simp only at *
  have hz1 : (0 : Int) ≤ ((x1 : Nat) : Int) := by omega
  have hz2 : ((x1 : Nat) : Int) < (n : Int) := by omega
  have hcell := hR2.out.cell x1 (by omega)
  have hfree := hR2.out.free (O + x1)
  obtain ⟨old, hold⟩ : ∃ u, (c.map (Value.int .i64))[x1]? = some u := ⟨_, List.getElem?_eq_getElem (by rw [List.length_map, hr.1, ← hn]; exact hp)⟩
  rw [hold] at hcell
  have hb2 : x2 ≤ 1000000 := by have h1 := hr.inn hin; have h2 := (hsm.2 _ h1.1).2.1; have h3 := h1.2; simp only at h2 h3; omega
  clear hn hm hs hr hrow hin hk hs' hlt hsi hsm
  go_enter Tryz.func54, Tryz.ntmps54
  generalize hw2 : (W.alloc (.cells #[.int .i64 s1, .int .i64 ((s2 : Int) + 1)] 72)).alloc (.cells #[.int .i64 x1, .int .i64 ((x2 : Int) + 1)] 72) = w2 at *
  have q0 := cellOf hX0.out 0
  have q1 := cellOf hX0.out 1
  simp only [List.getElem?_toArray, List.getElem?_cons_zero, List.getElem?_cons_succ] at q0 q1
  go_wp2
  go_end0
  refine ⟨rfl, ?_, fun w0 h0 hG => (h0.trans' hX.out).st hG _⟩
  have := hR2.out.set x1 (.int .i64 ((x2 : Int))) (by omega)
  rw [← List.map_set] at this
  rw [HUP.out]
  first
    | exact this
    | (simpa using this)

set_option maxHeartbeats 8000000 in
set_option maxRecDepth 100000 in
theorem repairedP_calls (g : Nat) (eg : ∀ args w, (callFunc g args).run Tryz.prog w = .ok (.enter g args) w) (t : Tr) (F : List Int → Eid → List Int) (hF : validT t = true → FnS g t F)
    (hfix : ∀ c, RangeC t c → ∃ n, FixN t F n c (fixC t F c)) (hrange : ∀ c x, RangeC t c → missE t c = some x → RangeC t (F c x))
    (v vc : Value) (c : List Int) (w : World) (h : TrAt w v t) (hs : LooseTr t) (hc : Ints w vc c) (hcn : c.length ≤ 1000000) :
    Calls Tryz.prog 52 #[.agg #[v], vc, .func (.func g) #[] #[]] w fun e w' => IntsRes w w' e (repE t c) (if repE t c = 0 then fixC t F c else []) := by
  have HF := Lib.hid hF
  have HFX := Lib.hid hfix
  have HRA := Lib.hid hrange
  have HCC := Lib.hid hc
  have HMI := Lib.hid (fun W (hW : Ext w W) u d (hd : Ints W u d) (hv : validT t = true) (hr : RangeC t d) => missingP_calls v u t d W (h.ext hW) (valid_small hv) hv hd hr)
  have HRG := Lib.hid (fun (hv : validT t = true) W (hW : Ext w W) (hf : c.length = t.length) => inRangeP_calls v vc t c W (h.ext hW) (valid_small hv) (hc.ext hW) hf)
  have HCLN := Lib.hid (fun W (hW : Ext w W) => clone_cints vc c.length (c.map (Value.int .i64)) W (hc.ext hW).cells (by simp [Value.oneCell']) hcn)
  obtain ⟨ta, tc, rfl, htc⟩ := h.sh
  obtain ⟨ca, cc, rfl, hlc, _⟩ := hc
  have HX2 : Hid (Ext w ((w.alloc (.cells #[.slice ta t.length tc] 24)).alloc (.cells #[.slice ca c.length cc] 25))) := Lib.hid (by repeat (first | refine Ext.st ?_ (by first | exact Nat.le_refl _ | exact Nat.le_succ _ | assumption | omega) _ | refine Ext.al ?_ _ | refine Ext.dr ?_ | refine Ext.drN ?_ _ | exact Ext.rf _))
  have HSZ := Lib.hid (sizedP_calls (.slice ta t.length tc) (.slice (some ⟨w.heap.size + 1, 0, none⟩) 1 1) t [c] _ (h.ext HX2.out) hs (rows_one (heap_new_eq (by simp)) (HCC.out.ext HX2.out)) (by simp))
  have HX0 := Lib.hid (((Ext.rf _).al (.cells #[.slice ca c.length cc] 25)).hp (heap_alloc_new w (.cells #[.slice ta t.length tc] 24)))
  obtain ⟨ge, hge⟩ : ∃ E, repE t c = E := ⟨_, rfl⟩
  rw [hge]
  have HGE := Lib.hid hge
  obtain ⟨R, hR⟩ : ∃ R, (if ge = 0 then fixC t F c else []) = R := ⟨_, rfl⟩
  rw [hR]
  have HR0 := Lib.hid hR
  obtain ⟨sb, hsb⟩ : ∃ b, (validT t && [c].all (fitsB t)) = b := ⟨_, rfl⟩
  rw [hsb] at HSZ
  have HSB : Hid ((validT t && fitsB t c) = sb) := Lib.hid (by rw [← hsb]; simp)
  obtain ⟨rb, hrb⟩ : ∃ b, rangeB t c = b := ⟨_, rfl⟩
  rw [hrb] at HRG
  have HRB := Lib.hid hrb
  have htn := hs.1
  generalize hN : t.length = N at *
  generalize hM : c.length = M at *
  have HN := Lib.hid hN
  have HM := Lib.hid hM
  clear h hs hF hfix hrange hge hR hsb hrb hN hM
  go_enter Tryz.func52, Tryz.ntmps52
  go_wp2_with fail
  refine HSZ.out.mono ?_
  rintro e w2 ⟨rfl, hX⟩
  have HE2 := Lib.hid (HX2.out.trans' hX)
  have HY0 := Lib.hid (hX.hp HX0.out)
  have t0 := cellOf HY0.out 0
  simp only [List.getElem?_toArray, List.getElem?_cons_zero] at t0
  clear hX
  cases sb with
  | false =>
    have HG1 : Hid (ge = 1) := Lib.hid (by rw [← HGE.out]; unfold repE; rw [HSB.out]; rfl)
    have hR1 := HR0.out
    rw [HG1.out] at hR1
    obtain rfl := hR1
    go_wp2
    go_ret2
    rw [HG1.out]
    exact IntsRes.none HE2.out
  | true =>
  have HVF := Lib.hid (Bool.and_eq_true _ _ ▸ HSB.out : validT t = true ∧ fitsB t c = true)
  have HCL := Lib.hid (show c.length = t.length from of_decide_eq_true HVF.out.2)
  go_wp2_with fail
  clear t0
  refine (HRG.out HVF.out.1 _ HE2.out (by first | (rw [← HN.out, ← HM.out]; exact HCL.out) | (have := HCL.out; rw [HN.out, HM.out] at this; exact this))).mono ?_
  rintro e w3 ⟨rfl, hX⟩
  have HE3 := Lib.hid (HE2.out.trans' hX)
  have HZ0 := Lib.hid (hX.hp HY0.out)
  clear hX
  cases rb with
  | false =>
    have HG1 : Hid (ge = 2) := Lib.hid (by rw [← HGE.out]; unfold repE; rw [HSB.out, HRB.out]; rfl)
    have hR1 := HR0.out
    rw [HG1.out] at hR1
    obtain rfl := hR1
    go_wp2
    go_ret2
    rw [HG1.out]
    exact IntsRes.none HE3.out
  | true =>
  have HG1 : Hid (ge = 0) := Lib.hid (by rw [← HGE.out]; unfold repE; rw [HSB.out, HRB.out]; rfl)
  have HRZ : Hid (R = fixC t F c) := Lib.hid (by rw [← HR0.out, if_pos HG1.out])
  obtain rfl : M = N := by have := HCL.out; rw [HN.out, HM.out] at this; exact this
  have HRC := Lib.hid (show RangeC t c from ⟨HCL.out, HRB.out⟩)
  have HMP : Hid (0 < M) := Lib.hid (by have := ((shapeB_parts2.1 (validT_parts2.1 HVF.out.1).1)).1; rw [HN.out] at this; exact this)
  go_wp2_with fail
  refine (HCLN.out _ HE3.out).mono ?_
  rintro e w4 ⟨v8, rfl, hR8, hX⟩
  have HE4 := Lib.hid (HE3.out.trans' hX)
  have HE4' := Lib.hid hX
  have HU0 := Lib.hid (hX.hp HZ0.out)
  obtain ⟨G, O, cap, rfl, hG, _, _⟩ := hR8.shape HMP.out
  have HR8 := Lib.hid hR8
  have HGG := Lib.hid hG
  obtain ⟨n0, hn0⟩ := HFX.out c HRC.out
  have HFN := Lib.hid hn0
  clear hX hR8 hG hn0
  go_wp2
  go_loopg [] n0 (fun gh wr => ∃ (n : Nat) (d : List Int), n ≤ gh ∧ Aside (FixN t F n d (fixC t F c)) ∧ Aside (RangeC t d) ∧ Aside (Row wr w3.heap.size 3 1 (.slice (some ⟨G, O, none⟩) M cap) M (d.map (Value.int .i64))) ∧ Aside (wr.heap[w.heap.size]? = some (.cells #[.slice ta M tc] 24)) ∧ Aside (Ext w3 wr))
  case atStart => exact ⟨n0, c, Nat.le_refl _, HFN, HRC, HR8, HU0, HE4'⟩
  case round =>
    obtain ⟨n, d, hn, HFD, HRD, HRW, HUT, HEK⟩ := hrel
    have HEW := Lib.hid (HE3.out.trans' HEK.out)
    have t0 := cellOf HUT.out 0
    simp only [List.getElem?_toArray, List.getElem?_cons_zero] at t0
    have HDL := Lib.hid (show d.length = M from by rw [HRD.out.1, HN.out])
    have HDI := Lib.hid (show Ints wr (.slice (some ⟨G, O, none⟩) M cap) d from HRW.out.ints)
    have HCM := Lib.hid (HMI.out wr HEW.out _ d HDI.out HVF.out.1 HRD.out)
    unfold MissOut at HCM
    cases hmm : missE t d with
    | none =>
      have HMS : Hid (misS t d = none) := Lib.hid (by unfold misS; rw [hmm]; rfl)
      rw [hmm, HMS.out] at HCM
      simp only [eidA, eidB, Option.isSome_none] at HCM
      have HD : Hid (R = d) := Lib.hid (by
        rw [HRZ.out]
        cases n with
        | zero => exact HFD.out.2
        | succ n => obtain ⟨x, hx, _⟩ := HFD.out; rw [hmm] at hx; cases hx)
      clear hmm
      go_wp2_with fail
      refine HCM.out.mono ?_
      rintro e w5 ⟨rfl, hX5⟩
      go_wp2
      go_ret2
      rw [HG1.out, HD.out]
      refine ⟨_, rfl, ?_, ((HEW.out.trans' hX5).al _).al _⟩
      rw [HDL.out]
      exact (((HRW.out.ext hX5).al _).al _).mono HE3.out.sz
    | some x =>
      obtain ⟨hin, hk, s, hss, hlt, hsi⟩ := miss_parts hmm
      have HMS : Hid (misS t d = some s) := Lib.hid (by unfold misS; rw [hmm]; exact hss)
      rw [hmm, HMS.out] at HCM
      simp only [eidA, eidB, Option.isSome_some] at HCM
      have HMX := Lib.hid hmm
      have HSS := Lib.hid hss
      have HNX : Hid (∃ n', n = n' + 1 ∧ FixN t F n' (F d x) (fixC t F c)) := Lib.hid (by
        cases n with
        | zero => have := HFD.out.1; rw [hmm] at this; cases this
        | succ n => obtain ⟨y, hy, hz⟩ := HFD.out; rw [hmm] at hy; cases hy; exact ⟨n, rfl, hz⟩)
      have HCF := Lib.hid (fun W (hR : Row W w3.heap.size 3 1 (.slice (some ⟨G, O, none⟩) M cap) M (d.map (Value.int .i64))) => HF.out HVF.out.1 W w3.heap.size G O M cap d x s hmm hss HRD.out HN.out.symm hR)
      obtain ⟨x1, x2⟩ := x
      obtain ⟨s1, s2⟩ := s
      simp only at HCM HCF
      clear hmm hin hk hss hlt hsi
      go_wp2_with fail
      clear t0
      refine HCM.out.mono ?_
      rintro e w5 ⟨rfl, hX5⟩
      have HX6 := Lib.hid ((hX5.al (idO (s1 : Int) ((s2 : Int) + 1))).al (idO (x1 : Int) ((x2 : Int) + 1)))
      have HB0 := Lib.hid (((Ext.rf _).al (idO (x1 : Int) ((x2 : Int) + 1))).hp (heap_alloc_new w5 (idO (s1 : Int) ((s2 : Int) + 1))))
      have HB1 := Lib.hid (heap_new_eq (w := w5.alloc (idO (s1 : Int) ((s2 : Int) + 1))) (o := idO (x1 : Int) ((x2 : Int) + 1)) (b := w5.heap.size + 1) (by simp))
      have HRW6 := Lib.hid (HRW.out.ext HX6.out)
      clear hX5
      go_wp2_with fail
      refine (HCF.out _ HRW6.out).mono ?_
      rintro e w9 ⟨rfl, hR9, hX9⟩
      have HR9 := Lib.hid hR9
      have HX9 := Lib.hid (hX9 w3 (HEK.out.trans' HX6.out) HGG.out)
      clear hR9 hX9
      obtain ⟨n', rfl, hnx⟩ := HNX.out
      have HFN' := Lib.hid hnx
      clear hnx
      go_wp2
      go_roundg n'
      case measure => omega
      case rel => exact ⟨n', F d (x1, x2), Nat.le_refl _, HFN', (show RangeC _ _ from HRA.out d _ HRD.out HMX.out), HR9, HX9.out.hp HZ0.out, HX9.out⟩

set_option maxHeartbeats 2000000 in
theorem closeP_calls (v vc : Value) (t : Tr) (c : List Int) (w : World) (h : TrAt w v t) (hs : LooseTr t) (hc : Ints w vc c) (hcn : c.length ≤ 1000000) :
    Calls Tryz.prog 21 #[.agg #[v], vc] w fun e w' => IntsRes w w' e (repE t c) (if repE t c = 0 then closeC t c else []) := by
  have HCB := Lib.hid (fun W (hW : Ext w W) => repairedP_calls 53 enters_53 t (upS t) (fun hv => close1_calls t (valid_small hv)) (fun d hd => closeC_fix hd) (fun d x hd hx => upS_range hd hx) v vc c W (h.ext hW) hs (hc.ext hW) hcn)
  obtain ⟨ta, tc, rfl, htc⟩ := h.sh
  obtain ⟨ca, cc, rfl, hlc, _⟩ := hc
  have HE1 := Lib.hid ((Ext.rf w).al (.cells #[.slice ta t.length tc] 24))
  show Calls _ _ _ _ fun e w' => IntsRes w w' e (repE t c) (if repE t c = 0 then fixC t (upS t) c else [])
  generalize (if repE t c = 0 then fixC t (upS t) c else []) = R at *
  generalize repE t c = ge at *
  generalize t.length = N at *
  generalize c.length = n at *
  clear h hs
  go_enter Tryz.func21, Tryz.ntmps21
  go_wp2_with fail
  refine (HCB.out _ HE1.out).mono ?_
  rintro e w2 ⟨u, rfl, hR, hX⟩
  have HR := Lib.hid (hR.mono HE1.out.sz)
  obtain ⟨ra, rc, rfl, _⟩ := hR.any
  generalize hrl : R.length = rl at *
  have HRL := Lib.hid hrl
  have HX := Lib.hid (HE1.out.trans' hX)
  clear hR hX hrl
  go_wp2
  go_ret2
  exact ⟨_, rfl, by rw [HRL.out]; exact HR.out, HX.out⟩

set_option maxHeartbeats 2000000 in
theorem openP_calls (v vc : Value) (t : Tr) (c : List Int) (w : World) (h : TrAt w v t) (hs : LooseTr t) (hc : Ints w vc c) (hcn : c.length ≤ 1000000) :
    Calls Tryz.prog 22 #[.agg #[v], vc] w fun e w' => IntsRes w w' e (repE t c) (if repE t c = 0 then openC t c else []) := by
  have HCB := Lib.hid (fun W (hW : Ext w W) => repairedP_calls 54 enters_54 t (dnS t) (fun hv => open1_calls t (valid_small hv)) (fun d hd => openC_fix hd) (fun d x hd hx => dnS_range hd hx) v vc c W (h.ext hW) hs (hc.ext hW) hcn)
  obtain ⟨ta, tc, rfl, htc⟩ := h.sh
  obtain ⟨ca, cc, rfl, hlc, _⟩ := hc
  have HE1 := Lib.hid ((Ext.rf w).al (.cells #[.slice ta t.length tc] 24))
  show Calls _ _ _ _ fun e w' => IntsRes w w' e (repE t c) (if repE t c = 0 then fixC t (dnS t) c else [])
  generalize (if repE t c = 0 then fixC t (dnS t) c else []) = R at *
  generalize repE t c = ge at *
  generalize t.length = N at *
  generalize c.length = n at *
  clear h hs
  go_enter Tryz.func22, Tryz.ntmps22
  go_wp2_with fail
  refine (HCB.out _ HE1.out).mono ?_
  rintro e w2 ⟨u, rfl, hR, hX⟩
  have HR := Lib.hid (hR.mono HE1.out.sz)
  obtain ⟨ra, rc, rfl, _⟩ := hR.any
  generalize hrl : R.length = rl at *
  have HRL := Lib.hid hrl
  have HX := Lib.hid (HE1.out.trans' hX)
  clear hR hX hrl
  go_wp2
  go_ret2
  exact ⟨_, rfl, by rw [HRL.out]; exact HR.out, HX.out⟩

end Go.Proofs.YtfcpnggdpaeldaaGreat

/-
  What follows where given finds no error. No function is named here.
-/
namespace Go.Proofs.YtfcpnggdpaeldaaGreat
open Go.RowKit
set_option linter.unusedVariables false

theorem givenE_ps {t : Tr} {c : List Int} {ps : List Int} (h : givenE t [c] ps = 0) : validT t = true ∧ ConsC t c ∧ ∀ p, p ∈ ps → 0 ≤ p ∧ p < (t.length : Int) := by
  unfold givenE at h
  simp only [List.all_cons, List.all_nil, Bool.and_true] at h
  split at h
  · rename_i h1
    split at h
    · rename_i h2
      split at h
      · rename_i h3
        split at h
        · rename_i h4
          simp only [Bool.and_eq_true] at h1
          refine ⟨h1.1, ⟨⟨of_decide_eq_true h1.2, h2⟩, Option.isNone_iff_eq_none.1 h4⟩, fun p hp => ?_⟩
          have := List.all_eq_true.1 h3 p hp
          simpa using this
        · simp at h
      · simp at h
    · simp at h
  · simp at h

end Go.Proofs.YtfcpnggdpaeldaaGreat

/-
  Which processes can advance: the program's enabled and Enabled.
-/
namespace Go.Proofs.YtfcpnggdpaeldaaGreat
open Go.RowKit
set_option linter.unusedVariables false
attribute [local go_sem ↓] Go.wp_at_zero Go.wp_at_succ

/-- Process p has a further event, whose message is sent. -/
def enC (t : Tr) (c : List Int) (p : Nat) : Bool := decide (c[p]! < (t[p]!.events.length : Int)) && sentB t c (p, c[p]!.toNat)
def enTo (t : Tr) (c : List Int) (p : Nat) : List Int := ((List.range p).filter (enC t c)).map fun (q : Nat) => (q : Int)
def enabledC (t : Tr) (c : List Int) : List Int := enTo t c c.length
theorem enTo_yes {t : Tr} {c : List Int} {p : Nat} (h : enC t c p = true) : enTo t c (p + 1) = enTo t c p ++ [(p : Int)] := by
  unfold enTo; rw [List.range_succ, List.filter_append]; simp [h]
theorem enTo_no {t : Tr} {c : List Int} {p : Nat} (h : enC t c p = false) : enTo t c (p + 1) = enTo t c p := by
  unfold enTo; rw [List.range_succ, List.filter_append]; simp [h]
theorem enTo_len (t : Tr) (c : List Int) (p : Nat) : (enTo t c p).length ≤ p := by
  unfold enTo; rw [List.length_map]; exact Nat.le_trans (List.length_filter_le _ _) (by simp)

set_option maxHeartbeats 8000000 in
set_option maxRecDepth 100000 in
theorem enabledP1_calls (v vc : Value) (t : Tr) (c : List Int) (p : Nat) (w : World) (h : TrAt w v t) (hs : SmallTr t) (hv : validT t = true) (hc : Ints w vc c) (hr : RangeC t c) (hp : p < t.length) (hlt : c[p]! < (t[p]!.events.length : Int)) :
    Calls Tryz.prog 50 #[.agg #[v], vc, .int .i64 p] w fun e w' => e = .returned (.bool (sentB t c (p, c[p]!.toNat))) ∧ Ext w w' := by
  have HC := Lib.hid hc
  obtain ⟨i, hci⟩ : ∃ i : Nat, c[p]! = (i : Int) := ⟨c[p]!.toNat, by have := hr.at hp; omega⟩
  rw [hci] at hlt ⊢
  rw [Int.toNat_natCast]
  have hi : i < t[p]!.events.length := by omega
  have hx : Inn t (p, i) := ⟨hp, hi⟩
  have HSD := Lib.hid (fun (hk : (ev t (p, i)).kind = 3) => valid_send hv hx hk)
  have HSE : Hid (∀ W, Ext w W → ∀ m, Calls Tryz.prog 80 #[.agg #[v], .int .i64 m] W fun e w' => FndOut t 2 m W w' e) := Lib.hid (fun W hW m => senderP_calls v t m W (h.ext hW) hs)
  have HFV : Hid (∀ m, fndO t 2 m = findE t 2 m) := Lib.hid (fun m => by unfold fndO; rw [if_pos hv])
  obtain ⟨sb, hsb⟩ : ∃ b, sentB t c (p, i) = b := ⟨_, rfl⟩
  rw [hsb]
  have HSB := Lib.hid hsb
  have HEVE : Hid (ev t (p, i) = t[p]!.events[i]!) := Lib.hid rfl
  obtain ⟨B, O, C, vv, ve, rfl, hlC, hB, hn0, hv0, he0, hV, hE0⟩ := proc_at h p hp
  obtain ⟨EB, EO, EC, va, rfl, hlE, hEB, k0, k1, k2, k3, k4, ha⟩ := event_at hE0 i hi
  obtain ⟨va1, va2, rfl, huc⟩ := ha.sh
  obtain ⟨cb, co, cc, rfl, hlc, hcb, hcp⟩ := hc.at1 p (by rw [hr.1]; exact hp)
  have hn := hs.1
  have hen := (hs.2 p hp).2.1
  have HCL := Lib.hid hr.1
  rw [hr.1] at hlc ⊢
  rw [hci] at hcp
  generalize hxx : t[p]! = x at *
  generalize hev : x.events[i]! = y at *
  generalize hln : t.length = n at *
  generalize hne : x.events.length = ne at *
  generalize hna : y.asg.length = nb at *
  have HLN := Lib.hid hln
  have HX0 := Lib.hid (heap_alloc_new w (.cells #[.slice (some ⟨B, O, none⟩) n C] 24))
  have HE1 := Lib.hid ((Ext.rf w).al (.cells #[.slice (some ⟨B, O, none⟩) n C] 24))
  have hpz : (0 : Int) ≤ (p : Int) := by omega
  have hpi : (p : Int) < (n : Int) := by omega
  have hiz : (0 : Int) ≤ (i : Int) := by omega
  have hii : (i : Int) < (ne : Int) := by omega
  have he1 := HE1.out.cl he0
  have hc1 := HE1.out.cl hcp
  have m0 := HE1.out.cl k0
  have m1 := HE1.out.cl k1
  have m2 := HE1.out.cl k2
  have m3 := HE1.out.cl k3
  have m4 := HE1.out.cl k4
  have HCI := Lib.hid hci
  clear h hs hv hx hp hi hn0 hv0 he0 hV hE0 ha k0 k1 k2 k3 k4 hxx hev hln hne hna hsb hr hci hcp hlt hc
  go_enter Tryz.func50, Tryz.ntmps50
  obtain ⟨ck, hck⟩ : ∃ b, (y.kind != 3) = b := ⟨_, rfl⟩
  have HCK := Lib.hid hck
  generalize hw1 : w.alloc (.cells #[.slice (some ⟨B, O, none⟩) n C] 24) = w1 at *
  have t0 := cellOf HX0.out 0
  simp only [List.getElem?_toArray, List.getElem?_cons_zero] at t0
  have l1 : w.heap.size < w1.heap.size := World.block_lt_of_cell? w1 _ t0
  have l2 : w.heap.size ≠ w1.heap.size := by omega
  have l3 : B < w1.heap.size := World.block_lt_of_cell? w1 _ he1
  have l4 : B ≠ w1.heap.size := by omega
  have l5 : EB < w1.heap.size := World.block_lt_of_cell? w1 _ m0
  have l6 : EB ≠ w1.heap.size := by omega
  have l7 : cb < w1.heap.size := World.block_lt_of_cell? w1 _ hc1
  have l8 : cb ≠ w1.heap.size := by omega
  go_wp2
  go_region
  have HB6 := Lib.hid (show (w1.alloc (e5 (.int .i64 y.kind) (.int .i64 y.peer) (.int .i64 y.msg) (.int .i64 y.time) (.slice va1 nb va2))).drew.heap[w1.heap.size]? = some (e5 (.int .i64 y.kind) (.int .i64 y.peer) (.int .i64 y.msg) (.int .i64 y.time) (.slice va1 nb va2)) from heap_alloc_new w1 _)
  have HXT := Lib.hid (((Ext.rf w1).al (e5 (.int .i64 y.kind) (.int .i64 y.peer) (.int .i64 y.msg) (.int .i64 y.time) (.slice va1 nb va2))).dr)
  generalize (w1.alloc (.cells #[.int .i64 y.kind, .int .i64 y.peer, .int .i64 y.msg, .int .i64 y.time, .slice va1 nb va2] 62)).drew = w6 at *
  clear t0 l1 l2 l3 l4 l5 l6 l7 l8 he1 hc1 m0 m1 m2 m3 m4
  have y0 := cellOf HB6.out 0
  have y2 := cellOf HB6.out 2
  simp only [List.getElem?_toArray, List.getElem?_cons_zero, List.getElem?_cons_succ] at y0 y2
  cases ck with
  | true =>
    have HF : Hid (sb = true) := Lib.hid (by rw [← HSB.out]; exact sentB_other (by rw [HEVE.out]; have := HCK.out; simpa using this))
    go_wp2
    go_ret
    exact ⟨by rw [HF.out]; rfl, HE1.out.trans' HXT.out⟩
  | false =>
    have HK3 := Lib.hid (show y.kind = 3 from by have := HCK.out; simpa using this)
    obtain ⟨s, hs⟩ := HSD.out (by rw [HEVE.out]; exact HK3.out)
    have HFS := Lib.hid hs
    rw [HEVE.out] at hs
    have HSN := Lib.hid (findE_some hs).1
    have HFW := Lib.hid (HSE.out _ (HE1.out.trans' HXT.out) y.msg)
    unfold FndOut at HFW
    rw [HFV.out, hs] at HFW
    simp only [eidA, eidB, Option.isSome_some] at HFW
    clear hs
    obtain ⟨s1, s2⟩ := s
    simp only at HFW HFS HSN
    have hs1 : s1 < n := by have := HSN.out.1; rw [HLN.out] at this; exact this
    obtain ⟨cb', co', hcc, _, hcs⟩ := ints_at HC.out s1 (by rw [HCL.out]; exact hs1)
    simp only [Option.some.injEq, Addr.mk.injEq, and_true] at hcc
    obtain ⟨rfl, rfl⟩ := hcc
    have HCS := Lib.hid hcs
    have HSR := Lib.hid (sentB_recv (c := c) (by rw [HEVE.out]; exact HK3.out) HFS.out)
    simp only at HSR
    have HX6 := Lib.hid (HXT.out.hp HX0.out)
    have t6 := cellOf HX6.out 0
    simp only [List.getElem?_toArray, List.getElem?_cons_zero] at t6
    clear hcs
    go_wp2_with fail
    clear t6 y0 y2
    refine HFW.out.mono ?_
    rintro e w7 ⟨rfl, hE7⟩
    have HB8 := Lib.hid (heap_alloc_new w7 (idO (s1 : Int) ((s2 : Int) + 1)))
    have HE8 := Lib.hid ((HE1.out.trans' (HXT.out.trans' hE7)).al (idO (s1 : Int) ((s2 : Int) + 1)))
    have dsp := HE8.out.cl HCS.out
    have s0 := cellOf HB8.out 0
    have s1c := cellOf HB8.out 1
    simp only [List.getElem?_toArray, List.getElem?_cons_zero, List.getElem?_cons_succ] at s0 s1c
    have hspz : (0 : Int) ≤ (s1 : Int) := by omega
    have hspi : (s1 : Int) < (n : Int) := by omega
    generalize hdg : c[s1]! = dg at *
    clear hdg hE7 HB6
    go_wp2
    generalize hw8 : w7.alloc (idO (s1 : Int) ((s2 : Int) + 1)) = w8 at *
    clear hw8
    obtain ⟨r, hr⟩ : ∃ r, decide ((s2 : Int) + 1 ≤ dg) = r := ⟨_, rfl⟩
    have HF : Hid (sb = r) := Lib.hid (by rw [← HSB.out, HSR.out, hr])
    go_quiet (fail)
    go_wp2
    go_ret
    exact ⟨by rw [HF.out]; rfl, HE8.out.drN _⟩

set_option maxHeartbeats 8000000 in
set_option maxRecDepth 100000 in
theorem enabledP_calls (v vc : Value) (t : Tr) (c : List Int) (w : World) (h : TrAt w v t) (hs : LooseTr t) (hc : Ints w vc c) :
    Calls Tryz.prog 19 #[.agg #[v], vc] w fun e w' => IntsRes w w' e (givenE t [c] []) (if givenE t [c] [] = 0 then enabledC t c else []) := by
  have HCC := Lib.hid hc
  have HT := Lib.hid h
  have HS := Lib.hid hs
  obtain ⟨ii, hii, iz0, iz1, iz2⟩ := info_parts info_int3
  have HEN := Lib.hid (fun W (hW : Ext w W) p hv hr hp hlt => enabledP1_calls v vc t c p W (h.ext hW) (valid_small hv) hv (hc.ext hW) hr hp hlt)
  obtain ⟨ta, tc, rfl, htc⟩ := h.sh
  obtain ⟨ca, cc, rfl, hlc, _⟩ := hc
  have HX2 : Hid (Ext w ((w.alloc (.cells #[.slice ta t.length tc] 24)).alloc (.cells #[.slice ca c.length cc] 25))) := Lib.hid (by repeat (first | refine Ext.st ?_ (by first | exact Nat.le_refl _ | exact Nat.le_succ _ | assumption | omega) _ | refine Ext.al ?_ _ | refine Ext.dr ?_ | refine Ext.drN ?_ _ | exact Ext.rf _))
  have HX0 := Lib.hid (((Ext.rf _).al (.cells #[.slice ca c.length cc] 25)).hp (heap_alloc_new w (.cells #[.slice ta t.length tc] 24)))
  have HG := Lib.hid (givenP_calls (.slice ta t.length tc) (.slice (some ⟨w.heap.size + 1, 0, none⟩) 1 1) (.slice none 0 0) t [c] [] _ (h.ext HX2.out) hs (rows_one (heap_new_eq (by simp)) (HCC.out.ext HX2.out)) (by simp) (ints_none _) (by simp))
  obtain ⟨ge, hge⟩ : ∃ E, givenE t [c] [] = E := ⟨_, rfl⟩
  rw [hge] at HG ⊢
  have HOK : Hid (ge = 0 → validT t = true ∧ ConsC t c) := Lib.hid (fun h0 => consB_iff.1 ((givenE_one t c).1 (hge.trans h0)))
  obtain ⟨R, hR⟩ : ∃ R, (if ge = 0 then enabledC t c else []) = R := ⟨_, rfl⟩
  rw [hR]
  have HR0 := Lib.hid hR
  have hsm := hs.1
  generalize hN : t.length = N at *
  generalize hM : c.length = M at *
  have HN := Lib.hid hN
  have HM := Lib.hid hM
  clear h hs hge hR hN hM
  go_enter Tryz.func19, Tryz.ntmps19
  go_wp2_with fail
  refine HG.out.mono ?_
  rintro e w2 ⟨rfl, hX⟩
  have HE2 := Lib.hid (HX2.out.trans' hX)
  have HY0 := Lib.hid (hX.hp HX0.out)
  clear hX
  by_cases h0 : ge = 0
  case neg =>
    have c9 : (ge != 0) = true := by simp [h0]
    obtain rfl := HR0.out.symm.trans (if_neg h0)
    clear h0
    go_wp2
    go_ret2
    exact IntsRes.none HE2.out
  subst h0
  have HRZ := Lib.hid (HR0.out.symm.trans (if_pos rfl))
  have HVC := Lib.hid (HOK.out rfl)
  obtain rfl : M = N := by have := HVC.out.2.1.1; rw [HN.out, HM.out] at this; exact this
  go_wp2
  go_loopg [7, 18] M (fun g s7 s18 wr => ∃ p : Nat, p ≤ M ∧ M - p ≤ g ∧ s18 = .int .i64 p ∧ Aside (Row wr w2.heap.size 3 1 s7 (enTo t c p).length ((enTo t c p).map (Value.int .i64))) ∧ Aside (Ext w2 wr))
  case atStart => exact ⟨0, Nat.zero_le _, by omega, rfl, (show Row _ _ _ _ _ _ _ from Row.mkNil _ _ _ _), Ext.rf _⟩
  case round =>
    obtain ⟨p, hp, hg, rfl, HR, HEK⟩ := hrel
    have HEW := Lib.hid (HE2.out.trans' HEK.out)
    have HZ0 := Lib.hid (HEK.out.hp HY0.out)
    have t0 := cellOf HZ0.out 0
    simp only [List.getElem?_toArray, List.getElem?_cons_zero] at t0
    by_cases hlt : p < M
    · have hltz : (p : Int) < (M : Int) := by omega
      have hpz : (0 : Int) ≤ (p : Int) := by omega
      have HPL := Lib.hid (show p < t.length from by rw [HN.out]; exact hlt)
      obtain ⟨B, O, C, vv, ve, hve, hlC, hB, hn0, hv0, he0, hV, hE0⟩ := proc_at HT.out p HPL.out
      simp only [Value.slice.injEq] at hve
      obtain ⟨rfl, hzz, rfl⟩ := hve
      obtain ⟨ea, ec, rfl, hec⟩ := hE0.sh
      obtain ⟨cb, co, rfl, hcb, hcp⟩ := ints_at HCC.out p (by rw [HM.out]; exact hlt)
      have he1 := HEW.out.cl he0
      have hc1 := HEW.out.cl hcp
      have hen := ((valid_small HVC.out.1).2 p HPL.out).2.1
      have HNO : Hid (¬ c[p]! < (t[p]!.events.length : Int) → enC t c p = false) := Lib.hid (fun hno => by unfold enC; rw [decide_eq_false hno]; rfl)
      have HYE : Hid (c[p]! < (t[p]!.events.length : Int) → enC t c p = sentB t c (p, c[p]!.toNat)) := Lib.hid (fun hyes => by unfold enC; rw [decide_eq_true hyes]; simp)
      have HCE := Lib.hid (fun (hyes : c[p]! < (t[p]!.events.length : Int)) W (hW : Ext w W) => HEN.out W hW p HVC.out.1 HVC.out.2.1 (by first | exact hlt | exact HPL.out) hyes)
      generalize sentB t c (p, c[p]!.toNat) = sb at *
      generalize hne : t[p]!.events.length = ne at *
      generalize hk : c[p]! = k at *
      have hel := enTo_len t c p
      have hsz := HEK.out.sz
      clear hn0 hv0 hV hE0 hzz hne he0 hk hcp
      by_cases hkn : k < (ne : Int)
      · have d1 : decide (k < (ne : Int)) = true := decide_eq_true hkn
        have HEC := Lib.hid (HYE.out hkn)
        have HCW := Lib.hid (HCE.out hkn)
        clear hkn
        go_upto_region 8 with (fail)
        go_cut [38] (fun s38 wx => s38 = .bool sb ∧ Aside (Ext wr wx))
        case first =>
          go_wp2
          go_region_with (refine (HCW.out _ (by first | exact HEW.out | exact HEW.out.dr | exact HEW.out.dr.dr | exact HEW.out.dr.dr.dr)).mono ?_; rintro e w9 ⟨rfl, hX9⟩)
          all_goals
            have HX9 := Lib.hid hX9
            clear hX9
            go_wp2
            go_meet
            exact ⟨rfl, (show Ext wr _ from by first | exact HX9.out | exact (Ext.rf wr).dr.trans' HX9.out | exact HX9.out.dr | exact ((Ext.rf wr).dr.trans' HX9.out).dr)⟩
        case rest =>
          obtain ⟨rfl, HXW⟩ := hcut
          have HEK3 := Lib.hid (HEK.out.trans' HXW.out)
          have HR3 := Lib.hid (HR.out.ext HXW.out)
          have hsz3 := HEK3.out.sz
          clear t0 he1 hc1 d1
          cases sb with
          | false =>
            go_wp2
            go_roundg (M - (p + 1))
            case measure => omega
            case rel => exact ⟨p + 1, by omega, by omega, by go_num, (show Row _ _ _ _ _ _ _ from by rw [enTo_no HEC.out]; exact HR3.out), (show Ext _ _ from HEK3.out)⟩
          | true =>
            generalize hell : (enTo t c p).length = ell at *
            have HELL := Lib.hid hell
            clear hell
            go_wp2_with ((at_builtin; go_loud (refine wpList_append_one rfl _ _ 25 rfl w2.heap.size 3 ii (.int .i64 0) 1 8 Tryz.underlying25 hii iz0 iz1 iz2 rfl (by decide) _ ell _ rfl (HR3.out.al _) _ 1 [.int .i64 p] rfl rfl ⟨_, heap_alloc_new _ _⟩ (by simp [Value.oneCell']) (by unfold maxLen; omega) (by omega) (by simp; omega) ?_; intro v8 w8 hown8 hgrow8 hblk8; have HOWN := Lib.hid hown8; have HX8 := Lib.hid ((HEK3.out.al _).gr hgrow8 (fun q hq => (HR3.out.lt q hq).1)); clear hown8 hgrow8 hblk8)))
            go_roundg (M - (p + 1))
            case measure => omega
            case rel =>
              refine ⟨p + 1, by omega, by omega, by go_num, (show Row _ _ _ _ _ _ _ from ?_), (show Ext _ _ from HX8.out)⟩
              rw [enTo_yes HEC.out, List.length_append, List.map_append, HELL.out]
              exact HOWN.out
      · have d1 : decide (k < (ne : Int)) = false := decide_eq_false hkn
        have HEC := Lib.hid (HNO.out hkn)
        clear hkn
        go_wp2
        go_quiet (fail)
        go_wp2
        go_roundg (M - (p + 1))
        case measure => omega
        case rel => exact ⟨p + 1, by omega, by omega, by go_num, (show Row _ _ _ _ _ _ _ from by rw [enTo_no HEC.out]; exact HR.out.ext ((Ext.rf wr).drN _)), (show Ext _ _ from HEK.out.drN _)⟩
    · have hltz : ¬ (p : Int) < (M : Int) := by omega
      obtain rfl : M = p := by omega
      go_wp2
      go_ret2
      refine ⟨_, rfl, ?_, HEW.out⟩
      rw [HRZ.out]
      show Row _ _ _ _ _ (enTo t c c.length).length _
      unfold enabledC
      rw [HM.out]
      exact HR.out.mono HE2.out.sz

end Go.Proofs.YtfcpnggdpaeldaaGreat

/-
  One event more of a process: the program's Advance.
-/
namespace Go.Proofs.YtfcpnggdpaeldaaGreat
open Go.RowKit
set_option linter.unusedVariables false
attribute [local go_sem ↓] Go.wp_at_zero Go.wp_at_succ

/-- The error of an advance. -/
noncomputable def advE (t : Tr) (c : List Int) (p : Int) : Int :=
  if givenE t [c] [p] = 0 then if c[p.toNat]! = (t[p.toNat]!.events.length : Int) then 4 else if sentB t c (p.toNat, c[p.toNat]!.toNat) = true then 0 else 11 else givenE t [c] [p]
def withC (c : List Int) (p : Nat) : List Int := c.set p (c[p]! + 1)
set_option maxHeartbeats 8000000 in
set_option maxRecDepth 100000 in
theorem advanceP_calls (v vc : Value) (t : Tr) (c : List Int) (p : Int) (w : World) (h : TrAt w v t) (hs : LooseTr t) (hc : Ints w vc c) (hcn : c.length ≤ 1000000) :
    Calls Tryz.prog 20 #[.agg #[v], vc, .int .i64 p] w fun e w' => IntsRes w w' e (advE t c p) (if advE t c p = 0 then withC c p.toNat else []) := by
  have HCC := Lib.hid hc
  have HT := Lib.hid h
  have HS := Lib.hid hs
  have HCLN := Lib.hid (fun W (hW : Ext w W) => clone_cints vc c.length (c.map (Value.int .i64)) W (hc.ext hW).cells (by simp [Value.oneCell']) hcn)
  have HEN := Lib.hid (fun W (hW : Ext w W) p hv hr hp hlt => enabledP1_calls v vc t c p W (h.ext hW) (valid_small hv) hv (hc.ext hW) hr hp hlt)
  obtain ⟨ta, tc, rfl, htc⟩ := h.sh
  obtain ⟨ca, cc, rfl, hlc, _⟩ := hc
  have HX2 : Hid (Ext w (((w.alloc (.cells #[.slice ta t.length tc] 24)).alloc (.cells #[.slice ca c.length cc] 25)).alloc (.cells #[.int .i64 p] 3))) := Lib.hid (by repeat (first | refine Ext.st ?_ (by first | exact Nat.le_refl _ | exact Nat.le_succ _ | assumption | omega) _ | refine Ext.al ?_ _ | refine Ext.dr ?_ | refine Ext.drN ?_ _ | exact Ext.rf _))
  have HBX := Lib.hid (fun i o => allocs_at [.cells #[.slice ta t.length tc] 24, .cells #[.slice ca c.length cc] 25, .cells #[.int .i64 p] 3] w i o)
  have HG := Lib.hid (givenP_calls (.slice ta t.length tc) (.slice (some ⟨w.heap.size + 1, 0, none⟩) 1 1) (.slice (some ⟨w.heap.size + 1 + 1, 0, none⟩) 1 1) t [c] [p] _ (h.ext HX2.out) hs (rows_one (HBX.out 1 _ rfl) (HCC.out.ext HX2.out)) (by simp) (ints_laid [p] (HBX.out 2 _ rfl)) (by simp))
  obtain ⟨ge, hge⟩ : ∃ E, givenE t [c] [p] = E := ⟨_, rfl⟩
  rw [hge] at HG
  have HAE : Hid (advE t c p = if ge = 0 then if c[p.toNat]! = (t[p.toNat]!.events.length : Int) then 4 else if sentB t c (p.toNat, c[p.toNat]!.toNat) = true then 0 else 11 else ge) := Lib.hid (by unfold advE; rw [hge])
  have HOK : Hid (ge = 0 → validT t = true ∧ ConsC t c ∧ 0 ≤ p ∧ p < (t.length : Int)) := Lib.hid (fun h0 => by obtain ⟨h1, h2, h3⟩ := givenE_ps (hge.trans h0); exact ⟨h1, h2, h3 p (by simp)⟩)
  obtain ⟨ae, hae⟩ : ∃ E, advE t c p = E := ⟨_, rfl⟩
  rw [hae] at HAE ⊢
  obtain ⟨R, hR⟩ : ∃ R, (if ae = 0 then withC c p.toNat else []) = R := ⟨_, rfl⟩
  rw [hR]
  have HR0 := Lib.hid hR
  have HX0 : Hid ((((w.alloc (.cells #[.slice ta t.length tc] 24)).alloc (.cells #[.slice ca c.length cc] 25)).alloc (.cells #[.int .i64 p] 3)).heap[w.heap.size]? = some (.cells #[.slice ta t.length tc] 24)) := Lib.hid (HBX.out 0 _ rfl)
  have hsm := hs.1
  generalize hN : t.length = N at *
  generalize hM : c.length = M at *
  have HN := Lib.hid hN
  have HM := Lib.hid hM
  clear h hs hge hR hN hM hae HBX
  go_enter Tryz.func20, Tryz.ntmps20
  go_wp2_with fail
  refine HG.out.mono ?_
  rintro e w2 ⟨rfl, hX⟩
  have HE2 := Lib.hid (HX2.out.trans' hX)
  have HY0 := Lib.hid (hX.hp HX0.out)
  clear hX
  by_cases h0 : ge = 0
  case neg =>
    have c9 : (ge != 0) = true := by simp [h0]
    obtain rfl : ae = ge := by rw [HAE.out, if_neg h0]
    obtain rfl := HR0.out.symm.trans (if_neg h0)
    clear h0
    go_wp2
    go_ret2
    exact IntsRes.none HE2.out
  subst h0
  have HAE := Lib.hid (HAE.out.trans (if_pos rfl))
  have HVC := Lib.hid (HOK.out rfl)
  obtain rfl : M = N := by have := HVC.out.2.1.1.1; rw [HN.out, HM.out] at this; exact this
  have hp0 := HVC.out.2.2.1
  have hpM := HVC.out.2.2.2
  obtain ⟨q, rfl⟩ : ∃ q : Nat, p = (q : Int) := ⟨p.toNat, by omega⟩
  rw [Int.toNat_natCast] at HAE HR0
  have hqM : q < M := by omega
  have HPL := Lib.hid (show q < t.length from by rw [HN.out]; exact hqM)
  obtain ⟨B, O, C, vv, ve, hve, hlC, hB, hn0, hv0, he0, hV, hE0⟩ := proc_at HT.out q HPL.out
  simp only [Value.slice.injEq] at hve
  obtain ⟨rfl, hzz, rfl⟩ := hve
  obtain ⟨ea, ec, rfl, hec⟩ := hE0.sh
  obtain ⟨cb, co, rfl, hcb, hcp⟩ := ints_at HCC.out q (by rw [HM.out]; exact hqM)
  have he1 := HE2.out.cl he0
  have hc1 := HE2.out.cl hcp
  have hen := ((valid_small HVC.out.1).2 q HPL.out).2.1
  have hkr := HVC.out.2.1.1.at HPL.out
  have t0 := cellOf HY0.out 0
  simp only [List.getElem?_toArray, List.getElem?_cons_zero] at t0
  have HCE := Lib.hid (fun (hyes : c[q]! < (t[q]!.events.length : Int)) W (hW : Ext w W) => HEN.out W hW q HVC.out.1 HVC.out.2.1.1 (by first | exact hqM | exact HPL.out) hyes)
  have HWC : Hid (withC c q = c.set q (c[q]! + 1)) := Lib.hid rfl
  generalize sentB t c (q, c[q]!.toNat) = sb at *
  generalize hne : t[q]!.events.length = ne at *
  generalize hk : c[q]! = k at *
  have HKR := Lib.hid hkr
  have HK := Lib.hid hk
  clear hn0 hv0 hV hE0 hzz hne he0 hk hcp
  by_cases hend : k = (ne : Int)
  · have d1 : (k == (ne : Int)) = true := by simp [hend]
    obtain rfl : ae = 4 := by rw [HAE.out, if_pos hend]
    obtain rfl := HR0.out.symm.trans (if_neg (by decide))
    clear hend
    go_wp2
    go_quiet (fail)
    go_wp2
    go_ret2
    exact IntsRes.none (HE2.out.drN _)
  · have d1 : (k == (ne : Int)) = false := by simp [hend]
    have hlt : k < (ne : Int) := by omega
    have HCW := Lib.hid (HCE.out hlt)
    have HAE := Lib.hid (HAE.out.trans (if_neg hend))
    clear hend hkr
    go_wp2
    go_quiet (fail)
    have HE3 := Lib.hid (HE2.out.drN nq)
    have t03 : (w2.drewN nq).cell? ⟨w.heap.size, 0, none⟩ = some (.slice (some ⟨B, O, none⟩) M tc) := t0
    generalize w2.drewN nq = w3 at *
    clear t0 he1 hc1 d1
    go_wp2_with fail
    refine (HCW.out _ HE3.out).mono ?_
    rintro e w4 ⟨rfl, hX4⟩
    have HE4 := Lib.hid (HE3.out.trans' hX4)
    clear hX4
    cases sb with
    | false =>
      obtain rfl : ae = 11 := by rw [HAE.out, if_neg (by decide)]
      obtain rfl := HR0.out.symm.trans (if_neg (by decide))
      go_wp2
      go_ret2
      exact IntsRes.none HE4.out
    | true =>
      obtain rfl : ae = 0 := by rw [HAE.out, if_pos rfl]
      have HRZ := Lib.hid ((HR0.out.symm.trans (if_pos rfl)).trans HWC.out)
      go_wp2_with fail
      refine (HCLN.out _ HE4.out).mono ?_
      rintro e w5 ⟨v9, rfl, hR9, hX5⟩
      have HE5 := Lib.hid (HE4.out.trans' hX5)
      obtain ⟨G, O9, cap, rfl, hG, hG2, _⟩ := hR9.shape (by omega)
      have HR9 := Lib.hid hR9
      have hcell := hR9.cell q (by omega)
      have hfree := hR9.free (O9 + q)
      rw [List.getElem?_map, List.getElem?_eq_getElem (by rw [HM.out]; exact hqM), Option.map_some, ← getElem!_pos c q (by rw [HM.out]; exact hqM), HK.out] at hcell
      have hqz : (0 : Int) ≤ (q : Int) := by omega
      have hqi : (q : Int) < (M : Int) := by omega
      have hkb : 0 ≤ k ∧ k ≤ 1000000 := by have := HKR.out; omega
      have hkb1 := hkb.1
      have hkb2 := hkb.2
      have HST := Lib.hid (HE4.out.trans' hX5)
      have HG := Lib.hid (And.intro hG hG2)
      clear hX5 hR9 hkb hG hG2
      go_wp2
      go_ret2
      refine ⟨_, rfl, ?_, HE5.out.st (Nat.le_trans HE4.out.sz HG.out.1) _⟩
      have := HR9.out.set q (.int .i64 (k + 1)) (by omega)
      rw [← List.map_set] at this
      rw [HRZ.out, List.length_set, HM.out]
      exact this.mono HE4.out.sz

end Go.Proofs.YtfcpnggdpaeldaaGreat
