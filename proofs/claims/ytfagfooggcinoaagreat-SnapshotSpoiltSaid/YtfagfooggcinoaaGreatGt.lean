import Derived.Test.YtfagfooggcinoaaGreatJa
import Derived.Test.YtfagfooggcinoaaGreatProg
import Derived.Test.YtfagfooggcinoaaGreatGl
import Derived.Test.YtfagfooggcinoaaGreatGa
import Derived.Test.YtfagfooggcinoaaGreatGk
import Derived.Test.YtfagfooggcinoaaGreatGj
import Derived.Test.YtfagfooggcinoaaGreatGb
import Derived.Test.YtfagfooggcinoaaGreatGp
import Derived.BigQuiet
import Derived.Deep.QuietTactic
import Derived.Deep.LoopGhost
import Derived.Shelf.Abstract
import Derived.RegionTactic
import Derived.BigRegion
import Derived.Deep.RegionHeld3
import Derived.Deep.DeepCutAuto
namespace Go.Proofs.YtfagfooggcinoaaGreat
open Go.RowKit
set_option linter.unusedVariables false
theorem turns_no {t : Tr} {red : List Int} {p : Nat} (hp : p < red.length) (h : ¬ (-1 ≤ red[p]! ∧ red[p]! ≤ (t[p]!.events.length : Int))) : turnsB t red = false := by
 cases hb : turnsB t red with
 | false => rfl
 | true => exact absurd (turns_at hb hp) h
theorem turns_yes {t : Tr} {red : List Int} (h : ∀ p, p < red.length → -1 ≤ red[p]! ∧ red[p]! ≤ (t[p]!.events.length : Int)) : turnsB t red = true := by
 unfold turnsB
 rw [List.all_eq_true]
 intro p hp
 have := h p (List.mem_range.1 hp)
 rw [Bool.and_eq_true, decide_eq_true_eq, decide_eq_true_eq]; exact this
set_option maxHeartbeats 4000000 in
set_option maxRecDepth 100000 in
theorem turnsR_calls (v rv : Value) (t : Tr) (red : List Int) (w : World) (h : TrAt w v t) (hr : Ints w rv red) (hl : red.length = t.length) (hn : t.length ≤ 1000000) :
  Calls Tryz.prog 25 #[.agg #[v], rv] w fun e w' => e = .returned (.bool (turnsB t red)) ∧ Ext w w' := by
 have HT := Lib.hid h
 have HRV := Lib.hid hr
 obtain ⟨ta, tc, rfl, htc⟩ := h.sh
 obtain ⟨ra, rc, rfl, hz1, hz2⟩ := hr
 clear hz1 hz2
 have HX1 := Lib.hid ((Ext.rf w).al (.cells #[.slice ta t.length tc] 24))
 have HB1 := Lib.hid (heap_alloc_new w (.cells #[.slice ta t.length tc] 24))
 have HTN := Lib.hid (fun p => turns_no (t := t) (red := red) (p := p))
 have HTY := Lib.hid (turns_yes (t := t) (red := red))
 rw [← hl] at HX1 HB1 hn htc HT ⊢
 obtain ⟨N, hN⟩ : ∃ N, red.length = N := ⟨_, rfl⟩
 have HNT := Lib.hid (hl.symm.trans hN)
 have HNR := Lib.hid hN
 rw [hN] at HX1 HB1 hn htc HT HTN HTY ⊢
 generalize turnsB t red = ans at *
 clear h hl hN
 go_enter Tryz.func25, Tryz.ntmps25
 go_wp2
 generalize hw1 : w.alloc (.cells #[.slice ta N tc] 24) = w1 at *
 clear hw1
 go_loopg [5] N (fun g s5 wr => ∃ k : Nat, k ≤ N ∧ N - k ≤ g ∧ s5 = .int .i64 k ∧ Aside (Ext w1 wr) ∧ Aside (∀ p, p < k → -1 ≤ red[p]! ∧ red[p]! ≤ (t[p]!.events.length : Int)))
 case atStart => exact ⟨0, Nat.zero_le _, by omega, rfl, (show Ext _ _ from Ext.rf _), (fun p hp => absurd hp (Nat.not_lt_zero _))⟩
 case round =>
  obtain ⟨k, hk, hg, rfl, HE, A⟩ := hrel
  by_cases hlt : k < N
  case neg =>
   have hkz : ¬ (k : Int) < (N : Int) := by omega
   have HA := Lib.hid (HTY.out (fun p hp => A.out p (by omega)))
   go_wp2
   go_ret
   exact ⟨by rw [HA.out]; rfl, HX1.out.trans' HE.out⟩
  case pos =>
   have hkz : (k : Int) < (N : Int) := by omega
   have hkz0 : (0 : Int) ≤ (k : Int) := by omega
   have HEW := Lib.hid (HX1.out.trans' HE.out)
   obtain ⟨rb, ro, rfl, _, hrc⟩ := ints_at HRV.out k (by rw [HNR.out]; exact hlt)
   obtain ⟨tB, tO, tC, vv, ve, hve, hlC, htB, hn0, hv0, he0, hV, hE0⟩ := proc_at HT.out k (by rw [HNT.out]; exact hlt)
   simp only [Value.slice.injEq] at hve
   obtain ⟨rfl, hzz1, rfl⟩ := hve
   obtain ⟨ea, ec, rfl, hec⟩ := hE0.sh
   have r0 := HEW.out.cl hrc
   have e0 := HEW.out.cl he0
   have t0 := cellOf (HE.out.hp HB1.out) 0
   simp only [List.getElem?_toArray, List.getElem?_cons_zero] at t0
   have HNO := Lib.hid (HTN.out k hlt)
   have HST : Hid ((-1 ≤ red[k]! ∧ red[k]! ≤ (t[k]!.events.length : Int)) → ∀ p, p < k + 1 → -1 ≤ red[p]! ∧ red[p]! ≤ (t[p]!.events.length : Int)) := Lib.hid (fun h p hp => by
    by_cases e : p = k
    ·subst e; exact h
    ·exact A.out p (by omega))
   generalize t[k]!.events.length = ne at *
   generalize red[k]! = x at *
   clear hrc hzz1 hn0 hv0 he0 hV hE0
   by_cases h1 : -1 ≤ x
   case neg =>
    have d1 : decide (x < -1) = true := decide_eq_true (by omega)
    have HA := Lib.hid (HNO.out (fun h => h1 h.1))
    clear h1
    go_wp2
    go_region
    all_goals
     go_wp2
     go_ret
     exact ⟨by rw [HA.out]; rfl, HEW.out.dr⟩
   case pos =>
    have d1 : decide (x < -1) = false := decide_eq_false (by omega)
    by_cases h2 : x ≤ (ne : Int)
    case neg =>
     have d2 : decide ((ne : Int) < x) = true := decide_eq_true (by omega)
     have HA := Lib.hid (HNO.out (fun h => h2 h.2))
     clear h1 h2
     go_wp2
     go_region
     all_goals
      go_wp2
      go_ret
      exact ⟨by rw [HA.out]; rfl, HEW.out.dr⟩
    case pos =>
     have d2 : decide ((ne : Int) < x) = false := decide_eq_false (by omega)
     have HS2 := Lib.hid (HST.out ⟨h1, h2⟩)
     clear h1 h2
     go_wp2
     go_region
     all_goals
      go_wp2
      go_roundg (N - (k + 1))
      case measure => omega
      case rel => exact ⟨k + 1, by omega, by omega, by go_num, (show Ext _ _ from HE.out.dr), (show Aside _ from HS2.out)⟩
end Go.Proofs.YtfagfooggcinoaaGreat
namespace Go.Proofs.YtfagfooggcinoaaGreat
open Go.RowKit
set_option linter.unusedVariables false
def LaiOut (t : Tr) (red : List Int) (w w' : World) (e : Ending) : Prop := ∃ v' vc vh vr, e = .returned (.tuple #[v', .int .i64 0]) ∧ Ext w w' ∧ OwnM w' w.heap.size v' t.length t.length (layM t red) vc vh vr
set_option maxHeartbeats 8000000 in
set_option maxRecDepth 100000 in
theorem laiO_calls (v rv : Value) (t : Tr) (red : List Int) (w : World) (h : TrAt w v t) (hs : LooseTr t) (hr : Ints w rv red) (hrl : red.length ≤ 1000000) (hvv : validT t = true) (hnn : red.length = t.length) (hzz : repE t (redC t red) = 0) :
  Calls Tryz.prog 26 #[.agg #[v], rv] w fun e w' => LaiOut t red w w' e := by
 have HVV := Lib.hid hvv
 have HNN := Lib.hid hnn
 have HZR := Lib.hid hzz
 clear hvv hnn hzz
 have HV := Lib.hid (fun W (hW : Ext w W) => validP_calls v t W (h.ext hW) hs)
 have HT := Lib.hid h
 have HRV := Lib.hid hr
 have HLS := Lib.hid hs
 have HCLN := Lib.hid (fun W (hW : Ext w W) => clone_cints rv red.length (red.map (Value.int .i64)) W (hr.ext hW).cells (by simp [Value.oneCell']) hrl)
 obtain ⟨ta, tc, rfl, htc⟩ := h.sh
 obtain ⟨ra, rc, rfl, hzr1, hzr2⟩ := id hr
 clear hzr1 hzr2
 have HX1 := Lib.hid ((Ext.rf w).al (.cells #[.slice ta t.length tc] 24))
 have HB1 := Lib.hid (heap_alloc_new w (.cells #[.slice ta t.length tc] 24))
 have t0 := cellOf HB1.out 0
 simp only [List.getElem?_toArray, List.getElem?_cons_zero] at t0
 cases hv : validT t with
 | false => rw [HVV.out] at hv; cases hv
 | true =>
   rw [hv] at HV
   have hN8 := valid_8 hv
   by_cases hne : red.length = t.length
   case neg => exact absurd HNN.out hne
   case pos =>
    have HAE : Hid (layE t red = repE t (redC t red)) := Lib.hid (by unfold layE; rw [if_neg (by rw [hv]; simp), if_neg (fun h => h hne)])
    clear HVV HNN
    have HLE : Hid (layM t red = if layE t red = 0 then cutL t.length (openC t (redC t red)) (fun f q => underC t (openC t (redC t red)) f (q : Int)) else []) := Lib.hid rfl
    have HVT := Lib.hid hv
    have HNE : Hid (t.length = t.length) := Lib.hid rfl
    rw [hne] at HCLN hrl ⊢
    generalize layE t red = er at *
    generalize hEM : layM t red = em at *
    have HEM := Lib.hid hEM
    clear hEM
    generalize hN : t.length = N at *
    have HNT := Lib.hid hN
    have HNR := Lib.hid hne
    clear h hs hv htc hr hN hne
    go_enter Tryz.func26, Tryz.ntmps26
    go_wp2_with fail
    refine (HV.out _ HX1.out).mono ?_
    rintro e w2 ⟨rfl, hX2⟩
    have t2 := hX2.cl t0
    have HX2 := Lib.hid (HX1.out.trans' hX2)
    clear t0 hX2
    go_wp2_with fail
    refine (HCLN.out _ HX2.out).mono ?_
    rintro e w3 ⟨v3, rfl, hR3, hX3⟩
    have HT2 := Lib.hid t2
    have HE3 := Lib.hid hX3
    obtain ⟨G, O, cap, rfl, hG, hGw, hcap⟩ := hR3.shape (by omega)
    have HR3 := Lib.hid (show Row w3 w2.heap.size 3 1 (.slice (some ⟨G, O, none⟩) N cap) N ((redK t red 0).map (Value.int .i64)) from by rw [redK_zero]; exact hR3)
    have HGG := Lib.hid hG
    clear t2 hX3 hR3 hG
    go_wp2
    go_loopg [7, 8, 28] N (fun g s7 s8 s28 wr => ∃ k : Nat, k ≤ N ∧ N - k ≤ g ∧ s28 = .int .i64 k ∧ Aside (Row wr w2.heap.size 3 1 (.slice (some ⟨G, O, none⟩) N cap) N ((redK t red k).map (Value.int .i64))) ∧ Aside (Ext w2 wr))
    case atStart => exact ⟨0, Nat.zero_le _, by omega, rfl, (show Row _ _ _ _ _ _ _ from HR3.out), (show Ext _ _ from HE3.out)⟩
    case round =>
     obtain ⟨k, hk, hgk, rfl, HRK, HEK⟩ := hrel
     clear HR3 HE3
     by_cases hlt : k < N
     case pos =>
      have hkz : (k : Int) < (N : Int) := by omega
      have hkz0 : (0 : Int) ≤ (k : Int) := by omega
      have hkt : k < t.length := by have := HNT.out; omega
      obtain ⟨rb, ro, hra, _, hrc⟩ := ints_at HRV.out k (by rw [HNR.out]; exact hlt)
      subst hra
      have HEW := Lib.hid (HX2.out.trans' HEK.out)
      have r0 := HEW.out.cl hrc
      have HKY := Lib.hid (fun h => redK_yes (t := t) (red := red) (k := k) (by rw [HNR.out]; exact hlt) h)
      have HKN := Lib.hid (fun h => redK_no (t := t) (red := red) (k := k) h)
      obtain ⟨x, hx⟩ : ∃ x, red[k]! = x := ⟨_, rfl⟩
      rw [hx] at r0 HKY HKN
      clear hrc hx
      by_cases hx1 : x = -1
      case neg =>
       have hq : (x == -1) = false := by rw [beq_eq_false_iff_ne]; exact hx1
       have HN := Lib.hid (HKN.out hx1)
       clear hx1
       go_wp2
       go_roundg (N - (k + 1))
       case measure => omega
       case rel => exact ⟨k + 1, by omega, by omega, by go_num, (show Row _ _ _ _ _ _ _ from by rw [HN.out]; exact HRK.out), (show Ext _ _ from HEK.out)⟩
      case pos =>
       subst hx1
       have HN := Lib.hid (HKY.out rfl)
       obtain ⟨tB, tO, tC, vv, ve, hve, hlC, htB, hn0, hv0, he0, hV, hE0⟩ := proc_at HT.out k hkt
       simp only [Value.slice.injEq] at hve
       obtain ⟨rfl, hzz1, rfl⟩ := hve
       obtain ⟨ea, ec, rfl, hec⟩ := hE0.sh
       have e0 := HEW.out.cl he0
       have t2 := HEK.out.cl HT2.out
       have hfr := HRK.out.free (O + k)
       obtain ⟨old, hold⟩ : ∃ u, ((redK t red k).map (Value.int .i64))[k]? = some u := ⟨_, List.getElem?_eq_getElem (by rw [List.length_map, redK_len, HNR.out]; exact hlt)⟩
       have g0 := HRK.out.cell k (by omega)
       rw [hold] at g0
       have HS := Lib.hid (HRK.out.set k (.int .i64 (t[k]!.events.length : Int)) (by omega))
       rw [← List.map_set, HN.out] at HS
       generalize t[k]!.events.length = ne at *
       clear hzz1 hn0 hv0 hV hE0 he0 hold
       go_wp2
       go_roundg (N - (k + 1))
       case measure => omega
       case rel => exact ⟨k + 1, by omega, by omega, by go_num, (show Row _ _ _ _ _ _ _ from HS.out), (show Ext _ _ from HEK.out.st HGG.out _)⟩
     case neg =>
      have hkz : ¬ (k : Int) < (N : Int) := by omega
      obtain rfl : N = k := by omega
      have HRC : Hid (Row wr w2.heap.size 3 1 (.slice (some ⟨G, O, none⟩) N cap) N ((redC t red).map (Value.int .i64))) := Lib.hid (by
       have h := HRK.out
       rwa [show redK t red N = redC t red from by rw [← HNR.out]; exact redK_all t red] at h)
      have HCL : Hid ((redC t red).length = N) := Lib.hid (by rw [redC_len]; exact HNR.out)
      have HEW := Lib.hid (HX2.out.trans' HEK.out)
      have HOP := Lib.hid (openP_calls (.slice ta N tc) (.slice (some ⟨G, O, none⟩) N cap) t (redC t red) wr (HT.out.ext HEW.out) HLS.out HRC.out.ints (by rw [HCL.out]; omega))
      obtain ⟨CR, hCR⟩ : ∃ c, redC t red = c := ⟨_, rfl⟩
      rw [hCR] at HAE HLE HRC HCL HOP HZR
      have t2 := HEK.out.cl HT2.out
      clear hCR HRK
      by_cases hz : repE t CR = 0
      case neg => exact absurd HZR.out hz
      case pos =>
       have HA : Hid (er = 0) := Lib.hid (HAE.out.trans hz)
       have HL : Hid (em = cutL N (openC t CR) (fun f q => underC t (openC t CR) f (q : Int))) := Lib.hid (by rw [HLE.out, HAE.out, if_pos hz])
       rw [if_pos hz, hz] at HOP
       have HRG : Hid (RangeC t CR) := Lib.hid (by
        unfold repE at hz
        by_cases h1 : (validT t && fitsB t CR) = true
        ·rw [if_pos h1] at hz
         by_cases h2 : rangeB t CR = true
         ·exact ⟨by rw [HCL.out, HNT.out], h2⟩
         ·rw [if_neg h2] at hz; simp at hz
        ·rw [if_neg h1] at hz; simp at hz)
       have HCO := Lib.hid (open_cons HRG.out)
       obtain ⟨C, hC⟩ : ∃ c, openC t CR = c := ⟨_, rfl⟩
       rw [hC] at HL HOP HCO
       have HCN : Hid (C.length = N) := Lib.hid (HCO.out.1.1.trans HNT.out)
       clear hz hC
       go_wp2_with fail
       refine HOP.out.mono ?_
       rintro e w4 ⟨v4, rfl, hR4, hX4⟩
       rw [HCN.out] at hR4
       obtain ⟨G4, O4, cap4, rfl, hG4, hG4w, hcap4⟩ := hR4.shape (by omega)
       have HX4 := Lib.hid (HEW.out.trans' hX4)
       have HR4 := Lib.hid hR4
       have HT4 := Lib.hid (hX4.cl t2)
       have HBG := Lib.hid (begin_calls N w4 (by omega))
       clear hR4 hX4 t2 HOP HRC HEK HEW
       go_wp2_with fail
       refine HBG.out.mono ?_
       rintro e w5 ⟨lv, vc, vh, vr, rfl, hO, hX5⟩
       rw [begL_len] at hO
       obtain ⟨g, o, cp, rfl, hg, hgw, hcp⟩ := hO.shape (by rw [begL_len]; omega)
       rw [begL_len] at hO hcp ⊢
       have HO5 := Lib.hid hO
       have HX5 := Lib.hid hX5
       clear hO hX5 HBG
       have HU : Hid (∀ W, Ext w4 W → ∀ f q : Nat, f < N → q < N → Calls Tryz.prog 24 #[.agg #[.slice ta N tc], .slice (some ⟨G4, O4, none⟩) N cap4, .int .i64 f, .int .i64 q] W fun e w' => IntsRes W w' e 0 (underC t C f (q : Int))) := Lib.hid (fun W hW f q hf hq => by
        have h := underWayP_calls (.slice ta N tc) (.slice (some ⟨G4, O4, none⟩) N cap4) t C (f : Int) (q : Int) W (HT.out.ext (HX4.out.trans' hW)) HLS.out (HR4.out.ext hW).ints
        rw [given_pq HVT.out HCO.out (by have := HNT.out; omega) (by have := HNT.out; omega), if_pos rfl, Int.toNat_natCast] at h
        exact h)
       have HO0 : Hid (OwnM w5 w4.heap.size (.slice (some ⟨g, o, none⟩) N cp) N N (lyL N C (fun f q => underC t C f (q : Int)) 0 0 false) vc vh vr) := Lib.hid (by rw [lyL_zero]; exact HO5.out)
       obtain ⟨F, hF⟩ : ∃ F : Nat → Nat → List Int, F = fun (f q : Nat) => underC t C f (q : Int) := ⟨_, rfl⟩
       have HF : Hid (∀ f q : Nat, underC t C f (q : Int) = F f q) := Lib.hid (fun f q => by rw [hF])
       rw [← hF] at HL HO0
       clear hF HO5
       have hcpz : (N : Int) ≤ (cp : Int) := by omega
       go_wp2
       go_loopg [11, 12, 60] N (fun gk s11 s12 s60 wr => ∃ (q : Nat) (vr : Nat → Nat → Value), q ≤ N ∧ N - q ≤ gk ∧ s60 = .int .i64 q ∧ Aside (OwnM wr w4.heap.size (.slice (some ⟨g, o, none⟩) N cp) N N (lyL N C F q 0 false) vc vh vr) ∧ Aside (Ext w4 wr))
       case atStart => exact ⟨0, vr, Nat.zero_le _, by omega, rfl, (show OwnM _ _ _ _ _ _ _ _ _ from HO0.out), (show Ext _ _ from HX5.out)⟩
       case round =>
        obtain ⟨q, vr, hq, hgq, rfl, HOQ, HEQ⟩ := hrel
        clear HO0 HX5
        by_cases hqN : q < N
        case neg =>
         have hqz : ¬ (q : Int) < (N : Int) := by omega
         obtain rfl : N = q := by omega
         go_wp2
         go_ret2
         refine ⟨_, vc, vh, vr, rfl, HX4.out.trans' HEQ.out, ?_⟩
         rw [HEM.out, HNT.out, HL.out, ← lyL_all]
         exact HOQ.out.mono HX4.out.sz
        case pos =>
         have hqz : (q : Int) < (N : Int) := by omega
         have hqz0 : (0 : Int) ≤ (q : Int) := by omega
         obtain ⟨G4', O4', hG4', _, hc0⟩ := ints_at (HR4.out.ext HEQ.out).ints q (by rw [HCN.out]; exact hqN)
         simp only [Option.some.injEq, Addr.mk.injEq, and_true] at hG4'
         obtain ⟨rfl, rfl⟩ := hG4'
         have HREC := Lib.hid (record_calls g o cp N w4.heap.size (lyL N C F q 0 false) vc vh vr wr q C[q]! hqN lyL_len HOQ.out)
         have HST := Lib.hid (fun g2 o2 c2 (hv : vc q = .slice (some ⟨g2, o2, none⟩) N c2) => by
          have h := HOQ.out.reco hqN hqN C[q]! hv
          rw [lyL_rec hqN] at h
          exact h)
         have HGB := Lib.hid (HOQ.out.row.lt g rfl).1
         generalize C[q]! = x at *
         go_wp2_with fail
         refine HREC.out.mono ?_
         rintro e w6 ⟨rfl, g2, o2, c2, hv2, hb2, hb3, rfl⟩
         have HV2 := Lib.hid hv2
         have HO6 := Lib.hid (HST.out g2 o2 c2 hv2)
         have HE6 := Lib.hid ((HEQ.out.st (p := ⟨g, o + q * 3, none⟩) hb3 (.int .i64 x)).st (p := ⟨g2, o2 + q, none⟩) hb2 (.bool true))
         generalize (wr.setCell ⟨g, o + q * 3, none⟩ (.int .i64 x)).setCell ⟨g2, o2 + q, none⟩ (.bool true) = w6 at *
         clear hv2 hb2 hb3 HREC HST hc0 HOQ HEQ
         go_wp2
         go_loopg [12, 72] N (fun gk s12 s72 wr => ∃ (f : Nat) (vr : Nat → Nat → Value), f ≤ N ∧ N - f ≤ gk ∧ s72 = .int .i64 f ∧ Aside (OwnM wr w4.heap.size (.slice (some ⟨g, o, none⟩) N cp) N N (lyL N C F q f true) vc vh vr) ∧ Aside (Ext w4 wr))
         case atStart => exact ⟨0, vr, Nat.zero_le _, by omega, rfl, (show OwnM _ _ _ _ _ _ _ _ _ from HO6.out), (show Ext _ _ from HE6.out)⟩
         case round =>
          obtain ⟨f, vr, hf, hgf, rfl, HOF, HEF⟩ := hrel
          clear HO6 HE6
          by_cases hfN : f < N
          case neg =>
           have hfz : ¬ (f : Int) < (N : Int) := by omega
           have HN := Lib.hid (show OwnM _ _ _ _ _ (lyL N C F (q + 1) 0 false) _ _ _ from by
            have h := HOF.out
            rw [show f = N by omega, lyL_next hqN] at h
            exact h)
           go_wp2
           go_roundg (N - (q + 1))
           case measure => omega
           case rel => exact ⟨q + 1, vr, by omega, by omega, by go_num, (show OwnM _ _ _ _ _ _ _ _ _ from HN.out), (show Ext _ _ from HEF.out)⟩
          case pos =>
           have hfz : (f : Int) < (N : Int) := by omega
           have hfz0 : (0 : Int) ≤ (f : Int) := by omega
           obtain ⟨_, k1, _, _⟩ := HOF.out.cellsAt (i := q) (by rw [lyL_len]; exact hqN)
           obtain ⟨g2', o2', c2', hv2', hgb2, hgw2, hnc2, d0, hf2⟩ := HOF.out.boolAt (j := f) hqN hfN
           rw [HV2.out] at hv2'
           simp only [Value.slice.injEq, Option.some.injEq, Addr.mk.injEq, true_and, and_true] at hv2'
           obtain ⟨⟨rfl, rfl⟩, rfl⟩ := hv2'
           rw [HV2.out] at k1
           have hfr := hf2 (o2 + f)
           have HOB := Lib.hid (HOF.out.setB hqN hfN HV2.out)
           have HEB := Lib.hid (HEF.out.st (p := ⟨g2, o2 + f, none⟩) hgb2 (.bool true))
           have hwl : g < wr.heap.size := (HOF.out.row.lt g rfl).2
           generalize (lyL N C F q f true)[q]!.closed[f]! = z0 at *
           clear hf2 hgb2
           go_upto_region 22 with (fail)
           generalize wr.setCell ⟨g2, o2 + f, none⟩ (.bool true) = wS at *
           obtain ⟨_, _, k2, _⟩ := HOB.out.cellsAt (i := q) (by rw [closeK_len, lyL_len]; exact hqN)
           obtain ⟨gh, oh, ch, hvh, hgb, hgw, hnc, e0, _⟩ := HOB.out.hdrAt (j := f) hqN hfN
           rw [hvh] at k2
           have HVH := Lib.hid hvh
           have t4 := HEB.out.cl HT4.out
           have HUW := Lib.hid (HU.out wS.drew HEB.out.dr f q hfN hqN)
           rw [HF.out] at HUW
           generalize vr q f = z1 at *
           clear hvh k1 d0 hfr
           refine wp_region_tail (fun W => W.cell? ⟨g, o + q * 3 + 2, none⟩ = some (.slice (some ⟨gh, oh, none⟩) N ch) ∧ W.cell? ⟨w.heap.size, 0, none⟩ = some (.slice ta N tc)) 15 (by kernel_rfl) ⟨k2, t4⟩ (fun hHeld => ?_)
           refine wpAnyT_take (i := 0) (d := some 83) (v := ?_) rfl rfl (by kernel_rfl) (by kernel_rfl) (by kernel_rfl) (by kernel_rfl) (fun _ _ _ h => h) (Or.inl ⟨by rfl, ?_⟩) (by assumption) ?_
           rotate_left
           ·(intro w hSw; (try dsimp only at hSw); go_simp; try (with_reducible rfl))
           try simp only [Act.put]
           try simp only [List.setIfInBounds_toArray]
           try simp only [List.set_cons_zero, List.set_cons_succ]
           refine wpAnyT_take (i := 1) (d := some 84) (v := ?_) rfl rfl (by kernel_rfl) (by kernel_rfl) (by kernel_rfl) (by kernel_rfl) (fun _ _ _ h => h) (Or.inl ⟨by rfl, ?_⟩) (by assumption) ?_
           rotate_left
           ·(intro w hSw; (try dsimp only at hSw); go_simp; try (with_reducible rfl))
           try simp only [Act.put]
           try simp only [List.setIfInBounds_toArray]
           try simp only [List.set_cons_zero, List.set_cons_succ]
           refine wpAnyT_take (i := 2) (d := some 85) (v := ?_) rfl rfl (by kernel_rfl) (by kernel_rfl) (by kernel_rfl) (by kernel_rfl) (fun _ _ _ h => h) (Or.inl ⟨by rfl, ?_⟩) (by assumption) ?_
           rotate_left
           ·(intro w hSw; (try dsimp only at hSw); go_simp; try (with_reducible rfl))
           try simp only [Act.put]
           try simp only [List.setIfInBounds_toArray]
           try simp only [List.set_cons_zero, List.set_cons_succ]
           refine wpAnyT_take (i := 3) (d := some 86) (v := ?_) rfl rfl (by kernel_rfl) (by kernel_rfl) (by kernel_rfl) (by kernel_rfl) (fun _ _ _ h => h) (Or.inl ⟨by rfl, ?_⟩) (by assumption) ?_
           rotate_left
           ·(intro w hSw; (try dsimp only at hSw); go_simp; try (with_reducible rfl))
           try simp only [Act.put]
           try simp only [List.setIfInBounds_toArray]
           try simp only [List.set_cons_zero, List.set_cons_succ]
           refine wpAnyT_take (i := 4) (d := some 87) (v := ?_) rfl rfl (by kernel_rfl) (by kernel_rfl) (by kernel_rfl) (by kernel_rfl) (fun _ _ _ h => h) (Or.inl ⟨by rfl, ?_⟩) (by assumption) ?_
           rotate_left
           ·(intro w hSw; (try dsimp only at hSw); go_simp; try (with_reducible rfl))
           try simp only [Act.put]
           try simp only [List.setIfInBounds_toArray]
           try simp only [List.set_cons_zero, List.set_cons_succ]
           refine wpAnyT_take (i := 5) (d := some 88) (v := ?_) rfl rfl (by kernel_rfl) (by kernel_rfl) (by kernel_rfl) (by kernel_rfl) (fun _ _ _ h => h) (Or.inl ⟨by rfl, ?_⟩) (by assumption) ?_
           rotate_left
           ·(intro w hSw; (try dsimp only at hSw); go_simp; try (with_reducible rfl))
           try simp only [Act.put]
           try simp only [List.setIfInBounds_toArray]
           try simp only [List.set_cons_zero, List.set_cons_succ]
           refine wpAnyT_take (i := 6) (d := some 89) (v := ?_) rfl rfl (by kernel_rfl) (by kernel_rfl) (by kernel_rfl) (by kernel_rfl) (fun _ _ _ h => h) (Or.inl ⟨by rfl, ?_⟩) (by assumption) ?_
           rotate_left
           ·(intro w hSw; (try dsimp only at hSw); go_simp; try (with_reducible rfl))
           try simp only [Act.put]
           try simp only [List.setIfInBounds_toArray]
           try simp only [List.set_cons_zero, List.set_cons_succ]
           refine wpAnyT_take (i := 7) (d := some 90) (v := ?_) rfl rfl (by kernel_rfl) (by kernel_rfl) (by kernel_rfl) (by kernel_rfl) (fun _ _ _ h => h) (Or.inl ⟨by rfl, ?_⟩) (by assumption) ?_
           rotate_left
           ·(intro w hSw; (try dsimp only at hSw); go_simp; try (with_reducible rfl))
           try simp only [Act.put]
           try simp only [List.setIfInBounds_toArray]
           try simp only [List.set_cons_zero, List.set_cons_succ]
           refine wpAnyT_take (i := 8) (d := some 91) (v := ?_) rfl rfl (by kernel_rfl) (by kernel_rfl) (by kernel_rfl) (by kernel_rfl) (fun _ _ _ h => h) (Or.inl ⟨by rfl, ?_⟩) (by assumption) ?_
           rotate_left
           ·(intro w hSw; (try dsimp only at hSw); go_simp; try (with_reducible rfl))
           try simp only [Act.put]
           try simp only [List.setIfInBounds_toArray]
           try simp only [List.set_cons_zero, List.set_cons_succ]
           refine wpAnyT_take (i := 9) (d := some 92) (v := ?_) rfl rfl (by kernel_rfl) (by kernel_rfl) (by kernel_rfl) (by kernel_rfl) (fun _ _ _ h => h) (Or.inl ⟨by rfl, ?_⟩) (by assumption) ?_
           rotate_left
           ·(intro w hSw; (try dsimp only at hSw); go_simp; try (with_reducible rfl))
           try simp only [Act.put]
           try simp only [List.setIfInBounds_toArray]
           try simp only [List.set_cons_zero, List.set_cons_succ]
           refine wpAnyT_step (i := 10) (o := ⟨some 93, _, _, _, _, _⟩) (by kernel_rfl) rfl (fun K hK => ?_)
           refine step_call rfl 24 _ _ rfl enters_24 [.agg #[.slice ta N tc], .slice (some ⟨G4, O4, none⟩) N cap4, .int .i64 f, .int .i64 q] (by first | rfl | kernel_rfl | go_simp) HUW.out ?_
           rintro e y ⟨v7, rfl, hR7, hX7⟩
           obtain ⟨x7, y7, rfl, hz7⟩ := hR7.any
           clear hz7
           refine ⟨_, rfl, ?_⟩
           have HX7 : Hid (Ext wS y) := Lib.hid ((Ext.rf wS).dr.trans' hX7)
           have HNR2 := Lib.hid (HOB.out.newR hqN hfN HVH.out HX7.out hR7 (Nat.le_refl _) HEB.out.sz)
           generalize (F f q).length = L at *
           have HE7 := Lib.hid (HEB.out.trans' HX7.out)
           have hfrz : y.frozen? ⟨gh, oh + f, none⟩ = false := by
            have h := (HOB.out.hdr q hqN).ext HX7.out
            rw [HVH.out] at h
            exact h.free _
           have e7 := HX7.out.cl e0
           have k7 := HX7.out.cl k2
           have t7 := HX7.out.cl t4
           have hn1 : gh ≠ g := by
            have h := HOB.out.hdr q hqN
            rw [HVH.out] at h
            obtain ⟨c1, f1, h1⟩ := row_hp h
            obtain ⟨c2, f2, h2⟩ := row_hp HOB.out.row
            rintro rfl
            rw [h1] at h2
            simp at h2
           have hn2 : gh ≠ w.heap.size := by have := HX4.out.sz; have := World.block_lt_of_cell? _ _ HT4.out; simp only at this; omega
           clear hR7 hX7
           have HRL : Hid (OwnM (y.setCell ⟨gh, oh + f, none⟩ (.slice x7 L y7)) w4.heap.size (.slice (some ⟨g, o, none⟩) N cp) N N (lyL N C F q (f + 1) true) vc vh (put2 vr q f (.slice x7 L y7))) := Lib.hid (by
            have h := HNR2.out
            rw [show (closeK (lyL N C F q f true) q f).set q { (closeK (lyL N C F q f true) q f)[q]! with chan := (closeK (lyL N C F q f true) q f)[q]!.chan.set f (F f q) } = lyL N C F q (f + 1) true from lyL_step hqN hfN] at h
            exact h)
           have HRX := Lib.hid (HE7.out.st (p := ⟨gh, oh + f, none⟩) hgb (.slice x7 L y7))
           clear HNR2
           refine hK.out _ _ ?_ (fun hHeld => ?_)
           ·(try dsimp only)
            exact ⟨k7, t7⟩
           clear hK K
           try simp only [Act.put]
           try simp only [List.setIfInBounds_toArray]
           try simp only [List.set_cons_zero, List.set_cons_succ]
           refine wpAnyT_take (i := 11) (d := some 82) (v := ?_) rfl rfl (by kernel_rfl) (by kernel_rfl) (by kernel_rfl) (by kernel_rfl) (fun _ _ _ h => h) (Or.inl ⟨by rfl, ?_⟩) (by assumption) ?_
           rotate_left
           ·(intro w hSw; (try dsimp only at hSw); go_simp; try (with_reducible rfl))
           try simp only [Act.put]
           try simp only [List.setIfInBounds_toArray]
           try simp only [List.set_cons_zero, List.set_cons_succ]
           refine wpAnyT_take (i := 12) (d := some 94) (v := ?_) rfl rfl (by kernel_rfl) (by kernel_rfl) (by kernel_rfl) (by kernel_rfl) (fun _ _ _ h => h) (Or.inl ⟨by rfl, ?_⟩) (by assumption) ?_
           rotate_left
           ·(intro w hSw; (try dsimp only at hSw); go_simp; try (with_reducible rfl))
           try simp only [Act.put]
           try simp only [List.setIfInBounds_toArray]
           try simp only [List.set_cons_zero, List.set_cons_succ]
           refine wpAnyT_take (i := 14) (d := some 96) (v := ?_) rfl rfl (by kernel_rfl) (by kernel_rfl) (by kernel_rfl) (by kernel_rfl) (fun _ _ _ h => h) (Or.inl ⟨by rfl, ?_⟩) (by assumption) ?_
           rotate_left
           ·(intro w hSw; (try dsimp only at hSw); go_simp; try (with_reducible rfl))
           try simp only [Act.put]
           try simp only [List.setIfInBounds_toArray]
           try simp only [List.set_cons_zero, List.set_cons_succ]
           refine wpAnyT_ready (rs := [13, 15]) (by kernel_rfl) (by simp) ?_
           refine AllT.cons (i := 13) rfl (fun K hK => ?_) ?_
           ·go_simp
            refine hK.out _ _ ?_ (fun hHeld => ?_)
            ·(try dsimp only)
             exact ⟨k7, t7⟩
            clear hK K
            try simp only [Act.put]
            try simp only [List.setIfInBounds_toArray]
            try simp only [List.set_cons_zero, List.set_cons_succ]
            refine wpAnyT_last (by kernel_rfl) rfl (by kernel_rfl) (fun K hK => ?_)
            go_simp
            refine hK.out _ _ ?_
            go_wp2
            go_roundg (N - (f + 1))
            case measure => omega
            case rel => exact ⟨f + 1, _, by omega, by omega, by go_num, (show OwnM _ _ _ _ _ _ _ _ _ from HRL.out), (show Ext _ _ from HRX.out)⟩
           refine AllT.cons (i := 15) rfl (fun K hK => ?_) AllT.nil
           go_simp
           refine hK.out _ _ ?_ (fun hHeld => ?_)
           ·(try dsimp only)
            exact ⟨(World.cell?_setCell_far y ⟨gh, oh + f, none⟩ _ _ hn1).trans k7, (World.cell?_setCell_far y ⟨gh, oh + f, none⟩ _ _ hn2).trans t7⟩
           clear hK K
           try simp only [Act.put]
           try simp only [List.setIfInBounds_toArray]
           try simp only [List.set_cons_zero, List.set_cons_succ]
           refine wpAnyT_ready (rs := [13]) (by kernel_rfl) (by simp) ?_
           refine AllT.cons (i := 13) rfl (fun K hK => ?_) AllT.nil
           go_simp
           refine hK.out _ _ hHeld (fun _ => ⟨by kernel_rfl, ?_⟩)
           clear hK K hHeld
           try simp only [Act.put]
           try simp only [List.setIfInBounds_toArray]
           try simp only [List.set_cons_zero, List.set_cons_succ]
           go_wp2
           go_roundg (N - (f + 1))
           case measure => omega
           case rel => exact ⟨f + 1, _, by omega, by omega, by go_num, (show OwnM _ _ _ _ _ _ _ _ _ from HRL.out), (show Ext _ _ from HRX.out)⟩
end Go.Proofs.YtfagfooggcinoaaGreat
namespace Go.Proofs.YtfagfooggcinoaaGreat
set_option linter.unusedVariables false
section
variable {P : Program} {ops : Array Oper} {Q : Exit → Act → World → Prop} {md : Region.Mode} {S : World → Prop} {st : List Nat}
def wpAnyU (P : Program) (md : Region.Mode) (ops : Array Oper) (Q : Exit → Act → World → Prop) (S : World → Prop) (st : List Nat) : Nat → Array Bool → Act → World → Prop
 | 0, listed, a, w => Region.ready md ops listed = [] ∧ Q .normal a w
 | fuel + 1, listed, a, w =>
   (Region.ready md ops listed = [] → Q .normal a w) ∧
   ∀ i ∈ Region.ready md ops listed, wpOp P ops Q i (fun a' w' => (i ∈ st ∨ S w') ∧ wpAnyU P md ops Q S st fuel (listed.setIfInBounds i true) a' w') a w
def upOfU (md : Region.Mode) (ops : Array Oper) (i : Nat) : List Nat :=
 (List.range ops.size).foldl (fun D j => if j == i || ((ops[j]?).map (·.after.any fun e => Region.binds md e && D.contains e.on)).getD false then D ++ [j] else D) []
def upOkU (md : Region.Mode) (ops : Array Oper) (listed : Array Bool) (st : List Nat) (i : Nat) : Bool :=
 (st.all fun s => (upOfU md ops i).contains s) && (upOfU md ops i).all fun d => !(listed.getD d true) && (d == i || ((ops[d]?).map (·.after.any fun e => Region.binds md e && (upOfU md ops i).contains e.on)).getD false)
def AllU (P : Program) (md : Region.Mode) (ops : Array Oper) (Q : Exit → Act → World → Prop) (S : World → Prop) (st : List Nat) (fuel : Nat) (listed : Array Bool) (a : Act) (w : World) (rs : List Nat) : Prop :=
 ∀ i ∈ rs, wpOp P ops Q i (fun a' w' => (i ∈ st ∨ S w') ∧ wpAnyU P md ops Q S st fuel (listed.setIfInBounds i true) a' w') a w
end
end Go.Proofs.YtfagfooggcinoaaGreat
namespace Go.Proofs.YtfagfooggcinoaaGreat
set_option linter.unusedVariables false
section
variable {P : Program} {ops : Array Oper} {Q : Exit → Act → World → Prop} {md : Region.Mode} {S : World → Prop} {st : List Nat}
def ran (st : List Nat) (listed : Array Bool) : Prop := ∃ s ∈ st, listed.getD s false = true
def wpAnyV (P : Program) (md : Region.Mode) (ops : Array Oper) (Q : Exit → Act → World → Prop) (S : World → Prop) (st : List Nat) : Nat → Array Bool → Act → World → Prop
 | 0, listed, a, w => Region.ready md ops listed = [] ∧ Q .normal a w
 | fuel + 1, listed, a, w =>
   (Region.ready md ops listed = [] → Q .normal a w) ∧
   ∀ i ∈ Region.ready md ops listed, wpOp P ops Q i (fun a' w' => (ran st (listed.setIfInBounds i true) ∨ S w') ∧ wpAnyV P md ops Q S st fuel (listed.setIfInBounds i true) a' w') a w
theorem wpAny_of_V : ∀ (fuel : Nat) (listed : Array Bool) (a : Act) (w : World), wpAnyV P md ops Q S st fuel listed a w → wpAny P md ops Q fuel listed a w
 | 0, _, _, _, h => h
 | fuel + 1, _, _, _, h => ⟨h.1, fun i hi => wpOp_mono (fun a' w' h' => wpAny_of_V fuel _ a' w' h'.2) (h.2 i hi)⟩
theorem ran_set {listed : Array Bool} {i : Nat} (h : ran st listed) : ran st (listed.setIfInBounds i true) := by
 obtain ⟨s, hs, hl⟩ := h
 refine ⟨s, hs, ?_⟩
 by_cases e : s = i
 ·subst e
  rcases Nat.lt_or_ge s listed.size with h' | h'
  ·simp [h']
  ·simp [Array.getElem?_eq_none h'] at hl
 ·rw [getD_set_ne false (fun h => e h.symm)]; exact hl
theorem wpAnyV_first {i : Nat} {oi : Oper} {v : Value} (rd : Bool) (hni : i ∉ st) (hi : ops[i]? = some oi) (hsel : ∀ (j : Nat) (o : Oper) cs b, ops[j]? = some o → o.op ≠ .select cs b)
  (hQ : ∀ c a w, Q (.panic c) (a.put oi.dst v) w → Q (.panic c) a w) (D : List Nat) (hst : rd = true → ∀ s ∈ st, s ∈ D)
  (hD : ∀ d ∈ D, d ≠ i → ∃ od, ops[d]? = some od ∧ ∃ e ∈ od.after, Region.binds md e = true ∧ e.on ∈ D) :
  ∀ (fuel : Nat) (listed : Array Bool) (a : Act) (w : World),
   (∀ j oj, ops[j]? = some oj → j ≠ i → listed.getD j true = false → (∀ e ∈ oj.after, Region.binds md e = true → e.on ≠ i) → oi.apart ops oj = true) →
   i ∈ Region.ready md ops listed → (∀ d ∈ D, listed.getD d true = false) → YieldsIf P ops (fun w => rd = true → S w) oi v a → (ran st listed ∨ S w) →
   wpAnyV P md ops Q S st fuel (listed.setIfInBounds i true) (a.put oi.dst v) w → wpAnyV P md ops Q S st (fuel + 1) listed a w := by
 have noran : ∀ listed : Array Bool, rd = true → (∀ d ∈ D, listed.getD d true = false) → ¬ ran st listed := fun listed hr hun ⟨s, hs, hl⟩ => by
  have h0 := hun s (hst hr s hs)
  rcases Nat.lt_or_ge s listed.size with h' | h'
  ·simp [h'] at h0 hl; rw [h0] at hl; cases hl
  ·simp [Array.getElem?_eq_none h'] at hl
 intro fuel
 induction fuel with
 | zero =>
   intro listed a w _ hr hun hy hS H
   refine ⟨fun h => (by rw [h] at hr; cases hr), fun j hj => ?_⟩
   by_cases hji : j = i
   ·subst hji; exact hy.wpOp hi (fun h => hS.resolve_left (noran _ h hun)) ⟨hS.imp_left ran_set, H⟩
   ·have := ready_mono hj hji
    rw [H.1] at this
    cases this
 | succ fuel ih =>
   intro listed a w hfree hr hun hy hS H
   refine ⟨fun h => (by rw [h] at hr; cases hr), fun j hj => ?_⟩
   by_cases hji : j = i
   ·subst hji; exact hy.wpOp hi (fun h => hS.resolve_left (noran _ h hun)) ⟨hS.imp_left ran_set, H⟩
   ·have h1 := H.2 j (ready_mono hj hji)
    obtain ⟨hjun, oj, hoj, hall⟩ := mem_ready.1 hj
    have flip : ∀ k, listed.getD k true = false → listed.getD k false = true → False := fun k h0 h1 => by
     rcases Nat.lt_or_ge k listed.size with h' | h'
     ·simp [h'] at h0 h1; rw [h0] at h1; cases h1
     ·simp [Array.getElem?_eq_none h'] at h1
    have hnot : ∀ e ∈ oj.after, Region.binds md e = true → e.on ≠ i := fun e he hb heq => by
     have h1 := hall e he hb
     rw [heq] at h1
     exact flip i (mem_ready.1 hr).1 h1
    have hjD : j ∉ D := fun hjd => by
     obtain ⟨od, hod, e, he, hb, hed⟩ := hD j hjd hji
     rw [hoj] at hod
     cases hod
     exact flip e.on (hun e.on hed) (hall e he hb)
    have h2 := wpOp_putIf hoj (hfree j oj hoj hji hjun hnot) (fun cs b => hsel i oi cs b hi) (fun cs b => hsel j oj cs b hoj) hQ hy h1
    have hfree' : ∀ k ok, ops[k]? = some ok → k ≠ i → (listed.setIfInBounds j true).getD k true = false →
      (∀ e ∈ ok.after, Region.binds md e = true → e.on ≠ i) → oi.apart ops ok = true := fun k ok hk hki hun hno => by
     refine hfree k ok hk hki ?_ hno
     by_cases hjk : j = k
     ·subst hjk; exact hjun
     ·rw [getD_set_ne true hjk] at hun; exact hun
    have hun' : ∀ d ∈ D, (listed.setIfInBounds j true).getD d true = false := fun d hd => by
     rw [getD_set_ne true (fun e => hjD (by rw [e]; exact hd))]; exact hun d hd
    refine wpOp_mono (fun a' w' h3 => ?_) h2
    have hSw : ran st (listed.setIfInBounds j true) ∨ S w' := by
     rcases h3.2.1 with h4 | h4
     ·obtain ⟨s, hs, hl⟩ := h4
      by_cases e : s = i
      ·subst e; exact absurd hs hni
      ·rw [Array.setIfInBounds_comm _ _ (Ne.symm hji), getD_set_ne false (fun h => e h.symm)] at hl
       exact .inl ⟨s, hs, hl⟩
     ·exact .inr h4
    refine ⟨hSw, ih (listed.setIfInBounds j true) a' w' hfree' (ready_mono hr (Ne.symm hji)) hun' h3.1 hSw ?_⟩
    rw [Array.setIfInBounds_comm _ _ hji]
    exact h3.2.2
def upOkV (md : Region.Mode) (ops : Array Oper) (listed : Array Bool) (st : List Nat) (rd : Bool) (i : Nat) : Bool :=
 !st.contains i && ((!rd || st.all fun s => (upOfU md ops i).contains s) && (upOfU md ops i).all fun d => !(listed.getD d true) && (d == i || ((ops[d]?).map (·.after.any fun e => Region.binds md e && (upOfU md ops i).contains e.on)).getD false))
theorem wpAnyV_take (rd : Bool) {i : Nat} {oi : Oper} {v : Value} {d : Option Tmp} {fuel : Nat} {listed : Array Bool} {a : Act} {w : World} (hi : ops[i]? = some oi) (hd : oi.dst = d)
  (hs : Region.noSelect ops = true) (hf : Region.free md ops listed i = true) (hr : (Region.ready md ops listed).contains i = true) (hu : upOkV md ops listed st rd i = true)
  (hQ : ∀ c a w, Q (.panic c) (a.put d v) w → Q (.panic c) a w) (hy : YieldsIf P ops (fun w => rd = true → S w) oi v a) (hS : ran st listed ∨ S w)
  (h : wpAnyV P md ops Q S st fuel (listed.setIfInBounds i true) (a.put d v) w) : wpAnyV P md ops Q S st (fuel + 1) listed a w := by
 subst hd
 unfold upOkV at hu
 simp only [Bool.and_eq_true, List.all_eq_true, Bool.not_eq_true', Bool.or_eq_true, beq_iff_eq] at hu
 obtain ⟨h0, h1, h2⟩ := hu
 refine wpAnyV_first rd (by intro hm; rw [List.contains_iff_mem.2 hm] at h0; cases h0) hi (Region.noSelect_spec hs) hQ (upOfU md ops i) (fun hr => ?_) (fun d hd hne => ?_) fuel listed a w (Region.free_spec hi hf) (by simpa using hr) (fun d hd => (h2 d hd).1) hy hS h
 ·rcases h1 with h1 | h1
  ·rw [hr] at h1; cases h1
  ·simpa using h1
 ·have h3 := (h2 d hd).2.resolve_left hne
  cases hod : ops[d]? with
  | none => rw [hod] at h3; simp at h3
  | some od =>
    rw [hod] at h3
    simp only [Option.map_some, Option.getD_some] at h3
    obtain ⟨e, he, hb⟩ := Array.any_eq_true'.1 h3
    rw [Bool.and_eq_true] at hb
    exact ⟨od, rfl, e, he, hb.1, by simpa using hb.2⟩
theorem wp_region_tailv (S : World → Prop) (st : List Nat) {id : Nat} {a : Act} {w : World} (hm : P.follows .mixedOrders = true) (hS : S w.drew)
  (h : S w.drew → wpAnyV P .any ops Q S st ops.size (Array.replicate ops.size false) a w.drew) : (Code.region id ops true).wp P Q a w :=
 wp_region_any hm (wpAny_of_V _ _ _ _ (h hS))
theorem wpAnyV_step {i : Nat} {o : Oper} {fuel : Nat} {listed : Array Bool} {a : Act} {w : World} (hr : Region.ready md ops listed = [i]) (ho : ops[i]? = some o)
  (h : ∀ K' : Act → World → Prop, Shut (∀ a w, (ran st (listed.setIfInBounds i true) ∨ S w) → wpAnyV P md ops Q S st fuel (listed.setIfInBounds i true) a w → K' a w) → if Region.wanted o (yielded ops a.tmps) = true then Oper.wp P o a w K' Q else K' (a.put o.dst undef) w) :
  wpAnyV P md ops Q S st (fuel + 1) listed a w :=
 ⟨fun h0 => (by rw [hr] at h0; cases h0), fun j hj => by
  rw [hr] at hj
  obtain rfl : j = i := by simpa using hj
  exact wpOp_step ho (fun K' hK => h K' (fun a w hS hW => hK a w ⟨hS, hW⟩))⟩
def AllV (P : Program) (md : Region.Mode) (ops : Array Oper) (Q : Exit → Act → World → Prop) (S : World → Prop) (st : List Nat) (fuel : Nat) (listed : Array Bool) (a : Act) (w : World) (rs : List Nat) : Prop :=
 ∀ i ∈ rs, wpOp P ops Q i (fun a' w' => (ran st (listed.setIfInBounds i true) ∨ S w') ∧ wpAnyV P md ops Q S st fuel (listed.setIfInBounds i true) a' w') a w
theorem wpAnyV_done {fuel : Nat} {listed : Array Bool} {a : Act} {w : World} (hr : Region.ready md ops listed = []) (hq : Q .normal a w) : wpAnyV P md ops Q S st fuel listed a w := by
 cases fuel with
 | zero => exact ⟨hr, hq⟩
 | succ n => exact ⟨fun _ => hq, by rw [hr]; simp⟩
end
end Go.Proofs.YtfagfooggcinoaaGreat
namespace Go.Proofs.YtfagfooggcinoaaGreat
open Go.RowKit
set_option linter.unusedVariables false
def revTo (l : List Int) (i : Nat) : List Int := (List.range l.length).map fun p => if p < i ∨ l.length - i ≤ p then l[l.length - 1 - p]! else l[p]!
theorem revTo_len (l : List Int) (i : Nat) : (revTo l i).length = l.length := by simp [revTo]
theorem revTo_zero (l : List Int) : revTo l 0 = l := listG_ext (revTo_len ..) fun p hp => by
 rw [revTo_len] at hp
 unfold revTo
 rw [mapR_at _ hp, if_neg (by omega)]
theorem revTo_mid {l : List Int} {i p : Nat} (hp : p < l.length) (h1 : i ≤ p) (h2 : p < l.length - i) : (revTo l i)[p]! = l[p]! := by
 unfold revTo
 rw [mapR_at _ hp, if_neg (by omega)]
theorem revTo_step {l : List Int} {i : Nat} (h : i < l.length - 1 - i) : ((revTo l i).set i l[l.length - 1 - i]!).set (l.length - 1 - i) l[i]! = revTo l (i + 1) :=
 listG_ext (by rw [List.length_set, List.length_set, revTo_len, revTo_len]) fun p hp => by
  rw [List.length_set, List.length_set, revTo_len] at hp
  have hr : (revTo l (i + 1))[p]! = if p < i + 1 ∨ l.length - (i + 1) ≤ p then l[l.length - 1 - p]! else l[p]! := by unfold revTo; rw [mapR_at _ hp]
  rw [hr]
  by_cases e1 : p = l.length - 1 - i
  ·subst e1
   rw [setG_at (by rw [List.length_set, revTo_len]; exact hp), if_pos (.inr (by omega)), show l.length - 1 - (l.length - 1 - i) = i by omega]
  ·rw [setG_ne e1]
   by_cases e2 : p = i
   ·subst e2
    rw [setG_at (by rw [revTo_len]; exact hp), if_pos (.inl (by omega))]
   ·rw [setG_ne e2]
    have h0 : (revTo l i)[p]! = if p < i ∨ l.length - i ≤ p then l[l.length - 1 - p]! else l[p]! := by unfold revTo; rw [mapR_at _ hp]
    rw [h0]
    have : (p < i + 1 ∨ l.length - (i + 1) ≤ p) = (p < i ∨ l.length - i ≤ p) := by rw [eq_iff_iff]; omega
    simp only [this]
theorem revTo_end {l : List Int} {i : Nat} (h : ¬ i < l.length - 1 - i) : revTo l i = l.reverse :=
 listG_ext (by rw [revTo_len, List.length_reverse]) fun p hp => by
  rw [revTo_len] at hp
  have hr : l.reverse[p]! = l[l.length - 1 - p]! := by
   rw [getElem!_pos _ p (by rw [List.length_reverse]; exact hp), List.getElem_reverse, getElem!_pos l _ (by omega)]
  have h0 : (revTo l i)[p]! = if p < i ∨ l.length - i ≤ p then l[l.length - 1 - p]! else l[p]! := by unfold revTo; rw [mapR_at _ hp]
  rw [h0, hr]
  split
  ·rfl
  ·have : l.length - 1 - p = p := by omega
   rw [this]
set_option maxHeartbeats 4000000 in
set_option maxRecDepth 100000 in
theorem reverse_calls (g o cap base : Nat) (l : List Int) (w : World) (h : Row w base 3 1 (.slice (some ⟨g, o, none⟩) l.length cap) l.length (l.map (Value.int .i64))) (hn : l.length ≤ 1000000) :
  Calls Tryz.prog 29 #[.slice (some ⟨g, o, none⟩) l.length cap] w fun e w' => e = .returned (.tuple #[]) ∧ Row w' base 3 1 (.slice (some ⟨g, o, none⟩) l.length cap) l.length (l.reverse.map (Value.int .i64)) ∧ Below g w w' ∧ ∀ k, k ≠ g → w'.heap[k]? = w.heap[k]? := by
 have HGB := Lib.hid (show Below g w w from (Ext.rf w).mono (by have := (h.lt g rfl).2; omega))
 have HST := Lib.hid (fun i => revTo_step (l := l) (i := i))
 have HEN := Lib.hid (fun i => revTo_end (l := l) (i := i))
 have HMI := Lib.hid (fun i p => revTo_mid (l := l) (i := i) (p := p))
 have HLN := Lib.hid (revTo_len l)
 have HR := Lib.hid (show Row w base 3 1 (.slice (some ⟨g, o, none⟩) l.length cap) l.length ((revTo l 0).map (Value.int .i64)) by rw [revTo_zero]; exact h)
 generalize hl : l.length = n at *
 clear h hl
 have hw0 : IntKind.i64.wrap ((n : Int) - 1) = (n : Int) - 1 := IntWalk.i64_in _ (by omega)
 go_enter Tryz.func29, Tryz.ntmps29
 go_wp2
 go_loopg [2, 3] n (fun gg s2 s3 wr => ∃ i : Nat, i ≤ n ∧ n - i ≤ gg ∧ s2 = .int .i64 i ∧ s3 = .int .i64 ((n : Int) - 1 - i) ∧ Aside (Row wr base 3 1 (.slice (some ⟨g, o, none⟩) n cap) n ((revTo l i).map (Value.int .i64))) ∧ Aside (Below g w wr ∧ ∀ k, k ≠ g → wr.heap[k]? = w.heap[k]?))
 case atStart => exact ⟨0, Nat.zero_le _, by omega, rfl, (by simp), (show Row _ _ _ _ _ _ _ from HR.out), (show Aside _ from ⟨HGB.out, fun k _ => rfl⟩)⟩
 case round =>
  obtain ⟨i, hi, hgi, rfl, rfl, HRI, HF⟩ := hrel
  by_cases hlt : i < n - 1 - i
  case neg =>
   have hz : ¬ (i : Int) < (n : Int) - 1 - i := by omega
   have HE := Lib.hid (HEN.out i hlt)
   clear hlt
   go_wp2
   go_end0
   exact ⟨rfl, by have h := HRI.out; rw [HE.out, List.map_reverse] at h; exact h, HF.out.1, HF.out.2⟩
  case pos =>
   obtain ⟨j, hj⟩ : ∃ j : Nat, n - 1 - i = j := ⟨_, rfl⟩
   have HSI := Lib.hid (HST.out i hlt)
   rw [hj] at HSI
   have hji : (n : Int) - 1 - i = (j : Int) := by omega
   have HJ := Lib.hid hj
   have c0 := HRI.out.cell i (by omega)
   have c1 := HRI.out.cell j (by omega)
   have g0 := HRI.out.free (o + i)
   have g1 := HRI.out.free (o + j)
   rw [List.getElem?_map, List.getElem?_eq_getElem (by rw [HLN.out]; omega), ← getElem!_pos _ i (by rw [HLN.out]; omega), HMI.out i i (by omega) (by omega) (by omega)] at c0
   rw [List.getElem?_map, List.getElem?_eq_getElem (by rw [HLN.out]; omega), ← getElem!_pos _ j (by rw [HLN.out]; omega), HMI.out i j (by omega) (by omega) (by omega)] at c1
   simp only [Option.map_some] at c0 c1
   generalize l[i]! = x at *
   generalize l[j]! = y at *
   have hlz : (i : Int) < (j : Int) := by omega
   have hlzn : i < j := by omega
   have b1 : (i : Int) < (n : Int) := by omega
   have b2 : (0 : Int) ≤ (i : Int) := by omega
   have b3 : (j : Int) < (n : Int) := by omega
   have b4 : (0 : Int) ≤ (j : Int) := by omega
   rw [hji]
   clear hlt hj hji
   have hw1 : IntKind.i64.wrap ((i : Int) + 1) = ((i + 1 : Nat) : Int) := by rw [show (i : Int) + 1 = ((i + 1 : Nat) : Int) by omega]; exact IntWalk.i64_in _ (by omega)
   have hw2 : IntKind.i64.wrap ((j : Int) - 1) = (j : Int) - 1 := IntWalk.i64_in _ (by omega)
   go_upto_region 3 with (fail)
   refine wp_region_tailv (fun W => W.cell? ⟨g, o + i, none⟩ = some (.int .i64 x) ∧ W.cell? ⟨g, o + j, none⟩ = some (.int .i64 y)) [13, 15] (by kernel_rfl) ⟨c0, c1⟩ (fun hHeld => ?_)
   have HR0 := Lib.hid (HRI.out.ext (Ext.rf wr).dr)
   have HF0 : Hid (Below g w wr.drew ∧ ∀ k, k ≠ g → wr.drew.heap[k]? = w.heap[k]?) := Lib.hid ⟨HF.out.1.drew, HF.out.2⟩
   have c0 : wr.drew.cell? ⟨g, o + i, none⟩ = some (.int .i64 x) := c0
   have c1 : wr.drew.cell? ⟨g, o + j, none⟩ = some (.int .i64 y) := c1
   have g0 : wr.drew.frozen? ⟨g, o + i, none⟩ = false := g0
   have g1 : wr.drew.frozen? ⟨g, o + j, none⟩ = false := g1
   generalize wr.drew = w0 at *
   refine wpAnyV_take false (i := 0) (d := some 14) (v := ?_) rfl rfl (by kernel_rfl) (by kernel_rfl) (by kernel_rfl) (by kernel_rfl) (fun _ _ _ h => h) (Or.inl ⟨by rfl, ?_⟩) (Or.inr (by assumption)) ?_
   rotate_left
   ·(intro w hSw; go_simp; try (with_reducible rfl))
   try simp only [Act.put]
   try simp only [List.setIfInBounds_toArray]
   try simp only [List.set_cons_zero, List.set_cons_succ]
   refine wpAnyV_take false (i := 1) (d := some 15) (v := ?_) rfl rfl (by kernel_rfl) (by kernel_rfl) (by kernel_rfl) (by kernel_rfl) (fun _ _ _ h => h) (Or.inl ⟨by rfl, ?_⟩) (Or.inr (by assumption)) ?_
   rotate_left
   ·(intro w hSw; go_simp; try (with_reducible rfl))
   try simp only [Act.put]
   try simp only [List.setIfInBounds_toArray]
   try simp only [List.set_cons_zero, List.set_cons_succ]
   refine wpAnyV_take false (i := 4) (d := some 18) (v := ?_) rfl rfl (by kernel_rfl) (by kernel_rfl) (by kernel_rfl) (by kernel_rfl) (fun _ _ _ h => h) (Or.inl ⟨by rfl, ?_⟩) (Or.inr (by assumption)) ?_
   rotate_left
   ·(intro w hSw; go_simp; try (with_reducible rfl))
   try simp only [Act.put]
   try simp only [List.setIfInBounds_toArray]
   try simp only [List.set_cons_zero, List.set_cons_succ]
   refine wpAnyV_take false (i := 5) (d := some 19) (v := ?_) rfl rfl (by kernel_rfl) (by kernel_rfl) (by kernel_rfl) (by kernel_rfl) (fun _ _ _ h => h) (Or.inl ⟨by rfl, ?_⟩) (Or.inr (by assumption)) ?_
   rotate_left
   ·(intro w hSw; go_simp; try (with_reducible rfl))
   try simp only [Act.put]
   try simp only [List.setIfInBounds_toArray]
   try simp only [List.set_cons_zero, List.set_cons_succ]
   refine wpAnyV_take false (i := 6) (d := some 20) (v := ?_) rfl rfl (by kernel_rfl) (by kernel_rfl) (by kernel_rfl) (by kernel_rfl) (fun _ _ _ h => h) (Or.inl ⟨by rfl, ?_⟩) (Or.inr (by assumption)) ?_
   rotate_left
   ·(intro w hSw; go_simp; try (with_reducible rfl))
   try simp only [Act.put]
   try simp only [List.setIfInBounds_toArray]
   try simp only [List.set_cons_zero, List.set_cons_succ]
   refine wpAnyV_take true (i := 7) (d := some 21) (v := ?_) rfl rfl (by kernel_rfl) (by kernel_rfl) (by kernel_rfl) (by kernel_rfl) (fun _ _ _ h => h) (Or.inl ⟨by rfl, ?_⟩) (Or.inr (by assumption)) ?_
   rotate_left
   ·(intro w hSw; have hSw := hSw rfl; (try dsimp only at hSw); go_simp; try (with_reducible rfl))
   try simp only [Act.put]
   try simp only [List.setIfInBounds_toArray]
   try simp only [List.set_cons_zero, List.set_cons_succ]
   refine wpAnyV_take false (i := 8) (d := some 22) (v := ?_) rfl rfl (by kernel_rfl) (by kernel_rfl) (by kernel_rfl) (by kernel_rfl) (fun _ _ _ h => h) (Or.inl ⟨by rfl, ?_⟩) (Or.inr (by assumption)) ?_
   rotate_left
   ·(intro w hSw; go_simp; try (with_reducible rfl))
   try simp only [Act.put]
   try simp only [List.setIfInBounds_toArray]
   try simp only [List.set_cons_zero, List.set_cons_succ]
   refine wpAnyV_take false (i := 9) (d := some 23) (v := ?_) rfl rfl (by kernel_rfl) (by kernel_rfl) (by kernel_rfl) (by kernel_rfl) (fun _ _ _ h => h) (Or.inl ⟨by rfl, ?_⟩) (Or.inr (by assumption)) ?_
   rotate_left
   ·(intro w hSw; go_simp; try (with_reducible rfl))
   try simp only [Act.put]
   try simp only [List.setIfInBounds_toArray]
   try simp only [List.set_cons_zero, List.set_cons_succ]
   refine wpAnyV_take false (i := 10) (d := some 24) (v := ?_) rfl rfl (by kernel_rfl) (by kernel_rfl) (by kernel_rfl) (by kernel_rfl) (fun _ _ _ h => h) (Or.inl ⟨by rfl, ?_⟩) (Or.inr (by assumption)) ?_
   rotate_left
   ·(intro w hSw; go_simp; try (with_reducible rfl))
   try simp only [Act.put]
   try simp only [List.setIfInBounds_toArray]
   try simp only [List.set_cons_zero, List.set_cons_succ]
   refine wpAnyV_take true (i := 11) (d := some 25) (v := ?_) rfl rfl (by kernel_rfl) (by kernel_rfl) (by kernel_rfl) (by kernel_rfl) (fun _ _ _ h => h) (Or.inl ⟨by rfl, ?_⟩) (Or.inr (by assumption)) ?_
   rotate_left
   ·(intro w hSw; have hSw := hSw rfl; (try dsimp only at hSw); go_simp; try (with_reducible rfl))
   try simp only [Act.put]
   try simp only [List.setIfInBounds_toArray]
   try simp only [List.set_cons_zero, List.set_cons_succ]
   refine wpAnyV_take false (i := 12) (d := some 26) (v := ?_) rfl rfl (by kernel_rfl) (by kernel_rfl) (by kernel_rfl) (by kernel_rfl) (fun _ _ _ h => h) (Or.inl ⟨by rfl, ?_⟩) (Or.inr (by assumption)) ?_
   rotate_left
   ·(intro w hSw; go_simp; try (with_reducible rfl))
   try simp only [Act.put]
   try simp only [List.setIfInBounds_toArray]
   try simp only [List.set_cons_zero, List.set_cons_succ]
   refine wpAnyV_take false (i := 2) (d := some 16) (v := ?_) rfl rfl (by kernel_rfl) (by kernel_rfl) (by kernel_rfl) (by kernel_rfl) (fun _ _ _ h => h) (Or.inl ⟨by rfl, ?_⟩) (Or.inr (by assumption)) ?_
   rotate_left
   ·(intro w hSw; go_simp; try (with_reducible rfl))
   try simp only [Act.put]
   try simp only [List.setIfInBounds_toArray]
   try simp only [List.set_cons_zero, List.set_cons_succ]
   refine wpAnyV_take false (i := 3) (d := some 17) (v := ?_) rfl rfl (by kernel_rfl) (by kernel_rfl) (by kernel_rfl) (by kernel_rfl) (fun _ _ _ h => h) (Or.inl ⟨by rfl, ?_⟩) (Or.inr (by assumption)) ?_
   rotate_left
   ·(intro w hSw; go_simp; try (with_reducible rfl))
   try simp only [Act.put]
   try simp only [List.setIfInBounds_toArray]
   try simp only [List.set_cons_zero, List.set_cons_succ]
   have HR1 := Lib.hid (HR0.out.set i (.int .i64 y) (by omega))
   have d1 := HR1.out.free (o + j)
   have d0 : (w0.setCell ⟨g, o + i, none⟩ (.int .i64 y)).cell? ⟨g, o + j, none⟩ = some (.int .i64 y) := by
    have h := HR1.out.cell j (by omega)
    rw [List.getElem?_set_ne (by omega), ← HR0.out.cell j (by omega), c1] at h
    exact h
   have HR2 := Lib.hid (HR1.out.set j (.int .i64 x) (by omega))
   rw [← List.map_set, ← List.map_set, HSI.out] at HR2
   have HF2 : Hid (Below g w ((w0.setCell ⟨g, o + i, none⟩ (.int .i64 y)).setCell ⟨g, o + j, none⟩ (.int .i64 x)) ∧ ∀ k, k ≠ g → ((w0.setCell ⟨g, o + i, none⟩ (.int .i64 y)).setCell ⟨g, o + j, none⟩ (.int .i64 x)).heap[k]? = w.heap[k]?) := Lib.hid ⟨(HF0.out.1.setCell (p := ⟨g, o + i, none⟩) (Nat.le_refl g) _).setCell (p := ⟨g, o + j, none⟩) (Nat.le_refl g) _, fun k hk => by
    rw [Below.heap_setCell _ ⟨g, o + j, none⟩ _ k hk, Below.heap_setCell _ ⟨g, o + i, none⟩ _ k hk]; exact HF0.out.2 k hk⟩
   have HRAN : Hid (∀ l : Array Bool, l.getD 13 false = true → ran [13, 15] l) := Lib.hid (fun l h => ⟨13, by simp, h⟩)
   refine wpAnyV_step (i := 13) (by kernel_rfl) rfl (fun K hK => ?_)
   go_simp
   refine hK.out _ _ (Or.inl (HRAN.out _ (by kernel_rfl))) ?_
   clear hK K
   try simp only [Act.put]
   try simp only [List.setIfInBounds_toArray]
   try simp only [List.set_cons_zero, List.set_cons_succ]
   refine wpAnyV_step (i := 14) (by kernel_rfl) rfl (fun K hK => ?_)
   go_simp
   refine hK.out _ _ (Or.inl (HRAN.out _ (by kernel_rfl))) ?_
   clear hK K
   try simp only [Act.put]
   try simp only [List.setIfInBounds_toArray]
   try simp only [List.set_cons_zero, List.set_cons_succ]
   refine wpAnyV_step (i := 15) (by kernel_rfl) rfl (fun K hK => ?_)
   go_simp
   refine hK.out _ _ (Or.inl (HRAN.out _ (by kernel_rfl))) ?_
   clear hK K
   try simp only [Act.put]
   try simp only [List.setIfInBounds_toArray]
   try simp only [List.set_cons_zero, List.set_cons_succ]
   refine wpAnyV_done (by kernel_rfl) ?_
   go_wp2
   go_roundg (n - (i + 1))
   case measure => omega
   case rel => exact ⟨i + 1, by omega, by omega, by go_num, (by have := HJ.out; simp only [Value.int.injEq, true_and]; omega), (show Row _ _ _ _ _ _ _ from HR2.out), (show Aside _ from HF2.out)⟩
end Go.Proofs.YtfagfooggcinoaaGreat
namespace Go.Proofs.YtfagfooggcinoaaGreat
open Go.RowKit
set_option linter.unusedVariables false
section
variable {w w' : World} {base n k : Nat} {v : Value} {l : List Mk} {vc vh : Nat → Value} {vr : Nat → Nat → Value}
def putB (l : List Mk) (i j : Nat) (b : Bool) : List Mk := l.set i { l[i]! with closed := l[i]!.closed.set j b }
def putH (l : List Mk) (i j : Nat) (x : List Int) : List Mk := l.set i { l[i]! with chan := l[i]!.chan.set j x }
theorem putB_len (l : List Mk) (i j : Nat) (b : Bool) : (putB l i j b).length = l.length := List.length_set ..
theorem putH_len (l : List Mk) (i j : Nat) (x : List Int) : (putH l i j x).length = l.length := List.length_set ..
theorem putB_at {l : List Mk} {i : Nat} (hi : i < l.length) (j : Nat) (b : Bool) : (putB l i j b)[i]! = { l[i]! with closed := l[i]!.closed.set j b } := setG_at hi _
theorem putB_ne {l : List Mk} {i q : Nat} (h : q ≠ i) (j : Nat) (b : Bool) : (putB l i j b)[q]! = l[q]! := setG_ne h _
theorem putH_at {l : List Mk} {i : Nat} (hi : i < l.length) (j : Nat) (x : List Int) : (putH l i j x)[i]! = { l[i]! with chan := l[i]!.chan.set j x } := setG_at hi _
theorem putH_ne {l : List Mk} {i q : Nat} (h : q ≠ i) (j : Nat) (x : List Int) : (putH l i j x)[q]! = l[q]! := setG_ne h _
theorem putH_cnts (l : List Mk) (i j : Nat) (x : List Int) : cntsL (putH l i j x) = cntsL l := listG_ext (by rw [cnts_len, cnts_len, putH_len]) fun q hq => by
 rw [cnts_len, putH_len] at hq
 rw [cnts_at (by rw [putH_len]; exact hq), cnts_at hq]
 by_cases e : q = i
 ·subst e; rw [putH_at hq]
 ·rw [putH_ne e]
theorem check_ways {t : Tr} {l : List Mk} (h : waysB t l = false) : checkB t l = false := by
 unfold checkB; rw [h]; simp
theorem spoil_open {t : Tr} {l : List Mk} {i j : Nat} (hi : i < l.length) (hj : j < l.length) (hc : l[i]!.closed.length = l.length) : checkB t (putB l i j false) = false := by
 refine check_ways (waysB_no (q := i) (f := j) (by rw [putB_len]; exact hi) (by rw [putB_len]; exact hj) ?_)
 unfold wayB
 rw [putB_at hi]
 simp only
 rw [setG_at (by rw [hc]; exact hj)]
 rfl
theorem spoil_chan {t : Tr} {C : List Int} {i j : Nat} {x : List Int} (hC : C.length = t.length) (hi : i < t.length) (hj : j < t.length) (hx : underC t C j (i : Int) ≠ x) : checkB t (putH (cutM t C) i j x) = false := by
 have hil : i < (cutM t C).length := by rw [cutM_len]; exact hi
 refine check_ways (waysB_no (q := i) (f := j) (by rw [putH_len]; exact hil) (by rw [putH_len, cutM_len]; exact hj) ?_)
 unfold wayB
 rw [putH_cnts, cutM_cnts hC, putH_at hil]
 simp only
 rw [cutM_at hi]
 simp only
 rw [setG_at (by simpa using hj), rep_get hj]
 rw [Bool.true_and, beq_eq_false_iff_ne]
 exact hx
theorem putB_light {l : List Mk} (h : LightM l) (i j : Nat) (b : Bool) : LightM (putB l i j b) := by
 refine ⟨by rw [putB_len]; exact h.1, fun q hq => ?_⟩
 rw [putB_len] at hq
 have := h.2 q hq
 by_cases e : q = i
 ·subst e; rw [putB_at hq]; simp only [List.length_set]; exact this
 ·rw [putB_ne e]; exact this
theorem putH_light {l : List Mk} (h : LightM l) (i j : Nat) {x : List Int} (hx : x.length ≤ 1000000) : LightM (putH l i j x) := by
 refine ⟨by rw [putH_len]; exact h.1, fun q hq => ?_⟩
 rw [putH_len] at hq
 have := h.2 q hq
 by_cases e : q = i
 ·subst e
  rw [putH_at hq]
  simp only [List.length_set]
  refine ⟨this.1, this.2.1, fun s hs => ?_⟩
  by_cases e2 : s = j
  ·subst e2; rw [setG_at hs]; exact hx
  ·rw [setG_ne e2]; exact this.2.2 s hs
 ·rw [putH_ne e]; exact this
theorem rev_ne {l : List Int} (h : l.Nodup) (h2 : 2 ≤ l.length) : l ≠ l.reverse := fun e => by
 have h0 : l[0]? = l.reverse[0]? := congrArg (fun x : List Int => x[0]?) e
 rw [List.getElem?_eq_getElem (show 0 < l.length by omega), List.getElem?_eq_getElem (show 0 < l.reverse.length by rw [List.length_reverse]; omega), List.getElem_reverse] at h0
 exact (List.pairwise_iff_getElem.1 h) 0 (l.length - 1 - 0) (by omega) (by omega) (by omega) (Option.some.inj h0)
theorem OwnM.setBb {g o cap i j : Nat} (h : OwnM w base v n k l vc vh vr) (hi : i < k) (hj : j < n) (hv : vc i = .slice (some ⟨g, o, none⟩) n cap) (b : Bool) :
  OwnM (w.setCell ⟨g, o + j, none⟩ (.bool b)) base v n k (putB l i j b) vc vh vr := by
 have hik : i < l.length := Nat.lt_of_lt_of_le hi h.kle
 have hci := h.clo i hi
 rw [hv] at hci
 obtain ⟨cur, fr, hg⟩ := row_hp hci
 have hne : ∀ q : Nat, (putB l i j b)[q]!.cnt = l[q]!.cnt ∧ (putB l i j b)[q]!.chan = l[q]!.chan := fun q => by
  by_cases e : q = i
  ·subst e; rw [putB_at hik]; exact ⟨rfl, rfl⟩
  ·rw [putB_ne e]; exact ⟨rfl, rfl⟩
 refine ⟨?_, by rw [putB_len]; exact h.kle, fun q hq => ?_, fun q hq => ?_, fun q hq => (h.hdr q hq).stO hg (by decide) _, fun q hq s hs => ?_, h.dc, h.dh, h.dr⟩
 ·rw [putB_len, mkCells_ext (putB_len ..) (fun q _ => ⟨(hne q).1, rfl, rfl⟩)]
  exact h.row.stO hg (by decide) _
 ·rw [(hne q).2]
  refine ⟨?_, (h.shp q hq).2⟩
  by_cases e : q = i
  ·subst e; rw [putB_at hik]; simpa using (h.shp q hq).1
  ·rw [putB_ne e]; exact (h.shp q hq).1
 ·by_cases e : q = i
  ·subst e
   rw [putB_at hik, hv, List.map_set]
   exact hci.set j _ (by omega)
  ·rw [putB_ne e]
   refine (h.clo q hq).st (p := ⟨g, o + j, none⟩) ?_ _
   intro e2
   rcases h.dc q i hq hi e with h1 | h1
   ·rw [h1] at e2; cases e2
   ·rw [e2, hv] at h1; exact h1 rfl
 ·rw [(hne q).2]; exact (h.cha q hq s hs).stO hg (by decide) _
theorem OwnM.other {i j : Nat} {x : List Int} (h : OwnM w base v n k l vc vh vr) (hi : i < k) (hj : j < n) (hnew : RowI w' base (vr i j) x) (hs : ∀ b, (vr i j).ownBlock ≠ some b → w'.heap[b]? = w.heap[b]?) :
  OwnM w' base v n k (putH l i j x) vc vh vr := by
 have hik : i < l.length := Nat.lt_of_lt_of_le hi h.kle
 have hij := h.cha i hi j hj
 have hne : ∀ q : Nat, (putH l i j x)[q]!.cnt = l[q]!.cnt ∧ (putH l i j x)[q]!.closed = l[q]!.closed := fun q => by
  by_cases e : q = i
  ·subst e; rw [putH_at hik]; exact ⟨rfl, rfl⟩
  ·rw [putH_ne e]; exact ⟨rfl, rfl⟩
 have key : ∀ {b : Nat} {e : TypeId} {s : Nat} {u : Value} {m : Nat} {xs : List Value}, Row w b e s u m xs → (u.ownBlock = none ∨ u.ownBlock ≠ (vr i j).ownBlock) → Row w' b e s u m xs := fun hr hd => hr.heap fun q hq => hs q (fun e => by
  rcases hd with h1 | h1
  ·rw [h1] at hq; cases hq
  ·rw [hq] at h1; exact h1 e.symm)
 refine ⟨?_, by rw [putH_len]; exact h.kle, fun q hq => ?_, fun q hq => ?_, fun q hq => key (h.hdr q hq) ((h.hdr q hq).apart hij (by decide)), fun q hq s hs2 => ?_, h.dc, h.dh, h.dr⟩
 ·rw [putH_len, mkCells_ext (putH_len ..) (fun q _ => ⟨(hne q).1, rfl, rfl⟩)]
  exact key h.row (h.row.apart hij (by decide))
 ·rw [(hne q).2]
  refine ⟨(h.shp q hq).1, ?_⟩
  by_cases e : q = i
  ·subst e; rw [putH_at hik]; simpa using (h.shp q hq).2
  ·rw [putH_ne e]; exact (h.shp q hq).2
 ·rw [(hne q).2]; exact key (h.clo q hq) ((h.clo q hq).apart hij (by decide))
 ·by_cases e : q = i
  ·subst e
   rw [putH_at hik]
   by_cases e2 : s = j
   ·subst e2
    rw [setG_at (by rw [(h.shp q hq).2]; exact hs2)]; exact hnew
   ·simp only
    rw [setG_ne e2]
    exact key (h.cha q hq s hs2) (h.dr q s q j hq hs2 hi hj (fun hh => e2 hh.2))
  ·rw [putH_ne e]
   exact key (h.cha q hq s hs2) (h.dr q s i j hq hs2 hi hj (fun hh => e hh.1))
end
end Go.Proofs.YtfagfooggcinoaaGreat
