/-
  The statement SnapshotMarks, walked.
-/
import Derived.Test.YtfagfooggcinoaaJa
import Derived.Test.YtfagfooggcinoaaProg
import Derived.BigQuiet
import Derived.Deep.QuietTactic
import Derived.Deep.LoopGhost
import Derived.Shelf.Abstract
import Derived.Test.YtfagfooggcinoaaGk
import Derived.Test.YtfagfooggcinoaaGl
namespace Go.Proofs.Ytfagfooggcinoaa
open Go.RowKit
set_option linter.unusedVariables false

theorem eqT50 (u v : Value) (l : List Int) (w : World) (hu : Ints w u l) (hv : Ints w v l) (hl : l.length ≤ 1000000) : Calls Try.prog 19 #[u, v] w fun e w' => e = .returned (.bool true) ∧ Ext w w' := by
  have := equal_int u v l l w hu hv hl hl
  rw [show (l == l) = true from by simp] at this
  exact this
set_option maxHeartbeats 8000000 in
set_option maxRecDepth 100000 in
theorem snapshotMarks_calls (n p c : Int) (lv : Value) (l : List Mk) (w : World) (h : Sl RMk 3 w lv l) :
    Calls Try.prog 4 #[.int .i64 n, .int .i64 p, .int .i64 c, lv] w fun e w' => e = .returned (.bool true) ∧ Ext w w' := by
  have HS := Lib.hid h
  have HLC := Lib.hid (fun W (hW : Ext w W) => light_calls lv l W (Sl.ext rmk_lasts h hW))
  obtain ⟨va, vcap, rfl, hvc⟩ := h.sh
  obtain ⟨k, hk⟩ : ∃ k, l.length = k := ⟨_, rfl⟩
  have HK := Lib.hid hk
  rw [hk] at HS HLC ⊢
  obtain ⟨lb, hlb⟩ : ∃ b, lightB l = b := ⟨_, rfl⟩
  rw [hlb] at HLC
  have HLB := Lib.hid hlb
  clear h hk hvc hlb
  go_enter Try.func4, Try.ntmps4
  go_wp2_with fail
  refine (awake50_calls _).mono ?_
  rintro e w2 ⟨rfl, hX2⟩
  have HE2 := Lib.hid hX2
  clear hX2
  go_wp2_with fail
  refine (HLC.out _ HE2.out).mono ?_
  rintro e w3 ⟨rfl, hX3⟩
  have HE3 := Lib.hid (HE2.out.trans' hX3)
  clear hX3
  cases lb with
  | false =>
    go_wp2_with fail
    refine (awake50_calls _).mono ?_
    rintro e w4 ⟨rfl, hX4⟩
    go_wp2
    go_ret
    exact ⟨rfl, HE3.out.trans' hX4⟩
  | true =>
  have HLI := Lib.hid (lightB_ok HLB.out).1
  have HBC := Lib.hid (fun W => beginP_calls n p c W)
  have HCU := Lib.hid (fun W (hW : Ext w W) => snapCut_calls (.slice va k vcap) l W (Sl.ext rmk_lasts HS.out hW) HLI.out)
  obtain ⟨be, hbe⟩ : ∃ x, begE n p c = x := ⟨_, rfl⟩
  obtain ⟨bm, hbm⟩ : ∃ x, begM n p c = x := ⟨_, rfl⟩
  obtain ⟨ce, hce⟩ : ∃ x, cutE l = x := ⟨_, rfl⟩
  obtain ⟨cl, hcl⟩ : ∃ x, (if cutE l = 0 then cntsL l else []) = x := ⟨_, rfl⟩
  rw [hcl] at HCU
  rw [hce] at HCU
  rw [hbe, hbm] at HBC
  have HBE := Lib.hid hbe
  have HBM := Lib.hid hbm
  have HCE := Lib.hid hce
  have HCL := Lib.hid hcl
  clear hbe hbm hce hcl
  go_wp2_with fail
  refine (HBC.out _).mono ?_
  rintro e w4 ⟨v4, rfl, hX4, hS4⟩
  obtain ⟨ba, bc, rfl, hz4⟩ := hS4.sh
  have HE4 := Lib.hid (HE3.out.trans' hX4)
  have HS4 := Lib.hid hS4
  generalize hbl : bm.length = bl at *
  have HBL := Lib.hid hbl
  clear hX4 hS4 hz4 hbl
  go_wp2_with fail
  refine (HCU.out _ HE4.out).mono ?_
  rintro e w5 ⟨v5, rfl, hR5, hX5⟩
  obtain ⟨ca, cc, rfl, hz5⟩ := hR5.any
  have HE5 := Lib.hid (HE4.out.trans' hX5)
  have HS5 := Lib.hid (Sl.ext rmk_lasts HS4.out hX5)
  have HI5 := Lib.hid hR5.ints
  generalize hcll : cl.length = cll at *
  have HCLL := Lib.hid hcll
  clear hR5 hX5 hz5 HCU hcll
  obtain ⟨ok, hok0⟩ : ∃ x, okB n p c = x := ⟨_, rfl⟩
  have HOK := Lib.hid hok0
  go_upto_region 5 with (fail)
  go_cut [55] (fun s55 wx => s55 = .bool (!ok) ∧ wx = w5)
  case first =>
    cases ok with
    | false =>
      have hok := hok0
      clear hok0
      by_cases e1 : n < 1
      · have d1 : decide (n < 1) = true := decide_eq_true e1
        clear hok
        go_wp2; go_meet; exact ⟨rfl, rfl⟩
      · have d1 : decide (n < 1) = false := decide_eq_false e1
        by_cases e2 : 8 < n
        · have d2 : decide (8 < n) = true := decide_eq_true e2
          clear hok
          go_wp2; go_meet; exact ⟨rfl, rfl⟩
        · have d2 : decide (8 < n) = false := decide_eq_false e2
          by_cases e3 : p < 0
          · have d3 : decide (p < 0) = true := decide_eq_true e3
            clear hok
            go_wp2; go_meet; exact ⟨rfl, rfl⟩
          · have d3 : decide (p < 0) = false := decide_eq_false e3
            by_cases e4 : n ≤ p
            · have d4 : decide (n ≤ p) = true := decide_eq_true e4
              clear hok
              go_wp2; go_meet; exact ⟨rfl, rfl⟩
            · have d4 : decide (n ≤ p) = false := decide_eq_false e4
              by_cases e5 : c < 0
              · have d5 : decide (c < 0) = true := decide_eq_true e5
                clear hok
                go_wp2; go_meet; exact ⟨rfl, rfl⟩
              · have d5 : decide (c < 0) = false := decide_eq_false e5
                by_cases e6 : 64 < c
                · have d6 : decide (64 < c) = true := decide_eq_true e6
                  clear hok
                  go_wp2; go_meet; exact ⟨rfl, rfl⟩
                · rw [okB_iff.2 ⟨by omega, by omega, by omega, by omega, by omega, by omega⟩] at hok
                  cases hok
    | true =>
      have hok := hok0
      clear hok0
      obtain ⟨h1, h2, h3, h4, h5, h6⟩ := okB_iff.1 hok
      have d1 : decide (n < 1) = false := decide_eq_false (by omega)
      have d2 : decide (8 < n) = false := decide_eq_false (by omega)
      have d3 : decide (p < 0) = false := decide_eq_false (by omega)
      have d4 : decide (n ≤ p) = false := decide_eq_false (by omega)
      have d5 : decide (c < 0) = false := decide_eq_false (by omega)
      have d6 : decide (64 < c) = false := decide_eq_false (by omega)
      clear hok
      go_wp2; go_meet; exact ⟨rfl, rfl⟩
  case rest =>
    obtain ⟨rfl, rfl⟩ := hcut
    obtain ⟨wo, rfl⟩ : ∃ z, z = wc := ⟨_, rfl⟩
    have HSM := Lib.hid (sameMarks_calls (.slice ba bl bc))
    go_upto_if 55 with (fail)
    go_cut [] (fun wx => Aside (Ext wo wx))
    case first =>
      cases ok with
      | false =>
        have hb0 : be = 2 := by rw [← HBE.out]; unfold begE; rw [HOK.out]; rfl
        have hl0 : bl = 0 := by rw [← HBL.out, ← HBM.out]; unfold begM; rw [HOK.out]; rfl
        subst hb0
        subst hl0
        go_wp2
        go_meet
        exact (show Ext _ _ from Ext.rf _)
      | true =>
        obtain ⟨h1, h2, h3, h4, h5, h6⟩ := okB_iff.1 HOK.out
        have hb0 : be = 0 := by rw [← HBE.out]; unfold begE; rw [HOK.out]; rfl
        subst hb0
        have HBM2 : Hid (bm = recL (begL n.toNat) p.toNat c) := Lib.hid (by rw [← HBM.out]; unfold begM; rw [if_pos HOK.out])
        have HLM : Hid (LightM bm) := Lib.hid (by rw [← HBM.out]; exact begM_light)
        have HVB : Hid (validK bm = true) := Lib.hid (by rw [HBM2.out]; exact beg_valid (by omega) (by omega) (by omega) h5 h6)
        have HBR := Lib.hid (beginR_calls n.toNat p.toNat c wo (by omega) (by omega))
        rw [show ((n.toNat : Nat) : Int) = n by omega, show ((p.toNat : Nat) : Int) = p by omega, ← HBM2.out] at HBR
        have HVC := Lib.hid (fun W (hW : Ext wo W) => snapValid_calls (.slice ba bl bc) bm W (by have h := Sl.ext rmk_lasts HS5.out hW; exact h) HLM.out)
        rw [HVB.out] at HVC
        clear h1 h2 h3 h4 h5 h6
        go_wp2_with fail
        refine HBR.out.mono ?_
        rintro e w6 ⟨v6, vc, vh, vr, rfl, hO, hX6⟩
        obtain ⟨ra, rc, rfl⟩ := hO.any
        have HX6 := Lib.hid hX6
        have HS6 := Lib.hid (Sl.ext rmk_lasts HS5.out hX6)
        have HR6 := Lib.hid hO.sl
        rw [HBL.out] at HR6
        rw [HBL.out]
        have HSC := Lib.hid (HSM.out (.slice ra bl rc) bm bm w6 HS6.out HR6.out HLM.out HLM.out)
        rw [show decide (bm = bm) = true from decide_eq_true rfl] at HSC
        clear hO hX6
        go_wp2_with fail
        refine HSC.out.mono ?_
        rintro e w7 ⟨rfl, hD⟩
        have HX7 := Lib.hid (HX6.out.trans' hD.ext)
        clear hD
        go_wp2_with fail
        refine (HVC.out _ HX7.out).mono ?_
        rintro e w8 ⟨rfl, hX8⟩
        have HX8 := Lib.hid (HX7.out.trans' hX8)
        clear hX8
        go_wp2
        go_meet
        exact (show Ext _ _ from HX8.out)
    case rest =>
      have HXC := Lib.hid (HE5.out.trans' hcut.out)
      have HIC := Lib.hid (HI5.out.ext hcut.out)
      have HVR := Lib.hid (fun W (hW : Ext w W) => validMR_calls (.slice va k vcap) l W (Sl.ext rmk_lasts HS.out hW) HLI.out)
      have HVP := Lib.hid (fun W (hW : Ext w W) => snapValid_calls (.slice va k vcap) l W (Sl.ext rmk_lasts HS.out hW) HLI.out)
      have HRR := Lib.hid (fun W (hW : Ext w W) => recordedR_calls (.slice va k vcap) l W (Sl.ext rmk_lasts HS.out hW) HLI.out)
      have HCR := Lib.hid (fun W (hW : Ext w W) => cutR50_calls (.slice va k vcap) l W (Sl.ext rmk_lasts HS.out hW) HLI.out)
      obtain ⟨vb, hvb⟩ : ∃ x, validK l = x := ⟨_, rfl⟩
      obtain ⟨rb, hrb⟩ : ∃ x, recordedB l = x := ⟨_, rfl⟩
      rw [hvb] at HVR HVP
      rw [hrb] at HRR
      have HVB := Lib.hid hvb
      have HRB := Lib.hid hrb
      clear hvb hrb
      go_wp2_with fail
      refine (HVR.out _ HXC.out).mono ?_
      rintro e w6 ⟨rfl, hX6⟩
      have HX6 := Lib.hid (HXC.out.trans' hX6)
      have HI6 := Lib.hid (HIC.out.ext hX6)
      clear hX6
      cases vb with
      | false =>
        have hce : ce = 1 := by rw [← HCE.out]; unfold cutE; rw [if_pos HVB.out]
        have hcl : cll = 0 := by rw [← HCLL.out, ← HCL.out, HCE.out, hce]; rfl
        subst hce
        subst hcl
        go_wp2_with fail
        refine (HVP.out _ HX6.out).mono ?_
        rintro e w7 ⟨rfl, hX7⟩
        go_wp2
        go_ret
        exact ⟨rfl, HX6.out.trans' hX7⟩
      | true =>
        go_wp2_with fail
        refine (HRR.out _ HX6.out).mono ?_
        rintro e w7 ⟨rfl, hD⟩
        have HX7 := Lib.hid (HX6.out.trans' hD.ext)
        have HI7 := Lib.hid (HI6.out.ext hD.ext)
        clear hD
        cases rb with
        | false =>
          have hce : ce = 6 := by rw [← HCE.out]; unfold cutE; rw [if_neg (by rw [HVB.out]; simp), if_pos HRB.out]
          have hcl : cll = 0 := by rw [← HCLL.out, ← HCL.out, HCE.out, hce]; rfl
          subst hce
          subst hcl
          go_wp2_with fail
          refine (HVP.out _ HX7.out).mono ?_
          rintro e w8 ⟨rfl, hX8⟩
          go_wp2
          go_ret
          exact ⟨rfl, HX7.out.trans' hX8⟩
        | true =>
          have hce : ce = 0 := by rw [← HCE.out]; unfold cutE; rw [if_neg (by rw [HVB.out]; simp), if_neg (by rw [HRB.out]; simp)]
          have hcl : cl = cntsL l := by rw [← HCL.out, HCE.out, hce]; rfl
          subst hce
          have HCN : Hid ((cntsL l).length = cll) := Lib.hid (by rw [← hcl]; exact HCLL.out)
          rw [hcl] at HI7
          clear hcl
          go_wp2_with fail
          refine (HVP.out _ HX7.out).mono ?_
          rintro e w8 ⟨rfl, hX8⟩
          have HX8 := Lib.hid (HX7.out.trans' hX8)
          have HI8 := Lib.hid (HI7.out.ext hX8)
          clear hX8
          go_wp2_with fail
          refine (HCR.out _ HX8.out).mono ?_
          rintro e w9 ⟨v9, rfl, hR9, hX9⟩
          obtain ⟨a9, c9, rfl, hz9⟩ := hR9.any
          have HX9 := Lib.hid (HX8.out.trans' hX9)
          have HI9 := Lib.hid (HI8.out.ext hX9)
          have HJ9 := Lib.hid hR9.ints
          rw [HCN.out] at HJ9
          rw [HCN.out]
          clear hR9 hX9 hz9
          go_wp2_with fail
          refine (eqT50 _ _ (cntsL l) w9 HI9.out HJ9.out (by rw [cnts_len]; exact HLI.out.1)).mono ?_
          rintro e w10 ⟨rfl, hX10⟩
          go_wp2
          go_ret
          exact ⟨rfl, HX9.out.trans' hX10⟩

end Go.Proofs.Ytfagfooggcinoaa
