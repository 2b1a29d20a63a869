/-
  The statement SnapshotRed, walked.
-/
import Derived.Test.YtfagfooggcinoaaGreatJa
import Derived.Test.YtfagfooggcinoaaGreatProg
import Derived.BigQuiet
import Derived.Deep.QuietTactic
import Derived.Deep.LoopGhost
import Derived.Shelf.Abstract
import Derived.Test.YtfagfooggcinoaaGreatGk
import Derived.Test.YtfagfooggcinoaaGreatGm
import Derived.Test.YtfagfooggcinoaaGreatGl
import Derived.Test.YtfagfooggcinoaaGreatGg
namespace Go.Proofs.YtfagfooggcinoaaGreat
open Go.RowKit
set_option linter.unusedVariables false

def tuK (t : Tr) (red : List Int) (k : Nat) : List Int := (List.range red.length).map fun p => if p < k ∧ 0 ≤ red[p]! then red[p]! else (t[p]!.events.length : Int)
theorem tuK_len (t : Tr) (red : List Int) (k : Nat) : (tuK t red k).length = red.length := by simp [tuK]
theorem tuK_zero {t : Tr} {red : List Int} (hl : red.length = t.length) : tuK t red 0 = lensC t := by
  unfold tuK lensC lensTo
  rw [hl]
  exact List.map_congr_left fun p _ => if_neg (fun h => absurd h.1 (Nat.not_lt_zero _))
theorem tuK_yes {t : Tr} {red : List Int} {k : Nat} (h : 0 ≤ red[k]!) : (tuK t red k).set k red[k]! = tuK t red (k + 1) :=
  mapR_set (fun _ => by rw [if_pos ⟨by omega, h⟩]) fun i _ hi => by
    have : (i < k + 1) = (i < k) := by rw [eq_iff_iff]; omega
    simp only [this]
theorem tuK_no {t : Tr} {red : List Int} {k : Nat} (h : ¬ 0 ≤ red[k]!) : tuK t red (k + 1) = tuK t red k :=
  List.map_congr_left fun i _ => by
    by_cases e : i = k
    · subst e; rw [if_neg (fun hh => h hh.2), if_neg (fun hh => h hh.2)]
    · have : (i < k + 1) = (i < k) := by rw [eq_iff_iff]; omega
      simp only [this]
theorem tuK_all {t : Tr} {red : List Int} (h : turnsB t red = true) : tuK t red red.length = redC t red :=
  List.map_congr_left fun p hp => by
    have hp := List.mem_range.1 hp
    have := turns_at h hp
    by_cases e : red[p]! = -1
    · rw [if_neg (by omega), if_pos e]
    · rw [if_pos ⟨hp, by omega⟩, if_neg e]
theorem cutE_zero {l : List Mk} (h1 : validK l = true) (h2 : recordedB l = true) : cutE l = 0 := by
  unfold cutE; rw [if_neg (by rw [h1]; simp), if_neg (by rw [h2]; simp)]
theorem cutM_light {t : Tr} {c : List Int} (hv : validT t = true) (hc : RangeC t c) : LightM (cutM t c) := by
  have h8 := (valid_8 hv).2
  refine ⟨by rw [cutM_len]; omega, fun i hi => ?_⟩
  rw [cutM_len] at hi
  rw [cutM_at hi]
  refine ⟨by simp only [List.length_replicate]; omega, by simp only [List.length_map, List.length_range]; omega, fun j hj => ?_⟩
  simp only [List.length_map, List.length_range] at hj
  simp only
  rw [mapR_at _ hj]
  have h1 := uwTo_len t c (i : Int) j c[j]!.toNat
  have h2 := hc.at hj
  have h3 := valid_64 hv hj
  unfold underC
  omega

theorem eqT50 (u v : Value) (l : List Int) (w : World) (hu : Ints w u l) (hv : Ints w v l) (hl : l.length ≤ 1000000) : Calls Tryz.prog 22 #[u, v] w fun e w' => e = .returned (.bool true) ∧ Ext w w' := by
  have := equal_int u v l l w hu hv hl hl
  rw [show (l == l) = true from by simp] at this
  exact this
set_option maxHeartbeats 8000000 in
set_option maxRecDepth 100000 in
theorem snapshotRed_calls (v vr : Value) (t : Tr) (red : List Int) (w : World) (h : TrAt w v t) (htop : TopTr t) (hr : Ints w vr red) :
    Calls Tryz.prog 6 #[.agg #[v], vr] w fun e w' => e = .returned (.bool true) ∧ Ext w w' := by
  have HR := Lib.hid hr
  obtain ⟨ra, rc, rfl, hacr, _⟩ := hr
  obtain ⟨n, hnr⟩ : ∃ n, red.length = n := ⟨_, rfl⟩
  rw [hnr]
  rw [hnr] at HR
  have HNR := Lib.hid hnr
  clear hacr hnr
  have HT := Lib.hid h
  have HFC := Lib.hid (fun W (hW : Ext w W) => few50_calls v t W (h.ext hW) htop)
  obtain ⟨ta, tc, rfl, htc⟩ := h.sh
  obtain ⟨tn, htn⟩ : ∃ n, t.length = n := ⟨_, rfl⟩
  rw [htn] at HFC HT ⊢
  have HTN := Lib.hid htn
  have HX0 := Lib.hid (heap_alloc_new w (.cells #[.slice ta tn tc] 24))
  have HE1 := Lib.hid ((Ext.rf w).al (.cells #[.slice ta tn tc] 24))
  obtain ⟨fw, hfw⟩ : ∃ b, few50 t = b := ⟨_, rfl⟩
  rw [hfw] at HFC
  have HFW := Lib.hid hfw
  clear h htop hfw htc htn
  go_enter Tryz.func6, Tryz.ntmps6
  go_wp2_with fail
  refine (awake50_calls _).mono ?_
  rintro e w2 ⟨rfl, hX2⟩
  have HE2 := Lib.hid (HE1.out.trans' hX2)
  have HY2 := Lib.hid (hX2.hp HX0.out)
  have t2 := cellOf HY2.out 0
  simp only [List.getElem?_toArray, List.getElem?_cons_zero] at t2
  clear hX2
  go_wp2_with fail
  refine (HFC.out _ HE2.out).mono ?_
  rintro e w3 ⟨rfl, hX3⟩
  have HE3 := Lib.hid (HE2.out.trans' hX3)
  have HY3 := Lib.hid (hX3.hp HY2.out)
  have t3 := cellOf HY3.out 0
  simp only [List.getElem?_toArray, List.getElem?_cons_zero] at t3
  clear hX3 t2
  cases fw with
  | false =>
    go_wp2_with fail
    refine (awake50_calls _).mono ?_
    rintro e w4 ⟨rfl, hX4⟩
    go_wp2
    go_ret
    exact ⟨rfl, HE3.out.trans' hX4⟩
  | true =>
  have HLO := Lib.hid (few50_loose HFW.out).1
  have HVR := Lib.hid (fun W (hW : Ext w W) => validR_calls _ t W (HT.out.ext hW) HLO.out)
  obtain ⟨vb, hvb⟩ : ∃ b, validT t = b := ⟨_, rfl⟩
  rw [hvb] at HVR
  have HVT := Lib.hid hvb
  clear hvb
  go_wp2_with fail
  refine (HVR.out _ HE3.out).mono ?_
  rintro e w4 ⟨rfl, hX4⟩
  have HE4 := Lib.hid (HE3.out.trans' hX4)
  have HY4 := Lib.hid (hX4.hp HY3.out)
  have t4 := cellOf HY4.out 0
  simp only [List.getElem?_toArray, List.getElem?_cons_zero] at t4
  have HXX4 := Lib.hid hX4
  clear hX4 t3
  cases vb with
  | false =>
    go_wp2_with fail
    refine (awake50_calls _).mono ?_
    rintro e w99 ⟨rfl, hX99⟩
    go_wp2
    go_ret
    exact ⟨rfl, HE4.out.trans' hX99⟩
  | true =>
  have h8 : tn ≤ 8 := by have := (valid_8 HVT.out).2; rw [HTN.out] at this; exact this
  have h81 : 1 ≤ tn := by have := (valid_8 HVT.out).1; rw [HTN.out] at this; exact this
  by_cases hne : n = tn
  case neg =>
    have hq : ((n : Int) != (tn : Int)) = true := by rw [bne_iff_ne]; omega
    clear hne
    go_wp2_with fail
    refine (awake50_calls _).mono ?_
    rintro e w99 ⟨rfl, hX99⟩
    go_wp2
    go_ret
    exact ⟨rfl, HE4.out.trans' hX99⟩
  case pos =>
  subst hne
  have hq : ((n : Int) != (n : Int)) = false := by simp
  have HLT : Hid (red.length = t.length) := Lib.hid (by rw [HNR.out, HTN.out])
  have HTU := Lib.hid (fun W (hW : Ext w W) => turnsR_calls _ _ t red W (HT.out.ext hW) (HR.out.ext hW) HLT.out (by rw [HTN.out]; omega))
  obtain ⟨tb, htb⟩ : ∃ b, turnsB t red = b := ⟨_, rfl⟩
  rw [htb] at HTU
  have HTB := Lib.hid htb
  clear htb
  go_wp2_with fail
  refine (HTU.out _ HE4.out).mono ?_
  rintro e w5 ⟨rfl, hX5⟩
  have HE5 := Lib.hid (HE4.out.trans' hX5)
  have HY5 := Lib.hid (hX5.hp HY4.out)
  have t5 := cellOf HY5.out 0
  simp only [List.getElem?_toArray, List.getElem?_cons_zero] at t5
  have HXX5 := Lib.hid hX5
  clear hX5 t4
  cases tb with
  | false =>
    go_wp2_with fail
    refine (awake50_calls _).mono ?_
    rintro e w99 ⟨rfl, hX99⟩
    go_wp2
    go_ret
    exact ⟨rfl, HE5.out.trans' hX99⟩
  | true =>
  have HRG := Lib.hid (turns_range HLT.out HTB.out)
  have HCN := Lib.hid (open_cons HRG.out)
  have HLZ := Lib.hid (lay_zero HVT.out HLT.out HTB.out)
  have HLY := Lib.hid (lai_calls _ _ t red w5 (HT.out.ext HE5.out) HLO.out (HR.out.ext HE5.out) (by rw [HNR.out]; omega))
  rw [HLZ.out.1, HLZ.out.2] at HLY
  have HOC := Lib.hid (fun W u (hW : Ext w W) (hu : Ints W u (redC t red)) => openP_calls _ u t (redC t red) W (HT.out.ext hW) HLO.out hu (by rw [redC_len, HNR.out]; omega))
  have HRE0 : Hid (repE t (redC t red) = 0) := Lib.hid (by
    have h := HLZ.out.1
    unfold layE at h
    rw [if_neg (by rw [HVT.out]; simp), if_neg (fun hh => hh HLT.out)] at h
    exact h)
  rw [HRE0.out, if_pos rfl] at HOC
  have HTK := Lib.hid (tuK_all HTB.out)
  rw [HNR.out] at HTK
  obtain ⟨C, hC⟩ : ∃ c, openC t (redC t red) = c := ⟨_, rfl⟩
  rw [hC] at HCN HLY HOC
  clear hC
  go_wp2_with fail
  refine HLY.out.mono ?_
  rintro e w6 ⟨v6, rfl, hX6, hS6⟩
  obtain ⟨ma, mc, rfl, hz6⟩ := hS6.sh
  have HS6 := Lib.hid hS6
  have HML : Hid ((cutM t C).length = n) := Lib.hid (by rw [cutM_len, HTN.out])
  rw [HML.out]
  rw [HML.out] at HS6
  clear hS6 hz6
  have HE6 := Lib.hid (HE5.out.trans' hX6)
  have HY6 := Lib.hid (hX6.hp HY5.out)
  have t6 := cellOf HY6.out 0
  simp only [List.getElem?_toArray, List.getElem?_cons_zero] at t6
  have HXX6 := Lib.hid hX6
  clear hX6 t5
  have HLI := Lib.hid (cutM_light HVT.out HCN.out.1)
  have HCK := Lib.hid (snapCheck_calls _ _ t (cutM t C) w6 (HT.out.ext HE6.out) HLO.out HS6.out HLI.out)
  rw [cutM_check HVT.out HCN.out] at HCK
  go_wp2_with fail
  refine (HCK.out).mono ?_
  rintro e w7 ⟨rfl, hX7⟩
  have HE7 := Lib.hid (HE6.out.trans' hX7)
  have HY7 := Lib.hid (hX7.hp HY6.out)
  have t7 := cellOf HY7.out 0
  simp only [List.getElem?_toArray, List.getElem?_cons_zero] at t7
  have HXX7 := Lib.hid hX7
  clear hX7 t6
  go_wp2_with fail
  refine (lengthsR_calls _ t w7 (HT.out.ext HE7.out) (valid_small HVT.out)).mono ?_
  rintro e w8 ⟨v8, rfl, hR8, hX8⟩
  rw [show (lensC t).length = n from by unfold lensC; rw [lensTo_len, HTN.out]] at hR8
  obtain ⟨G, O, cap, rfl, hG, hGw, hcap⟩ := hR8.shape (by omega)
  have HR8 : Hid (Row w8 w7.heap.size 3 1 (.slice (some ⟨G, O, none⟩) n cap) n ((tuK t red 0).map (Value.int .i64))) := Lib.hid (by rw [tuK_zero HLT.out]; exact hR8)
  have HGG := Lib.hid hG
  have HX78 := Lib.hid hX8
  clear hR8 hG hGw
  have HT7 := Lib.hid t7
  clear t7
  go_wp2
  go_loopg [8, 9, 59] n (fun g s8 s9 s59 wr => ∃ k : Nat, k ≤ n ∧ n - k ≤ g ∧ s59 = .int .i64 k ∧ Aside (Row wr w7.heap.size 3 1 (.slice (some ⟨G, O, none⟩) n cap) n ((tuK t red k).map (Value.int .i64))) ∧ Aside (Ext w7 wr))
  case atStart => exact ⟨0, Nat.zero_le _, by omega, rfl, (show Row _ _ _ _ _ _ _ from HR8.out), (show Ext _ _ from HX78.out)⟩
  case round =>
    obtain ⟨k, hk, hgk, rfl, HRK, HEK⟩ := hrel
    clear HR8 HX78
    by_cases hlt : k < n
    case pos =>
      have hkz : (k : Int) < (n : Int) := by omega
      have hkz0 : (0 : Int) ≤ (k : Int) := by omega
      obtain ⟨rb, ro, rfl, _, hrc⟩ := ints_at HR.out k (by rw [HNR.out]; exact hlt)
      have r0 := (HE7.out.trans' HEK.out).cl hrc
      have HKY := Lib.hid (fun h => tuK_yes (t := t) (red := red) (k := k) h)
      have HKN := Lib.hid (fun h => tuK_no (t := t) (red := red) (k := k) h)
      obtain ⟨x, hx⟩ : ∃ x, red[k]! = x := ⟨_, rfl⟩
      rw [hx] at r0 HKY HKN
      clear hrc hx
      by_cases hx0 : 0 ≤ x
      case neg =>
        have d1 : decide (0 ≤ x) = false := decide_eq_false hx0
        have HN := Lib.hid (HKN.out hx0)
        clear hx0
        go_wp2
        go_roundg (n - (k + 1))
        case measure => omega
        case rel => exact ⟨k + 1, by omega, by omega, by go_num, (show Row _ _ _ _ _ _ _ from by rw [HN.out]; exact HRK.out), (show Ext _ _ from HEK.out)⟩
      case pos =>
        have d1 : decide (0 ≤ x) = true := decide_eq_true hx0
        have HN := Lib.hid (HKY.out hx0)
        have hfr := HRK.out.free (O + k)
        obtain ⟨old, hold⟩ : ∃ u, ((tuK t red k).map (Value.int .i64))[k]? = some u := ⟨_, List.getElem?_eq_getElem (by rw [List.length_map, tuK_len, HNR.out]; exact hlt)⟩
        have g0 := HRK.out.cell k (by omega)
        rw [hold] at g0
        have HS := Lib.hid (HRK.out.set k (.int .i64 x) (by omega))
        rw [← List.map_set, HN.out] at HS
        clear hx0 hold
        go_wp2
        go_roundg (n - (k + 1))
        case measure => omega
        case rel => exact ⟨k + 1, by omega, by omega, by go_num, (show Row _ _ _ _ _ _ _ from HS.out), (show Ext _ _ from HEK.out.st HGG.out _)⟩
    case neg =>
      have hkz : ¬ (k : Int) < (n : Int) := by omega
      obtain rfl : n = k := by omega
      have HEW := Lib.hid (HE7.out.trans' HEK.out)
      have HS9 := Lib.hid (Sl.ext rmk_lasts HS6.out (HXX7.out.trans' HEK.out))
      have HCU := Lib.hid (snapCut_calls _ (cutM t C) wr HS9.out HLI.out)
      rw [cutE_zero (cutM_valid HVT.out HCN.out.1) (cutM_rec HCN.out.1), if_pos rfl, cutM_cnts HCN.out.1.1] at HCU
      have HCL : Hid (C.length = n) := Lib.hid (HCN.out.1.1.trans HTN.out)
      have HRC : Hid (Row wr w7.heap.size 3 1 (.slice (some ⟨G, O, none⟩) n cap) n ((redC t red).map (Value.int .i64))) := Lib.hid (by have h := HRK.out; rwa [HTK.out] at h)
      have tW := HEK.out.cl HT7.out
      go_wp2_with fail
      refine HCU.out.mono ?_
      rintro e w9 ⟨v9, rfl, hR9, hX9⟩
      rw [HCL.out] at hR9
      obtain ⟨a9, c9, rfl, hz9⟩ := hR9.any
      have HR9 := Lib.hid hR9
      have HX9 := Lib.hid hX9
      have t9 := hX9.cl tW
      clear hR9 hz9 hX9 tW
      have HRI : Hid (Ints w9 (.slice (some ⟨G, O, none⟩) n cap) (redC t red)) := Lib.hid (by
        have h := (HRC.out.ext HX9.out)
        have h2 : Row w9 w7.heap.size 3 1 (.slice (some ⟨G, O, none⟩) n cap) (redC t red).length ((redC t red).map (Value.int .i64)) := by rw [redC_len, HNR.out]; exact h
        have h3 := h2.ints
        exact h3)
      go_wp2_with fail
      refine (HOC.out w9 _ (HEW.out.trans' HX9.out) HRI.out).mono ?_
      rintro e w10 ⟨v10, rfl, hR10, hX10⟩
      rw [HCL.out] at hR10
      obtain ⟨a10, c10, rfl, hz10⟩ := hR10.any
      have HIA : Hid (Ints w10 (.slice a9 n c9) C) := Lib.hid (by
        have h := HR9.out.ext hX10
        rw [← HCL.out] at h ⊢
        exact h.ints)
      have HIB : Hid (Ints w10 (.slice a10 n c10) C) := Lib.hid (by
        have h := hR10
        rw [← HCL.out] at h ⊢
        exact h.ints)
      have HX10 := Lib.hid ((HEW.out.trans' HX9.out).trans' hX10)
      clear hR10 hz10 hX10 t9
      go_wp2_with fail
      refine (eqT50 _ _ C w10 HIA.out HIB.out (by rw [HCL.out]; omega)).mono ?_
      rintro e w11 ⟨rfl, hX11⟩
      go_wp2
      go_ret
      exact ⟨rfl, HX10.out.trans' hX11⟩

end Go.Proofs.YtfagfooggcinoaaGreat
