import Derived.Test.YtfcpnggdpaeldaaGreatJa
import Derived.Test.YtfcpnggdpaeldaaGreatProg
import Derived.Test.YtfcpnggdpaeldaaGreatGu
import Derived.Test.YtfcpnggdpaeldaaGreatGt
import Derived.Test.YtfcpnggdpaeldaaGreatGf
import Derived.BigQuiet
import Derived.Deep.QuietTactic
import Derived.Deep.LoopGhost
import Derived.Shelf.Abstract
import Derived.Deep.DeepCutAuto
/-
  Which variable has a name: the reference's Index.
-/
namespace Go.Proofs.YtfcpnggdpaeldaaGreat
open Go.RowKit
set_option linter.unusedVariables false

set_option maxHeartbeats 4000000 in
set_option maxRecDepth 100000 in
theorem indexR_calls (v : Value) (t : Tr) (p : Nat) (s : ByteArray) (w : World) (h : TrAt w v t) (hs : LooseTr t) (hp : p < t.length) (hnv : t[p]!.vars.length ≤ 1000000) :
    Calls Tryz.prog 44 #[.agg #[v], .int .i64 p, .string s] w fun e w' => e = .returned (.int .i64 (idxV t[p]! s)) ∧ Ext w w' := by
  obtain ⟨B, O, C, vv, ve, rfl, hlC, hB, hn0, hv0, he0, hV, hE0⟩ := proc_at h p hp
  have HVV := Lib.hid hV
  have HIX : Hid (idxV t[p]! s = firstAt (isV s) t[p]!.vars) := Lib.hid rfl
  obtain ⟨va, vc, rfl, hvc⟩ := hV.sh
  have hn1 := hs.1
  generalize idxV t[p]! s = ix at *
  generalize t[p]!.vars = l at *
  generalize hln : t.length = n at *
  have HX0 := Lib.hid (heap_alloc_new w (.cells #[.slice (some ⟨B, O, none⟩) n C] 24))
  have HE1 := Lib.hid ((Ext.rf w).al (.cells #[.slice (some ⟨B, O, none⟩) n C] 24))
  have v1 := HE1.out.cl hv0
  have hpz : (0 : Int) ≤ (p : Int) := by omega
  have hpn : (p : Int) < (n : Int) := by omega
  generalize hnl : l.length = nv at *
  have HNL := Lib.hid hnl
  have t0 := cellOf HX0.out 0
  simp only [List.getElem?_toArray, List.getElem?_cons_zero] at t0
  clear h hs hn0 hv0 he0 hV hE0 hln hnl
  go_enter Tryz.func44, Tryz.ntmps44
  go_wp2
  generalize hw2 : w.alloc (.cells #[.slice (some ⟨B, O, none⟩) n C] 24) = w2 at *
  clear hw2 v1 t0
  go_loopg [8] nv (fun g s8 wr => ∃ k : Nat, k ≤ nv ∧ nv - k ≤ g ∧ s8 = .int .i64 k ∧ Aside (∀ j, j < k → isV s l[j]! = false) ∧ wr = w2)
  case atStart => exact ⟨0, Nat.zero_le _, by omega, rfl, (fun j hj => absurd hj (Nat.not_lt_zero _)), rfl⟩
  case round =>
    obtain ⟨k, hk, hg, rfl, A, rfl⟩ := hrel
    by_cases hlt : k < nv
    · have hltz : (k : Int) < (nv : Int) := by omega
      have hkz : (0 : Int) ≤ (k : Int) := by omega
      obtain ⟨VB, VO, VC, hve, hlV, hVB, k0, k1⟩ := var_at HVV.out k (by rw [HNL.out]; exact hlt)
      simp only [Value.slice.injEq] at hve
      obtain ⟨rfl, hzz, rfl⟩ := hve
      have m0 := HE1.out.cl k0
      have HIS : Hid (isV s l[k]! = (l[k]!.name.toList == s.toList)) := Lib.hid rfl
      generalize l[k]!.name = nm at *
      obtain ⟨b, hb⟩ : ∃ b, (nm.toList == s.toList) = b := ⟨_, rfl⟩
      rw [hb] at HIS
      clear k0 k1 hzz
      cases b with
      | true =>
        have HF := Lib.hid (HIX.out.trans (firstAt_hit (isV s) l k (by rw [HNL.out]; exact hlt) HIS.out A.out))
        obtain rfl : ix = (k : Int) := HF.out
        go_wp2
        go_ret
        exact ⟨rfl, HE1.out⟩
      | false =>
        go_wp2
        go_roundg (nv - (k + 1))
        case measure => omega
        case rel =>
          refine ⟨k + 1, by omega, by omega, by go_num, (show Aside _ from fun j hj => ?_), rfl⟩
          by_cases e : j = k
          · subst e; exact HIS.out
          · exact A.out j (by omega)
    · have hltz : ¬ (k : Int) < (nv : Int) := by omega
      obtain rfl : k = nv := by omega
      have HF := Lib.hid (HIX.out.trans (firstAt_miss (isV s) l (fun j hj => A.out j (by rw [HNL.out] at hj; exact hj))))
      obtain rfl : ix = -1 := HF.out
      go_wp2
      go_ret
      exact ⟨rfl, HE1.out⟩

end Go.Proofs.YtfcpnggdpaeldaaGreat

/-
  The values of variables in the reference: Value.
-/
namespace Go.Proofs.YtfcpnggdpaeldaaGreat
open Go.RowKit
set_option linter.unusedVariables false

theorem findA_hit {l : List Asg} {v : Int} {k : Nat} (hk : k < l.length) (h : l[k]!.var = v) (hn : ∀ j, j < k → l[j]!.var ≠ v) : findA l v = some l[k]!.value := by
  unfold findA
  have : l.find? (fun a => decide (a.var = v)) = some l[k]! := by
    rw [List.find?_eq_some_iff_getElem]
    refine ⟨by simpa using h, k, hk, (getElem!_pos l k hk).symm, fun j hj => ?_⟩
    have := hn j hj
    rw [getElem!_pos l j (by omega)] at this
    simpa using this
  rw [this]; rfl
theorem findA_miss {l : List Asg} {v : Int} (hn : ∀ j, j < l.length → l[j]!.var ≠ v) : findA l v = none := by
  unfold findA
  have : l.find? (fun a => decide (a.var = v)) = none := by
    rw [List.find?_eq_none]
    intro a ha
    obtain ⟨j, hj, rfl⟩ := List.getElem_of_mem ha
    have := hn j hj
    rw [getElem!_pos l j hj] at this
    simpa using this
  rw [this]; rfl
theorem valR_valF {t : Tr} (h : validT t = true) {p v k : Nat} (hp : p < t.length) (hv : v < t[p]!.vars.length) (hk : k ≤ t[p]!.events.length) : valR t p v k = valF t p v k :=
  valR_stV (fun j hj => (once_valid (validT_parts.1 h).1 hp hj).1) hv k hk

set_option maxHeartbeats 4000000 in
set_option maxRecDepth 100000 in
theorem valueF_calls (v : Value) (t : Tr) (p i k : Nat) (w : World) (h : TrAt w v t) (hv : validT t = true) (hp : p < t.length) (hi : i < t[p]!.vars.length) (hk : k ≤ t[p]!.events.length) :
    Calls Tryz.prog 75 #[.agg #[v], .int .i64 p, .int .i64 i, .int .i64 k] w fun e w' => e = .returned (.int .i64 (valF t p i k)) ∧ Ext w w' := by
  have hok := stOk_valid hv hp
  have hvr := valR_valF hv hp hi hk
  rw [← hvr]
  obtain ⟨B, O, C, vv, ve, rfl, hlC, hB, hn0, hv0, he0, hV, hE0⟩ := proc_at h p hp
  have HVV := Lib.hid hV
  have HEE := Lib.hid hE0
  obtain ⟨va, vc, rfl, hvc⟩ := hV.sh
  obtain ⟨ea, ec, rfl, hec⟩ := hE0.sh
  have hn1 := (valid_small hv).1
  have hne := hok.ne
  have HNA := Lib.hid hok.na
  have HZ : Hid (valR t p i 0 = t[p]!.vars[i]!.init) := Lib.hid rfl
  have HS : Hid (∀ m, valR t p i (m + 1) = match findA t[p]!.events[m]!.asg (i : Int) with | some x => x | none => valR t p i m) := Lib.hid (fun m => rfl)
  obtain ⟨R, hR⟩ : ∃ R, valR t p i k = R := ⟨_, rfl⟩
  rw [hR]
  have HR := Lib.hid hR
  have HF : Hid (∃ f : Nat → Int, f = valR t p i) := Lib.hid ⟨_, rfl⟩
  generalize valR t p i = f at *
  generalize hln : t.length = n at *
  have HX0 := Lib.hid (heap_alloc_new w (.cells #[.slice (some ⟨B, O, none⟩) n C] 24))
  have HE1 := Lib.hid ((Ext.rf w).al (.cells #[.slice (some ⟨B, O, none⟩) n C] 24))
  have v1 := HE1.out.cl hv0
  have e1 := HE1.out.cl he0
  have hpz : (0 : Int) ≤ (p : Int) := by omega
  have hpn : (p : Int) < (n : Int) := by omega
  generalize hnv : t[p]!.vars.length = nv at *
  generalize hnee : t[p]!.events.length = ne at *
  have HNV := Lib.hid hnv
  have HNE := Lib.hid hnee
  have t0 := cellOf HX0.out 0
  simp only [List.getElem?_toArray, List.getElem?_cons_zero] at t0
  clear h hn0 hv0 he0 hV hE0 hln hnv hnee hok hvr hv hp hR HF
  go_enter Tryz.func75, Tryz.ntmps75
  go_wp2
  generalize hw2 : w.alloc (.cells #[.slice (some ⟨B, O, none⟩) n C] 24) = w2 at *
  clear hw2
  go_loopg [9] k (fun g s9 wr => ∃ m : Nat, m ≤ k ∧ m ≤ g ∧ s9 = .int .i64 ((m : Int) - 1) ∧ Aside (f m = R) ∧ wr = w2)
  case atStart => exact ⟨k, Nat.le_refl _, by omega, by go_num, (show Aside _ from HR.out), rfl⟩
  case round =>
    obtain ⟨m, hm, hg, rfl, HM, rfl⟩ := hrel
    cases m with
    | zero =>
      obtain ⟨VB, VO, VC, hve, hlV, hVB, k0, k1⟩ := var_at HVV.out i (by rw [HNV.out]; exact hi)
      simp only [Value.slice.injEq] at hve
      obtain ⟨rfl, hzz, rfl⟩ := hve
      have m1 := HE1.out.cl k1
      have HZ2 := Lib.hid (HZ.out.symm.trans HM.out)
      generalize t[p]!.vars[i]!.init = z at *
      obtain rfl : z = R := HZ2.out
      have hiz : (0 : Int) ≤ (i : Int) := by omega
      have hin : (i : Int) < (nv : Int) := by omega
      clear k0 k1 hzz
      go_wp2
      go_ret
      exact ⟨rfl, HE1.out⟩
    | succ m =>
      have hmz : (0 : Int) ≤ (m : Int) := by omega
      have hmn : (m : Int) < (ne : Int) := by omega
      have hcast : ((m + 1 : Nat) : Int) - 1 = (m : Int) := by omega
      rw [hcast]
      obtain ⟨EB, EO, EC, ua, hee, hlE, hEB, g0, g1, g2, g3, g4, hA⟩ := event_at HEE.out m (by rw [HNE.out]; omega)
      simp only [Value.slice.injEq] at hee
      obtain ⟨rfl, hzz, rfl⟩ := hee
      have HAA := Lib.hid hA
      obtain ⟨aa, ac, rfl, hac⟩ := hA.sh
      have m4 := HE1.out.cl g4
      have hna := HNA.out m (by omega)
      have HSM := Lib.hid (HS.out m)
      generalize t[p]!.events[m]!.asg = l at *
      generalize hnl : l.length = na at *
      have HNL := Lib.hid hnl
      clear g0 g1 g2 g3 g4 hA hzz hnl
      go_wp2
      obtain ⟨wo, rfl⟩ : ∃ x, x = wr := ⟨_, rfl⟩
      go_loopg [11] na (fun g s11 wr => ∃ j : Nat, j ≤ na ∧ na - j ≤ g ∧ s11 = .int .i64 j ∧ Aside (∀ q, q < j → l[q]!.var ≠ (i : Int)) ∧ wr = wo)
      case atStart => exact ⟨0, Nat.zero_le _, by omega, rfl, (fun q hq => absurd hq (Nat.not_lt_zero _)), rfl⟩
      case round =>
        obtain ⟨j, hj, hg2, rfl, A, rfl⟩ := hrel
        by_cases hlt : j < na
        · have hltz : (j : Int) < (na : Int) := by omega
          have hjz : (0 : Int) ≤ (j : Int) := by omega
          obtain ⟨AB, AO, AC, hae, hlA, hAB, a0, a1⟩ := asg_at HAA.out j (by rw [HNL.out]; exact hlt)
          simp only [Value.slice.injEq] at hae
          obtain ⟨rfl, hzz, rfl⟩ := hae
          have b0 := HE1.out.cl a0
          have b1 := HE1.out.cl a1
          have HHIT := Lib.hid (fun hh => findA_hit (l := l) (v := (i : Int)) (k := j) (by rw [HNL.out]; exact hlt) hh A.out)
          generalize hxv : l[j]!.var = x at *
          generalize hxy : l[j]!.value = y at *
          have HXV := Lib.hid hxv
          clear a0 a1 hzz hxv hxy
          by_cases hxi : x = (i : Int)
          · have d1 : (x == (i : Int)) = true := by simp [hxi]
            have HF2 := Lib.hid (HHIT.out hxi)
            have HMM := HM.out
            rw [HSM.out, HF2.out] at HMM
            obtain rfl : y = R := HMM
            clear hxi
            go_wp2
            go_ret
            exact ⟨rfl, HE1.out⟩
          · have d1 : (x == (i : Int)) = false := by simp [hxi]
            have HXI := Lib.hid hxi
            clear hxi
            go_wp2
            go_roundg (na - (j + 1))
            case measure => omega
            case rel =>
              refine ⟨j + 1, by omega, by omega, by go_num, (show Aside _ from fun q hq => ?_), rfl⟩
              by_cases e : q = j
              · subst e; rw [HXV.out]; exact HXI.out
              · exact A.out q (by omega)
        · have hltz : ¬ (j : Int) < (na : Int) := by omega
          obtain rfl : j = na := by omega
          have HFN := Lib.hid (findA_miss (l := l) (v := (i : Int)) (fun q hq => A.out q (by rw [HNL.out] at hq; exact hq)))
          have HMM := HM.out
          rw [HSM.out, HFN.out] at HMM
          have HM2 := Lib.hid HMM
          clear HMM
          go_wp2
          go_roundg m
          case measure => omega
          case rel => exact ⟨m, by omega, by omega, by go_num, (show Aside _ from HM2.out), rfl⟩

end Go.Proofs.YtfcpnggdpaeldaaGreat

/-
  Cuts of a trace in the reference: Cut and Consistent; the error of a cut, and the values there.
-/
namespace Go.Proofs.YtfcpnggdpaeldaaGreat
open Go.RowKit
set_option linter.unusedVariables false

set_option maxHeartbeats 4000000 in
set_option maxRecDepth 100000 in
theorem cutR_calls (v vc : Value) (t : Tr) (c : List Int) (w : World) (h : TrAt w v t) (hs : SmallTr t) (hc : Ints w vc c) :
    Calls Tryz.prog 40 #[.agg #[v], vc] w fun e w' => e = .returned (.bool (fitsB t c && rangeB t c)) ∧ Ext w w' := by
  have HT := Lib.hid h
  have HC := Lib.hid hc
  have HS := Lib.hid hs
  obtain ⟨ta, tc, rfl, htc⟩ := h.sh
  obtain ⟨ca, cc, rfl, hlc, _⟩ := hc
  have hn1 := hs.1
  obtain ⟨rb, hrb⟩ : ∃ b, rangeB t c = b := ⟨_, rfl⟩
  have HRB := Lib.hid hrb
  obtain ⟨R, hR⟩ : ∃ R, (fitsB t c && rangeB t c) = R := ⟨_, rfl⟩
  rw [hR]
  have HR : Hid (R = (decide (c.length = t.length) && rb)) := Lib.hid (by rw [← hR, hrb]; rfl)
  generalize hln : t.length = n at *
  generalize hlm : c.length = m at *
  have HL := Lib.hid hln
  have HM := Lib.hid hlm
  have HX0 := Lib.hid (heap_alloc_new w (.cells #[.slice ta n tc] 24))
  have HE1 := Lib.hid ((Ext.rf w).al (.cells #[.slice ta n tc] 24))
  clear h hs hln hlm hrb hR
  by_cases hmn : m = n
  case neg =>
    have d0 : ((m : Int) != (n : Int)) = true := by simp; omega
    obtain rfl : R = false := by rw [HR.out, decide_eq_false hmn]; rfl
    clear hmn
    go_enter Tryz.func40, Tryz.ntmps40
    go_wp2
    go_ret
    exact ⟨rfl, HE1.out⟩
  case pos =>
  subst hmn
  have d0 : ((m : Int) != (m : Int)) = false := by simp
  have HRR : Hid (R = rb) := Lib.hid (by rw [HR.out, decide_eq_true rfl]; rfl)
  go_enter Tryz.func40, Tryz.ntmps40
  go_wp2
  generalize hw2 : w.alloc (.cells #[.slice ta m tc] 24) = w2 at *
  clear hw2
  go_loopg [5] m (fun g s5 wr => ∃ p : Nat, p ≤ m ∧ m - p ≤ g ∧ s5 = .int .i64 p ∧ Aside (∀ q, q < p → 0 ≤ c[q]! ∧ c[q]! ≤ (t[q]!.events.length : Int)) ∧ Aside (Ext w2 wr))
  case atStart => exact ⟨0, Nat.zero_le _, by omega, rfl, (fun j hj => absurd hj (Nat.not_lt_zero _)), Ext.rf _⟩
  case round =>
    obtain ⟨p, hp, hg, rfl, A, HEK⟩ := hrel
    have HEW := Lib.hid (HE1.out.trans' HEK.out)
    have HY0 := Lib.hid (HEK.out.hp HX0.out)
    have t0 := cellOf HY0.out 0
    simp only [List.getElem?_toArray, List.getElem?_cons_zero] at t0
    by_cases hlt : p < m
    · have hltz : (p : Int) < (m : Int) := by omega
      have hpz : (0 : Int) ≤ (p : Int) := by omega
      obtain ⟨B, O, C, vv, ve, hve, hlC, hB, hn0, hv0, he0, hV, hE0⟩ := proc_at HT.out p (by rw [HL.out]; exact hlt)
      simp only [Value.slice.injEq] at hve
      obtain ⟨rfl, hzz, rfl⟩ := hve
      obtain ⟨ea, ec, rfl, hec⟩ := hE0.sh
      obtain ⟨cb, co, rfl, hcb, hcp⟩ := ints_at HC.out p (by rw [HM.out]; exact hlt)
      have he1 := HEW.out.cl he0
      have hc1 := HEW.out.cl hcp
      have hen := (HS.out.2 p (by rw [HL.out]; exact hlt)).2.1
      generalize hne : t[p]!.events.length = ne at *
      have HNE := Lib.hid hne
      generalize hk : c[p]! = k at *
      have HK := Lib.hid hk
      clear hn0 hv0 hV hE0 hzz hne he0 hk hcp
      have HNO : Hid (¬ (0 ≤ k ∧ k ≤ (ne : Int)) → rb = false) := Lib.hid (fun hno => by
        rw [← HRB.out, Bool.eq_false_iff]
        intro hr
        have := rangeB_iff.1 hr p (by rw [HM.out]; exact hlt)
        rw [HNE.out, HK.out] at this
        exact hno this)
      by_cases h1 : k < 0
      · have d1 : decide (k < 0) = true := decide_eq_true h1
        have HF := Lib.hid (HNO.out (by omega))
        obtain rfl : R = false := HRR.out.trans HF.out
        clear h1
        go_wp2
        go_quiet (fail)
        go_wp2
        go_ret
        exact ⟨rfl, HEW.out.drN _⟩
      · have d1 : decide (k < 0) = false := decide_eq_false h1
        by_cases h2 : (ne : Int) < k
        · have d2 : decide ((ne : Int) < k) = true := decide_eq_true h2
          have HF := Lib.hid (HNO.out (by omega))
          obtain rfl : R = false := HRR.out.trans HF.out
          clear h1 h2
          go_wp2
          go_quiet (fail)
          go_wp2
          go_ret
          exact ⟨rfl, HEW.out.drN _⟩
        · have d2 : decide ((ne : Int) < k) = false := decide_eq_false h2
          have HOK := Lib.hid (show 0 ≤ k ∧ k ≤ (ne : Int) by omega)
          clear h1 h2
          go_wp2
          go_quiet (fail)
          go_wp2
          go_roundg (m - (p + 1))
          case measure => omega
          case rel =>
            refine ⟨p + 1, by omega, by omega, by go_num, (show Aside _ from fun j hj => ?_), (show Ext _ _ from HEK.out.drN _)⟩
            by_cases e : j = p
            · subst e; rw [HNE.out, HK.out]; exact HOK.out
            · exact A.out j (by omega)
    · have hltz : ¬ (p : Int) < (m : Int) := by omega
      obtain rfl : m = p := by omega
      have e : rangeB t c = true := rangeB_iff.2 (fun q hq => A.out q (by rw [HM.out] at hq; exact hq))
      obtain rfl : R = true := by rw [HRR.out, ← HRB.out, e]
      clear e
      go_wp2
      go_ret
      exact ⟨rfl, HEW.out⟩

set_option maxHeartbeats 8000000 in
set_option maxRecDepth 100000 in
theorem consR_calls (v vc : Value) (t : Tr) (c : List Int) (w : World) (h : TrAt w v t) (hv : validT t = true) (hc : Ints w vc c) (hr : RangeC t c) :
    Calls Tryz.prog 74 #[.agg #[v], vc] w fun e w' => e = .returned (.bool (missE t c).isNone) ∧ Ext w w' := by
  have HT := Lib.hid h
  have HC := Lib.hid hc
  have hs := valid_small hv
  have HS := Lib.hid hs
  have HRC := Lib.hid hr
  have HPB := Lib.hid (validT_parts.1 hv).2.1
  have HFI := Lib.hid (fun W (hW : Ext w W) m => findR_calls v t 2 m W (h.ext hW) hs)
  obtain ⟨ta, tc, rfl, htc⟩ := h.sh
  obtain ⟨ca, cc, rfl, hlc, _⟩ := hc
  have hn1 := hs.1
  obtain ⟨R, hR⟩ : ∃ R, (missE t c).isNone = R := ⟨_, rfl⟩
  rw [hR]
  have HR := Lib.hid hR
  have HM0 : Hid (missE t c = missTo t c c.length 0) := Lib.hid rfl
  have hcl := hr.1
  rw [hcl] at hlc ⊢
  generalize hln : t.length = n at *
  have HL := Lib.hid hln
  have HCL := Lib.hid hcl
  have HX0 := Lib.hid (heap_alloc_new w (.cells #[.slice ta n tc] 24))
  have HE1 := Lib.hid ((Ext.rf w).al (.cells #[.slice ta n tc] 24))
  clear h hs hln hR hv hr hcl
  go_enter Tryz.func74, Tryz.ntmps74
  go_wp2
  generalize hw2 : w.alloc (.cells #[.slice ta n tc] 24) = w2 at *
  clear hw2
  go_loopg [5] n (fun g s5 wr => ∃ p : Nat, p ≤ n ∧ n - p ≤ g ∧ s5 = .int .i64 p ∧ Aside (missTo t c p 0 = none) ∧ Aside (Ext w2 wr))
  case atStart => exact ⟨0, Nat.zero_le _, by omega, rfl, (show Aside _ from by unfold missTo; rw [idsCTo_zero]; rfl), Ext.rf _⟩
  case round =>
    obtain ⟨p, hp, hg, rfl, HMI, HEK⟩ := hrel
    have HEW := Lib.hid (HE1.out.trans' HEK.out)
    by_cases hlt : p < n
    · have hltz : (p : Int) < (n : Int) := by omega
      have hpz : (0 : Int) ≤ (p : Int) := by omega
      have HQ := Lib.hid (show p < t.length from by rw [HL.out]; exact hlt)
      obtain ⟨B, O, C, vv, ve, hve, hlC, hB, hn0, hv0, he0, hV, hE0⟩ := proc_at HT.out p HQ.out
      simp only [Value.slice.injEq] at hve
      obtain ⟨rfl, hzz, rfl⟩ := hve
      have HEE := Lib.hid hE0
      obtain ⟨ea, ec, rfl, hec⟩ := hE0.sh
      obtain ⟨cb, co, rfl, hcb, hcp⟩ := ints_at HC.out p (by rw [HCL.out]; exact hlt)
      have HE0 := Lib.hid he0
      have HCP := Lib.hid hcp
      have hkr := HRC.out.at HQ.out
      obtain ⟨k, hk⟩ : ∃ k : Nat, c[p]! = (k : Int) := ⟨c[p]!.toNat, by omega⟩
      have HK := Lib.hid hk
      rw [hk] at HCP hkr
      have hkn : k ≤ t[p]!.events.length := by omega
      have hel := (HS.out.2 p HQ.out).2.1
      generalize hnee : t[p]!.events.length = ne at *
      have HNE := Lib.hid hnee
      clear hn0 hv0 he0 hV hE0 hzz hcp hnee hk hkr
      go_wp2
      obtain ⟨wo, rfl⟩ : ∃ x, x = wr := ⟨_, rfl⟩
      go_loopg [6] k (fun g s6 wr => ∃ i : Nat, i ≤ k ∧ k - i ≤ g ∧ s6 = .int .i64 i ∧ Aside (missTo t c p i = none) ∧ Aside (Ext w2 wr))
      case atStart => exact ⟨0, Nat.zero_le _, by omega, rfl, (show Aside _ from HMI.out), (show Ext _ _ from HEK.out)⟩
      case round =>
        obtain ⟨i, hi, hg2, rfl, HMJ, HEJ⟩ := hrel
        have HEV := Lib.hid (HE1.out.trans' HEJ.out)
        have HY1 := Lib.hid (HEJ.out.hp HX0.out)
        have t0 := cellOf HY1.out 0
        simp only [List.getElem?_toArray, List.getElem?_cons_zero] at t0
        have e1 := HEV.out.cl HE0.out
        have c1 := HEV.out.cl HCP.out
        by_cases hlti : i < k
        · have hltzi : (i : Int) < (k : Int) := by omega
          have hiz : (0 : Int) ≤ (i : Int) := by omega
          have hine : (i : Int) < (ne : Int) := by omega
          obtain ⟨EB, EO, EC, va, hee, hlE, hEB, k0, k1, k2, k3, k4, hA⟩ := event_at HEE.out i (by rw [HNE.out]; omega)
          simp only [Value.slice.injEq] at hee
          obtain ⟨rfl, hzz, rfl⟩ := hee
          obtain ⟨ua, uc, rfl, huc⟩ := hA.sh
          have m0 := HEV.out.cl k0
          have m1 := HEV.out.cl k1
          have m2 := HEV.out.cl k2
          have m3 := HEV.out.cl k3
          have m4 := HEV.out.cl k4
          have HEVI : Hid (ev t (p, i) = t[p]!.events[i]!) := Lib.hid rfl
          generalize hev : t[p]!.events[i]! = y at *
          generalize y.asg.length = na at *
          have hsz := HEJ.out.sz
          clear k0 k1 k2 k3 k4 hA hzz hev
          by_cases hk3 : y.kind = 3
          · have d1 : (y.kind == 3) = true := by simp [hk3]
            have HK3 := Lib.hid (show (ev t (p, i)).kind = 3 from by rw [HEVI.out]; exact hk3)
            have HMS : Hid ((ev t (p, i)).msg = y.msg) := Lib.hid (by rw [HEVI.out])
            obtain ⟨sd, hsd⟩ := send_some HPB.out (x := (p, i)) ⟨HQ.out, by show i < t[p]!.events.length; rw [HNE.out]; omega⟩ HK3.out
            have hin := (findE_some hsd).1
            have HSB := Lib.hid (sentB_recv (c := c) HK3.out hsd)
            rw [HMS.out] at hsd
            have HFC := Lib.hid (HFI.out _ (HEV.out.al (evO y.kind y.peer y.msg y.time (.slice ua na uc))) y.msg)
            rw [hsd] at HFC
            simp only [eidA, eidB] at HFC
            obtain ⟨sp, si⟩ := sd
            simp only at HFC HSB hin
            have hspn : sp < n := by have := hin.1; rw [HL.out] at this; exact this
            have hsil : si + 1 ≤ 1000000 := by
              have h1 := (HS.out.2 sp hin.1).2.1
              have h2 := hin.2
              simp only at h2; omega
            obtain ⟨cb2, co2, hcc, hcb2, hcp2⟩ := ints_at HC.out sp (by rw [HCL.out]; exact hspn)
            simp only [Option.some.injEq, Addr.mk.injEq, and_true] at hcc
            obtain ⟨rfl, rfl⟩ := hcc
            have c2 := HEV.out.cl hcp2
            generalize hks : c[sp]! = ks at *
            have hspz : (0 : Int) ≤ (sp : Int) := by omega
            have hspi : (sp : Int) < (n : Int) := by omega
            have HEB2 := Lib.hid (heap_alloc_new wr (evO y.kind y.peer y.msg y.time (.slice ua na uc)))
            have HEA := Lib.hid ((Ext.rf wr).al (evO y.kind y.peer y.msg y.time (.slice ua na uc)))
            have HSO := Lib.hid (@missTo_succ t c p i HMJ.out)
            have HHT := Lib.hid (fun h => missTo_hit (t := t) (c := c) (p := p) (i := i) HMJ.out h (by rw [HCL.out]; exact hlt) (by rw [HK.out]; exact hltzi))
            have hw0 : w.heap.size < wr.heap.size := (Array.getElem?_eq_some_iff.1 HY1.out).1
            have hw1 : w.heap.size ≠ wr.heap.size := by omega
            clear hin hsd hcp2 hks hk3
            go_wp2_with fail
            refine HFC.out.mono ?_
            rintro e w5 ⟨rfl, hX5⟩
            have HX5 := Lib.hid (HEA.out.trans' hX5)
            have c5 := HX5.out.cl c2
            have hs5 := HX5.out.sz
            have hcw : cb < w5.heap.size := by have := HEV.out.sz; omega
            have hcn : cb ≠ w5.heap.size := by omega
            clear hX5 t0 e1 c1 m0 m1 m2 m3 m4 c2
            by_cases hcmp : ks < (si : Int) + 1
            · have d2 : decide (ks < (si : Int) + 1) = true := decide_eq_true hcmp
              have HF := Lib.hid (HHT.out (by rw [HSB.out, decide_eq_false (by omega)]))
              obtain rfl : R = false := by rw [← HR.out, HF.out]; rfl
              clear hcmp
              go_wp2
              go_quiet (fail)
              go_wp2
              go_ret
              exact ⟨rfl, ((HEV.out.trans' HX5.out).al _).drN _⟩
            · have d2 : decide (ks < (si : Int) + 1) = false := decide_eq_false hcmp
              have HF := Lib.hid (HSO.out (by rw [HSB.out, decide_eq_true (by omega)]))
              clear hcmp
              go_wp2
              go_quiet (fail)
              go_wp2
              go_roundg (k - (i + 1))
              case measure => omega
              case rel => exact ⟨i + 1, by omega, by omega, by go_num, (show Aside _ from HF.out), (show Ext _ _ from ((HEJ.out.trans' HX5.out).al _).drN _)⟩
          · have d1 : (y.kind == 3) = false := by simp [hk3]
            have HS1 := Lib.hid (missTo_succ HMJ.out (sentB_other (t := t) (c := c) (x := (p, i)) (by rw [HEVI.out]; exact hk3)))
            clear hk3
            go_wp2
            go_roundg (k - (i + 1))
            case measure => omega
            case rel => exact ⟨i + 1, by omega, by omega, by go_num, (show Aside _ from HS1.out), (show Ext _ _ from HEJ.out.al _)⟩
        · have hltzi : ¬ (i : Int) < (k : Int) := by omega
          obtain rfl : i = k := by omega
          have HMN : Hid (missTo t c (p + 1) 0 = none) := Lib.hid (by
            have := HMJ.out
            unfold missTo at this ⊢
            rw [← idsCTo_next, HK.out, Int.toNat_natCast]
            exact this)
          go_wp2
          go_roundg (n - (p + 1))
          case measure => omega
          case rel => exact ⟨p + 1, by omega, by omega, by go_num, (show Aside _ from HMN.out), (show Ext _ _ from HEJ.out)⟩
    · have hltz : ¬ (p : Int) < (n : Int) := by omega
      obtain rfl : n = p := by omega
      have HF := Lib.hid (show missE t c = none from by rw [HM0.out, HCL.out]; exact HMI.out)
      obtain rfl : R = true := by rw [← HR.out, HF.out]; rfl
      go_wp2
      go_ret
      exact ⟨rfl, HEW.out⟩

end Go.Proofs.YtfcpnggdpaeldaaGreat
