/-
  The statement TerminateWaits, walked.
-/
import Derived.Test.YtodkcfebcjgahaaBase
import Derived.Test.YtodkcfebcjgahaaProg
import Derived.BigQuiet
import Derived.Deep.QuietTactic
import Derived.Deep.LoopGhost
import Derived.Shelf.Abstract
import Derived.Test.YtodkcfebcjgahaaRelE
import Derived.Test.YtodkcfebcjgahaaFault
import Derived.Test.YtodkcfebcjgahaaAwake51
import Derived.Test.YtodkcfebcjgahaaLawStuckL
import Derived.Test.YtodkcfebcjgahaaLawCyc
import Derived.Test.YtodkcfebcjgahaaGd
import Derived.Test.YtodkcfebcjgahaaGb
import Derived.Test.YtodkcfebcjgahaaGc
import Derived.Test.YtodkcfebcjgahaaCheck
import Derived.Test.YtodkcfebcjgahaaEqI
import Derived.RegionTactic
import Derived.ChangeAlike
import Derived.BigRegion
import Derived.Laws.EntriesVeiled
import Derived.Deep.DeepCutAuto
namespace Go.Proofs.Ytodkcfebcjgahaa
open Go.RowKit
set_option linter.unusedVariables false

/-- What Deadlock, Cycle and Garbage hand back, as numbers. -/
def TwoI (W w' : World) (e : Ending) (c : Int) (a : List Int) : Prop := ∃ v, e = .returned (.tuple #[v, .int .i64 c]) ∧ Ext W w' ∧ Ints w' v a
def TwoB (W w' : World) (e : Ending) (c : Bool) (a : List Int) : Prop := ∃ v, e = .returned (.tuple #[v, .bool c]) ∧ Ext W w' ∧ Ints w' v a
theorem ints_none (w : World) : Ints w (.slice none 0 0) [] := ⟨none, 0, rfl, Nat.le_refl _, fun h => absurd rfl h⟩
theorem rowN_ints {w : World} {b : Nat} {v : Value} {l : List Nat} (h : RowN w b v l) : Ints w v (l.map fun (x : Nat) => (x : Int)) := by
  have h2 : Row w b 3 1 v (l.map fun (x : Nat) => (x : Int)).length ((l.map fun (x : Nat) => (x : Int)).map (Value.int .i64)) := by
    rw [List.length_map, List.map_map]; exact h
  exact h2.ints
def garbL (refs : List (Int × Int)) (roots : List Int) (N : Nat) : List Int := gaps (sees refs (marksOf N roots) N) N
theorem garbP_in (u v : Value) (refs : List (Int × Int)) (roots : List Int) (n : Int) (w : World) (hu : Sl RPair 2 w u refs) (hv : Ints w v roots) (hr : refs.length ≤ 1000) (ht : roots.length ≤ 1000) (hg : garbBad refs roots n = false) :
    Calls Try.prog 14 #[u, v, .int .i64 n] w fun e w' => TwoI w w' e 0 (garbL refs roots n.toNat) := by
  refine (garbage_good u v refs roots n w hu hv hr ht hg).mono ?_
  rintro e w' ⟨v', rfl, hx, M, hrow, hM, hreach⟩
  refine ⟨v', rfl, hx, ?_⟩
  have e1 : gaps M n.toNat = garbL refs roots n.toNat := gaps_congr _ _ _ fun i hi => by
    rw [Bool.eq_iff_iff, hreach i hi, sees_reach (garb_ok hg).2.2 i hi]
  rw [← e1]; exact hrow.ints
theorem garbP_out (u v : Value) (refs : List (Int × Int)) (roots : List Int) (n : Int) (w : World) (hu : Sl RPair 2 w u refs) (hv : Ints w v roots) (hr : refs.length ≤ 1000) (ht : roots.length ≤ 1000) (hg : garbBad refs roots n = true) :
    Calls Try.prog 14 #[u, v, .int .i64 n] w fun e w' => TwoI w w' e 2 [] := by
  refine (garbage_bad u v refs roots n w hu hv (by omega) (by omega) hg).mono ?_
  rintro e w' ⟨rfl, hx⟩
  exact ⟨_, rfl, hx, ints_none _⟩
theorem garbR_in (u v : Value) (refs : List (Int × Int)) (roots : List Int) (n : Int) (w : World) (hu : Sl RPair 2 w u refs) (hv : Ints w v roots) (hr : refs.length ≤ 1000) (ht : roots.length ≤ 1000) (hg : garbBad refs roots n = false) :
    Calls Try.prog 15 #[u, v, .int .i64 n] w fun e w' => TwoB w w' e true (garbL refs roots n.toNat) := by
  obtain ⟨h0, h5, ok⟩ := garb_ok hg
  obtain ⟨N, rfl⟩ : ∃ N : Nat, n = (N : Int) := ⟨n.toNat, by omega⟩
  rw [Int.toNat_natCast] at ok ⊢
  refine (gbR_good u v refs roots N w hu hv (by omega) (by omega) (by omega) ok).mono ?_
  rintro e w' ⟨v', rfl, hx, hrow⟩
  exact ⟨v', rfl, hx, Row.ints hrow⟩
theorem garbR_out (u v : Value) (refs : List (Int × Int)) (roots : List Int) (n : Int) (w : World) (hu : Sl RPair 2 w u refs) (hv : Ints w v roots) (hr : refs.length ≤ 1000) (ht : roots.length ≤ 1000) (hg : garbBad refs roots n = true) :
    Calls Try.prog 15 #[u, v, .int .i64 n] w fun e w' => TwoB w w' e false [] := by
  refine (gbR_bad u v refs roots n w hu hv (by omega) (by omega) hg).mono ?_
  rintro e w' ⟨rfl, hx⟩
  exact ⟨_, rfl, hx, ints_none _⟩
/-- All deadlocked ones. -/
def deadL (l : List Wt) (N : Nat) : List Int := marks (rndsM l N (askM l N) (N + 1)) N
theorem deadP (u : Value) (l : List Wt) (n : Int) (w : World) (hu : Sl RWait 3 w u l) (hn : l.length ≤ 1000000) (hfl : ∀ x, x ∈ l → x.fors.length ≤ 1000000) (hg : validL l n = 0) :
    Calls Try.prog 8 #[u, .int .i64 n] w fun e w' => TwoI w w' e 0 (deadL l n.toNat) ∧ checkB l n (deadL l n.toNat) = true := by
  refine (deadlock_good u l n w hu hn hfl hg).mono ?_
  rintro e w' ⟨v', rfl, hx, M, hrow, hM, hs, ha⟩
  obtain ⟨_, _, ok⟩ := validL_dok hg
  have e1 : marks M n.toNat = deadL l n.toNat := (rnds_end ok (validL_once hg) hM hs ha).symm
  rw [← e1]
  exact ⟨⟨v', rfl, hx, hrow.ints⟩, check_marks hg hM hs⟩
theorem deadL_len (l : List Wt) (N : Nat) : (deadL l N).length ≤ N := marks_len _ N

theorem cyc_both (u : Value) (l : List Wt) (n : Int) (w : World) (hu : Sl RWait 3 w u l) (hn : l.length ≤ 40) (hfl : ∀ x, x ∈ l → x.fors.length ≤ 40) (hg : validL l n = 0) (hn2 : n ≤ 40) :
    Calls Try.prog 9 #[u, .int .i64 n] w fun e w' => ∃ c a, TwoI w w' e c a ∧ a.length ≤ 1000 ∧
      ((c = 7 ∧ a = [] ∧ ∀ W, Ext w W → Calls Try.prog 20 #[u, .int .i64 n] W fun e W' => TwoB W W' e false []) ∨
       (c = 0 ∧ ∀ W, Ext w W → Calls Try.prog 20 #[u, .int .i64 n] W fun e W' => TwoB W W' e true a)) := by
  have HC := tcycle_good u l n w hu hn hfl hg (by omega)
  obtain ⟨h0, h5, ok⟩ := validL_dok hg
  obtain ⟨N, rfl⟩ : ∃ N : Nat, n = (N : Int) := ⟨n.toNat, by omega⟩
  rw [Int.toNat_natCast] at ok HC
  have hml : (relW l N).length = N := relP_len _
  refine HC.mono ?_
  rintro e w' ⟨v, err, rfl, hx, hd⟩
  rcases hd with ⟨rfl, rfl, hno⟩ | ⟨rfl, f, S, Q, L, k, hp, hmin, hB, hle, hr⟩
  · refine ⟨7, [], ⟨_, rfl, hx, ints_none _⟩, by simp, .inl ⟨rfl, rfl, fun W hW => ?_⟩⟩
    rw [hml] at hno
    refine (refCyc_none u l N W (hu.ext rwait_lasts hW) (by omega) (fun x hx => by have := hfl x hx; omega) (by omega) ok hno).mono ?_
    rintro e W' ⟨rfl, hx2⟩
    exact ⟨_, rfl, hx2, ints_none _⟩
  · refine ⟨0, _, ⟨_, rfl, hx, rowN_ints hr⟩, ?_, .inr ⟨rfl, fun W hW => ?_⟩⟩
    · rw [List.length_map]
      have h1 := out_length (relW l N) f S k k
      obtain ⟨d, _, h2, h3⟩ := bfs_turn hB ⟨k, hle.1⟩
      rw [hml, ← least_one hle h2] at h3
      omega
    · refine (refCyc_some u l N W (hu.ext rwait_lasts hW) (by omega) (fun x hx => by have := hfl x hx; omega) (by omega) ok f S Q L k hp hmin hB hle).mono ?_
      rintro e W' ⟨v', rfl, hx2, hr2⟩
      exact ⟨_, rfl, hx2, rowN_ints hr2⟩

set_option maxHeartbeats 8000000 in
set_option maxRecDepth 100000 in
theorem waits_out (u v x y : Value) (l : List Wt) (n : Int) (st : List Int) (refs : List (Int × Int)) (roots : List Int) (w : World) (hu : Sl RWaitL 3 w u l) (hv : Ints w v st) (hx : Sl RPair 2 w x refs) (hy : Ints w y roots)
    (hs : l.length ≤ 9223372036854775807) (hs2 : st.length ≤ 9223372036854775807) (hs3 : refs.length ≤ 9223372036854775807) (hs4 : roots.length ≤ 9223372036854775807)
    (hout : bigB l n = true ∨ 60 < st.length ∨ 60 < refs.length ∨ 60 < roots.length) :
    Calls Try.prog 4 #[u, .int .i64 n, v, x, y] w fun e w' => e = .returned (.bool true) ∧ Ext w w' := by
  have AW := Lib.hid awake_calls
  have BG := Lib.hid (fun (W : World) (hW : Ext w W) => big_calls u l n W (hu.ext rwaitL_lasts hW) hs)
  obtain ⟨ua, uc, rfl, _⟩ := hu.sh
  obtain ⟨va, vc, rfl, _⟩ := hv
  obtain ⟨xa, xc, rfl, _⟩ := hx.sh
  obtain ⟨ya, yc, rfl, _⟩ := hy
  generalize bigB l n = b at *
  clear hu hx
  generalize l.length = L at *
  generalize st.length = S at *
  generalize refs.length = R at *
  generalize roots.length = T at *
  cases b with
  | true =>
    clear hout
    go_enter Try.func4, Try.ntmps4
    go_wp2_with fail
    refine (AW.out _).mono ?_
    rintro e w1 ⟨rfl, he1⟩
    have HE1 := Lib.hid he1
    clear he1
    go_wp2_with fail
    refine (BG.out _ HE1.out).mono ?_
    rintro e w2 ⟨rfl, he2⟩
    have HE2 := Lib.hid (HE1.out.trans' he2)
    clear he2
    go_wp2
    go_ret
    exact ⟨rfl, HE2.out⟩
  | false =>
    have hout2 : 60 < S ∨ 60 < R ∨ 60 < T := hout.resolve_left (by simp)
    clear hout
    by_cases h1 : 60 < S
    · have h1z : (60 : Int) < (S : Int) := by omega
      clear hout2
      go_enter Try.func4, Try.ntmps4
      go_wp2_with fail
      refine (AW.out _).mono ?_
      rintro e w1 ⟨rfl, he1⟩
      have HE1 := Lib.hid he1
      clear he1
      go_wp2_with fail
      refine (BG.out _ HE1.out).mono ?_
      rintro e w2 ⟨rfl, he2⟩
      have HE2 := Lib.hid (HE1.out.trans' he2)
      clear he2
      go_wp2
      go_ret
      exact ⟨rfl, HE2.out⟩
    have h1z : ¬ (60 : Int) < (S : Int) := by omega
    by_cases h2 : 60 < R
    · have h2z : (60 : Int) < (R : Int) := by omega
      clear hout2
      go_enter Try.func4, Try.ntmps4
      go_wp2_with fail
      refine (AW.out _).mono ?_
      rintro e w1 ⟨rfl, he1⟩
      have HE1 := Lib.hid he1
      clear he1
      go_wp2_with fail
      refine (BG.out _ HE1.out).mono ?_
      rintro e w2 ⟨rfl, he2⟩
      have HE2 := Lib.hid (HE1.out.trans' he2)
      clear he2
      go_wp2
      go_ret
      exact ⟨rfl, HE2.out⟩
    have h2z : ¬ (60 : Int) < (R : Int) := by omega
    have h3 : 60 < T := by omega
    have h3z : (60 : Int) < (T : Int) := by omega
    clear hout2
    go_enter Try.func4, Try.ntmps4
    go_wp2_with fail
    refine (AW.out _).mono ?_
    rintro e w1 ⟨rfl, he1⟩
    have HE1 := Lib.hid he1
    clear he1
    go_wp2_with fail
    refine (BG.out _ HE1.out).mono ?_
    rintro e w2 ⟨rfl, he2⟩
    have HE2 := Lib.hid (HE1.out.trans' he2)
    clear he2
    go_wp2
    go_ret
    exact ⟨rfl, HE2.out⟩


set_option maxHeartbeats 8000000 in
set_option maxRecDepth 100000 in
theorem waits_in (u v x y : Value) (l : List Wt) (n : Int) (st : List Int) (refs : List (Int × Int)) (roots : List Int) (w : World) (hu : Sl RWaitL 3 w u l) (hv : Ints w v st) (hx : Sl RPair 2 w x refs) (hy : Ints w y roots)
    (hs : l.length ≤ 9223372036854775807) (h1 : bigB l n = false) (h2 : ¬ 60 < st.length) (h3 : ¬ 60 < refs.length) (h4 : ¬ 60 < roots.length) :
    Calls Try.prog 4 #[u, .int .i64 n, v, x, y] w fun e w' => e = .returned (.bool true) ∧ Ext w w' := by
  have AW := Lib.hid awake_calls
  have BG := Lib.hid (fun (W : World) (hW : Ext w W) => big_calls u l n W (hu.ext rwaitL_lasts hW) hs)
  rw [h1] at BG
  obtain ⟨b1, b2, b3⟩ := big_not h1
  obtain ⟨hu2, _⟩ := sl_waitL hu
  have hb3 : ∀ x ∈ l, x.fors.length ≤ 1000000 := fun x hx => by have := b3 x hx; omega
  have SL := Lib.hid hu2
  have ST := Lib.hid hv
  have FT := Lib.hid (fun (W : World) (hW : Ext w W) => fault_calls u l n W (SL.out.ext rwait_lasts hW) (by omega) hb3)
  have CK := Lib.hid (fun (W : World) (z : Value) (s : List Int) (hW : Ext w W) (hz : Ints W z s) (hl : s.length ≤ 1000000) => check_calls u z l s n W (SL.out.ext rwait_lasts hW) hz (by omega) hb3 hl)
  have CKS := Lib.hid (fun (W : World) (hW : Ext w W) => CK.out W v st hW (ST.out.ext hW) (by omega))
  have RS := Lib.hid (fun (W : World) (hW : Ext w W) => stuckR_calls u v l st W (SL.out.ext rwait_lasts hW) (ST.out.ext hW) (by omega) hb3 (by omega))
  have GG : Hid (∃ G c ok, G.length ≤ 1000 ∧ ((ok = true ∧ c = 0) ∨ (ok = false ∧ c = 2 ∧ G = [])) ∧
      (∀ W, Ext w W → Calls Try.prog 14 #[x, y, .int .i64 n] W fun e w' => TwoI W w' e c G) ∧
      (∀ W, Ext w W → Calls Try.prog 15 #[x, y, .int .i64 n] W fun e w' => TwoB W w' e ok G)) := Lib.hid (by
    cases hgb : garbBad refs roots n with
    | true => exact ⟨[], 2, false, by simp, .inr ⟨rfl, rfl, rfl⟩, fun W hW => garbP_out x y refs roots n W (hx.ext rpair_lasts hW) (hy.ext hW) (by omega) (by omega) hgb, fun W hW => garbR_out x y refs roots n W (hx.ext rpair_lasts hW) (hy.ext hW) (by omega) (by omega) hgb⟩
    | false =>
      obtain ⟨g0, g5, _⟩ := garb_ok hgb
      exact ⟨garbL refs roots n.toNat, 0, true, by have : (garbL refs roots n.toNat).length ≤ n.toNat := gaps_len _ _; omega, .inl ⟨rfl, rfl⟩, fun W hW => garbP_in x y refs roots n W (hx.ext rpair_lasts hW) (hy.ext hW) (by omega) (by omega) hgb, fun W hW => garbR_in x y refs roots n W (hx.ext rpair_lasts hW) (hy.ext hW) (by omega) (by omega) hgb⟩)
  obtain ⟨G, gcode, gok, hGl, hgcase, GP, GR⟩ := GG.out
  have GP := Lib.hid GP
  have GR := Lib.hid GR
  have HGC := Lib.hid hgcase
  clear GG hgcase
  obtain ⟨ua, uc, rfl, _⟩ := hu.sh
  obtain ⟨va, vc, rfl, _⟩ := id hv
  obtain ⟨xa, xc, rfl, _⟩ := hx.sh
  obtain ⟨ya, yc, rfl, _⟩ := id hy
  have h2z : ¬ (60 : Int) < (st.length : Int) := by omega
  have h3z : ¬ (60 : Int) < (refs.length : Int) := by omega
  have h4z : ¬ (60 : Int) < (roots.length : Int) := by omega
  by_cases hg : validL l n = 0
  · obtain ⟨hn0, hn512, _⟩ := validL_dok hg
    have hn40 : n ≤ 40 := by omega
    have DL := Lib.hid (fun (W : World) (hW : Ext w W) => deadP _ l n W (SL.out.ext rwait_lasts hW) (by omega) hb3 hg)
    have CY := Lib.hid (fun (W : World) (hW : Ext w W) => cyc_both _ l n W (SL.out.ext rwait_lasts hW) b1 b3 hg hn40)
    have hdl : (deadL l n.toNat).length ≤ n.toNat := deadL_len l n.toNat
    have hdl2 : (deadL l n.toNat).length ≤ 40 := by omega
    have RD : Hid (∀ W, Ext w W → Calls Try.prog 18 #[.slice ua l.length uc, .int .i64 n] W fun e w' => ∃ z, e = .returned z ∧ Ext W w' ∧ Ints w' z (deadL l n.toNat)) := Lib.hid (fun W hW => by
      obtain ⟨N, rfl⟩ : ∃ N : Nat, n = (N : Int) := ⟨n.toNat, by omega⟩
      refine (deadR_calls _ l N W (SL.out.ext rwait_lasts hW) (by omega) hb3 (by omega) hg).mono ?_
      rintro e w' ⟨z, rfl, hr, hx⟩
      exact ⟨z, rfl, hx, Row.ints hr⟩)
    rw [stuckR_check hg] at RS
    rw [hg] at FT
    generalize deadL l n.toNat = D at *
    generalize checkB l n st = ck at *
    clear hu hv hx hy hs h1 b2 b3 hu2 hb3 hg hn0 hn512 hdl SL ST
    generalize l.length = L at *
    generalize st.length = S at *
    generalize refs.length = R at *
    generalize roots.length = T at *
    rcases HGC.out with ⟨rfl, rfl⟩ | ⟨rfl, rfl, hgn⟩
    ·
      go_enter Try.func4, Try.ntmps4
      go_wp2_with fail
      refine (AW.out _).mono ?_
      rintro e w1 ⟨rfl, he1⟩
      have HE1 := Lib.hid he1
      clear he1
      go_wp2_with fail
      refine (BG.out _ HE1.out).mono ?_
      rintro e w2 ⟨rfl, he2⟩
      have HE2 := Lib.hid (HE1.out.trans' he2)
      clear he2
      go_wp2_with fail
      refine (DL.out _ HE2.out).mono ?_
      rintro e w3 ⟨⟨av, rfl, he3, hai⟩, hchk⟩
      have HCK2 := Lib.hid (fun W (hW : Ext w3 W) => CK.out W av D (HE2.out.trans' (he3.trans' hW)) (hai.ext hW) (by omega))
      rw [hchk] at HCK2
      obtain ⟨aa, ac, rfl, _⟩ := id hai
      have HE3 := Lib.hid (HE2.out.trans' he3)
      have HA3 := Lib.hid hai
      clear he3 hai hchk
      go_wp2_with fail
      refine (CY.out _ HE3.out).mono ?_
      rintro e w4 ⟨cc, cl, ⟨cv, rfl, he4, hci⟩, hcl, hcd⟩
      obtain ⟨ca, cC, rfl, _⟩ := id hci
      have HE4 := Lib.hid (HE3.out.trans' he4)
      have HX4 := Lib.hid he4
      have HA4 := Lib.hid (HA3.out.ext he4)
      have HC4 := Lib.hid hci
      have HCD := Lib.hid hcd
      clear he4 hci hcd
      go_wp2_with fail
      refine (GP.out _ HE4.out).mono ?_
      rintro e w5 ⟨gv, rfl, he5, hgi⟩
      obtain ⟨ga, gc, rfl, _⟩ := id hgi
      have HE5 := Lib.hid (HE4.out.trans' he5)
      have HG5 := Lib.hid hgi
      have HX5 := Lib.hid he5
      clear he5 hgi
      go_wp2_with fail
      refine (GR.out _ HE5.out).mono ?_
      rintro e w6 ⟨rv, rfl, he6, hri⟩
      obtain ⟨ra, rc, rfl, _⟩ := id hri
      have HE6 := Lib.hid (HE5.out.trans' he6)
      have HX6 := Lib.hid (HX5.out.trans' he6)
      have HG6 := Lib.hid (HG5.out.ext he6)
      have HR6 := Lib.hid hri
      clear he6 hri
      have HQ := Lib.hid (fun W (hW : Ext w6 W) => equal_int _ _ G G W (HG6.out.ext hW) (HR6.out.ext hW) (by omega) (by omega))
      rw [beq_self_eq_true] at HQ
      go_wp2_with fail
      refine (HQ.out _ (Ext.rf _)).mono ?_
      rintro e w7 ⟨rfl, he7⟩
      have HE7 := Lib.hid (HE6.out.trans' he7)
      have HX7 := Lib.hid (HX6.out.trans' he7)
      clear he7
      go_wp2_with fail
      refine (FT.out _ HE7.out).mono ?_
      rintro e w8 ⟨rfl, he8⟩
      have HE8 := Lib.hid (HE7.out.trans' he8)
      have HX8 := Lib.hid (HX7.out.trans' he8)
      clear he8
      go_wp2_with fail
      refine (RD.out _ HE8.out).mono ?_
      rintro e w9 ⟨dv, rfl, he9, hdi⟩
      obtain ⟨da, dc, rfl, _⟩ := id hdi
      have HE9 := Lib.hid (HE8.out.trans' he9)
      have HX9 := Lib.hid (HX8.out.trans' he9)
      have HDQ := Lib.hid (fun W (hW : Ext w9 W) => equal_int _ _ D D W (((HA4.out.ext HX9.out)).ext hW) (hdi.ext hW) (by omega) (by omega))
      rw [beq_self_eq_true] at HDQ
      clear he9 hdi
      go_wp2_with fail
      refine (HDQ.out _ (Ext.rf _)).mono ?_
      rintro e w10 ⟨rfl, he10⟩
      have HE10 := Lib.hid (HE9.out.trans' he10)
      have HX10 := Lib.hid (HX9.out.trans' he10)
      clear he10
      go_wp2_with fail
      refine (CKS.out _ HE10.out).mono ?_
      rintro e w11 ⟨rfl, he11⟩
      have HE11 := Lib.hid (HE10.out.trans' he11)
      have HX11 := Lib.hid (HX10.out.trans' he11)
      clear he11
      go_wp2_with fail
      refine (RS.out _ HE11.out).mono ?_
      rintro e w12 ⟨rfl, he12⟩
      have HE12 := Lib.hid (HE11.out.trans' he12)
      have HX12 := Lib.hid (HX11.out.trans' he12)
      have hckk : (ck != ck) = false := by simp
      clear he12
      go_wp2_with fail
      refine (HCK2.out _ (HX4.out.trans' HX12.out)).mono ?_
      rintro e w13 ⟨rfl, he13⟩
      have HE13 := Lib.hid (HE12.out.trans' he13)
      have HX13 := Lib.hid (HX12.out.trans' he13)
      clear he13
      rcases HCD.out with ⟨rfl, hcn, hrc⟩ | ⟨rfl, hrc⟩
      case inl =>
        have hcl0 : cl.length = 0 := by rw [hcn]; rfl
        rw [hcl0]
        clear hcl0 hcn
        have HRC := Lib.hid (hrc _ (HX4.out.trans' HX13.out))
        clear hrc
        go_wp2_with fail
        refine HRC.out.mono ?_
        rintro e w14 ⟨zv, rfl, he14, _⟩
        go_wp2
        go_ret
        exact ⟨rfl, HE13.out.trans' he14⟩
      case inr =>
        have HRC := Lib.hid (hrc _ (HX4.out.trans' HX13.out))
        clear hrc
        go_wp2_with fail
        refine HRC.out.mono ?_
        rintro e w14 ⟨zv, rfl, he14, hzi⟩
        obtain ⟨za, zc, rfl, _⟩ := id hzi
        have HE14 := Lib.hid (HE13.out.trans' he14)
        have HCQ := Lib.hid (equal_int _ _ cl cl w14 (HC4.out.ext (HX13.out.trans' he14)) hzi (by omega) (by omega))
        rw [beq_self_eq_true] at HCQ
        clear he14 hzi
        go_wp2_with fail
        refine HCQ.out.mono ?_
        rintro e w15 ⟨rfl, he15⟩
        go_wp2
        go_ret
        exact ⟨rfl, HE14.out.trans' he15⟩
    · have HGN := Lib.hid hgn
      clear hgn
      go_enter Try.func4, Try.ntmps4
      go_wp2_with fail
      refine (AW.out _).mono ?_
      rintro e w1 ⟨rfl, he1⟩
      have HE1 := Lib.hid he1
      clear he1
      go_wp2_with fail
      refine (BG.out _ HE1.out).mono ?_
      rintro e w2 ⟨rfl, he2⟩
      have HE2 := Lib.hid (HE1.out.trans' he2)
      clear he2
      go_wp2_with fail
      refine (DL.out _ HE2.out).mono ?_
      rintro e w3 ⟨⟨av, rfl, he3, hai⟩, hchk⟩
      have HCK2 := Lib.hid (fun W (hW : Ext w3 W) => CK.out W av D (HE2.out.trans' (he3.trans' hW)) (hai.ext hW) (by omega))
      rw [hchk] at HCK2
      obtain ⟨aa, ac, rfl, _⟩ := id hai
      have HE3 := Lib.hid (HE2.out.trans' he3)
      have HA3 := Lib.hid hai
      clear he3 hai hchk
      go_wp2_with fail
      refine (CY.out _ HE3.out).mono ?_
      rintro e w4 ⟨cc, cl, ⟨cv, rfl, he4, hci⟩, hcl, hcd⟩
      obtain ⟨ca, cC, rfl, _⟩ := id hci
      have HE4 := Lib.hid (HE3.out.trans' he4)
      have HX4 := Lib.hid he4
      have HA4 := Lib.hid (HA3.out.ext he4)
      have HC4 := Lib.hid hci
      have HCD := Lib.hid hcd
      clear he4 hci hcd
      go_wp2_with fail
      refine (GP.out _ HE4.out).mono ?_
      rintro e w5 ⟨gv, rfl, he5, hgi⟩
      obtain ⟨ga, gc, rfl, _⟩ := id hgi
      have HE5 := Lib.hid (HE4.out.trans' he5)
      have HG5 := Lib.hid hgi
      have HX5 := Lib.hid he5
      clear he5 hgi
      go_wp2_with fail
      refine (GR.out _ HE5.out).mono ?_
      rintro e w6 ⟨rv, rfl, he6, hri⟩
      obtain ⟨ra, rc, rfl, _⟩ := id hri
      have HE6 := Lib.hid (HE5.out.trans' he6)
      have HX6 := Lib.hid (HX5.out.trans' he6)
      have HG6 := Lib.hid (HG5.out.ext he6)
      have HR6 := Lib.hid hri
      clear he6 hri
      have hg0 : G.length = 0 := by rw [HGN.out]; rfl
      rw [hg0]
      clear hg0
      go_wp2_with fail
      refine (FT.out _ HE6.out).mono ?_
      rintro e w8 ⟨rfl, he8⟩
      have HE8 := Lib.hid (HE6.out.trans' he8)
      have HX8 := Lib.hid (HX6.out.trans' he8)
      clear he8
      go_wp2_with fail
      refine (RD.out _ HE8.out).mono ?_
      rintro e w9 ⟨dv, rfl, he9, hdi⟩
      obtain ⟨da, dc, rfl, _⟩ := id hdi
      have HE9 := Lib.hid (HE8.out.trans' he9)
      have HX9 := Lib.hid (HX8.out.trans' he9)
      have HDQ := Lib.hid (fun W (hW : Ext w9 W) => equal_int _ _ D D W (((HA4.out.ext HX9.out)).ext hW) (hdi.ext hW) (by omega) (by omega))
      rw [beq_self_eq_true] at HDQ
      clear he9 hdi
      go_wp2_with fail
      refine (HDQ.out _ (Ext.rf _)).mono ?_
      rintro e w10 ⟨rfl, he10⟩
      have HE10 := Lib.hid (HE9.out.trans' he10)
      have HX10 := Lib.hid (HX9.out.trans' he10)
      clear he10
      go_wp2_with fail
      refine (CKS.out _ HE10.out).mono ?_
      rintro e w11 ⟨rfl, he11⟩
      have HE11 := Lib.hid (HE10.out.trans' he11)
      have HX11 := Lib.hid (HX10.out.trans' he11)
      clear he11
      go_wp2_with fail
      refine (RS.out _ HE11.out).mono ?_
      rintro e w12 ⟨rfl, he12⟩
      have HE12 := Lib.hid (HE11.out.trans' he12)
      have HX12 := Lib.hid (HX11.out.trans' he12)
      have hckk : (ck != ck) = false := by simp
      clear he12
      go_wp2_with fail
      refine (HCK2.out _ (HX4.out.trans' HX12.out)).mono ?_
      rintro e w13 ⟨rfl, he13⟩
      have HE13 := Lib.hid (HE12.out.trans' he13)
      have HX13 := Lib.hid (HX12.out.trans' he13)
      clear he13
      rcases HCD.out with ⟨rfl, hcn, hrc⟩ | ⟨rfl, hrc⟩
      case inl =>
        have hcl0 : cl.length = 0 := by rw [hcn]; rfl
        rw [hcl0]
        clear hcl0 hcn
        have HRC := Lib.hid (hrc _ (HX4.out.trans' HX13.out))
        clear hrc
        go_wp2_with fail
        refine HRC.out.mono ?_
        rintro e w14 ⟨zv, rfl, he14, _⟩
        go_wp2
        go_ret
        exact ⟨rfl, HE13.out.trans' he14⟩
      case inr =>
        have HRC := Lib.hid (hrc _ (HX4.out.trans' HX13.out))
        clear hrc
        go_wp2_with fail
        refine HRC.out.mono ?_
        rintro e w14 ⟨zv, rfl, he14, hzi⟩
        obtain ⟨za, zc, rfl, _⟩ := id hzi
        have HE14 := Lib.hid (HE13.out.trans' he14)
        have HCQ := Lib.hid (equal_int _ _ cl cl w14 (HC4.out.ext (HX13.out.trans' he14)) hzi (by omega) (by omega))
        rw [beq_self_eq_true] at HCQ
        clear he14 hzi
        go_wp2_with fail
        refine HCQ.out.mono ?_
        rintro e w15 ⟨rfl, he15⟩
        go_wp2
        go_ret
        exact ⟨rfl, HE14.out.trans' he15⟩
  · have DL := Lib.hid (fun (W : World) (hW : Ext w W) => deadlock_bad _ l n W (SL.out.ext rwait_lasts hW) (by omega) hb3 hg)
    have CY := Lib.hid (fun (W : World) (hW : Ext w W) => tcycle_bad _ l n W (SL.out.ext rwait_lasts hW) (by omega) hb3 hg)
    have hck0 : checkB l n st = false := by
      unfold checkB
      rw [beq_eq_false_iff_ne.2 hg]; rfl
    rw [hck0] at CKS
    have hr : (validL l n != 0) = true := by rw [bne_iff_ne]; exact hg
    generalize validL l n = r at *
    clear hu hv hx hy hs h1 b2 b3 hu2 hb3 hck0 SL ST RS CK hg
    generalize l.length = L at *
    generalize st.length = S at *
    generalize refs.length = R at *
    generalize roots.length = T at *
    rcases HGC.out with ⟨rfl, rfl⟩ | ⟨rfl, rfl, hgn⟩
    ·
      go_enter Try.func4, Try.ntmps4
      go_wp2_with fail
      refine (AW.out _).mono ?_
      rintro e w1 ⟨rfl, he1⟩
      have HE1 := Lib.hid he1
      clear he1
      go_wp2_with fail
      refine (BG.out _ HE1.out).mono ?_
      rintro e w2 ⟨rfl, he2⟩
      have HE2 := Lib.hid (HE1.out.trans' he2)
      clear he2
      go_wp2_with fail
      refine (DL.out _ HE2.out).mono ?_
      rintro e w3 ⟨rfl, he3⟩
      have HE3 := Lib.hid (HE2.out.trans' he3)
      clear he3
      go_wp2_with fail
      refine (CY.out _ HE3.out).mono ?_
      rintro e w4 ⟨rfl, he4⟩
      have HE4 := Lib.hid (HE3.out.trans' he4)
      clear he4
      go_wp2_with fail
      refine (GP.out _ HE4.out).mono ?_
      rintro e w5 ⟨gv, rfl, he5, hgi⟩
      obtain ⟨ga, gc, rfl, _⟩ := id hgi
      have HE5 := Lib.hid (HE4.out.trans' he5)
      have HG5 := Lib.hid hgi
      have HX5 := Lib.hid he5
      clear he5 hgi
      go_wp2_with fail
      refine (GR.out _ HE5.out).mono ?_
      rintro e w6 ⟨rv, rfl, he6, hri⟩
      obtain ⟨ra, rc, rfl, _⟩ := id hri
      have HE6 := Lib.hid (HE5.out.trans' he6)
      have HX6 := Lib.hid (HX5.out.trans' he6)
      have HG6 := Lib.hid (HG5.out.ext he6)
      have HR6 := Lib.hid hri
      clear he6 hri
      have HQ := Lib.hid (fun W (hW : Ext w6 W) => equal_int _ _ G G W (HG6.out.ext hW) (HR6.out.ext hW) (by omega) (by omega))
      rw [beq_self_eq_true] at HQ
      go_wp2_with fail
      refine (HQ.out _ (Ext.rf _)).mono ?_
      rintro e w7 ⟨rfl, he7⟩
      have HE7 := Lib.hid (HE6.out.trans' he7)
      have HX7 := Lib.hid (HX6.out.trans' he7)
      clear he7
      go_wp2_with fail
      refine (FT.out _ HE7.out).mono ?_
      rintro e w8 ⟨rfl, he8⟩
      have HE8 := Lib.hid (HE7.out.trans' he8)
      have HX8 := Lib.hid (HX7.out.trans' he8)
      clear he8
      have hrr : (r == r) = true := by simp
      go_wp2_with fail
      refine (CKS.out _ HE8.out).mono ?_
      rintro e w9 ⟨rfl, he9⟩
      go_wp2
      go_ret
      exact ⟨rfl, HE8.out.trans' he9⟩
    · have HGN := Lib.hid hgn
      clear hgn
      go_enter Try.func4, Try.ntmps4
      go_wp2_with fail
      refine (AW.out _).mono ?_
      rintro e w1 ⟨rfl, he1⟩
      have HE1 := Lib.hid he1
      clear he1
      go_wp2_with fail
      refine (BG.out _ HE1.out).mono ?_
      rintro e w2 ⟨rfl, he2⟩
      have HE2 := Lib.hid (HE1.out.trans' he2)
      clear he2
      go_wp2_with fail
      refine (DL.out _ HE2.out).mono ?_
      rintro e w3 ⟨rfl, he3⟩
      have HE3 := Lib.hid (HE2.out.trans' he3)
      clear he3
      go_wp2_with fail
      refine (CY.out _ HE3.out).mono ?_
      rintro e w4 ⟨rfl, he4⟩
      have HE4 := Lib.hid (HE3.out.trans' he4)
      clear he4
      go_wp2_with fail
      refine (GP.out _ HE4.out).mono ?_
      rintro e w5 ⟨gv, rfl, he5, hgi⟩
      obtain ⟨ga, gc, rfl, _⟩ := id hgi
      have HE5 := Lib.hid (HE4.out.trans' he5)
      have HG5 := Lib.hid hgi
      have HX5 := Lib.hid he5
      clear he5 hgi
      go_wp2_with fail
      refine (GR.out _ HE5.out).mono ?_
      rintro e w6 ⟨rv, rfl, he6, hri⟩
      obtain ⟨ra, rc, rfl, _⟩ := id hri
      have HE6 := Lib.hid (HE5.out.trans' he6)
      have HX6 := Lib.hid (HX5.out.trans' he6)
      have HG6 := Lib.hid (HG5.out.ext he6)
      have HR6 := Lib.hid hri
      clear he6 hri
      have hg0 : G.length = 0 := by rw [HGN.out]; rfl
      rw [hg0]
      clear hg0
      go_wp2_with fail
      refine (FT.out _ HE6.out).mono ?_
      rintro e w8 ⟨rfl, he8⟩
      have HE8 := Lib.hid (HE6.out.trans' he8)
      have HX8 := Lib.hid (HX6.out.trans' he8)
      clear he8
      have hrr : (r == r) = true := by simp
      go_wp2_with fail
      refine (CKS.out _ HE8.out).mono ?_
      rintro e w9 ⟨rfl, he9⟩
      go_wp2
      go_ret
      exact ⟨rfl, HE8.out.trans' he9⟩

end Go.Proofs.Ytodkcfebcjgahaa
