/-
  The reference's Lengths, and a copy by them.
-/
import Derived.Test.YtfcpnggdpaeldaaGa
import Derived.Test.YtfcpnggdpaeldaaProg
import Derived.BigQuiet
import Derived.Deep.QuietTactic
import Derived.Deep.LoopGhost
import Derived.Shelf.Abstract
import Derived.Test.YtfcpnggdpaeldaaWrA
import Derived.Test.YtfcpnggdpaeldaaGo
namespace Go.Proofs.Ytfcpnggdpaeldaa
open Go.RowKit
set_option linter.unusedVariables false
attribute [local go_sem ↓] Go.wp_at_zero Go.wp_at_succ

def len12To (t : Tr) (p : Nat) : List Int := (List.range p).map fun (q : Nat) => (t[q]!.events.length : Int)
def len12C (t : Tr) : List Int := len12To t t.length
theorem len12To_succ (t : Tr) (p : Nat) : len12To t (p + 1) = len12To t p ++ [(t[p]!.events.length : Int)] := by
  unfold len12To; rw [List.range_succ, List.map_append]; rfl
theorem len12To_len (t : Tr) (p : Nat) : (len12To t p).length = p := by simp [len12To]
set_option maxHeartbeats 8000000 in
set_option maxRecDepth 100000 in
theorem lengths12_calls (v : Value) (t : Tr) (w : World) (h : TrAt w v t) (hs : SmallTr t) :
    Calls Try.prog 63 #[.agg #[v]] w fun e w' => ∃ v, e = .returned v ∧ Row w' w.heap.size 3 1 v (len12C t).length ((len12C t).map (Value.int .i64)) ∧ Ext w w' := by
  have HT := Lib.hid h
  have HS := Lib.hid hs
  obtain ⟨ii, hii, iz0, iz1, iz2⟩ := info_parts info_int3
  obtain ⟨ta, tc, rfl, htc⟩ := h.sh
  have hn1 := hs.1
  have HO : Hid (len12C t = len12To t t.length) := Lib.hid rfl
  rw [HO.out]
  generalize hln : t.length = n at *
  have HL := Lib.hid hln
  have HX0 := Lib.hid (heap_alloc_new w (.cells #[.slice ta n tc] 24))
  have HE1 := Lib.hid ((Ext.rf w).al (.cells #[.slice ta n tc] 24))
  clear h hs hln
  go_enter Try.func63, Try.ntmps63
  go_wp2
  generalize hw2 : w.alloc (.cells #[.slice ta n tc] 24) = w2 at *
  clear hw2
  go_loopg [3, 4] n (fun g s3 s4 wr => ∃ p : Nat, p ≤ n ∧ n - p ≤ g ∧ s4 = .int .i64 p ∧ Aside (Row wr w2.heap.size 3 1 s3 p ((len12To t p).map (Value.int .i64))) ∧ Aside (Ext w2 wr))
  case atStart => exact ⟨0, Nat.zero_le _, by omega, rfl, (show Row _ _ _ _ _ _ _ from Row.mkNil _ _ _ _), Ext.rf _⟩
  case round =>
    obtain ⟨p, hp, hg, rfl, HR, HEK⟩ := hrel
    have HEW := Lib.hid (HE1.out.trans' HEK.out)
    have HY0 := Lib.hid (HEK.out.hp HX0.out)
    have t0 := cellOf HY0.out 0
    simp only [List.getElem?_toArray, List.getElem?_cons_zero] at t0
    by_cases hlt : p < n
    · have hltz : (p : Int) < (n : Int) := by omega
      have hpz : (0 : Int) ≤ (p : Int) := by omega
      obtain ⟨B, O, C, vv, ve, hve, hlC, hB, hn0, hv0, he0, hV, hE0⟩ := proc_at HT.out p (by rw [HL.out]; exact hlt)
      simp only [Value.slice.injEq] at hve
      obtain ⟨rfl, hzz, rfl⟩ := hve
      obtain ⟨ea, ec, rfl, hec⟩ := hE0.sh
      have he1 := HEW.out.cl he0
      have hen := (HS.out.2 p (by rw [HL.out]; exact hlt)).2.1
      have HLS := Lib.hid (len12To_succ t p)
      generalize hne : t[p]!.events.length = ne at *
      have hsz := HEK.out.sz
      clear hn0 hv0 hV hE0 hzz hne he0
      go_wp2_with ((at_builtin; go_loud (refine wpList_append_one rfl _ _ 30 rfl w2.heap.size 3 ii (.int .i64 0) 1 8 Try.underlying30 hii iz0 iz1 iz2 rfl (by decide) _ p _ rfl (HR.out.al _) wr.heap.size 1 [.int .i64 (ne : Int)] rfl rfl ⟨_, heap_alloc_new _ _⟩ (by simp [Value.oneCell']) (by unfold maxLen; omega) (by omega) (by simp; omega) ?_; intro v8 w8 hown8 hgrow8 hblk8; have HOWN := Lib.hid hown8; have HX8 := Lib.hid ((HEK.out.al _).gr hgrow8 (fun q hq => (HR.out.lt q hq).1)); clear hown8 hgrow8 hblk8)))
      go_roundg (n - (p + 1))
      case measure => omega
      case rel => exact ⟨p + 1, by omega, by omega, by go_num, (show Row _ _ _ _ _ _ _ from by rw [HLS.out, List.map_append]; exact HOWN.out), (show Ext _ _ from HX8.out)⟩
    · have hltz : ¬ (p : Int) < (n : Int) := by omega
      obtain rfl : n = p := by omega
      go_wp2
      go_ret
      exact ⟨_, rfl, by rw [len12To_len]; exact HR.out.mono HE1.out.sz, HEW.out⟩

theorem len12C_at {t : Tr} {p : Nat} (h : p < t.length) : (len12C t)[p]! = (t[p]!.events.length : Int) := by
  rw [getElem!_pos _ p (by unfold len12C; rw [len12To_len]; exact h)]
  simp [len12C, len12To]
theorem pref_len12 (t : Tr) : prefT t (len12C t) = t := by
  refine List.ext_getElem prefT_len fun p h1 h2 => ?_
  have h := prefT_at (t := t) (c := len12C t) h2
  rw [getElem!_pos _ p h1] at h
  rw [h, len12C_at h2, getElem!_pos t p h2]
  show ({ t[p] with events := t[p].events.take _ } : Pr) = t[p]
  rw [Int.toNat_natCast, List.take_length]
theorem range_len12 (t : Tr) : RangeC t (len12C t) := by
  refine ⟨by unfold len12C; rw [len12To_len], rangeB_iff.2 fun p hp => ?_⟩
  have h2 : p < t.length := by unfold len12C at hp; rw [len12To_len] at hp; exact hp
  rw [len12C_at h2]
  omega

end Go.Proofs.Ytfcpnggdpaeldaa
