/-
  The reference's Record, whole, Crash.
-/
import Derived.Test.YtggofkaakccoeaaBase
import Derived.Test.YtggofkaakccoeaaProg
import Derived.BigQuiet
import Derived.Deep.QuietTactic
import Derived.Deep.LoopGhost
import Derived.Shelf.Abstract
import Derived.Test.YtggofkaakccoeaaReadW52
import Derived.Test.YtggofkaakccoeaaJourB52
namespace Go.Proofs.Ytggofkaakccoeaa
open Go.RowKit
set_option linter.unusedVariables false

set_option maxHeartbeats 2000000 in
theorem refRecord_calls (v : Value) (l : List Int) (w : World) (hv : Bys w v l) (hn : l.length ≤ 200000) :
    Calls Try.prog 36 #[v] w fun e w' => ∃ v', e = .returned v' ∧ Row w' w.heap.size 5 1 v' (l.length + 8) ((recL l).map (Value.int .u8)) ∧ Ext w w' := by
  obtain ⟨i, hi, hz0, hz1, hz2⟩ := info_parts info_byte
  have hby := hv.1
  obtain ⟨a, c, hve⟩ : ∃ a c, v = .slice a l.length c := by obtain ⟨_, a, c, h, _⟩ := hv; exact ⟨a, c, h⟩
  subst hve
  have HV := Lib.hid hv; clear hv
  have HBY := Lib.hid hby; clear hby
  generalize hln : l.length = n at *
  have HL := Lib.hid hln; clear hln
  go_enter Try.func36, Try.ntmps36
  go_wp2_with fail
  refine (word_calls n 4 _ (by omega) (by omega) (by omega)).mono ?_
  rintro e w1 ⟨v1, rfl, hR1, hE1⟩
  have HR1 := Lib.hid hR1; clear hR1
  have HE1 := Lib.hid hE1; clear hE1
  go_wp2_with ((at_builtin; refine wpList_append_row (o := ⟨some 8, _, _, _, _, _⟩) rfl _ _ 22 rfl w.heap.size 5 i (.int .u8 0) 1 1 Try.underlying22 hi hz0 hz1 hz2 rfl (by decide) v1 4 _ rfl HR1.out a n c (l.map (Value.int .u8)) rfl (by simp [HL.out]) ((HV.out.ext HE1.out).news) (byte_one l) (by unfold maxLen; omega) (by omega) (by have := HE1.out.sz; omega) ?_; intro v2 w2 hR2 hG2 hK2; have HR2 := Lib.hid hR2; have HG2 := Lib.hid (show w1.grownBy w2 v1.ownBlock from hG2); clear hR2 hG2 hK2))
  have hR2' : Row w2 w.heap.size 5 1 v2 (wordL n 4 ++ l).length ((wordL n 4 ++ l).map (Value.int .u8)) := by
    rw [List.length_append, word_len, HL.out, List.map_append]
    exact HR2.out
  have hE2 : Ext w w2 := HE1.out.gr HG2.out (fun k hk => (HR1.out.lt k hk).1)
  have hbl : ∀ x, x ∈ wordL n 4 ++ l → Byte x := by
    intro x hx
    rcases List.mem_append.1 hx with hx | hx
    · exact word_byte _ _ x hx
    · exact HBY.out x hx
  have hlen : (wordL n 4 ++ l).length = n + 4 := by rw [List.length_append, word_len, HL.out]; omega
  have hB2 := hR2'.bys hbl
  have hs := sum_range (wordL n 4 ++ l)
  rw [hlen] at hR2'
  have HR2' := Lib.hid hR2'
  have HE2 := Lib.hid hE2
  have HB2 := Lib.hid hB2
  have HLEN := Lib.hid hlen
  clear hR2' hE2 hbl hlen hB2 HR1 HE1
  obtain ⟨s, hsum⟩ : ∃ s, sumL (wordL n 4 ++ l) = s := ⟨_, rfl⟩
  rw [hsum] at hs
  have HS := Lib.hid hsum; clear hsum
  go_wp2_with fail
  refine (refSum_calls _ _ _ HB2.out (by rw [HLEN.out]; omega)).mono ?_
  rw [HS.out]
  rintro e w3 ⟨rfl, rfl⟩
  go_wp2_with fail
  refine (word_calls s 4 _ (by omega) (by omega) (by omega)).mono ?_
  rintro e w4 ⟨v4, rfl, hR4, hE4⟩
  obtain ⟨xa, xc, rfl, _, hsh⟩ := hR4.any
  have hb4 := hR4.bys (word_byte s 4)
  have HB4 := Lib.hid hb4
  have HE4 := Lib.hid hE4
  clear hsh hb4 hR4 hE4
  go_wp2_with ((at_builtin; refine wpList_append_row (o := ⟨some 13, _, _, _, _, _⟩) rfl _ _ 22 rfl w.heap.size 5 i (.int .u8 0) 1 1 Try.underlying22 hi hz0 hz1 hz2 rfl (by decide) v2 (n + 4) _ rfl (HR2'.out.ext HE4.out) xa 4 xc ((wordL s 4).map (Value.int .u8)) rfl (by simp [word_len]) HB4.out.news (byte_one _) (by unfold maxLen; omega) (by omega) (by have := HE4.out.sz; have := HE2.out.sz; omega) ?_; intro v5 w5 hR5 hG5 hK5; have HR5 := Lib.hid hR5; have HG5 := Lib.hid (show w4.grownBy w5 v2.ownBlock from hG5); clear hR5 hG5 hK5))
  go_ret
  refine ⟨_, rfl, ?_, (HE2.out.trans' HE4.out).gr HG5.out (fun k hk => (HR2'.out.lt k hk).1)⟩
  unfold recL
  rw [HL.out, HS.out, List.map_append]
  exact HR5.out

set_option maxHeartbeats 4000000 in
theorem whole_calls (v : Value) (l : List Int) (d f : Int) (w : World) (hv : Bys w v l) (hn : l.length ≤ 1000000) :
    Calls Try.prog 48 #[.agg #[v, .int .i64 d, .int .i64 f]] w fun e w' => e = .returned (.int .i64 (wholeR (recordsL l))) ∧ Ext w w' := by
  have hW := whole_le' l hv.1
  have HV := Lib.hid hv
  have HN := Lib.hid hn
  have HRB := Lib.hid (records_byte l.length l (Nat.le_refl _) hv.1)
  have hRL := wholeR_len (recordsL l)
  obtain ⟨_, a, c, rfl, _, hvc⟩ := hv
  clear hvc
  generalize hln : l.length = n at *
  have HL := Lib.hid hln; clear hln
  generalize hR : recordsL l = R at *
  have HR := Lib.hid hR
  generalize hq : R.length = q at *
  have HQ := Lib.hid hq
  generalize hT : wholeR R = T at *
  have HT := Lib.hid hT
  clear hR hq hT
  go_enter Try.func48, Try.ntmps48
  go_wp2_with fail
  refine (read_calls _ l _ _ _ (HV.out.ext ((Ext.rf _).al _)) (by rw [HL.out]; exact HN.out)).mono ?_
  rintro e w1 ⟨v1, rfl, hRR, hE1⟩
  rw [HR.out] at hRR
  have hS := hRR.sl (fun r hr => (HRB.out r hr).1)
  have HE := Lib.hid (((Ext.rf w).al _).trans' hE1)
  obtain ⟨ra, rc, rfl, _, hsl⟩ := hS
  rw [HQ.out]
  have HS := Lib.hid hsl
  clear hRR hE1 hsl
  go_wp2
  go_loopg [3, 5] q (fun m s3 s5 wr => ∃ k : Nat, k ≤ q ∧ q - k ≤ m ∧ s5 = .int .i64 k ∧ s3 = .int .i64 (wholeR (R.take k)) ∧ wr = w1)
  case atStart => exact ⟨0, Nat.zero_le _, by omega, rfl, by simp [wholeR], rfl⟩
  case round =>
    obtain ⟨k, hk, hm, rfl, rfl, rfl⟩ := hrel
    by_cases hlt : k < q
    · have hltz : (k : Int) < (q : Int) := by omega
      obtain ⟨b, off, rfl, hb, hc⟩ := HS.out (by intro e; have := HQ.out; simp [e] at this; omega)
      obtain ⟨vs, hvl, ⟨x, rfl, hx⟩, hcx⟩ := hc k (by rw [HQ.out]; exact hlt)
      have hcell := hcx 0 (by omega)
      obtain ⟨xa, xc, rfl⟩ : ∃ xa xc, x = .slice xa R[k]!.length xc := by obtain ⟨_, xa, xc, h, _⟩ := hx; exact ⟨xa, xc, h⟩
      rw [Nat.mul_one, Nat.add_zero] at hcell
      have hcell' : wr.cell? ⟨b, off + k, none⟩ = some (.slice xa R[k]!.length xc) := hcell
      have hsucc := wholeR_take_succ R k (by rw [HQ.out]; exact hlt)
      have hle := wholeR_take_le R (k + 1)
      rw [HT.out] at hle
      clear hcell hc hcx hx
      generalize R[k]!.length = y at *
      generalize wholeR (R.take k) = s at *
      have hz : ((wholeR (R.take (k + 1)) : Nat) : Int) = (s : Int) + 8 + (y : Int) := by omega
      have HZ := Lib.hid hz
      have hz' : (s : Int) + ((y : Int) + 8) ≤ T := by omega
      clear hz hsucc hle
      go_wp2
      go_roundg (q - (k + 1))
      case measure => omega
      case rel => exact ⟨k + 1, by omega, by omega, by go_num, by rw [HZ.out], rfl⟩
    · have hltz : ¬ (k : Int) < (q : Int) := by omega
      obtain rfl : k = q := by omega
      have hTk : wholeR (R.take k) = T := by rw [List.take_of_length_le (by rw [HQ.out]; omega)]; exact HT.out
      rw [hTk]
      clear hTk
      go_wp2
      go_ret
      exact ⟨rfl, HE.out⟩

end Go.Proofs.Ytggofkaakccoeaa
