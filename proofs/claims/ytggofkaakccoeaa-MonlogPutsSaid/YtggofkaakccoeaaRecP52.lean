import Derived.Test.YtggofkaakccoeaaBase
import Derived.Test.YtggofkaakccoeaaProg
import Derived.Test.YtggofkaakccoeaaVal52
import Derived.Test.YtggofkaakccoeaaCkH
import Derived.Test.YtggofkaakccoeaaParL52
import Derived.Test.YtggofkaakccoeaaRecW52
import Derived.Test.YtggofkaakccoeaaBoxes52
import Derived.Test.YtggofkaakccoeaaJourA52
import Derived.BigQuiet
import Derived.Deep.QuietTactic
import Derived.Deep.LoopGhost
import Derived.Shelf.Abstract
/-
  Stamps out of records, of both texts.
-/
namespace Go.Proofs.Ytggofkaakccoeaa
open Go.RowKit
set_option linter.unusedVariables false

theorem satTo_range (l : List Int) (hl : ∀ x, x ∈ l → Byte x) (k : Nat) : 0 ≤ satL (l.take k) ∧ satL (l.take k) ≤ 1125899906842625 := by
  obtain ⟨h0, h | h⟩ := sat_rel (l.take k) (fun x hx => hl x (List.mem_of_mem_take hx)) <;> omega
theorem sat_snoc (l : List Int) (k : Nat) (hk : k < l.length) : satL (l.take (k + 1)) = satStep (satL (l.take k)) l[k]! := foldl_snoc satStep 0 l k hk

set_option maxHeartbeats 1000000 in
theorem refNumberS_calls (v : Value) (l : List Int) (w : World) (hv : Bys w v l) (hn : l.length ≤ 1000000) :
    Calls Try.prog 45 #[v] w fun e w' => e = .returned (.int .i64 (satL l)) ∧ w' = w := by
  obtain ⟨hby, a, c, rfl, hlc, hv⟩ := hv
  have HB := Lib.hid hby; clear hby
  have HV := Lib.hid hv; clear hv
  generalize hln : l.length = n at hn hlc
  have HL := Lib.hid hln; clear hln
  clear hlc
  go_enter Try.func45, Try.ntmps45
  go_wp2
  go_loopg [3, 4] n (fun g s3 s4 wr => ∃ k : Nat, k ≤ n ∧ n - k ≤ g ∧ s4 = .int .i64 k ∧ s3 = .int .i64 (satL (l.take k)) ∧ wr = w)
  case atStart => exact ⟨0, Nat.zero_le _, by omega, rfl, rfl, rfl⟩
  case round =>
    obtain ⟨k, hk, hg, rfl, rfl, rfl⟩ := hrel
    by_cases hlt : k < n
    · have hltz : (k : Int) < (n : Int) := by omega
      obtain ⟨b, off, rfl, hb, hc⟩ := HV.out (by intro e; have := HL.out; simp [e] at this; omega)
      have hcell : wr.cell? ⟨b, off + k, none⟩ = some (.int .u8 l[k]!) := hc k (by rw [HL.out]; exact hlt)
      obtain ⟨x0, x1⟩ := HB.out _ (mem_at l k (by rw [HL.out]; exact hlt))
      obtain ⟨r0, r1⟩ := satTo_range l HB.out k
      have ST := Lib.hid (sat_snoc l k (by rw [HL.out]; exact hlt))
      clear hc HV
      generalize l[k]! = x at *
      generalize satL (l.take k) = s at *
      by_cases hgt : 1125899906842624 < s * 256 + x
      · go_wp2
        go_roundg (n - (k + 1))
        case measure => omega
        case rel =>
          refine ⟨k + 1, by omega, by omega, by go_num, ?_, rfl⟩
          rw [ST.out, satStep, if_pos (by omega)]
      · go_wp2
        go_roundg (n - (k + 1))
        case measure => omega
        case rel =>
          refine ⟨k + 1, by omega, by omega, by go_num, ?_, rfl⟩
          rw [ST.out, satStep, if_neg (by omega)]
    · have hltz : ¬ (k : Int) < (n : Int) := by omega
      obtain rfl : k = n := by omega
      have hs : l.take k = l := List.take_of_length_le (by rw [HL.out]; omega)
      rw [hs]
      go_wp2
      go_ret
      exact ⟨rfl, rfl⟩

/-- A stamp that has been read out of a record. -/
def ParOut (w w' : World) (e : Ending) (p : Int) (l : List Int) : Prop :=
  ∃ v', e = .returned (.tuple #[.int .i64 p, v', .bool true]) ∧ Row w' w.heap.size 3 1 v' l.length (l.map (Value.int .i64)) ∧ Ext w w'

set_option maxHeartbeats 2000000 in
theorem stampQ_no (v : Value) (b : List Int) (w : World) (hv : Bys w v b) (hn : b.length ≤ 1000000) (hok : okR b = false) :
    Calls Try.prog 57 #[v] w fun e w' => e = .returned (.tuple #[.int .i64 0, .slice none 0 0, .bool false]) ∧ Ext w w' := by
  obtain ⟨hby, a, c, rfl, hlc, hv⟩ := hv
  generalize hm : b.length = m at *
  by_cases h2 : m < 2
  · have b1 : decide ((m : Int) < 2) = true := by simp; omega
    have b1n : decide (m < 2) = true := by simp; omega
    clear hv hby hok hm
    go_enter Try.func57, Try.ntmps57
    go_wp2
    go_ret3
    exact ⟨rfl, Ext.rf _⟩
  · have b1 : decide ((m : Int) < 2) = false := by simp; omega
    have b1n : decide (m < 2) = false := by simp; omega
    have hne : (m : Int) ≠ 2 + 8 * b[1]! := by
      intro e
      unfold okR at hok
      rw [hm, decide_eq_true (by omega), decide_eq_true e] at hok
      simp at hok
    obtain ⟨bb, off, rfl, hb, hc⟩ := hv (by intro e; rw [e] at hm; simp at hm; omega)
    have hcell := hc 1 (by omega)
    obtain ⟨x0, x1⟩ := hby _ (mem_at b 1 (by omega))
    have h1m : (1 : Int) < (m : Int) := by omega
    have h1mn : 1 < m := by omega
    clear hc hv hby hok hm
    generalize b[1]! = x at *
    have b3 : ((m : Int) != 2 + 8 * x) = true := by simpa using hne
    clear hne
    go_enter Try.func57, Try.ntmps57
    go_wp2
    go_ret3
    exact ⟨rfl, Ext.rf _⟩

set_option maxHeartbeats 2000000 in
theorem parseQ_no (v : Value) (b : List Int) (w : World) (hv : Bys w v b) (hn : b.length ≤ 1000000) (hok : okR b = false) :
    Calls Try.prog 60 #[v] w fun e w' => e = .returned (.tuple #[.int .i64 0, .slice none 0 0, .bool false]) ∧ Ext w w' := by
  obtain ⟨hby, a, c, rfl, hlc, hv⟩ := hv
  generalize hm : b.length = m at *
  by_cases h2 : m < 2
  · have b1 : decide ((m : Int) < 2) = true := by simp; omega
    have b1n : decide (m < 2) = true := by simp; omega
    clear hv hby hok hm
    go_enter Try.func60, Try.ntmps60
    go_wp2
    go_ret3
    exact ⟨rfl, Ext.rf _⟩
  · have b1 : decide ((m : Int) < 2) = false := by simp; omega
    have b1n : decide (m < 2) = false := by simp; omega
    have hne : (m : Int) ≠ 2 + 8 * b[1]! := by
      intro e
      unfold okR at hok
      rw [hm, decide_eq_true (by omega), decide_eq_true e] at hok
      simp at hok
    obtain ⟨bb, off, rfl, hb, hc⟩ := hv (by intro e; rw [e] at hm; simp at hm; omega)
    have hcell := hc 1 (by omega)
    obtain ⟨x0, x1⟩ := hby _ (mem_at b 1 (by omega))
    have h1m : (1 : Int) < (m : Int) := by omega
    have h1mn : 1 < m := by omega
    clear hc hv hby hok hm
    generalize b[1]! = x at *
    have b3 : ((m : Int) != 2 + 8 * x) = true := by simpa using hne
    clear hne
    go_enter Try.func60, Try.ntmps60
    go_wp2
    go_ret3
    exact ⟨rfl, Ext.rf _⟩

theorem vecP_snoc (b : List Int) (k : Nat) (hk : k < cntR b) : (vecP b).take (k + 1) = (vecP b).take k ++ [wrap64 (valL (partR b k))] := by
  rw [take_snoc' _ k (by rw [vecP_len]; exact hk), getElem!_pos _ k (by rw [vecP_len]; exact hk)]
  simp [vecP]
theorem vecR_snoc (b : List Int) (k : Nat) (hk : k < cntR b) : (vecR b).take (k + 1) = (vecR b).take k ++ [satL (partR b k)] := by
  rw [take_snoc' _ k (by rw [vecR_len]; exact hk), getElem!_pos _ k (by rw [vecR_len]; exact hk)]
  simp [vecR]


set_option maxHeartbeats 4000000 in
set_option maxRecDepth 100000 in
theorem stampQ_yes (v : Value) (b : List Int) (w : World) (hv : Bys w v b) (hn : b.length ≤ 1000000) (hok : okR b = true) :
    Calls Try.prog 57 #[v] w fun e w' => ParOut w w' e b[0]! (vecP b) := by
  obtain ⟨ii, hii, ij0, ij1, ij2⟩ := info_parts info_ints
  have HV := Lib.hid hv
  obtain ⟨h2, hlen, hcnt, h255⟩ := okR_parts hok hv.1
  obtain ⟨hby, a, c, rfl, hlc, hx⟩ := hv
  obtain ⟨bb, off, rfl, hb, hc⟩ := hx (by intro e; rw [e] at h2; simp at h2)
  have hc0 := hc 0 (by omega)
  have hc1 := hc 1 (by omega)
  obtain ⟨x0, x1⟩ := hby _ (mem_at b 0 (by omega))
  rw [Nat.add_zero] at hc0
  rw [← hcnt] at hc1
  have HBY := Lib.hid hby
  have HVS := Lib.hid (vecP_snoc b)
  have HVL := Lib.hid (vecP_len b)
  clear hc hx hok hby hcnt
  generalize hq : cntR b = q at *
  have HQ := Lib.hid hq
  rw [hlen] at HV hlc
  clear hq h2 hn
  have HLEN := Lib.hid hlen
  rw [hlen]
  clear hlen
  generalize b[0]! = p0 at *
  go_enter Try.func57, Try.ntmps57
  go_wp2
  go_loopg [3, 5, 24] q (fun g s3 _ s24 wr => ∃ k : Nat, k ≤ q ∧ q - k ≤ g ∧ s24 = .int .i64 k ∧ Aside (Row wr w.heap.size 3 1 s3 k (((vecP b).take k).map (Value.int .i64))) ∧ Aside (Ext w wr))
  case atStart => exact ⟨0, Nat.zero_le _, by omega, rfl, Row.mkNil _ _ _ _, Ext.rf _⟩
  case round =>
    obtain ⟨k, hk, hg, rfl, HR, HE⟩ := hrel
    obtain ⟨ra, rc, rfl, hrc, hsh⟩ := HR.out.any
    clear hsh
    by_cases hlt : k < q
    · have hltz : (k : Int) < (q : Int) := by omega
      have hkz : (0 : Int) ≤ (k : Int) := by omega
      have hpt := ((HV.out.ext HE.out).drop (2 + 8 * k) (by rw [HLEN.out]; omega)).take 8 (by rw [List.length_drop, HLEN.out]; omega)
      have HPT := Lib.hid (show Bys wr _ (partR b k) from hpt)
      have HSN := Lib.hid (HVS.out k hlt)
      clear hpt
      go_wp2_with fail
      rw [show (10 + 8 * k - (2 + 8 * k) : Nat) = 8 from by omega]
      refine (value_calls _ (partR b k) wr HPT.out (part_len b k)).mono ?_
      rintro e w2 ⟨rfl, rfl⟩
      generalize valL (partR b k) = x at *
      go_wp2_with ((at_builtin; go_loud (refine wpList_append_one rfl _ _ 38 rfl w.heap.size 3 ii (.int .i64 0) 1 8 Try.underlying38 hii ij0 ij1 ij2 rfl (by decide) _ k _ rfl (HR.out.al _) w2.heap.size 1 [.int .i64 (wrap64 x)] rfl rfl ⟨_, heap_alloc_new _ _⟩ (by simp [Value.oneCell']) (by unfold maxLen; omega) (by omega) (by have := HE.out.sz; simp; omega) ?_; intro v5 w5 hown5 hgrow5 hblk5; have HP5 := Lib.hid hown5; have HE5 := Lib.hid ((HE.out.al (.cells #[.int .i64 (wrap64 x)] 3)).gr hgrow5 (fun kk hkk => (HR.out.lt kk hkk).1)); clear hown5 hgrow5 hblk5)))
      go_roundg (q - (k + 1))
      case measure => omega
      case rel => exact ⟨k + 1, by omega, by omega, by go_num, (show Row _ _ _ _ _ _ _ from by rw [HSN.out, List.map_append]; exact HP5.out), (show Ext _ _ from HE5.out)⟩
    · have hltz : ¬ (k : Int) < (q : Int) := by omega
      obtain rfl : q = k := by omega
      have hr := HR.out
      rw [List.take_of_length_le (by rw [HVL.out]; omega)] at hr
      have HRQ := Lib.hid hr
      have hc0' := HE.out.cl hc0
      clear hr
      go_wp2
      go_ret3
      exact ⟨_, rfl, by rw [HVL.out]; exact HRQ.out, HE.out⟩

set_option maxHeartbeats 4000000 in
set_option maxRecDepth 100000 in
theorem parseQ_yes (v : Value) (b : List Int) (w : World) (hv : Bys w v b) (hn : b.length ≤ 1000000) (hok : okR b = true) :
    Calls Try.prog 60 #[v] w fun e w' => ParOut w w' e b[0]! (vecR b) := by
  obtain ⟨ii, hii, ij0, ij1, ij2⟩ := info_parts info_ints
  have HV := Lib.hid hv
  obtain ⟨h2, hlen, hcnt, h255⟩ := okR_parts hok hv.1
  obtain ⟨hby, a, c, rfl, hlc, hx⟩ := hv
  obtain ⟨bb, off, rfl, hb, hc⟩ := hx (by intro e; rw [e] at h2; simp at h2)
  have hc0 := hc 0 (by omega)
  have hc1 := hc 1 (by omega)
  obtain ⟨x0, x1⟩ := hby _ (mem_at b 0 (by omega))
  rw [Nat.add_zero] at hc0
  rw [← hcnt] at hc1
  have HBY := Lib.hid hby
  have HVS := Lib.hid (vecR_snoc b)
  have HVL := Lib.hid (vecR_len b)
  clear hc hx hok hby hcnt
  generalize hq : cntR b = q at *
  have HQ := Lib.hid hq
  rw [hlen] at HV hlc
  clear hq h2 hn
  have HLEN := Lib.hid hlen
  rw [hlen]
  clear hlen
  generalize b[0]! = p0 at *
  go_enter Try.func60, Try.ntmps60
  go_wp2
  go_loopg [5, 6] q (fun g s5 s6 wr => ∃ k : Nat, k ≤ q ∧ q - k ≤ g ∧ s6 = .int .i64 (2 + 8 * (k : Int)) ∧ Aside (Row wr w.heap.size 3 1 s5 k (((vecR b).take k).map (Value.int .i64))) ∧ Aside (Ext w wr))
  case atStart => exact ⟨0, Nat.zero_le _, by omega, rfl, Row.mkNil _ _ _ _, Ext.rf _⟩
  case round =>
    obtain ⟨k, hk, hg, rfl, HR, HE⟩ := hrel
    obtain ⟨ra, rc, rfl, hrc, hsh⟩ := HR.out.any
    clear hsh
    by_cases hlt : k < q
    · have hltz : (2 : Int) + 8 * (k : Int) < 2 + 8 * (q : Int) := by omega
      have hkz : (0 : Int) ≤ 2 + 8 * (k : Int) := by omega
      have hpt := ((HV.out.ext HE.out).drop (2 + 8 * k) (by rw [HLEN.out]; omega)).take 8 (by rw [List.length_drop, HLEN.out]; omega)
      have HPT := Lib.hid (show Bys wr _ (partR b k) from hpt)
      have HSN := Lib.hid (HVS.out k hlt)
      have HPL := Lib.hid (part_len b k)
      clear hpt
      go_wp2_with fail
      refine (refNumberS_calls _ (partR b k) wr HPT.out (by have := HPL.out; omega)).mono ?_
      rintro e w2 ⟨rfl, rfl⟩
      generalize satL (partR b k) = x at *
      go_wp2_with ((at_builtin; go_loud (refine wpList_append_one rfl _ _ 38 rfl w.heap.size 3 ii (.int .i64 0) 1 8 Try.underlying38 hii ij0 ij1 ij2 rfl (by decide) _ k _ rfl (HR.out.al _) w2.heap.size 1 [.int .i64 x] rfl rfl ⟨_, heap_alloc_new _ _⟩ (by simp [Value.oneCell']) (by unfold maxLen; omega) (by omega) (by have := HE.out.sz; simp; omega) ?_; intro v5 w5 hown5 hgrow5 hblk5; have HP5 := Lib.hid hown5; have HE5 := Lib.hid ((HE.out.al (.cells #[.int .i64 x] 3)).gr hgrow5 (fun kk hkk => (HR.out.lt kk hkk).1)); clear hown5 hgrow5 hblk5)))
      go_roundg (q - (k + 1))
      case measure => omega
      case rel => exact ⟨k + 1, by omega, by omega, by first | (congr 1; done) | (congr 1; omega), (show Row _ _ _ _ _ _ _ from by rw [HSN.out, List.map_append]; exact HP5.out), (show Ext _ _ from HE5.out)⟩
    · have hltz : ¬ (2 : Int) + 8 * (k : Int) < 2 + 8 * (q : Int) := by omega
      obtain rfl : q = k := by omega
      have hr := HR.out
      rw [List.take_of_length_le (by rw [HVL.out]; omega)] at hr
      have HRQ := Lib.hid hr
      have hc0' := HE.out.cl hc0
      clear hr
      go_wp2
      go_ret3
      exact ⟨_, rfl, by rw [HVL.out]; exact HRQ.out, HE.out⟩

end Go.Proofs.Ytggofkaakccoeaa

/-
  Recover of the program's text.
-/
namespace Go.Proofs.Ytggofkaakccoeaa
open Go.RowKit
set_option linter.unusedVariables false
attribute [local go_sem ↓] Go.wp_at_zero Go.wp_at_succ

theorem recov_no {vec : List Int → List Int} {n : Int} {rs : List (List Int)} : recov vec false n rs = (zeroC, 1) := rfl
theorem recov_range {vec : List Int → List Int} {n : Int} {rs : List (List Int)} (h : n < 1 ∨ 8 < n) : recov vec true n rs = (zeroC, 2) := by
  unfold recov; rw [if_neg (by simp), if_pos h]
theorem recov_form {vec : List Int → List Int} {n : Int} {rs : List (List Int)} (h : ¬ (n < 1 ∨ 8 < n)) (ha : rs.all okR = false) : recov vec true n rs = (zeroC, 3) := by
  unfold recov; rw [if_neg (by simp), if_neg h, ha]; rfl
theorem recov_fold {vec : List Int → List Int} {M : Nat} {rs : List (List Int)} (h1 : 1 ≤ M) (h2 : M ≤ 8) (ha : rs.all okR = true) : recov vec true M rs = foldRec vec rs (newC M) := by
  unfold recov; rw [if_neg (by simp), if_neg (by omega), ha, Int.toNat_natCast]; rfl
theorem fold_step (vec : List Int → List Int) (rs : List (List Int)) (k : Nat) (hk : k < rs.length) (s : Ck) :
    foldRec vec (rs.drop k) s = if itemErr s rs[k]![0]! (vec rs[k]!) = 0 then foldRec vec (rs.drop (k + 1)) (itemRes s rs[k]![0]! (vec rs[k]!)) else if itemErr s rs[k]![0]! (vec rs[k]!) = 6 ∨ itemErr s rs[k]![0]! (vec rs[k]!) = 11 then foldRec vec (rs.drop (k + 1)) s else (zeroC, itemErr s rs[k]![0]! (vec rs[k]!)) := by
  rw [List.drop_eq_getElem_cons hk, ← getElem!_pos rs k hk]
  rfl
theorem recs_few {l : List Int} (hb : ∀ x, x ∈ l → Byte x) : 8 * (recordsL l).length ≤ l.length := Nat.le_trans (wholeR_len _) (whole_le' l hb)
theorem RowRows.anyShape {w : World} {base : Nat} {e e' : TypeId} {enc : Int → Value} {v : Value} {l : List (List Int)} (h : RowRows w base e e' enc v l) : ∃ a c, v = .slice a l.length c ∧ l.length ≤ c := by
  obtain ⟨vs, h1, _⟩ := h
  obtain ⟨a, c, h2, h3, _⟩ := h1.any
  exact ⟨a, c, h2, h3⟩


set_option maxHeartbeats 4000000 in
set_option maxRecDepth 100000 in
theorem recP_no (v : Value) (l : List Int) (d f n : Int) (w : World) (hv : Bys w v l) (hn : l.length ≤ 200000) (hval : validJ l.length d f = false) :
    Calls Try.prog 31 #[.agg #[v, .int .i64 d, .int .i64 f], .int .i64 n] w fun e w' => TwoOut w w' e zeroC 1 := by
  have HV := Lib.hid hv
  obtain ⟨hby, a, c, rfl, hlc, hx⟩ := hv
  have hfew := recs_few hby
  have HRB := Lib.hid (fun r hr => records_byte l.length l (Nat.le_refl _) hby r hr)
  clear hx hby
  generalize hrs : recordsL l = rs at *
  have HRS := Lib.hid hrs
  generalize hm : l.length = m at *
  have HM := Lib.hid hm
  clear hrs hm
  have HVAL := Lib.hid hval
  clear hval
  go_enter Try.func31, Try.ntmps31
  go_wp2_with fail
  refine (valid_calls a m c d f _ (by omega)).mono ?_
  rw [HVAL.out]
  rintro e w1 ⟨rfl, hE1⟩
  have HJ := Lib.hid (hE1.hp (((Ext.rf (w.alloc (journalT (.slice a m c) d f))).al (ckT (.slice none 0 0) (.slice none 0 0) (.bool false) (.slice none 0 0))).hp (heap_alloc_new w (journalT (.slice a m c) d f))))
  have HR := Lib.hid (hE1.hp (heap_new_eq (w := w.alloc (journalT (.slice a m c) d f)) (o := ckT (.slice none 0 0) (.slice none 0 0) (.bool false) (.slice none 0 0)) (b := w.heap.size + 1) (by simp)))
  have HE1 := Lib.hid ((((Ext.rf w).al (journalT (.slice a m c) d f)).al (ckT (.slice none 0 0) (.slice none 0 0) (.bool false) (.slice none 0 0))).trans' hE1)
  have hsz1 : w.heap.size + 2 ≤ w1.heap.size := by have := hE1.sz; simp at this; omega
  clear hE1
  have r0 := cellOf HR.out 0
  have r1 := cellOf HR.out 1
  have r2 := cellOf HR.out 2
  have r3 := cellOf HR.out 3
  simp only [List.getElem?_toArray, List.getElem?_cons_zero, List.getElem?_cons_succ] at r0 r1 r2 r3
  have y0 := freeOf HR.out 0
  have y1 := freeOf HR.out 1
  have y2 := freeOf HR.out 2
  have y3 := freeOf HR.out 3
  go_wp2
  refine bodyPost_ret (v := .tuple #[.agg #[.slice none 0 0, .slice none 0 0, .bool false, .slice none 0 0], .int .i64 1]) (by simp [results, Try.results31, go_sem, r0, r1, r2, r3]) rfl (zero_two ⟨rfl, box_ext HE1.out (by omega) _ _ _ _⟩)

set_option maxHeartbeats 4000000 in
set_option maxRecDepth 100000 in
theorem recP_range (v : Value) (l : List Int) (d f n : Int) (w : World) (hv : Bys w v l) (hn : l.length ≤ 200000) (hval : validJ l.length d f = true) (h : n < 1 ∨ 8 < n) :
    Calls Try.prog 31 #[.agg #[v, .int .i64 d, .int .i64 f], .int .i64 n] w fun e w' => TwoOut w w' e zeroC 2 := by
  have HV := Lib.hid hv
  obtain ⟨hby, a, c, rfl, hlc, hx⟩ := hv
  have hfew := recs_few hby
  have HRB := Lib.hid (fun r hr => records_byte l.length l (Nat.le_refl _) hby r hr)
  clear hx hby
  generalize hrs : recordsL l = rs at *
  have HRS := Lib.hid hrs
  generalize hm : l.length = m at *
  have HM := Lib.hid hm
  clear hrs hm
  have HVAL := Lib.hid hval
  have HNB := Lib.hid (fun W => newP_bad n W h)
  clear hval h
  go_enter Try.func31, Try.ntmps31
  go_wp2_with fail
  refine (valid_calls a m c d f _ (by omega)).mono ?_
  rw [HVAL.out]
  rintro e w1 ⟨rfl, hE1⟩
  have HJ := Lib.hid (hE1.hp (((Ext.rf (w.alloc (journalT (.slice a m c) d f))).al (ckT (.slice none 0 0) (.slice none 0 0) (.bool false) (.slice none 0 0))).hp (heap_alloc_new w (journalT (.slice a m c) d f))))
  have HR := Lib.hid (hE1.hp (heap_new_eq (w := w.alloc (journalT (.slice a m c) d f)) (o := ckT (.slice none 0 0) (.slice none 0 0) (.bool false) (.slice none 0 0)) (b := w.heap.size + 1) (by simp)))
  have HE1 := Lib.hid ((((Ext.rf w).al (journalT (.slice a m c) d f)).al (ckT (.slice none 0 0) (.slice none 0 0) (.bool false) (.slice none 0 0))).trans' hE1)
  have hsz1 : w.heap.size + 2 ≤ w1.heap.size := by have := hE1.sz; simp at this; omega
  clear hE1
  go_wp2_with fail
  refine (HNB.out w1).mono ?_
  rintro e w2 ⟨rfl, hE2⟩
  have HR2 := Lib.hid (((Ext.rf w2).al (ckT (.slice none 0 0) (.slice none 0 0) (.bool false) (.slice none 0 0))).hp (hE2.hp HR.out))
  have HE2 := Lib.hid ((HE1.out.trans' hE2).al (ckT (.slice none 0 0) (.slice none 0 0) (.bool false) (.slice none 0 0)))
  clear hE2
  go_upto_region 4 with (fail)
  generalize hw3 : w2.alloc (ckT (.slice none 0 0) (.slice none 0 0) (.bool false) (.slice none 0 0)) = w3 at *
  clear hw3
  have r0 := cellOf HR2.out 0
  have r1 := cellOf HR2.out 1
  have r2 := cellOf HR2.out 2
  have r3 := cellOf HR2.out 3
  simp only [List.getElem?_toArray, List.getElem?_cons_zero, List.getElem?_cons_succ] at r0 r1 r2 r3
  have y0 := freeOf HR2.out 0
  have y1 := freeOf HR2.out 1
  have y2 := freeOf HR2.out 2
  have y3 := freeOf HR2.out 3
  go_wp2
  refine bodyPost_ret (v := .tuple #[.agg #[.slice none 0 0, .slice none 0 0, .bool false, .slice none 0 0], .int .i64 2]) (by simp [results, Try.results31, go_sem, r0, r1, r2, r3]) rfl (zero_two ⟨rfl, box_ext HE2.out (by omega) _ _ _ _⟩)


set_option maxHeartbeats 8000000 in
set_option maxRecDepth 100000 in
theorem recP_form (v : Value) (l : List Int) (d f : Int) (M : Nat) (w : World) (hv : Bys w v l) (hn : l.length ≤ 200000) (hval : validJ l.length d f = true) (hM1 : 1 ≤ M) (hM2 : M ≤ 8) (hall : (recordsL l).all okR = false) :
    Calls Try.prog 31 #[.agg #[v, .int .i64 d, .int .i64 f], .int .i64 M] w fun e w' => TwoOut w w' e zeroC 3 := by
  have HV := Lib.hid hv
  obtain ⟨hby, a, c, rfl, hlc, hx⟩ := hv
  have hfew := recs_few hby
  have HRB := Lib.hid (fun r hr => records_byte l.length l (Nat.le_refl _) hby r hr)
  clear hx hby
  generalize hrs : recordsL l = rs at *
  have HRS := Lib.hid hrs
  generalize hm : l.length = m at *
  have HM := Lib.hid hm
  clear hrs hm
  have HVAL := Lib.hid hval
  have HALL := Lib.hid hall
  have HNB := Lib.hid (fun W => newP_ok M W hM1 hM2)
  clear hval hall
  go_enter Try.func31, Try.ntmps31
  go_wp2_with fail
  refine (valid_calls a m c d f _ (by omega)).mono ?_
  rw [HVAL.out]
  rintro e w1 ⟨rfl, hE1⟩
  have HJ := Lib.hid (hE1.hp (((Ext.rf (w.alloc (journalT (.slice a m c) d f))).al (ckT (.slice none 0 0) (.slice none 0 0) (.bool false) (.slice none 0 0))).hp (heap_alloc_new w (journalT (.slice a m c) d f))))
  have HR := Lib.hid (hE1.hp (heap_new_eq (w := w.alloc (journalT (.slice a m c) d f)) (o := ckT (.slice none 0 0) (.slice none 0 0) (.bool false) (.slice none 0 0)) (b := w.heap.size + 1) (by simp)))
  have HE1 := Lib.hid ((((Ext.rf w).al (journalT (.slice a m c) d f)).al (ckT (.slice none 0 0) (.slice none 0 0) (.bool false) (.slice none 0 0))).trans' hE1)
  have hsz1 : w.heap.size + 2 ≤ w1.heap.size := by have := hE1.sz; simp at this; omega
  clear hE1
  go_wp2_with fail
  refine (HNB.out w1).mono ?_
  rintro e w2 ⟨vq, ve, vd, rfl, hO, hE2⟩
  have HJ2 := Lib.hid (hE2.hp HJ.out)
  have HR2 := Lib.hid (hE2.hp HR.out)
  have HE2 := Lib.hid (HE1.out.trans' hE2)
  have hsz2 := hE2.sz
  have hC := hO.read
  obtain ⟨qa, qc, rfl, _⟩ := hC.1.shape
  obtain ⟨ea, ec, rfl, _⟩ := hC.2.1.shape
  obtain ⟨ca, cc, hce, _, _⟩ := hC.2.2
  subst hce
  rw [show (newC M).done = false from rfl]
  have HBS := Lib.hid (heap_alloc_new w2 (ckT (.slice qa (newC M).qs.length qc) (.slice ea (newC M).ended.length ec) (.bool false) (.slice ca (newC M).cut.length cc)))
  have HE23 := Lib.hid ((Ext.rf w2).al (ckT (.slice qa (newC M).qs.length qc) (.slice ea (newC M).ended.length ec) (.bool false) (.slice ca (newC M).cut.length cc)))
  have HSZ3 := Lib.hid (show (w2.alloc (ckT (.slice qa (newC M).qs.length qc) (.slice ea (newC M).ended.length ec) (.bool false) (.slice ca (newC M).cut.length cc))).heap.size = w2.heap.size + 1 from by simp)
  have HO2 := Lib.hid (hO.mono (show w.heap.size ≤ w1.heap.size from by omega))
  clear hO hC hE2
  generalize (newC M).qs.length = q1 at *
  generalize (newC M).ended.length = q2 at *
  generalize (newC M).cut.length = q3 at *
  go_upto_region 4 with (fail)
  generalize hw3 : w2.alloc (ckT (.slice qa q1 qc) (.slice ea q2 ec) (.bool false) (.slice ca q3 cc)) = w3 at *
  clear hw3
  have hsz3 : w2.heap.size < w3.heap.size := by have := HSZ3.out; omega
  have HJ3 := Lib.hid (HE23.out.hp HJ2.out)
  have j0 := cellOf HJ3.out 0
  simp only [List.getElem?_toArray, List.getElem?_cons_zero] at j0
  go_wp2_with fail
  refine (records_calls (.slice a m c) l w3 (HV.out.ext (HE2.out.trans' HE23.out)) (by rw [HM.out]; omega)).mono ?_
  rw [HRS.out]
  rintro e w4 ⟨v4, rfl, hRR, hE4⟩
  obtain ⟨ra, rc, rfl, hrc⟩ := hRR.anyShape
  have HRR := Lib.hid hRR
  have HSL := Lib.hid (hRR.sl (fun r hr => (HRB.out r hr).1))
  have HE34 := Lib.hid hE4
  have HE4 := Lib.hid (HE2.out.trans' (HE23.out.trans' hE4))
  have HR4 := Lib.hid ((HE23.out.trans' hE4).hp HR2.out)
  have HBS4 := Lib.hid (hE4.hp HBS.out)
  have hsz4 := hE4.sz
  generalize hnl : rs.length = N at *
  have HN := Lib.hid hnl
  clear hRR hE4 hnl j0
  go_wp2
  go_loopg [10, 11, 12, 13, 38] N (fun g _ _ _ _ s38 wr => ∃ k : Nat, k ≤ N ∧ N - k ≤ g ∧ s38 = .int .i64 k ∧ Aside (∀ j, j < k → okR rs[j]! = true) ∧ Aside (Ext w4 wr))
  case atStart => exact ⟨0, Nat.zero_le _, by omega, rfl, (fun j hj => absurd hj (Nat.not_lt_zero _)), Ext.rf _⟩
  case round =>
    obtain ⟨k, hk, hg, rfl, HOK, HXR⟩ := hrel
    by_cases hlt : k < N
    · have hltz : (k : Int) < (N : Int) := by omega
      have hkz : (0 : Int) ≤ (k : Int) := by omega
      obtain ⟨B, O, C, cv, hue, _, _, hcell0, ⟨u, hu, hbu⟩⟩ := HSL.out.at1 k (by rw [HN.out]; exact hlt)
      simp only [List.cons.injEq, and_true] at hu
      subst hu
      simp only [Value.slice.injEq] at hue
      obtain ⟨rfl, hnn, rfl⟩ := hue
      have hrb := HRB.out rs[k]! (mem_at rs k (by rw [HN.out]; exact hlt))
      have hcell := HXR.out.cl hcell0
      clear hcell0 hnn
      cases hok : okR rs[k]! with
      | false =>
        have HST := Lib.hid (stampQ_no cv rs[k]! wr (hbu.ext HXR.out) (by have := hrb.2; omega) hok)
        clear hbu hrb hok
        go_wp2_with fail
        refine HST.out.mono ?_
        rintro e w5 ⟨rfl, hE5⟩
        have HR5 := Lib.hid ((HXR.out.trans' hE5).hp HR4.out)
        have HE5 := Lib.hid (HE4.out.trans' (HXR.out.trans' hE5))
        clear hE5 hcell
        have r0 := cellOf HR5.out 0
        have r1 := cellOf HR5.out 1
        have r2 := cellOf HR5.out 2
        have r3 := cellOf HR5.out 3
        simp only [List.getElem?_toArray, List.getElem?_cons_zero, List.getElem?_cons_succ] at r0 r1 r2 r3
        have y0 := freeOf HR5.out 0
        have y1 := freeOf HR5.out 1
        have y2 := freeOf HR5.out 2
        have y3 := freeOf HR5.out 3
        go_wp2
        refine bodyPost_ret (v := .tuple #[.agg #[.slice none 0 0, .slice none 0 0, .bool false, .slice none 0 0], .int .i64 3]) (by simp [results, Try.results31, go_sem, r0, r1, r2, r3]) rfl (zero_two ⟨rfl, box_ext HE5.out (by omega) _ _ _ _⟩)
      | true =>
        have HST := Lib.hid (stampQ_yes cv rs[k]! wr (hbu.ext HXR.out) (by have := hrb.2; omega) hok)
        have HK := Lib.hid hok
        clear hbu hrb hok
        go_wp2_with fail
        refine HST.out.mono ?_
        rintro e w5 ⟨v5, rfl, hR5, hE5⟩
        have HE5 := Lib.hid (HXR.out.trans' hE5)
        clear hE5 hcell hR5
        go_wp2
        go_roundg (N - (k + 1))
        case measure => omega
        case rel =>
          refine ⟨k + 1, by omega, by omega, by go_num, (show Aside _ from fun j hj => ?_), (show Ext _ _ from HE5.out)⟩
          by_cases e : j = k
          · subst e; exact HK.out
          · exact HOK.out j (by omega)
    · exfalso
      have ha := all_hit okR rs (fun j hj => HOK.out j (by rw [HN.out] at hj; omega))
      rw [HALL.out] at ha
      exact absurd ha (by simp)

/-- A checker of the call's own, in a box of its own. -/
def BoxCk (w : World) (base K : Nat) (s : Ck) : Prop :=
  ∃ (a1 : Option Addr) (n1 c1 : Nat) (a2 : Option Addr) (n2 c2 : Nat) (a3 : Option Addr) (n3 c3 : Nat), w.heap[K]? = some (ckT (.slice a1 n1 c1) (.slice a2 n2 c2) (.bool s.done) (.slice a3 n3 c3)) ∧ OwnCk w base (.slice a1 n1 c1) (.slice a2 n2 c2) (.slice a3 n3 c3) s
theorem BoxCk.ext {w w' : World} {base K : Nat} {s : Ck} (h : BoxCk w base K s) (x : Ext w w') : BoxCk w' base K s := by
  obtain ⟨a1, n1, c1, a2, n2, c2, a3, n3, c3, h1, h2⟩ := h
  exact ⟨a1, n1, c1, a2, n2, c2, a3, n3, c3, x.hp h1, h2.ext x⟩
theorem ownCk_st {w : World} {K base : Nat} {z0 z1 z2 z3 vq ve vc : Value} {s : Ck} (hb : w.heap[K]? = some (ckT z0 z1 z2 z3)) (h : OwnCk w base vq ve vc s) (a b c d : Value) :
    OwnCk ((((w.setCell ⟨K, 0, none⟩ a).setCell ⟨K, 1, none⟩ b).setCell ⟨K, 2, none⟩ c).setCell ⟨K, 3, none⟩ d) base vq ve vc s := by
  obtain ⟨_, k2, _⟩ := box_stored hb a b c d
  exact ⟨(((h.1.stO hb (by decide) (by decide) (by decide) a).stO (ck_set0 hb) (by decide) (by decide) (by decide) b).stO (ck_set1 (ck_set0 hb)) (by decide) (by decide) (by decide) c).stO (ck_set2 (ck_set1 (ck_set0 hb))) (by decide) (by decide) (by decide) d, k2 h.2.1 (by decide), k2 h.2.2 (by decide)⟩
theorem rr_st {w : World} {K base : Nat} {z0 z1 z2 z3 v : Value} {l : List (List Int)} (hb : w.heap[K]? = some (ckT z0 z1 z2 z3)) (h : RowRows w base 22 5 (Value.int .u8) v l) (a b c d : Value) :
    RowRows ((((w.setCell ⟨K, 0, none⟩ a).setCell ⟨K, 1, none⟩ b).setCell ⟨K, 2, none⟩ c).setCell ⟨K, 3, none⟩ d) base 22 5 (Value.int .u8) v l :=
  (((h.stO hb (by decide) (by decide) a).stO (ck_set0 hb) (by decide) (by decide) b).stO (ck_set1 (ck_set0 hb)) (by decide) (by decide) c).stO (ck_set2 (ck_set1 (ck_set0 hb))) (by decide) (by decide) d
theorem box_far {w : World} {K k : Nat} {X : Obj} (h : w.heap[k]? = some X) (hne : k ≠ K) (a b c d : Value) : ((((w.setCell ⟨K, 0, none⟩ a).setCell ⟨K, 1, none⟩ b).setCell ⟨K, 2, none⟩ c).setCell ⟨K, 3, none⟩ d).heap[k]? = some X := by
  rw [Below.heap_setCell _ _ _ _ hne, Below.heap_setCell _ _ _ _ hne, Below.heap_setCell _ _ _ _ hne, Below.heap_setCell _ _ _ _ hne]
  exact h
theorem size_st4 (w : World) (K : Nat) (a b c d : Value) : ((((w.setCell ⟨K, 0, none⟩ a).setCell ⟨K, 1, none⟩ b).setCell ⟨K, 2, none⟩ c).setCell ⟨K, 3, none⟩ d).heap.size = w.heap.size := by simp only [size_setCell]


set_option maxHeartbeats 16000000 in
set_option maxRecDepth 100000 in
theorem recP_ok (v : Value) (l : List Int) (d f : Int) (M : Nat) (w : World) (hv : Bys w v l) (hn : l.length ≤ 200000) (hval : validJ l.length d f = true) (hM1 : 1 ≤ M) (hM2 : M ≤ 8) (hall : (recordsL l).all okR = true) :
    Calls Try.prog 31 #[.agg #[v, .int .i64 d, .int .i64 f], .int .i64 M] w fun e w' => TwoOut w w' e (foldRec vecP (recordsL l) (newC M)).1 (foldRec vecP (recordsL l) (newC M)).2 := by
  have HV := Lib.hid hv
  obtain ⟨hby, a, c, rfl, hlc, hx⟩ := hv
  have hfew := recs_few hby
  have HRB := Lib.hid (fun r hr => records_byte l.length l (Nat.le_refl _) hby r hr)
  clear hx hby
  generalize hrs : recordsL l = rs at *
  have HRS := Lib.hid hrs
  generalize hm : l.length = m at *
  have HM := Lib.hid hm
  clear hrs hm
  have HVAL := Lib.hid hval
  have HALL := Lib.hid hall
  have HNB := Lib.hid (fun W => newP_ok M W hM1 hM2)
  have HSM0 := Lib.hid (newC_small M hM2)
  generalize hfr : foldRec vecP rs (newC M) = FR at *
  have HFR := Lib.hid hfr
  clear hval hall hfr
  go_enter Try.func31, Try.ntmps31
  go_wp2_with fail
  refine (valid_calls a m c d f _ (by omega)).mono ?_
  rw [HVAL.out]
  rintro e w1 ⟨rfl, hE1⟩
  have HJ := Lib.hid (hE1.hp (((Ext.rf (w.alloc (journalT (.slice a m c) d f))).al (ckT (.slice none 0 0) (.slice none 0 0) (.bool false) (.slice none 0 0))).hp (heap_alloc_new w (journalT (.slice a m c) d f))))
  have HR := Lib.hid (hE1.hp (heap_new_eq (w := w.alloc (journalT (.slice a m c) d f)) (o := ckT (.slice none 0 0) (.slice none 0 0) (.bool false) (.slice none 0 0)) (b := w.heap.size + 1) (by simp)))
  have HE1 := Lib.hid ((((Ext.rf w).al (journalT (.slice a m c) d f)).al (ckT (.slice none 0 0) (.slice none 0 0) (.bool false) (.slice none 0 0))).trans' hE1)
  have hsz1 : w.heap.size + 2 ≤ w1.heap.size := by have := hE1.sz; simp at this; omega
  clear hE1
  go_wp2_with fail
  refine (HNB.out w1).mono ?_
  rintro e w2 ⟨vq, ve, vd, rfl, hO, hE2⟩
  have HJ2 := Lib.hid (hE2.hp HJ.out)
  have HR2 := Lib.hid (hE2.hp HR.out)
  have HE2 := Lib.hid (HE1.out.trans' hE2)
  have hsz2 := hE2.sz
  have hC := hO.read
  obtain ⟨qa, qc, rfl, _⟩ := hC.1.shape
  obtain ⟨ea, ec, rfl, _⟩ := hC.2.1.shape
  obtain ⟨ca, cc, hce, _, _⟩ := hC.2.2
  subst hce
  rw [show (newC M).done = false from rfl]
  have HBS := Lib.hid (heap_alloc_new w2 (ckT (.slice qa (newC M).qs.length qc) (.slice ea (newC M).ended.length ec) (.bool false) (.slice ca (newC M).cut.length cc)))
  have HE23 := Lib.hid ((Ext.rf w2).al (ckT (.slice qa (newC M).qs.length qc) (.slice ea (newC M).ended.length ec) (.bool false) (.slice ca (newC M).cut.length cc)))
  have HSZ3 := Lib.hid (show (w2.alloc (ckT (.slice qa (newC M).qs.length qc) (.slice ea (newC M).ended.length ec) (.bool false) (.slice ca (newC M).cut.length cc))).heap.size = w2.heap.size + 1 from by simp)
  have HO2 := Lib.hid (hO.mono (show w.heap.size ≤ w1.heap.size from by omega))
  clear hO hC hE2
  generalize (newC M).qs.length = q1 at *
  generalize (newC M).ended.length = q2 at *
  generalize (newC M).cut.length = q3 at *
  go_upto_region 4 with (fail)
  generalize hw3 : w2.alloc (ckT (.slice qa q1 qc) (.slice ea q2 ec) (.bool false) (.slice ca q3 cc)) = w3 at *
  clear hw3
  have hsz3 : w2.heap.size < w3.heap.size := by have := HSZ3.out; omega
  have HJ3 := Lib.hid (HE23.out.hp HJ2.out)
  have j0 := cellOf HJ3.out 0
  simp only [List.getElem?_toArray, List.getElem?_cons_zero] at j0
  go_wp2_with fail
  refine (records_calls (.slice a m c) l w3 (HV.out.ext (HE2.out.trans' HE23.out)) (by rw [HM.out]; omega)).mono ?_
  rw [HRS.out]
  rintro e w4 ⟨v4, rfl, hRR, hE4⟩
  obtain ⟨ra, rc, rfl, hrc⟩ := hRR.anyShape
  have HRR := Lib.hid hRR
  have HSL := Lib.hid (hRR.sl (fun r hr => (HRB.out r hr).1))
  have HE34 := Lib.hid hE4
  have HE4 := Lib.hid (HE2.out.trans' (HE23.out.trans' hE4))
  have HR4 := Lib.hid ((HE23.out.trans' hE4).hp HR2.out)
  have HBS4 := Lib.hid (hE4.hp HBS.out)
  have hsz4 := hE4.sz
  generalize hnl : rs.length = N at *
  have HN := Lib.hid hnl
  clear hRR hE4 hnl j0
  go_wp2
  go_loopg [10, 11, 12, 13, 38] N (fun g _ _ _ _ s38 wr => ∃ k : Nat, k ≤ N ∧ N - k ≤ g ∧ s38 = .int .i64 k ∧ Aside (Ext w4 wr))
  case atStart => exact ⟨0, Nat.zero_le _, by omega, rfl, Ext.rf _⟩
  case round =>
    obtain ⟨k, hk, hg, rfl, HXR⟩ := hrel
    by_cases hlt : k < N
    · have hltz : (k : Int) < (N : Int) := by omega
      have hkz : (0 : Int) ≤ (k : Int) := by omega
      obtain ⟨B, O, C, cv, hue, _, _, hcell0, ⟨u, hu, hbu⟩⟩ := HSL.out.at1 k (by rw [HN.out]; exact hlt)
      simp only [List.cons.injEq, and_true] at hu
      subst hu
      simp only [Value.slice.injEq] at hue
      obtain ⟨rfl, hnn, rfl⟩ := hue
      have hrb := HRB.out rs[k]! (mem_at rs k (by rw [HN.out]; exact hlt))
      have hcell := HXR.out.cl hcell0
      clear hcell0 hnn
      have hok : okR rs[k]! = true := List.all_eq_true.1 HALL.out _ (mem_at rs k (by rw [HN.out]; exact hlt))
      have HST := Lib.hid (stampQ_yes cv rs[k]! wr (hbu.ext HXR.out) (by have := hrb.2; omega) hok)
      clear hbu hrb hok
      go_wp2_with fail
      refine HST.out.mono ?_
      rintro e w5 ⟨v5, rfl, hR5, hE5⟩
      have HE5 := Lib.hid (HXR.out.trans' hE5)
      clear hE5 hcell hR5
      go_wp2
      go_roundg (N - (k + 1))
      case measure => omega
      case rel => exact ⟨k + 1, by omega, by omega, by go_num, (show Ext _ _ from HE5.out)⟩
    · have hltz : ¬ (k : Int) < (N : Int) := by omega
      obtain rfl : N = k := by omega
      have HB6 := Lib.hid (HXR.out.hp HBS4.out)
      have HO6 := Lib.hid (HO2.out.ext (HE23.out.trans' (HE34.out.trans' HXR.out)))
      have HRR6 := Lib.hid (HRR.out.ext HXR.out)
      have HE26 := Lib.hid (HE23.out.trans' (HE34.out.trans' HXR.out))
      have hsz6 := HXR.out.sz
      go_wp2
      go_loopg [7, 15, 16, 17, 18, 19, 54, 83, 86] N (fun g _ _ _ _ _ _ s54 _ _ wr => ∃ (k : Nat) (s : Ck), k ≤ N ∧ N - k ≤ g ∧ s54 = .int .i64 k ∧ Aside (foldRec vecP (rs.drop k) s = FR) ∧ Aside (SmallC s) ∧ Aside (BoxCk wr w.heap.size w2.heap.size s) ∧ Aside (RowRows wr w3.heap.size 22 5 (Value.int .u8) (.slice ra N rc) rs) ∧ Aside (Ext w2 wr ∧ w3.heap.size ≤ wr.heap.size))
      case atStart => exact ⟨0, newC M, Nat.zero_le _, by omega, rfl, (show _ = _ from HFR.out), HSM0.out, (show BoxCk _ _ _ _ from ⟨_, _, _, _, _, _, _, _, _, HB6.out, HO6.out⟩), HRR6.out, (show _ ∧ _ from ⟨HE26.out, by omega⟩)⟩
      case round =>
        obtain ⟨k, s, hk, hg, rfl, HFD, HSM, HBX, HRRK, HEX⟩ := hrel
        obtain ⟨a1, n1, c1, a2, n2, c2, a3, n3, c3, hbx, how⟩ := HBX.out
        have HBX0 := Lib.hid hbx
        have HOW := Lib.hid how
        have hszk := HEX.out.2
        generalize hsd : s.done = sd at *
        have HSD := Lib.hid hsd
        clear hbx how hsd
        by_cases hlt : k < N
        · have hltz : (k : Int) < (N : Int) := by omega
          have hkz : (0 : Int) ≤ (k : Int) := by omega
          obtain ⟨B, O, C, cv, hue, _, _, hcell, ⟨u, hu, hbu⟩⟩ := (HRRK.out.sl (fun r hr => (HRB.out r hr).1)).at1 k (by rw [HN.out]; exact hlt)
          simp only [List.cons.injEq, and_true] at hu
          subst hu
          simp only [Value.slice.injEq] at hue
          obtain ⟨rfl, hnn, rfl⟩ := hue
          have hrb := HRB.out rs[k]! (mem_at rs k (by rw [HN.out]; exact hlt))
          have hok : okR rs[k]! = true := by
            have := List.all_eq_true.1 HALL.out _ (mem_at rs k (by rw [HN.out]; exact hlt))
            exact this
          have HST := Lib.hid (stampQ_yes cv rs[k]! wr hbu (by have := hrb.2; omega) hok)
          have HVB := Lib.hid (show (vecP rs[k]!).length ≤ 1000000 from by rw [vecP_len]; have := (okR_parts hok hrb.1).2.2.2; omega)
          clear hbu hrb hok hnn
          generalize hp0 : rs[k]![0]! = P0 at *
          generalize hvv : vecP rs[k]! = VV at *
          have HP0 := Lib.hid hp0
          have HVV := Lib.hid hvv
          clear hp0 hvv
          go_wp2_with fail
          refine HST.out.mono ?_
          rintro e w5 ⟨v5, rfl, hR5, hE5⟩
          obtain ⟨sa, sc, rfl, hsc, hsh⟩ := hR5.any
          have HI5 := Lib.hid hR5.ints
          have hsz5 := hE5.sz
          have HBX5 := Lib.hid (hE5.hp HBX0.out)
          have HOW5 := Lib.hid (HOW.out.ext hE5)
          have HRR5 := Lib.hid (HRRK.out.ext hE5)
          have HE5 := Lib.hid (HEX.out.1.trans' hE5)
          clear hsh hR5 hE5 hcell
          have HAL := Lib.hid ((Ext.rf w5).al (ckT (.slice none 0 0) (.slice none 0 0) (.bool false) (.slice none 0 0)))
          have HNX6 := Lib.hid (heap_alloc_new w5 (ckT (.slice none 0 0) (.slice none 0 0) (.bool false) (.slice none 0 0)))
          have HSZ6 := Lib.hid (show (w5.alloc (ckT (.slice none 0 0) (.slice none 0 0) (.bool false) (.slice none 0 0))).heap.size = w5.heap.size + 1 from by simp)
          generalize hvl : VV.length = vn at *
          have HVL := Lib.hid hvl
          clear hvl
          go_upto_region 19 with (fail)
          generalize hw6 : w5.alloc (ckT (.slice none 0 0) (.slice none 0 0) (.bool false) (.slice none 0 0)) = w6 at *
          clear hw6
          have hsz6 : w5.heap.size < w6.heap.size := by have := HSZ6.out; omega
          have HBX6 := Lib.hid (HAL.out.hp HBX5.out)
          have HOW6 := Lib.hid (HOW5.out.ext HAL.out)
          have HRR6 := Lib.hid (HRR5.out.ext HAL.out)
          have HE6 := Lib.hid (HE5.out.trans' HAL.out)
          have HI6 := Lib.hid (HI5.out.ext HAL.out)
          by_cases hv0 : vn = 0
          · obtain rfl : vn = 0 := hv0
            have hcall := endP_all (.slice a1 n1 c1) (.slice a2 n2 c2) (.slice a3 n3 c3) s P0 w6 HOW6.out.read HSM.out
            rw [HSD.out] at hcall
            generalize hir : endRes s P0 = CC at *
            generalize hie : endErr s P0 = EE at *
            have HIE := Lib.hid (show itemErr s P0 VV = EE from by unfold itemErr; rw [if_pos HVL.out]; exact hie)
            have HIR := Lib.hid (show itemRes s P0 VV = CC from by unfold itemRes; rw [if_pos HVL.out]; exact hir)
            clear hie hir
            have HCALL := Lib.hid hcall
            clear hcall
            have x0 := cellOf HBX6.out 0
            have x1 := cellOf HBX6.out 1
            have x2 := cellOf HBX6.out 2
            have x3 := cellOf HBX6.out 3
            simp only [List.getElem?_toArray, List.getElem?_cons_zero, List.getElem?_cons_succ] at x0 x1 x2 x3
            go_wp2_with fail
            refine HCALL.out.mono ?_
            rintro e w7 ⟨vq7, ve7, vd7, rfl, hO7, hE7⟩
            have hC7 := hO7.read
            obtain ⟨u1, v1, rfl, _⟩ := hC7.1.shape
            obtain ⟨u2, v2, rfl, _⟩ := hC7.2.1.shape
            obtain ⟨u3, v3, hce7, _, _⟩ := hC7.2.2
            subst hce7
            have HNX7 := Lib.hid (hE7.hp HNX6.out)
            have HBX7 := Lib.hid (hE7.hp HBX6.out)
            have HOW7 := Lib.hid (HOW6.out.ext hE7)
            have HOC7 := Lib.hid (hO7.mono (show w.heap.size ≤ w6.heap.size from by omega))
            have HRR7 := Lib.hid (HRR6.out.ext hE7)
            have HE7 := Lib.hid (HE6.out.trans' hE7)
            have hsz7 := hE7.sz
            generalize CC.qs.length = m1 at *
            generalize CC.ended.length = m2 at *
            generalize CC.cut.length = m3 at *
            generalize hcd : CC.done = cd at *
            have HCD := Lib.hid hcd
            clear hC7 hO7 hE7 x0 x1 x2 x3 hcd
            have y0 := cellOf HNX7.out 0
            have y1 := cellOf HNX7.out 1
            have y2 := cellOf HNX7.out 2
            have y3 := cellOf HNX7.out 3
            simp only [List.getElem?_toArray, List.getElem?_cons_zero, List.getElem?_cons_succ] at y0 y1 y2 y3
            have z0 := freeOf HNX7.out 0
            have z1 := freeOf HNX7.out 1
            have z2 := freeOf HNX7.out 2
            have z3 := freeOf HNX7.out 3
            have HNXA := Lib.hid (box_stored HNX7.out (.slice u1 m1 v1) (.slice u2 m2 v2) (.bool cd) (.slice u3 m3 v3)).1
            have HBXA := Lib.hid (box_far HBX7.out (show w2.heap.size ≠ w5.heap.size from by omega) (.slice u1 m1 v1) (.slice u2 m2 v2) (.bool cd) (.slice u3 m3 v3))
            have HOWA := Lib.hid (ownCk_st HNX7.out HOW7.out (.slice u1 m1 v1) (.slice u2 m2 v2) (.bool cd) (.slice u3 m3 v3))
            have HOCA := Lib.hid (ownCk_st HNX7.out HOC7.out (.slice u1 m1 v1) (.slice u2 m2 v2) (.bool cd) (.slice u3 m3 v3))
            have HRRA := Lib.hid (rr_st HNX7.out HRR7.out (.slice u1 m1 v1) (.slice u2 m2 v2) (.bool cd) (.slice u3 m3 v3))
            have HEA := Lib.hid (box_ext (K := w5.heap.size) HE7.out (by omega) (.slice u1 m1 v1) (.slice u2 m2 v2) (.bool cd) (.slice u3 m3 v3))
            have HSA := Lib.hid (size_st4 w7 w5.heap.size (.slice u1 m1 v1) (.slice u2 m2 v2) (.bool cd) (.slice u3 m3 v3))
            go_upto_region 22 with (fail)
            generalize hwA : (((w7.setCell ⟨w5.heap.size, 0, none⟩ (.slice u1 m1 v1)).setCell ⟨w5.heap.size, 1, none⟩ (.slice u2 m2 v2)).setCell ⟨w5.heap.size, 2, none⟩ (.bool cd)).setCell ⟨w5.heap.size, 3, none⟩ (.slice u3 m3 v3) = wA at *
            clear hwA y0 y1 y2 y3 z0 z1 z2 z3
            have hszA : w3.heap.size ≤ wA.heap.size := by have := HSA.out; omega
            have HFS := Lib.hid (fold_step vecP rs k (by rw [HN.out]; exact hlt) s)
            by_cases he0 : EE = 0
            · obtain rfl : EE = 0 := he0
              have HIE0 := Lib.hid HIE.out
              have x0 := cellOf HNXA.out 0
              have x1 := cellOf HNXA.out 1
              have x2 := cellOf HNXA.out 2
              have x3 := cellOf HNXA.out 3
              simp only [List.getElem?_toArray, List.getElem?_cons_zero, List.getElem?_cons_succ] at x0 x1 x2 x3
              have y0 := cellOf HBXA.out 0
              have y1 := cellOf HBXA.out 1
              have y2 := cellOf HBXA.out 2
              have y3 := cellOf HBXA.out 3
              simp only [List.getElem?_toArray, List.getElem?_cons_zero, List.getElem?_cons_succ] at y0 y1 y2 y3
              have z0 := freeOf HBXA.out 0
              have z1 := freeOf HBXA.out 1
              have z2 := freeOf HBXA.out 2
              have z3 := freeOf HBXA.out 3
              have HBXB := Lib.hid (box_stored HBXA.out (.slice u1 m1 v1) (.slice u2 m2 v2) (.bool cd) (.slice u3 m3 v3)).1
              have HOCB := Lib.hid (ownCk_st HBXA.out HOCA.out (.slice u1 m1 v1) (.slice u2 m2 v2) (.bool cd) (.slice u3 m3 v3))
              have HRRB := Lib.hid (rr_st HBXA.out HRRA.out (.slice u1 m1 v1) (.slice u2 m2 v2) (.bool cd) (.slice u3 m3 v3))
              have HEB := Lib.hid (box_ext (K := w2.heap.size) HEA.out (Nat.le_refl _) (.slice u1 m1 v1) (.slice u2 m2 v2) (.bool cd) (.slice u3 m3 v3))
              have HSB := Lib.hid (size_st4 wA w2.heap.size (.slice u1 m1 v1) (.slice u2 m2 v2) (.bool cd) (.slice u3 m3 v3))
              go_wp2
              go_roundg (N - (k + 1))
              case measure => omega
              case rel =>
                refine ⟨k + 1, CC, by omega, by omega, by go_num, (show _ = _ from ?_), (show SmallC _ from by rw [← HIR.out]; exact item_small HSM.out _ _), (show BoxCk _ _ _ _ from ⟨u1, m1, v1, u2, m2, v2, u3, m3, v3, by rw [HCD.out]; exact HBXB.out, HOCB.out⟩), (show RowRows _ _ _ _ _ _ _ from HRRB.out), (show _ ∧ _ from ⟨HEB.out, by have := HSB.out; omega⟩)⟩
                rw [← HFD.out, HFS.out, HP0.out, HVV.out, HIE.out, if_pos rfl, HIR.out]
            have e0 : (EE == 0) = false := by simpa using he0
            by_cases he6 : EE = 6
            · obtain rfl : EE = 6 := he6
              go_wp2
              go_roundg (N - (k + 1))
              case measure => omega
              case rel =>
                refine ⟨k + 1, s, by omega, by omega, by go_num, (show _ = _ from ?_), HSM.out, (show BoxCk _ _ _ _ from ⟨_, _, _, _, _, _, _, _, _, by rw [HSD.out]; exact HBXA.out, HOWA.out⟩), (show RowRows _ _ _ _ _ _ _ from HRRA.out), (show _ ∧ _ from ⟨HEA.out, hszA⟩)⟩
                rw [← HFD.out, HFS.out, HP0.out, HVV.out, HIE.out, if_neg (by decide), if_pos (.inl rfl)]
            have e6 : (EE == 6) = false := by simpa using he6
            have e6' : (EE != 6) = true := by simpa using he6
            by_cases he11 : EE = 11
            · obtain rfl : EE = 11 := he11
              go_wp2
              go_roundg (N - (k + 1))
              case measure => omega
              case rel =>
                refine ⟨k + 1, s, by omega, by omega, by go_num, (show _ = _ from ?_), HSM.out, (show BoxCk _ _ _ _ from ⟨_, _, _, _, _, _, _, _, _, by rw [HSD.out]; exact HBXA.out, HOWA.out⟩), (show RowRows _ _ _ _ _ _ _ from HRRA.out), (show _ ∧ _ from ⟨HEA.out, hszA⟩)⟩
                rw [← HFD.out, HFS.out, HP0.out, HVV.out, HIE.out, if_neg (by decide), if_pos (.inr rfl)]
            have e11 : (EE == 11) = false := by simpa using he11
            have e11' : (EE != 11) = true := by simpa using he11
            have HFR2 := Lib.hid (show FR = (zeroC, EE) from by rw [← HFD.out, HFS.out, HP0.out, HVV.out, HIE.out, if_neg he0, if_neg (by omega)])
            have HRA := Lib.hid (HEA.out.hp HR2.out)
            have HEWA := Lib.hid (HE2.out.trans' HEA.out)
            have r0 := cellOf HRA.out 0
            have r1 := cellOf HRA.out 1
            have r2 := cellOf HRA.out 2
            have r3 := cellOf HRA.out 3
            simp only [List.getElem?_toArray, List.getElem?_cons_zero, List.getElem?_cons_succ] at r0 r1 r2 r3
            have y0 := freeOf HRA.out 0
            have y1 := freeOf HRA.out 1
            have y2 := freeOf HRA.out 2
            have y3 := freeOf HRA.out 3
            go_wp2
            refine bodyPost_ret (v := .tuple #[.agg #[.slice none 0 0, .slice none 0 0, .bool false, .slice none 0 0], .int .i64 EE]) (by simp [results, Try.results31, go_sem, r0, r1, r2, r3]) rfl ?_
            rw [HFR2.out]
            exact zero_two ⟨rfl, box_ext HEWA.out (by omega) _ _ _ _⟩
          · have hvz : ¬ (vn : Int) = 0 := by omega
            have hvz' : ((vn : Int) == 0) = false := by simpa using hvz
            have hcall := putP_all (.slice a1 n1 c1) (.slice a2 n2 c2) (.slice a3 n3 c3) (.slice sa vn sc) s P0 VV w6 HOW6.out.read HSM.out HI6.out (by rw [HVL.out]; exact HVB.out)
            rw [HSD.out] at hcall
            generalize hir : putRes s P0 VV = CC at *
            generalize hie : putErr s P0 VV = EE at *
            have HIE := Lib.hid (show itemErr s P0 VV = EE from by unfold itemErr; rw [if_neg (by rw [HVL.out]; exact hv0)]; exact hie)
            have HIR := Lib.hid (show itemRes s P0 VV = CC from by unfold itemRes; rw [if_neg (by rw [HVL.out]; exact hv0)]; exact hir)
            clear hie hir
            have HCALL := Lib.hid hcall
            clear hcall
            have x0 := cellOf HBX6.out 0
            have x1 := cellOf HBX6.out 1
            have x2 := cellOf HBX6.out 2
            have x3 := cellOf HBX6.out 3
            simp only [List.getElem?_toArray, List.getElem?_cons_zero, List.getElem?_cons_succ] at x0 x1 x2 x3
            go_wp2_with fail
            refine HCALL.out.mono ?_
            rintro e w7 ⟨vq7, ve7, vd7, rfl, hO7, hE7⟩
            have hC7 := hO7.read
            obtain ⟨u1, v1, rfl, _⟩ := hC7.1.shape
            obtain ⟨u2, v2, rfl, _⟩ := hC7.2.1.shape
            obtain ⟨u3, v3, hce7, _, _⟩ := hC7.2.2
            subst hce7
            have HNX7 := Lib.hid (hE7.hp HNX6.out)
            have HBX7 := Lib.hid (hE7.hp HBX6.out)
            have HOW7 := Lib.hid (HOW6.out.ext hE7)
            have HOC7 := Lib.hid (hO7.mono (show w.heap.size ≤ w6.heap.size from by omega))
            have HRR7 := Lib.hid (HRR6.out.ext hE7)
            have HE7 := Lib.hid (HE6.out.trans' hE7)
            have hsz7 := hE7.sz
            generalize CC.qs.length = m1 at *
            generalize CC.ended.length = m2 at *
            generalize CC.cut.length = m3 at *
            generalize hcd : CC.done = cd at *
            have HCD := Lib.hid hcd
            clear hC7 hO7 hE7 x0 x1 x2 x3 hcd
            have y0 := cellOf HNX7.out 0
            have y1 := cellOf HNX7.out 1
            have y2 := cellOf HNX7.out 2
            have y3 := cellOf HNX7.out 3
            simp only [List.getElem?_toArray, List.getElem?_cons_zero, List.getElem?_cons_succ] at y0 y1 y2 y3
            have z0 := freeOf HNX7.out 0
            have z1 := freeOf HNX7.out 1
            have z2 := freeOf HNX7.out 2
            have z3 := freeOf HNX7.out 3
            have HNXA := Lib.hid (box_stored HNX7.out (.slice u1 m1 v1) (.slice u2 m2 v2) (.bool cd) (.slice u3 m3 v3)).1
            have HBXA := Lib.hid (box_far HBX7.out (show w2.heap.size ≠ w5.heap.size from by omega) (.slice u1 m1 v1) (.slice u2 m2 v2) (.bool cd) (.slice u3 m3 v3))
            have HOWA := Lib.hid (ownCk_st HNX7.out HOW7.out (.slice u1 m1 v1) (.slice u2 m2 v2) (.bool cd) (.slice u3 m3 v3))
            have HOCA := Lib.hid (ownCk_st HNX7.out HOC7.out (.slice u1 m1 v1) (.slice u2 m2 v2) (.bool cd) (.slice u3 m3 v3))
            have HRRA := Lib.hid (rr_st HNX7.out HRR7.out (.slice u1 m1 v1) (.slice u2 m2 v2) (.bool cd) (.slice u3 m3 v3))
            have HEA := Lib.hid (box_ext (K := w5.heap.size) HE7.out (by omega) (.slice u1 m1 v1) (.slice u2 m2 v2) (.bool cd) (.slice u3 m3 v3))
            have HSA := Lib.hid (size_st4 w7 w5.heap.size (.slice u1 m1 v1) (.slice u2 m2 v2) (.bool cd) (.slice u3 m3 v3))
            go_upto_region 22 with (fail)
            generalize hwA : (((w7.setCell ⟨w5.heap.size, 0, none⟩ (.slice u1 m1 v1)).setCell ⟨w5.heap.size, 1, none⟩ (.slice u2 m2 v2)).setCell ⟨w5.heap.size, 2, none⟩ (.bool cd)).setCell ⟨w5.heap.size, 3, none⟩ (.slice u3 m3 v3) = wA at *
            clear hwA y0 y1 y2 y3 z0 z1 z2 z3
            have hszA : w3.heap.size ≤ wA.heap.size := by have := HSA.out; omega
            have HFS := Lib.hid (fold_step vecP rs k (by rw [HN.out]; exact hlt) s)
            by_cases he0 : EE = 0
            · obtain rfl : EE = 0 := he0
              have HIE0 := Lib.hid HIE.out
              have x0 := cellOf HNXA.out 0
              have x1 := cellOf HNXA.out 1
              have x2 := cellOf HNXA.out 2
              have x3 := cellOf HNXA.out 3
              simp only [List.getElem?_toArray, List.getElem?_cons_zero, List.getElem?_cons_succ] at x0 x1 x2 x3
              have y0 := cellOf HBXA.out 0
              have y1 := cellOf HBXA.out 1
              have y2 := cellOf HBXA.out 2
              have y3 := cellOf HBXA.out 3
              simp only [List.getElem?_toArray, List.getElem?_cons_zero, List.getElem?_cons_succ] at y0 y1 y2 y3
              have z0 := freeOf HBXA.out 0
              have z1 := freeOf HBXA.out 1
              have z2 := freeOf HBXA.out 2
              have z3 := freeOf HBXA.out 3
              have HBXB := Lib.hid (box_stored HBXA.out (.slice u1 m1 v1) (.slice u2 m2 v2) (.bool cd) (.slice u3 m3 v3)).1
              have HOCB := Lib.hid (ownCk_st HBXA.out HOCA.out (.slice u1 m1 v1) (.slice u2 m2 v2) (.bool cd) (.slice u3 m3 v3))
              have HRRB := Lib.hid (rr_st HBXA.out HRRA.out (.slice u1 m1 v1) (.slice u2 m2 v2) (.bool cd) (.slice u3 m3 v3))
              have HEB := Lib.hid (box_ext (K := w2.heap.size) HEA.out (Nat.le_refl _) (.slice u1 m1 v1) (.slice u2 m2 v2) (.bool cd) (.slice u3 m3 v3))
              have HSB := Lib.hid (size_st4 wA w2.heap.size (.slice u1 m1 v1) (.slice u2 m2 v2) (.bool cd) (.slice u3 m3 v3))
              go_wp2
              go_roundg (N - (k + 1))
              case measure => omega
              case rel =>
                refine ⟨k + 1, CC, by omega, by omega, by go_num, (show _ = _ from ?_), (show SmallC _ from by rw [← HIR.out]; exact item_small HSM.out _ _), (show BoxCk _ _ _ _ from ⟨u1, m1, v1, u2, m2, v2, u3, m3, v3, by rw [HCD.out]; exact HBXB.out, HOCB.out⟩), (show RowRows _ _ _ _ _ _ _ from HRRB.out), (show _ ∧ _ from ⟨HEB.out, by have := HSB.out; omega⟩)⟩
                rw [← HFD.out, HFS.out, HP0.out, HVV.out, HIE.out, if_pos rfl, HIR.out]
            have e0 : (EE == 0) = false := by simpa using he0
            by_cases he6 : EE = 6
            · obtain rfl : EE = 6 := he6
              go_wp2
              go_roundg (N - (k + 1))
              case measure => omega
              case rel =>
                refine ⟨k + 1, s, by omega, by omega, by go_num, (show _ = _ from ?_), HSM.out, (show BoxCk _ _ _ _ from ⟨_, _, _, _, _, _, _, _, _, by rw [HSD.out]; exact HBXA.out, HOWA.out⟩), (show RowRows _ _ _ _ _ _ _ from HRRA.out), (show _ ∧ _ from ⟨HEA.out, hszA⟩)⟩
                rw [← HFD.out, HFS.out, HP0.out, HVV.out, HIE.out, if_neg (by decide), if_pos (.inl rfl)]
            have e6 : (EE == 6) = false := by simpa using he6
            have e6' : (EE != 6) = true := by simpa using he6
            by_cases he11 : EE = 11
            · obtain rfl : EE = 11 := he11
              go_wp2
              go_roundg (N - (k + 1))
              case measure => omega
              case rel =>
                refine ⟨k + 1, s, by omega, by omega, by go_num, (show _ = _ from ?_), HSM.out, (show BoxCk _ _ _ _ from ⟨_, _, _, _, _, _, _, _, _, by rw [HSD.out]; exact HBXA.out, HOWA.out⟩), (show RowRows _ _ _ _ _ _ _ from HRRA.out), (show _ ∧ _ from ⟨HEA.out, hszA⟩)⟩
                rw [← HFD.out, HFS.out, HP0.out, HVV.out, HIE.out, if_neg (by decide), if_pos (.inr rfl)]
            have e11 : (EE == 11) = false := by simpa using he11
            have e11' : (EE != 11) = true := by simpa using he11
            have HFR2 := Lib.hid (show FR = (zeroC, EE) from by rw [← HFD.out, HFS.out, HP0.out, HVV.out, HIE.out, if_neg he0, if_neg (by omega)])
            have HRA := Lib.hid (HEA.out.hp HR2.out)
            have HEWA := Lib.hid (HE2.out.trans' HEA.out)
            have r0 := cellOf HRA.out 0
            have r1 := cellOf HRA.out 1
            have r2 := cellOf HRA.out 2
            have r3 := cellOf HRA.out 3
            simp only [List.getElem?_toArray, List.getElem?_cons_zero, List.getElem?_cons_succ] at r0 r1 r2 r3
            have y0 := freeOf HRA.out 0
            have y1 := freeOf HRA.out 1
            have y2 := freeOf HRA.out 2
            have y3 := freeOf HRA.out 3
            go_wp2
            refine bodyPost_ret (v := .tuple #[.agg #[.slice none 0 0, .slice none 0 0, .bool false, .slice none 0 0], .int .i64 EE]) (by simp [results, Try.results31, go_sem, r0, r1, r2, r3]) rfl ?_
            rw [HFR2.out]
            exact zero_two ⟨rfl, box_ext HEWA.out (by omega) _ _ _ _⟩
        · have hltz : ¬ (k : Int) < (N : Int) := by omega
          obtain rfl : N = k := by omega
          have HFE := Lib.hid (show FR = (s, 0) from by rw [← HFD.out, ← HN.out, List.drop_length]; rfl)
          have HRX := Lib.hid (HEX.out.1.hp HR2.out)
          have HEX2 := Lib.hid (HE2.out.trans' HEX.out.1)
          have x0 := cellOf HBX0.out 0
          have x1 := cellOf HBX0.out 1
          have x2 := cellOf HBX0.out 2
          have x3 := cellOf HBX0.out 3
          simp only [List.getElem?_toArray, List.getElem?_cons_zero, List.getElem?_cons_succ] at x0 x1 x2 x3
          have r0 := cellOf HRX.out 0
          have r1 := cellOf HRX.out 1
          have r2 := cellOf HRX.out 2
          have r3 := cellOf HRX.out 3
          simp only [List.getElem?_toArray, List.getElem?_cons_zero, List.getElem?_cons_succ] at r0 r1 r2 r3
          have y0 := freeOf HRX.out 0
          have y1 := freeOf HRX.out 1
          have y2 := freeOf HRX.out 2
          have y3 := freeOf HRX.out 3
          go_wp2
          refine bodyPost_ret (v := .tuple #[.agg #[.slice a1 n1 c1, .slice a2 n2 c2, .bool sd, .slice a3 n3 c3], .int .i64 0]) (by simp [results, Try.results31, go_sem, r0, r1, r2, r3]) rfl ?_
          rw [HFE.out]
          exact ⟨_, _, _, by rw [HSD.out], ownCk_st HRX.out HOW.out _ _ _ _, box_ext HEX2.out (by omega) _ _ _ _⟩

end Go.Proofs.Ytggofkaakccoeaa
