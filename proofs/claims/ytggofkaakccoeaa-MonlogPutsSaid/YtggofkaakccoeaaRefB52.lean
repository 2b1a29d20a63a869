import Derived.Test.YtggofkaakccoeaaBase
import Derived.Test.YtggofkaakccoeaaProg
import Derived.Test.YtggofkaakccoeaaReadW52
import Derived.Test.YtggofkaakccoeaaJourB52
import Derived.Test.YtggofkaakccoeaaBoxes52
import Derived.Test.YtggofkaakccoeaaStep2
import Derived.BigQuiet
import Derived.Deep.QuietTactic
import Derived.Deep.LoopGhost
import Derived.Shelf.Abstract
import Derived.Deep.RegionHeld3
import Derived.Deep.DrawnRows
import Derived.Deep.DeepCutAuto
import Derived.Deep.AppendLies
/-
  The reference's Record, whole, Crash.
-/
namespace Go.Proofs.Ytggofkaakccoeaa
open Go.RowKit
set_option linter.unusedVariables false

set_option maxHeartbeats 2000000 in
theorem refRecord_calls (v : Value) (l : List Int) (w : World) (hv : Bys w v l) (hn : l.length ≤ 200000) :
    Calls Try.prog 36 #[v] w fun e w' => ∃ v', e = .returned v' ∧ Row w' w.heap.size 5 1 v' (l.length + 8) ((recL l).map (Value.int .u8)) ∧ Ext w w' := by
  obtain ⟨i, hi, hz0, hz1, hz2⟩ := info_parts info_byte
  have hby := hv.1
  obtain ⟨a, c, hve⟩ : ∃ a c, v = .slice a l.length c := by obtain ⟨_, a, c, h, _⟩ := hv; exact ⟨a, c, h⟩
  subst hve
  have HV := Lib.hid hv; clear hv
  have HBY := Lib.hid hby; clear hby
  generalize hln : l.length = n at *
  have HL := Lib.hid hln; clear hln
  go_enter Try.func36, Try.ntmps36
  go_wp2_with fail
  refine (word_calls n 4 _ (by omega) (by omega) (by omega)).mono ?_
  rintro e w1 ⟨v1, rfl, hR1, hE1⟩
  have HR1 := Lib.hid hR1; clear hR1
  have HE1 := Lib.hid hE1; clear hE1
  go_wp2_with ((at_builtin; refine wpList_append_row (o := ⟨some 8, _, _, _, _, _⟩) rfl _ _ 22 rfl w.heap.size 5 i (.int .u8 0) 1 1 Try.underlying22 hi hz0 hz1 hz2 rfl (by decide) v1 4 _ rfl HR1.out a n c (l.map (Value.int .u8)) rfl (by simp [HL.out]) ((HV.out.ext HE1.out).news) (byte_one l) (by unfold maxLen; omega) (by omega) (by have := HE1.out.sz; omega) ?_; intro v2 w2 hR2 hG2 hK2; have HR2 := Lib.hid hR2; have HG2 := Lib.hid (show w1.grownBy w2 v1.ownBlock from hG2); clear hR2 hG2 hK2))
  have hR2' : Row w2 w.heap.size 5 1 v2 (wordL n 4 ++ l).length ((wordL n 4 ++ l).map (Value.int .u8)) := by
    rw [List.length_append, word_len, HL.out, List.map_append]
    exact HR2.out
  have hE2 : Ext w w2 := HE1.out.gr HG2.out (fun k hk => (HR1.out.lt k hk).1)
  have hbl : ∀ x, x ∈ wordL n 4 ++ l → Byte x := by
    intro x hx
    rcases List.mem_append.1 hx with hx | hx
    · exact word_byte _ _ x hx
    · exact HBY.out x hx
  have hlen : (wordL n 4 ++ l).length = n + 4 := by rw [List.length_append, word_len, HL.out]; omega
  have hB2 := hR2'.bys hbl
  have hs := sum_range (wordL n 4 ++ l)
  rw [hlen] at hR2'
  have HR2' := Lib.hid hR2'
  have HE2 := Lib.hid hE2
  have HB2 := Lib.hid hB2
  have HLEN := Lib.hid hlen
  clear hR2' hE2 hbl hlen hB2 HR1 HE1
  obtain ⟨s, hsum⟩ : ∃ s, sumL (wordL n 4 ++ l) = s := ⟨_, rfl⟩
  rw [hsum] at hs
  have HS := Lib.hid hsum; clear hsum
  go_wp2_with fail
  refine (refSum_calls _ _ _ HB2.out (by rw [HLEN.out]; omega)).mono ?_
  rw [HS.out]
  rintro e w3 ⟨rfl, rfl⟩
  go_wp2_with fail
  refine (word_calls s 4 _ (by omega) (by omega) (by omega)).mono ?_
  rintro e w4 ⟨v4, rfl, hR4, hE4⟩
  obtain ⟨xa, xc, rfl, _, hsh⟩ := hR4.any
  have hb4 := hR4.bys (word_byte s 4)
  have HB4 := Lib.hid hb4
  have HE4 := Lib.hid hE4
  clear hsh hb4 hR4 hE4
  go_wp2_with ((at_builtin; refine wpList_append_row (o := ⟨some 13, _, _, _, _, _⟩) rfl _ _ 22 rfl w.heap.size 5 i (.int .u8 0) 1 1 Try.underlying22 hi hz0 hz1 hz2 rfl (by decide) v2 (n + 4) _ rfl (HR2'.out.ext HE4.out) xa 4 xc ((wordL s 4).map (Value.int .u8)) rfl (by simp [word_len]) HB4.out.news (byte_one _) (by unfold maxLen; omega) (by omega) (by have := HE4.out.sz; have := HE2.out.sz; omega) ?_; intro v5 w5 hR5 hG5 hK5; have HR5 := Lib.hid hR5; have HG5 := Lib.hid (show w4.grownBy w5 v2.ownBlock from hG5); clear hR5 hG5 hK5))
  go_ret
  refine ⟨_, rfl, ?_, (HE2.out.trans' HE4.out).gr HG5.out (fun k hk => (HR2'.out.lt k hk).1)⟩
  unfold recL
  rw [HL.out, HS.out, List.map_append]
  exact HR5.out

set_option maxHeartbeats 4000000 in
theorem whole_calls (v : Value) (l : List Int) (d f : Int) (w : World) (hv : Bys w v l) (hn : l.length ≤ 1000000) :
    Calls Try.prog 48 #[.agg #[v, .int .i64 d, .int .i64 f]] w fun e w' => e = .returned (.int .i64 (wholeR (recordsL l))) ∧ Ext w w' := by
  have hW := whole_le' l hv.1
  have HV := Lib.hid hv
  have HN := Lib.hid hn
  have HRB := Lib.hid (records_byte l.length l (Nat.le_refl _) hv.1)
  have hRL := wholeR_len (recordsL l)
  obtain ⟨_, a, c, rfl, _, hvc⟩ := hv
  clear hvc
  generalize hln : l.length = n at *
  have HL := Lib.hid hln; clear hln
  generalize hR : recordsL l = R at *
  have HR := Lib.hid hR
  generalize hq : R.length = q at *
  have HQ := Lib.hid hq
  generalize hT : wholeR R = T at *
  have HT := Lib.hid hT
  clear hR hq hT
  go_enter Try.func48, Try.ntmps48
  go_wp2_with fail
  refine (read_calls _ l _ _ _ (HV.out.ext ((Ext.rf _).al _)) (by rw [HL.out]; exact HN.out)).mono ?_
  rintro e w1 ⟨v1, rfl, hRR, hE1⟩
  rw [HR.out] at hRR
  have hS := hRR.sl (fun r hr => (HRB.out r hr).1)
  have HE := Lib.hid (((Ext.rf w).al _).trans' hE1)
  obtain ⟨ra, rc, rfl, _, hsl⟩ := hS
  rw [HQ.out]
  have HS := Lib.hid hsl
  clear hRR hE1 hsl
  go_wp2
  go_loopg [3, 5] q (fun m s3 s5 wr => ∃ k : Nat, k ≤ q ∧ q - k ≤ m ∧ s5 = .int .i64 k ∧ s3 = .int .i64 (wholeR (R.take k)) ∧ wr = w1)
  case atStart => exact ⟨0, Nat.zero_le _, by omega, rfl, by simp [wholeR], rfl⟩
  case round =>
    obtain ⟨k, hk, hm, rfl, rfl, rfl⟩ := hrel
    by_cases hlt : k < q
    · have hltz : (k : Int) < (q : Int) := by omega
      obtain ⟨b, off, rfl, hb, hc⟩ := HS.out (by intro e; have := HQ.out; simp [e] at this; omega)
      obtain ⟨vs, hvl, ⟨x, rfl, hx⟩, hcx⟩ := hc k (by rw [HQ.out]; exact hlt)
      have hcell := hcx 0 (by omega)
      obtain ⟨xa, xc, rfl⟩ : ∃ xa xc, x = .slice xa R[k]!.length xc := by obtain ⟨_, xa, xc, h, _⟩ := hx; exact ⟨xa, xc, h⟩
      rw [Nat.mul_one, Nat.add_zero] at hcell
      have hcell' : wr.cell? ⟨b, off + k, none⟩ = some (.slice xa R[k]!.length xc) := hcell
      have hsucc := wholeR_take_succ R k (by rw [HQ.out]; exact hlt)
      have hle := wholeR_take_le R (k + 1)
      rw [HT.out] at hle
      clear hcell hc hcx hx
      generalize R[k]!.length = y at *
      generalize wholeR (R.take k) = s at *
      have hz : ((wholeR (R.take (k + 1)) : Nat) : Int) = (s : Int) + 8 + (y : Int) := by omega
      have HZ := Lib.hid hz
      have hz' : (s : Int) + ((y : Int) + 8) ≤ T := by omega
      clear hz hsucc hle
      go_wp2
      go_roundg (q - (k + 1))
      case measure => omega
      case rel => exact ⟨k + 1, by omega, by omega, by go_num, by rw [HZ.out], rfl⟩
    · have hltz : ¬ (k : Int) < (q : Int) := by omega
      obtain rfl : k = q := by omega
      have hTk : wholeR (R.take k) = T := by rw [List.take_of_length_le (by rw [HQ.out]; omega)]; exact HT.out
      rw [hTk]
      clear hTk
      go_wp2
      go_ret
      exact ⟨rfl, HE.out⟩

end Go.Proofs.Ytggofkaakccoeaa

/-
  The reference's write.
-/
namespace Go.Proofs.Ytggofkaakccoeaa
open Go.RowKit
set_option linter.unusedVariables false
attribute [local go_sem ↓] Go.wp_at_zero Go.wp_at_succ

/-- A journal that lies in a box of the call's own. -/
def JVar (w : World) (base g : Nat) (v : Value) (l : List Int) (d f : Int) : Prop :=
  base ≤ g ∧ w.heap[g]? = some (journalT v d f) ∧ Row w base 5 1 v l.length (l.map (Value.int .u8)) ∧ v.ownBlock ≠ some g

theorem grown_keep {W w5 : World} {row : Option Nat} {k : Nat} {X : Obj} (hg : W.grownBy w5 row) (hne : row ≠ some k) (h : W.heap[k]? = some X) : w5.heap[k]? = some X := by
  rw [hg.block k (Array.getElem?_eq_some_iff.1 h).1 (fun e => hne e.symm)]
  exact h
theorem heap3 {w : World} {g : Nat} {x y z x' y' z' : Value} (h : w.heap[g]? = some (.cells #[x, y, z] 24)) :
    (((w.setCell ⟨g, 0, none⟩ x').setCell ⟨g, 1, none⟩ y').setCell ⟨g, 2, none⟩ z').heap[g]? = some (.cells #[x', y', z'] 24) := by
  have h1 : (w.setCell ⟨g, 0, none⟩ x').heap[g]? = some (.cells #[x', y, z] 24) := by rw [heap_setCell_same h]; simp
  have h2 : ((w.setCell ⟨g, 0, none⟩ x').setCell ⟨g, 1, none⟩ y').heap[g]? = some (.cells #[x', y', z] 24) := by rw [heap_setCell_same h1]; simp
  rw [heap_setCell_same h2]; simp
theorem jvar_late {w w5 : World} {v : Value} {l : List Int} {d f : Int} {n : Nat} {xs : List Value} (hown : Row w5 w.heap.size 5 1 v n xs) (hn : n = l.length) (hxs : xs = l.map (Value.int .u8)) (hx : Ext w w5) :
    ∃ g v', Value.pointer (some ⟨w5.heap.size, 0, none⟩) = Value.pointer (some ⟨g, 0, none⟩) ∧ Aside (JVar (w5.alloc (.cells #[v, .int .i64 d, .int .i64 f] 24)) w.heap.size g v' l d f) ∧ Aside (Ext w (w5.alloc (.cells #[v, .int .i64 d, .int .i64 f] 24))) := by
  subst hn; subst hxs
  exact ⟨_, v, rfl, ⟨hx.sz, heap_alloc_new _ _, hown.al _, fun h => by have := (hown.lt _ h).2; omega⟩, hx.al _⟩
theorem jvar_early {w W w5 : World} {K : Nat} {row : Option Nat} {v : Value} {l : List Int} {d f : Int} {n : Nat} {xs : List Value} (hK : W.heap[K]? = some (journalT (.slice none 0 0) 0 0)) (hg : W.grownBy w5 row) (hne : row ≠ some K) (hw : w.heap.size ≤ K)
    (hown : Row w5 w.heap.size 5 1 v n xs) (hn : n = l.length) (hxs : xs = l.map (Value.int .u8)) (hblk : v.ownBlock = row ∨ ∃ k, v.ownBlock = some k ∧ W.heap.size ≤ k) (hx : Ext w w5) :
    ∃ g v', Value.pointer (some ⟨K, 0, none⟩) = Value.pointer (some ⟨g, 0, none⟩) ∧ Aside (JVar (((w5.setCell ⟨K, 0, none⟩ v).setCell ⟨K, 1, none⟩ (.int .i64 d)).setCell ⟨K, 2, none⟩ (.int .i64 f)) w.heap.size g v' l d f) ∧ Aside (Ext w (((w5.setCell ⟨K, 0, none⟩ v).setCell ⟨K, 1, none⟩ (.int .i64 d)).setCell ⟨K, 2, none⟩ (.int .i64 f))) := by
  subst hn; subst hxs
  have hKl := (Array.getElem?_eq_some_iff.1 hK).1
  have hnK : v.ownBlock ≠ some K := by
    rcases hblk with h | ⟨k, h, hk⟩
    · rw [h]; exact hne
    · rw [h]; intro e; simp only [Option.some.injEq] at e; omega
  refine ⟨K, v, rfl, ⟨hw, heap3 (grown_keep hg hne hK), ?_, hnK⟩, ((hx.st (p := ⟨K, 0, none⟩) hw _).st (p := ⟨K, 1, none⟩) hw _).st (p := ⟨K, 2, none⟩) hw _⟩
  exact ((hown.st (p := ⟨K, 0, none⟩) hnK _).st (p := ⟨K, 1, none⟩) hnK _).st (p := ⟨K, 2, none⟩) hnK _
theorem row_at {W : World} {base k size : Nat} {e : TypeId} (h : W.heap[k]? = some (.cells #[] e (0, 0))) (hb : base ≤ k) : Row W base e size (.slice (some ⟨k, 0, none⟩) 0 0) 0 [] :=
  ⟨by simp, .inr ⟨k, 0, 0, #[], rfl, hb, h, Nat.le_refl _, Nat.zero_le _, by simp, by simp⟩⟩

set_option maxHeartbeats 4000000 in
set_option maxRecDepth 100000 in
theorem refSync_bad (a : Option Addr) (n c : Nat) (d f : Int) (w : World) (hn : n ≤ 9223372036854775807) (hval : validJ n d f = false) :
    Calls Try.prog 25 #[.agg #[.slice a n c, .int .i64 d, .int .i64 f]] w fun e w' => e = .returned (.tuple #[.agg #[.slice none 0 0, .int .i64 0, .int .i64 0], .int .i64 1]) ∧ Ext w w' := by
  go_enter Try.func25, Try.ntmps25
  go_wp2_with fail
  refine (refValid_calls _ _ _ _ _ _ (by omega)).mono ?_
  rw [hval]
  rintro e w1 ⟨rfl, hE1⟩
  obtain ⟨hb1, hb2, hb3, hb4⟩ := two_boxes hE1
  have HB2 := Lib.hid hb2
  have HB4 := Lib.hid hb4
  clear hb1 hb2 hb4 hE1 hval
  have r0 := cell_of HB2.out 0
  have r1 := cell_of HB2.out 1
  have r2 := cell_of HB2.out 2
  simp only [List.getElem?_toArray, List.getElem?_cons_zero, List.getElem?_cons_succ] at r0 r1 r2
  have q0 := free_of HB2.out 0
  have q1 := free_of HB2.out 1
  have q2 := free_of HB2.out 2
  go_wp2
  refine bodyPost_ret (v := .tuple #[.agg #[.slice none 0 0, .int .i64 0, .int .i64 0], .int .i64 1]) (by simp [results, Try.results25, go_sem, r0, r1, r2]) rfl ⟨rfl, (by repeat (first | refine Ext.st ?_ (by first | exact Nat.le_refl _ | exact Nat.le_succ _ | assumption | omega) _ | refine Ext.al ?_ _ | refine Ext.dr ?_ | refine Ext.drN ?_ _ | exact HB4.out))⟩

set_option maxHeartbeats 4000000 in
set_option maxRecDepth 100000 in
theorem refSync_ok (v : Value) (l : List Int) (d f : Int) (w : World) (hv : Bys w v l) (hn : l.length ≤ 1000000) (hval : validJ l.length d f = true) :
    Calls Try.prog 25 #[.agg #[v, .int .i64 d, .int .i64 f]] w fun e w' => ∃ v', e = .returned (.tuple #[.agg #[v', .int .i64 (if f = 0 then d else l.length), .int .i64 f], .int .i64 (if f = 0 then 19 else 0)]) ∧ Row w' w.heap.size 5 1 v' l.length (l.map (Value.int .u8)) ∧ Ext w w' := by
  obtain ⟨i8, hi8, hy0, hy1, hy2⟩ := info_parts info_byte
  have HV := Lib.hid hv
  obtain ⟨_, a, c, rfl, hlc, hvc⟩ := hv
  clear hvc
  generalize hds : (if f = 0 then d else (l.length : Int)) = ds
  generalize her : (if f = 0 then (19 : Int) else 0) = er
  have HDS := Lib.hid hds
  have HER := Lib.hid her
  generalize hq : l.length = q at hn hlc hval ⊢
  rw [hq] at HV HDS
  have HQ := Lib.hid hq
  clear hds her hq
  go_enter Try.func25, Try.ntmps25
  go_wp2_with fail
  refine (refValid_calls _ _ _ _ _ _ (by omega)).mono ?_
  rw [hval]
  rintro e w1 ⟨rfl, hE1⟩
  obtain ⟨hb1, hb2, hb3, hb4⟩ := two_boxes hE1
  have HB1 := Lib.hid hb1
  have HB2 := Lib.hid hb2
  have HE1 := Lib.hid hE1
  have HB4 := Lib.hid hb4
  clear hb1 hb2 hb4 hE1 hval
  have c0 := cell_of HB1.out 0
  have c1 := cell_of HB1.out 1
  have c2 := cell_of HB1.out 2
  simp only [List.getElem?_toArray, List.getElem?_cons_zero, List.getElem?_cons_succ] at c0 c1 c2
  have r0 := cell_of HB2.out 0
  have r1 := cell_of HB2.out 1
  have r2 := cell_of HB2.out 2
  simp only [List.getElem?_toArray, List.getElem?_cons_zero, List.getElem?_cons_succ] at r0 r1 r2
  have q0 := free_of HB2.out 0
  have q1 := free_of HB2.out 1
  have q2 := free_of HB2.out 2
  go_upto_region 3 with fail
  go_cut [4] (fun s4 wx => ∃ (g : Nat) (v' : Value), s4 = .pointer (some ⟨g, 0, none⟩) ∧ Aside (JVar wx w1.heap.size g v' l d f) ∧ Aside (Ext w1 wx))
  case first =>
    have n1 : w.heap.size ≠ w1.heap.size + 1 := by omega
    have n2 : w.heap.size ≠ w1.heap.size := by omega
    have n3 : w1.heap.size + 1 ≠ w.heap.size := by omega
    have n4 : w1.heap.size ≠ w.heap.size := by omega
    go_region_held3 (fun w' => w'.cell? ⟨w.heap.size, 0, none⟩ = some (.slice a q c) ∧ w'.cell? ⟨w.heap.size, 1, none⟩ = some (.int .i64 d) ∧ w'.cell? ⟨w.heap.size, 2, none⟩ = some (.int .i64 f)) (go_keep)
      ((refine step_append_rowM (by rfl) _ _ 22 (by rfl) w1.heap.size 5 i8 (.int .u8 0) 1 1 Try.underlying22 hi8 hy0 hy1 hy2 rfl (by decide) _ 0 [] (by rfl) (row_at (by first | exact heap_new_eq (by simp) | exact ((Ext.rf _).al _).hp (heap_new_eq (by simp)) | exact (((Ext.rf _).dr).al _).hp (heap_new_eq (by simp))) (by first | omega | (simp; done) | (simp; omega))) a q c (l.map (Value.int .u8)) (by rfl) (by rw [List.length_map, HQ.out, Nat.mul_one]) (HV.out.ext (by repeat (first | refine Ext.st ?_ (by first | exact Nat.le_refl _ | exact Nat.le_succ _ | assumption | omega) _ | refine Ext.al ?_ _ | refine Ext.dr ?_ | refine Ext.drN ?_ _ | exact HB4.out))).news (byte_one _) (by unfold maxLen; omega) (by omega) (by first | (simp; done) | (simp; omega)) ?_; intro v5 w5 hown5 hgrow5 hblk5; rw [Nat.zero_add, List.nil_append] at hown5; obtain ⟨fa, fc, rfl, hle5, hsh5⟩ := hown5.any; clear hsh5; have hx5 : Ext w1 w5 := Ext.gr (by repeat (first | refine Ext.st ?_ (by first | exact Nat.le_refl _ | exact Nat.le_succ _ | assumption | omega) _ | refine Ext.al ?_ _ | refine Ext.dr ?_ | refine Ext.drN ?_ _ | exact Ext.rf _)) hgrow5 (fun kk hkk => by simp [Act.eval, Value.ownBlock] at hkk; omega); have k0 := hx5.cl c0; have k1 := hx5.cl c1; have k2 := hx5.cl c2; have f1 := fun (k j : Nat) (h1 : k < _) (h2 : some k ≠ _) => hgrow5.cell_far ⟨k, j, none⟩ h1 h2; have f2 := fun (k j : Nat) (h1 : k < _) (h2 : some k ≠ _) => hgrow5.frozen_far ⟨k, j, none⟩ h1 h2; simp only [Act.eval, Value.ownBlock] at f1 f2))
    all_goals (go_wp2_with fail; go_meet)
    · exact jvar_late hown5 HQ.out.symm rfl hx5
    · exact jvar_early (hg := hgrow5) (hown := hown5) (hblk := hblk5) (hx := hx5) (hn := HQ.out.symm) (hxs := rfl) (hK := by exact heap_new_eq (w := w1.alloc (.cells #[] 5)) (by simp)) (hne := by simp [Value.ownBlock]) (hw := by omega)
    · exact jvar_early (hg := hgrow5) (hown := hown5) (hblk := hblk5) (hx := hx5) (hn := HQ.out.symm) (hxs := rfl) (hK := by exact ((Ext.rf (w1.alloc (journalT (.slice none 0 0) 0 0))).al _).hp (heap_new_eq (by simp))) (hne := by simp [Value.ownBlock]) (hw := by omega)
  case rest =>
    obtain ⟨g, v', rfl, HJ, HX⟩ := hcut
    have hbg := HJ.out.1
    obtain ⟨va, vc, rfl, _, hsh⟩ := HJ.out.2.2.1.any
    clear hsh
    rw [HQ.out] at HJ
    have HH := Lib.hid HJ.out.2.1
    have g0 := cell_of HH.out 0
    have g1 := cell_of HH.out 1
    have g2 := cell_of HH.out 2
    simp only [List.getElem?_toArray, List.getElem?_cons_zero, List.getElem?_cons_succ] at g0 g1 g2
    have h0 := free_of HH.out 0
    have h1 := free_of HH.out 1
    have h2 := free_of HH.out 2
    have HB2' := Lib.hid (HX.out.hp HB2.out)
    have HB1' := Lib.hid (HX.out.hp HB1.out)
    have hsx := HX.out.sz
    have hr := HJ.out.2.2.1
    rw [HQ.out] at hr
    have HR := Lib.hid hr
    clear hr
    have HNE := Lib.hid HJ.out.2.2.2
    clear c0 c1 c2 r0 r1 r2 q0 q1 q2
    have c0 := cell_of HB1'.out 0
    have c1 := cell_of HB1'.out 1
    have c2 := cell_of HB1'.out 2
    simp only [List.getElem?_toArray, List.getElem?_cons_zero, List.getElem?_cons_succ] at c0 c1 c2
    have r0 := cell_of HB2'.out 0
    have r1 := cell_of HB2'.out 1
    have r2 := cell_of HB2'.out 2
    simp only [List.getElem?_toArray, List.getElem?_cons_zero, List.getElem?_cons_succ] at r0 r1 r2
    have q0 := free_of HB2'.out 0
    have q1 := free_of HB2'.out 1
    have q2 := free_of HB2'.out 2
    by_cases h0 : f = 0
    · have e0 : (f == 0) = true := by simpa using h0
      have H0 := Lib.hid h0; clear h0
      go_wp2
      refine bodyPost_ret (v := .tuple #[.agg #[.slice va q vc, .int .i64 d, .int .i64 f], .int .i64 19]) (by simp [results, Try.results25, go_sem, r0, r1, r2]) rfl ⟨_, by rw [← HDS.out, ← HER.out, if_pos H0.out, if_pos H0.out], (Row.st3 (base := w1.heap.size) (g := w.heap.size + 1) HR.out (by omega) _ _ _).mono (by omega), ?_⟩
      have HE9 := Lib.hid (HB4.out.trans' HX.out)
      exact (by repeat (first | refine Ext.st ?_ (by first | exact Nat.le_refl _ | exact Nat.le_succ _ | assumption | omega) _ | refine Ext.al ?_ _ | refine Ext.dr ?_ | refine Ext.drN ?_ _ | exact HE9.out))
    · have e0 : (f == 0) = false := by simpa using h0
      have H0 := Lib.hid h0; clear h0
      go_wp2
      refine bodyPost_ret (v := .tuple #[.agg #[.slice va q vc, .int .i64 q, .int .i64 f], .int .i64 0]) (by simp [results, Try.results25, go_sem, r0, r1, r2]) rfl ⟨_, by rw [← HDS.out, ← HER.out, if_neg H0.out, if_neg H0.out], (Row.st3 (base := w1.heap.size) (g := w.heap.size + 1) (HR.out.st (p := ⟨g, 1, none⟩) HNE.out _) (by omega) _ _ _).mono (by omega), ?_⟩
      have HE9 := Lib.hid (HB4.out.trans' (HX.out.st (p := ⟨g, 1, none⟩) hbg (.int .i64 q)))
      exact (by repeat (first | refine Ext.st ?_ (by first | exact Nat.le_refl _ | exact Nat.le_succ _ | assumption | omega) _ | refine Ext.al ?_ _ | refine Ext.dr ?_ | refine Ext.drN ?_ _ | exact HE9.out))

end Go.Proofs.Ytggofkaakccoeaa
