/-
  Crash, of both texts.
-/
import Derived.Test.YtggofkaakccoeaaBase
import Derived.Test.YtggofkaakccoeaaProg
import Derived.BigQuiet
import Derived.Deep.QuietTactic
import Derived.Deep.LoopGhost
import Derived.Shelf.Abstract
import Derived.Test.YtggofkaakccoeaaReadW52
import Derived.Test.YtggofkaakccoeaaJourB52
import Derived.Test.YtggofkaakccoeaaBoxes52
namespace Go.Proofs.Ytggofkaakccoeaa
open Go.RowKit
set_option linter.unusedVariables false

def crashN (n D K : Nat) : Nat := if K < n - D then D + K else n
theorem crashN_le (n D K : Nat) (h : D ≤ n) : crashN n D K ≤ n := by unfold crashN; split <;> omega


set_option maxHeartbeats 4000000 in
theorem refCrash_calls (v : Value) (l : List Int) (D K : Nat) (f : Int) (w : World) (hv : Bys w v l) (hn : l.length ≤ 1000000) (hd : D ≤ l.length) (hk : (K : Int) ≤ 9223372036854775807) :
    Calls Try.prog 15 #[.agg #[v, .int .i64 D, .int .i64 f], .int .i64 K] w fun e w' => ∃ v', e = .returned (.agg #[v', .int .i64 (crashN l.length D K), .int .i64 (-1)]) ∧ Row w' w.heap.size 5 1 v' (crashN l.length D K) ((l.take (crashN l.length D K)).map (Value.int .u8)) ∧ Ext w w' := by
  obtain ⟨i8, hi8, hy0, hy1, hy2⟩ := info_parts info_byte
  have hX : (l.take (crashN l.length D K)).length = crashN l.length D K := by rw [List.length_take]; have := crashN_le l.length D K hd; omega
  have hle := crashN_le l.length D K hd
  have HV := Lib.hid hv
  obtain ⟨_, a, c, rfl, hlc, hvc⟩ := hv
  clear hvc
  have HTK := Lib.hid (HV.out.take (crashN l.length D K) hle)
  have HX := Lib.hid hX
  have hNd : crashN l.length D K = if K < l.length - D then D + K else l.length := rfl
  generalize crashN l.length D K = N at *
  generalize hln : l.length = n at *
  have HL := Lib.hid hln
  clear hX hln
  have HBX := Lib.hid (HTK.out.ext ((((Ext.rf w).al (journalT (.slice a n c) D f)).al (journalT (.slice none 0 0) 0 0)).al (.cells #[] 5)))
  have he0 : Row ((((w.alloc (journalT (.slice a n c) D f)).alloc (journalT (.slice none 0 0) 0 0)).alloc (.cells #[] 5))) (w.heap.size + 2) 5 1 (.slice (some ⟨w.heap.size + 2, 0, none⟩) 0 0) 0 [] := by
    have := row_empty ((w.alloc (journalT (.slice a n c) D f)).alloc (journalT (.slice none 0 0) 0 0)) 5 1
    simpa using this
  have HE0 := Lib.hid he0
  clear he0
  by_cases h1 : K < n - D
  · have h1z : (K : Int) < (n : Int) - D := by omega
    rw [if_pos h1] at hNd
    obtain rfl := hNd
    go_enter Try.func15, Try.ntmps15
    go_wp2_with ((at_builtin; refine wpList_append_row (o := ⟨some 24, _, _, _, _, _⟩) rfl _ _ 22 rfl (w.heap.size + 2) 5 i8 (.int .u8 0) 1 1 Try.underlying22 hi8 hy0 hy1 hy2 rfl (by decide) _ 0 [] rfl HE0.out a (D + K) c ((l.take (D + K)).map (Value.int .u8)) rfl (by rw [List.length_map, HX.out, Nat.mul_one]) (HBX.out.news) (byte_one _) (by unfold maxLen; omega) (by omega) (by simp) ?_; intro v5 w5 hown5 hgrow5 hblk5; rw [Nat.zero_add, List.nil_append] at hown5; obtain ⟨fa, fc, rfl, _, hsh⟩ := hown5.any; have HR5 := Lib.hid hown5; have HG5 := Lib.hid (show (((w.alloc (journalT (.slice a n c) D f)).alloc (journalT (.slice none 0 0) 0 0)).alloc (.cells #[] 5)).grownBy w5 (some (w.heap.size + 2)) from hgrow5); clear hown5 hgrow5 hblk5 hsh; obtain ⟨hb1, hb2, hb3, hb4⟩ := two_boxes (((Ext.rf _).al _).gr HG5.out (fun kk hkk => by simp only [Option.some.injEq] at hkk; subst hkk; simp)); have HB2 := Lib.hid hb2; have q0 := free_of hb2 0; have q1 := free_of hb2 1; have q2 := free_of hb2 2; have r0 := cell_of hb2 0; have r1 := cell_of hb2 1; have r2 := cell_of hb2 2; simp only [List.getElem?_toArray, List.getElem?_cons_zero, List.getElem?_cons_succ] at r0 r1 r2; have HB4 := Lib.hid hb4; clear hb1 hb2 hb4))
    refine bodyPost_ret (v := .agg #[.slice fa (D + K) fc, .int .i64 (((D + K) : Nat) : Int), .int .i64 (-1)]) (by simp [results, Try.results15, go_sem, r0, r1, r2]) rfl ⟨_, rfl, (by have hr := (Row.st3 (base := w.heap.size + 2) (g := w.heap.size + 1) HR5.out (by omega) (Value.slice fa (D + K) fc) (.int .i64 (((D + K) : Nat) : Int)) (.int .i64 (-1))).mono (show w.heap.size ≤ w.heap.size + 2 by omega); first | exact hr | (rw [List.map_take] at hr; exact hr)), (by repeat (first | refine Ext.st ?_ (by first | exact Nat.le_refl _ | exact Nat.le_succ _ | assumption | omega) _ | refine Ext.al ?_ _ | refine Ext.dr ?_ | refine Ext.drN ?_ _ | exact HB4.out))⟩
  · have h1z : ¬ (K : Int) < (n : Int) - D := by omega
    rw [if_neg h1] at hNd
    obtain rfl := hNd
    go_enter Try.func15, Try.ntmps15
    go_wp2_with ((at_builtin; refine wpList_append_row (o := ⟨some 24, _, _, _, _, _⟩) rfl _ _ 22 rfl (w.heap.size + 2) 5 i8 (.int .u8 0) 1 1 Try.underlying22 hi8 hy0 hy1 hy2 rfl (by decide) _ 0 [] rfl HE0.out a N c ((l.take N).map (Value.int .u8)) rfl (by rw [List.length_map, HX.out, Nat.mul_one]) (HBX.out.news) (byte_one _) (by unfold maxLen; omega) (by omega) (by simp) ?_; intro v5 w5 hown5 hgrow5 hblk5; rw [Nat.zero_add, List.nil_append] at hown5; obtain ⟨fa, fc, rfl, _, hsh⟩ := hown5.any; have HR5 := Lib.hid hown5; have HG5 := Lib.hid (show (((w.alloc (journalT (.slice a N c) D f)).alloc (journalT (.slice none 0 0) 0 0)).alloc (.cells #[] 5)).grownBy w5 (some (w.heap.size + 2)) from hgrow5); clear hown5 hgrow5 hblk5 hsh; obtain ⟨hb1, hb2, hb3, hb4⟩ := two_boxes (((Ext.rf _).al _).gr HG5.out (fun kk hkk => by simp only [Option.some.injEq] at hkk; subst hkk; simp)); have HB2 := Lib.hid hb2; have q0 := free_of hb2 0; have q1 := free_of hb2 1; have q2 := free_of hb2 2; have r0 := cell_of hb2 0; have r1 := cell_of hb2 1; have r2 := cell_of hb2 2; simp only [List.getElem?_toArray, List.getElem?_cons_zero, List.getElem?_cons_succ] at r0 r1 r2; have HB4 := Lib.hid hb4; clear hb1 hb2 hb4))
    refine bodyPost_ret (v := .agg #[.slice fa N fc, .int .i64 ((N : Nat) : Int), .int .i64 (-1)]) (by simp [results, Try.results15, go_sem, r0, r1, r2]) rfl ⟨_, rfl, (by have hr := (Row.st3 (base := w.heap.size + 2) (g := w.heap.size + 1) HR5.out (by omega) (Value.slice fa N fc) (.int .i64 ((N : Nat) : Int)) (.int .i64 (-1))).mono (show w.heap.size ≤ w.heap.size + 2 by omega); first | exact hr | (rw [List.map_take] at hr; exact hr)), (by repeat (first | refine Ext.st ?_ (by first | exact Nat.le_refl _ | exact Nat.le_succ _ | assumption | omega) _ | refine Ext.al ?_ _ | refine Ext.dr ?_ | refine Ext.drN ?_ _ | exact HB4.out))⟩


set_option maxHeartbeats 4000000 in
theorem crash_bad (a : Option Addr) (n c : Nat) (d f k : Int) (w : World) (hn : n ≤ 9223372036854775807) (hval : validJ n d f = false) :
    Calls Try.prog 12 #[.agg #[.slice a n c, .int .i64 d, .int .i64 f], .int .i64 k] w fun e w' => e = .returned (.tuple #[.agg #[.slice none 0 0, .int .i64 0, .int .i64 0], .int .i64 1]) ∧ Ext w w' := by
  go_enter Try.func12, Try.ntmps12
  go_wp2_with fail
  refine (valid_calls _ _ _ _ _ _ (by omega)).mono ?_
  rw [hval]
  rintro e w1 ⟨rfl, hE1⟩
  obtain ⟨hb1, hb2, hb3, hb4⟩ := two_boxes hE1
  have HE1 := Lib.hid hE1
  have HB1 := Lib.hid hb1
  have HB2 := Lib.hid hb2
  have HB4 := Lib.hid hb4
  clear hb1 hb2 hb4 hE1 hval
  have c0 := cell_of HB1.out 0
  have c1 := cell_of HB1.out 1
  have c2 := cell_of HB1.out 2
  simp only [List.getElem?_toArray, List.getElem?_cons_zero, List.getElem?_cons_succ] at c0 c1 c2
  have r0 := cell_of HB2.out 0
  have r1 := cell_of HB2.out 1
  have r2 := cell_of HB2.out 2
  simp only [List.getElem?_toArray, List.getElem?_cons_zero, List.getElem?_cons_succ] at r0 r1 r2
  have q0 := free_of HB2.out 0
  have q1 := free_of HB2.out 1
  have q2 := free_of HB2.out 2
  go_wp2
  refine bodyPost_ret (v := .tuple #[.agg #[.slice none 0 0, .int .i64 0, .int .i64 0], .int .i64 1]) (by simp [results, Try.results12, go_sem, r0, r1, r2]) rfl ⟨rfl, (by repeat (first | refine Ext.st ?_ (by first | exact Nat.le_refl _ | exact Nat.le_succ _ | assumption | omega) _ | refine Ext.al ?_ _ | refine Ext.dr ?_ | refine Ext.drN ?_ _ | exact HB4.out))⟩

set_option maxHeartbeats 4000000 in
theorem crash_neg (a : Option Addr) (n c : Nat) (d f k : Int) (w : World) (hn : n ≤ 9223372036854775807) (hval : validJ n d f = true) (hk : k < 0) :
    Calls Try.prog 12 #[.agg #[.slice a n c, .int .i64 d, .int .i64 f], .int .i64 k] w fun e w' => e = .returned (.tuple #[.agg #[.slice none 0 0, .int .i64 0, .int .i64 0], .int .i64 2]) ∧ Ext w w' := by
  go_enter Try.func12, Try.ntmps12
  go_wp2_with fail
  refine (valid_calls _ _ _ _ _ _ (by omega)).mono ?_
  rw [hval]
  rintro e w1 ⟨rfl, hE1⟩
  obtain ⟨hb1, hb2, hb3, hb4⟩ := two_boxes hE1
  have HE1 := Lib.hid hE1
  have HB1 := Lib.hid hb1
  have HB2 := Lib.hid hb2
  have HB4 := Lib.hid hb4
  clear hb1 hb2 hb4 hE1 hval
  have c0 := cell_of HB1.out 0
  have c1 := cell_of HB1.out 1
  have c2 := cell_of HB1.out 2
  simp only [List.getElem?_toArray, List.getElem?_cons_zero, List.getElem?_cons_succ] at c0 c1 c2
  have r0 := cell_of HB2.out 0
  have r1 := cell_of HB2.out 1
  have r2 := cell_of HB2.out 2
  simp only [List.getElem?_toArray, List.getElem?_cons_zero, List.getElem?_cons_succ] at r0 r1 r2
  have q0 := free_of HB2.out 0
  have q1 := free_of HB2.out 1
  have q2 := free_of HB2.out 2
  go_wp2
  refine bodyPost_ret (v := .tuple #[.agg #[.slice none 0 0, .int .i64 0, .int .i64 0], .int .i64 2]) (by simp [results, Try.results12, go_sem, r0, r1, r2]) rfl ⟨rfl, (by repeat (first | refine Ext.st ?_ (by first | exact Nat.le_refl _ | exact Nat.le_succ _ | assumption | omega) _ | refine Ext.al ?_ _ | refine Ext.dr ?_ | refine Ext.drN ?_ _ | exact HB4.out))⟩

set_option maxHeartbeats 4000000 in
theorem crash_ok (v : Value) (l : List Int) (D K : Nat) (f : Int) (w : World) (hv : Bys w v l) (hn : l.length ≤ 1000000) (hd : D ≤ l.length) (hk : (K : Int) ≤ 9223372036854775807) (hval : validJ l.length D f = true) :
    Calls Try.prog 12 #[.agg #[v, .int .i64 D, .int .i64 f], .int .i64 K] w fun e w' => ∃ v', e = .returned (.tuple #[.agg #[v', .int .i64 (crashN l.length D K), .int .i64 (-1)], .int .i64 0]) ∧ Row w' w.heap.size 5 1 v' (crashN l.length D K) ((l.take (crashN l.length D K)).map (Value.int .u8)) ∧ Ext w w' := by
  have hX : (l.take (crashN l.length D K)).length = crashN l.length D K := by rw [List.length_take]; have := crashN_le l.length D K hd; omega
  have hle := crashN_le l.length D K hd
  have HV := Lib.hid hv
  obtain ⟨_, a, c, rfl, hlc, hvc⟩ := hv
  clear hvc
  have HTK := Lib.hid (HV.out.take (crashN l.length D K) hle).cells
  rw [hX] at HTK
  have hNd : (D : Int) + min (K : Int) (l.length - D) = crashN l.length D K := by unfold crashN; split <;> omega
  have hNd2 : (D : Int) ≤ crashN l.length D K := by unfold crashN; split <;> omega
  generalize crashN l.length D K = N at *
  generalize hln : l.length = n at *
  have HL := Lib.hid hln
  have HND := Lib.hid hNd
  clear hX hln hNd
  go_enter Try.func12, Try.ntmps12
  go_wp2_with fail
  refine (valid_calls _ _ _ _ _ _ (by omega)).mono ?_
  rw [hval]
  rintro e w1 ⟨rfl, hE1⟩
  obtain ⟨hb1, hb2, hb3, hb4⟩ := two_boxes hE1
  have HE1 := Lib.hid hE1
  have HB1 := Lib.hid hb1
  have HB2 := Lib.hid hb2
  have HB4 := Lib.hid hb4
  clear hb1 hb2 hb4 hE1 hval
  have c0 := cell_of HB1.out 0
  have c1 := cell_of HB1.out 1
  have c2 := cell_of HB1.out 2
  simp only [List.getElem?_toArray, List.getElem?_cons_zero, List.getElem?_cons_succ] at c0 c1 c2
  have r0 := cell_of HB2.out 0
  have r1 := cell_of HB2.out 1
  have r2 := cell_of HB2.out 2
  simp only [List.getElem?_toArray, List.getElem?_cons_zero, List.getElem?_cons_succ] at r0 r1 r2
  have q0 := free_of HB2.out 0
  have q1 := free_of HB2.out 1
  have q2 := free_of HB2.out 2
  go_wp2_with fail
  all_goals
    refine (clone_bytes _ N ((l.take N).map (Value.int .u8)) w1 ?_ (byte_one _) (by omega)).mono ?_
    · have := HTK.out.ext HB4.out
      first
      | (rw [show ((D : Int) + ((n : Int) - D)).toNat = N from by have := HND.out; omega]; exact this)
      | (rw [show D + K = N from by have := HND.out; omega]; exact this)
      | (rw [show ((D : Int) + K).toNat = N from by have := HND.out; omega]; exact this)
    rintro e w5 ⟨v5, rfl, hR5, hE5⟩
    obtain ⟨fa, fc, rfl, _, hsh⟩ := hR5.any
    obtain ⟨_, hb2, hb3', hb4⟩ := two_boxes (HE1.out.trans' hE5)
    have HR5 := Lib.hid hR5
    have HB2' := Lib.hid hb2
    have HB4' := Lib.hid hb4
    clear hsh hR5 hE5 hb2 hb4
    have y0 := cell_of HB2'.out 0
    have y1 := cell_of HB2'.out 1
    have y2 := cell_of HB2'.out 2
    simp only [List.getElem?_toArray, List.getElem?_cons_zero, List.getElem?_cons_succ] at y0 y1 y2
    have z0 := free_of HB2'.out 0
    have z1 := free_of HB2'.out 1
    have z2 := free_of HB2'.out 2
    go_wp2
    refine bodyPost_ret (v := .tuple #[.agg #[.slice fa N fc, .int .i64 N, .int .i64 (-1)], .int .i64 0]) (by simp [results, Try.results12, go_sem, y0, y1, y2]; have := HND.out; omega) rfl ⟨_, rfl, (HR5.out.st3 (g := w.heap.size + 1) (by omega) _ _ _).mono (by omega), (by repeat (first | refine Ext.st ?_ (by first | exact Nat.le_refl _ | exact Nat.le_succ _ | assumption | omega) _ | refine Ext.al ?_ _ | refine Ext.dr ?_ | refine Ext.drN ?_ _ | exact HB4'.out))⟩

end Go.Proofs.Ytggofkaakccoeaa
