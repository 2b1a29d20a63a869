/-
  The reference's write.
-/
import Derived.Test.YtggofkaakccoeaaBase
import Derived.Test.YtggofkaakccoeaaProg
import Derived.BigQuiet
import Derived.Deep.QuietTactic
import Derived.Deep.LoopGhost
import Derived.Shelf.Abstract
import Derived.Test.YtggofkaakccoeaaRefA52
import Derived.Test.YtggofkaakccoeaaBoxes52
import Derived.Test.YtggofkaakccoeaaStep2
import Derived.Deep.RegionHeld3
import Derived.Deep.DrawnRows
import Derived.Deep.DeepCutAuto
import Derived.Deep.AppendLies
namespace Go.Proofs.Ytggofkaakccoeaa
open Go.RowKit
set_option linter.unusedVariables false
attribute [local go_sem ↓] Go.wp_at_zero Go.wp_at_succ

/-- A journal that lies in a box of the call's own. -/
def JVar (w : World) (base g : Nat) (v : Value) (l : List Int) (d f : Int) : Prop :=
  base ≤ g ∧ w.heap[g]? = some (journalT v d f) ∧ Row w base 5 1 v l.length (l.map (Value.int .u8)) ∧ v.ownBlock ≠ some g

theorem grown_keep {W w5 : World} {row : Option Nat} {k : Nat} {X : Obj} (hg : W.grownBy w5 row) (hne : row ≠ some k) (h : W.heap[k]? = some X) : w5.heap[k]? = some X := by
  rw [hg.block k (Array.getElem?_eq_some_iff.1 h).1 (fun e => hne e.symm)]
  exact h
theorem heap3 {w : World} {g : Nat} {x y z x' y' z' : Value} (h : w.heap[g]? = some (.cells #[x, y, z] 24)) :
    (((w.setCell ⟨g, 0, none⟩ x').setCell ⟨g, 1, none⟩ y').setCell ⟨g, 2, none⟩ z').heap[g]? = some (.cells #[x', y', z'] 24) := by
  have h1 : (w.setCell ⟨g, 0, none⟩ x').heap[g]? = some (.cells #[x', y, z] 24) := by rw [heap_setCell_same h]; simp
  have h2 : ((w.setCell ⟨g, 0, none⟩ x').setCell ⟨g, 1, none⟩ y').heap[g]? = some (.cells #[x', y', z] 24) := by rw [heap_setCell_same h1]; simp
  rw [heap_setCell_same h2]; simp
theorem jvar_late {w w5 : World} {v : Value} {l : List Int} {d f : Int} {n : Nat} {xs : List Value} (hown : Row w5 w.heap.size 5 1 v n xs) (hn : n = l.length) (hxs : xs = l.map (Value.int .u8)) (hx : Ext w w5) :
    ∃ g v', Value.pointer (some ⟨w5.heap.size, 0, none⟩) = Value.pointer (some ⟨g, 0, none⟩) ∧ Aside (JVar (w5.alloc (.cells #[v, .int .i64 d, .int .i64 f] 24)) w.heap.size g v' l d f) ∧ Aside (Ext w (w5.alloc (.cells #[v, .int .i64 d, .int .i64 f] 24))) := by
  subst hn; subst hxs
  exact ⟨_, v, rfl, ⟨hx.sz, heap_alloc_new _ _, hown.al _, fun h => by have := (hown.lt _ h).2; omega⟩, hx.al _⟩
theorem jvar_early {w W w5 : World} {K : Nat} {row : Option Nat} {v : Value} {l : List Int} {d f : Int} {n : Nat} {xs : List Value} (hK : W.heap[K]? = some (journalT (.slice none 0 0) 0 0)) (hg : W.grownBy w5 row) (hne : row ≠ some K) (hw : w.heap.size ≤ K)
    (hown : Row w5 w.heap.size 5 1 v n xs) (hn : n = l.length) (hxs : xs = l.map (Value.int .u8)) (hblk : v.ownBlock = row ∨ ∃ k, v.ownBlock = some k ∧ W.heap.size ≤ k) (hx : Ext w w5) :
    ∃ g v', Value.pointer (some ⟨K, 0, none⟩) = Value.pointer (some ⟨g, 0, none⟩) ∧ Aside (JVar (((w5.setCell ⟨K, 0, none⟩ v).setCell ⟨K, 1, none⟩ (.int .i64 d)).setCell ⟨K, 2, none⟩ (.int .i64 f)) w.heap.size g v' l d f) ∧ Aside (Ext w (((w5.setCell ⟨K, 0, none⟩ v).setCell ⟨K, 1, none⟩ (.int .i64 d)).setCell ⟨K, 2, none⟩ (.int .i64 f))) := by
  subst hn; subst hxs
  have hKl := (Array.getElem?_eq_some_iff.1 hK).1
  have hnK : v.ownBlock ≠ some K := by
    rcases hblk with h | ⟨k, h, hk⟩
    · rw [h]; exact hne
    · rw [h]; intro e; simp only [Option.some.injEq] at e; omega
  refine ⟨K, v, rfl, ⟨hw, heap3 (grown_keep hg hne hK), ?_, hnK⟩, ((hx.st (p := ⟨K, 0, none⟩) hw _).st (p := ⟨K, 1, none⟩) hw _).st (p := ⟨K, 2, none⟩) hw _⟩
  exact ((hown.st (p := ⟨K, 0, none⟩) hnK _).st (p := ⟨K, 1, none⟩) hnK _).st (p := ⟨K, 2, none⟩) hnK _
theorem row_at {W : World} {base k size : Nat} {e : TypeId} (h : W.heap[k]? = some (.cells #[] e (0, 0))) (hb : base ≤ k) : Row W base e size (.slice (some ⟨k, 0, none⟩) 0 0) 0 [] :=
  ⟨by simp, .inr ⟨k, 0, 0, #[], rfl, hb, h, Nat.le_refl _, Nat.zero_le _, by simp, by simp⟩⟩

set_option maxHeartbeats 4000000 in
set_option maxRecDepth 100000 in
theorem refSync_bad (a : Option Addr) (n c : Nat) (d f : Int) (w : World) (hn : n ≤ 9223372036854775807) (hval : validJ n d f = false) :
    Calls Try.prog 25 #[.agg #[.slice a n c, .int .i64 d, .int .i64 f]] w fun e w' => e = .returned (.tuple #[.agg #[.slice none 0 0, .int .i64 0, .int .i64 0], .int .i64 1]) ∧ Ext w w' := by
  go_enter Try.func25, Try.ntmps25
  go_wp2_with fail
  refine (refValid_calls _ _ _ _ _ _ (by omega)).mono ?_
  rw [hval]
  rintro e w1 ⟨rfl, hE1⟩
  obtain ⟨hb1, hb2, hb3, hb4⟩ := two_boxes hE1
  have HB2 := Lib.hid hb2
  have HB4 := Lib.hid hb4
  clear hb1 hb2 hb4 hE1 hval
  have r0 := cell_of HB2.out 0
  have r1 := cell_of HB2.out 1
  have r2 := cell_of HB2.out 2
  simp only [List.getElem?_toArray, List.getElem?_cons_zero, List.getElem?_cons_succ] at r0 r1 r2
  have q0 := free_of HB2.out 0
  have q1 := free_of HB2.out 1
  have q2 := free_of HB2.out 2
  go_wp2
  refine bodyPost_ret (v := .tuple #[.agg #[.slice none 0 0, .int .i64 0, .int .i64 0], .int .i64 1]) (by simp [results, Try.results25, go_sem, r0, r1, r2]) rfl ⟨rfl, (by repeat (first | refine Ext.st ?_ (by first | exact Nat.le_refl _ | exact Nat.le_succ _ | assumption | omega) _ | refine Ext.al ?_ _ | refine Ext.dr ?_ | refine Ext.drN ?_ _ | exact HB4.out))⟩

set_option maxHeartbeats 4000000 in
set_option maxRecDepth 100000 in
theorem refSync_ok (v : Value) (l : List Int) (d f : Int) (w : World) (hv : Bys w v l) (hn : l.length ≤ 1000000) (hval : validJ l.length d f = true) :
    Calls Try.prog 25 #[.agg #[v, .int .i64 d, .int .i64 f]] w fun e w' => ∃ v', e = .returned (.tuple #[.agg #[v', .int .i64 (if f = 0 then d else l.length), .int .i64 f], .int .i64 (if f = 0 then 19 else 0)]) ∧ Row w' w.heap.size 5 1 v' l.length (l.map (Value.int .u8)) ∧ Ext w w' := by
  obtain ⟨i8, hi8, hy0, hy1, hy2⟩ := info_parts info_byte
  have HV := Lib.hid hv
  obtain ⟨_, a, c, rfl, hlc, hvc⟩ := hv
  clear hvc
  generalize hds : (if f = 0 then d else (l.length : Int)) = ds
  generalize her : (if f = 0 then (19 : Int) else 0) = er
  have HDS := Lib.hid hds
  have HER := Lib.hid her
  generalize hq : l.length = q at hn hlc hval ⊢
  rw [hq] at HV HDS
  have HQ := Lib.hid hq
  clear hds her hq
  go_enter Try.func25, Try.ntmps25
  go_wp2_with fail
  refine (refValid_calls _ _ _ _ _ _ (by omega)).mono ?_
  rw [hval]
  rintro e w1 ⟨rfl, hE1⟩
  obtain ⟨hb1, hb2, hb3, hb4⟩ := two_boxes hE1
  have HB1 := Lib.hid hb1
  have HB2 := Lib.hid hb2
  have HE1 := Lib.hid hE1
  have HB4 := Lib.hid hb4
  clear hb1 hb2 hb4 hE1 hval
  have c0 := cell_of HB1.out 0
  have c1 := cell_of HB1.out 1
  have c2 := cell_of HB1.out 2
  simp only [List.getElem?_toArray, List.getElem?_cons_zero, List.getElem?_cons_succ] at c0 c1 c2
  have r0 := cell_of HB2.out 0
  have r1 := cell_of HB2.out 1
  have r2 := cell_of HB2.out 2
  simp only [List.getElem?_toArray, List.getElem?_cons_zero, List.getElem?_cons_succ] at r0 r1 r2
  have q0 := free_of HB2.out 0
  have q1 := free_of HB2.out 1
  have q2 := free_of HB2.out 2
  go_upto_region 3 with fail
  go_cut [4] (fun s4 wx => ∃ (g : Nat) (v' : Value), s4 = .pointer (some ⟨g, 0, none⟩) ∧ Aside (JVar wx w1.heap.size g v' l d f) ∧ Aside (Ext w1 wx))
  case first =>
    have n1 : w.heap.size ≠ w1.heap.size + 1 := by omega
    have n2 : w.heap.size ≠ w1.heap.size := by omega
    have n3 : w1.heap.size + 1 ≠ w.heap.size := by omega
    have n4 : w1.heap.size ≠ w.heap.size := by omega
    go_region_held3 (fun w' => w'.cell? ⟨w.heap.size, 0, none⟩ = some (.slice a q c) ∧ w'.cell? ⟨w.heap.size, 1, none⟩ = some (.int .i64 d) ∧ w'.cell? ⟨w.heap.size, 2, none⟩ = some (.int .i64 f)) (go_keep)
      ((refine step_append_rowM (by rfl) _ _ 22 (by rfl) w1.heap.size 5 i8 (.int .u8 0) 1 1 Try.underlying22 hi8 hy0 hy1 hy2 rfl (by decide) _ 0 [] (by rfl) (row_at (by first | exact heap_new_eq (by simp) | exact ((Ext.rf _).al _).hp (heap_new_eq (by simp)) | exact (((Ext.rf _).dr).al _).hp (heap_new_eq (by simp))) (by first | omega | (simp; done) | (simp; omega))) a q c (l.map (Value.int .u8)) (by rfl) (by rw [List.length_map, HQ.out, Nat.mul_one]) (HV.out.ext (by repeat (first | refine Ext.st ?_ (by first | exact Nat.le_refl _ | exact Nat.le_succ _ | assumption | omega) _ | refine Ext.al ?_ _ | refine Ext.dr ?_ | refine Ext.drN ?_ _ | exact HB4.out))).news (byte_one _) (by unfold maxLen; omega) (by omega) (by first | (simp; done) | (simp; omega)) ?_; intro v5 w5 hown5 hgrow5 hblk5; rw [Nat.zero_add, List.nil_append] at hown5; obtain ⟨fa, fc, rfl, hle5, hsh5⟩ := hown5.any; clear hsh5; have hx5 : Ext w1 w5 := Ext.gr (by repeat (first | refine Ext.st ?_ (by first | exact Nat.le_refl _ | exact Nat.le_succ _ | assumption | omega) _ | refine Ext.al ?_ _ | refine Ext.dr ?_ | refine Ext.drN ?_ _ | exact Ext.rf _)) hgrow5 (fun kk hkk => by simp [Act.eval, Value.ownBlock] at hkk; omega); have k0 := hx5.cl c0; have k1 := hx5.cl c1; have k2 := hx5.cl c2; have f1 := fun (k j : Nat) (h1 : k < _) (h2 : some k ≠ _) => hgrow5.cell_far ⟨k, j, none⟩ h1 h2; have f2 := fun (k j : Nat) (h1 : k < _) (h2 : some k ≠ _) => hgrow5.frozen_far ⟨k, j, none⟩ h1 h2; simp only [Act.eval, Value.ownBlock] at f1 f2))
    all_goals (go_wp2_with fail; go_meet)
    · exact jvar_late hown5 HQ.out.symm rfl hx5
    · exact jvar_early (hg := hgrow5) (hown := hown5) (hblk := hblk5) (hx := hx5) (hn := HQ.out.symm) (hxs := rfl) (hK := by exact heap_new_eq (w := w1.alloc (.cells #[] 5)) (by simp)) (hne := by simp [Value.ownBlock]) (hw := by omega)
    · exact jvar_early (hg := hgrow5) (hown := hown5) (hblk := hblk5) (hx := hx5) (hn := HQ.out.symm) (hxs := rfl) (hK := by exact ((Ext.rf (w1.alloc (journalT (.slice none 0 0) 0 0))).al _).hp (heap_new_eq (by simp))) (hne := by simp [Value.ownBlock]) (hw := by omega)
  case rest =>
    obtain ⟨g, v', rfl, HJ, HX⟩ := hcut
    have hbg := HJ.out.1
    obtain ⟨va, vc, rfl, _, hsh⟩ := HJ.out.2.2.1.any
    clear hsh
    rw [HQ.out] at HJ
    have HH := Lib.hid HJ.out.2.1
    have g0 := cell_of HH.out 0
    have g1 := cell_of HH.out 1
    have g2 := cell_of HH.out 2
    simp only [List.getElem?_toArray, List.getElem?_cons_zero, List.getElem?_cons_succ] at g0 g1 g2
    have h0 := free_of HH.out 0
    have h1 := free_of HH.out 1
    have h2 := free_of HH.out 2
    have HB2' := Lib.hid (HX.out.hp HB2.out)
    have HB1' := Lib.hid (HX.out.hp HB1.out)
    have hsx := HX.out.sz
    have hr := HJ.out.2.2.1
    rw [HQ.out] at hr
    have HR := Lib.hid hr
    clear hr
    have HNE := Lib.hid HJ.out.2.2.2
    clear c0 c1 c2 r0 r1 r2 q0 q1 q2
    have c0 := cell_of HB1'.out 0
    have c1 := cell_of HB1'.out 1
    have c2 := cell_of HB1'.out 2
    simp only [List.getElem?_toArray, List.getElem?_cons_zero, List.getElem?_cons_succ] at c0 c1 c2
    have r0 := cell_of HB2'.out 0
    have r1 := cell_of HB2'.out 1
    have r2 := cell_of HB2'.out 2
    simp only [List.getElem?_toArray, List.getElem?_cons_zero, List.getElem?_cons_succ] at r0 r1 r2
    have q0 := free_of HB2'.out 0
    have q1 := free_of HB2'.out 1
    have q2 := free_of HB2'.out 2
    by_cases h0 : f = 0
    · have e0 : (f == 0) = true := by simpa using h0
      have H0 := Lib.hid h0; clear h0
      go_wp2
      refine bodyPost_ret (v := .tuple #[.agg #[.slice va q vc, .int .i64 d, .int .i64 f], .int .i64 19]) (by simp [results, Try.results25, go_sem, r0, r1, r2]) rfl ⟨_, by rw [← HDS.out, ← HER.out, if_pos H0.out, if_pos H0.out], (Row.st3 (base := w1.heap.size) (g := w.heap.size + 1) HR.out (by omega) _ _ _).mono (by omega), ?_⟩
      have HE9 := Lib.hid (HB4.out.trans' HX.out)
      exact (by repeat (first | refine Ext.st ?_ (by first | exact Nat.le_refl _ | exact Nat.le_succ _ | assumption | omega) _ | refine Ext.al ?_ _ | refine Ext.dr ?_ | refine Ext.drN ?_ _ | exact HE9.out))
    · have e0 : (f == 0) = false := by simpa using h0
      have H0 := Lib.hid h0; clear h0
      go_wp2
      refine bodyPost_ret (v := .tuple #[.agg #[.slice va q vc, .int .i64 q, .int .i64 f], .int .i64 0]) (by simp [results, Try.results25, go_sem, r0, r1, r2]) rfl ⟨_, by rw [← HDS.out, ← HER.out, if_neg H0.out, if_neg H0.out], (Row.st3 (base := w1.heap.size) (g := w.heap.size + 1) (HR.out.st (p := ⟨g, 1, none⟩) HNE.out _) (by omega) _ _ _).mono (by omega), ?_⟩
      have HE9 := Lib.hid (HB4.out.trans' (HX.out.st (p := ⟨g, 1, none⟩) hbg (.int .i64 q)))
      exact (by repeat (first | refine Ext.st ?_ (by first | exact Nat.le_refl _ | exact Nat.le_succ _ | assumption | omega) _ | refine Ext.al ?_ _ | refine Ext.dr ?_ | refine Ext.drN ?_ _ | exact HE9.out))

end Go.Proofs.Ytggofkaakccoeaa
