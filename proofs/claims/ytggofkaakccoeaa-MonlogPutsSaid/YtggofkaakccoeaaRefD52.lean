import Derived.Test.YtggofkaakccoeaaBase
import Derived.Test.YtggofkaakccoeaaProg
import Derived.Test.YtggofkaakccoeaaRefB52
import Derived.Test.YtggofkaakccoeaaJourD52
import Derived.BigQuiet
import Derived.Deep.QuietTactic
import Derived.Deep.LoopGhost
import Derived.Shelf.Abstract
import Derived.Deep.RegionHeld3
import Derived.Deep.DrawnRows
import Derived.Deep.DeepCutAuto
import Derived.Deep.AppendLies
import Derived.Deep.RegionLaw
/-
  The reference's write.
-/
namespace Go.Proofs.Ytggofkaakccoeaa
open Go.RowKit
set_option linter.unusedVariables false
attribute [local go_sem ↓] Go.wp_at_zero Go.wp_at_succ

theorem Row.dr {w : World} {base : Nat} {e : TypeId} {size : Nat} {v : Value} {n : Nat} {xs : List Value} (h : Row w base e size v n xs) : Row w.drew base e size v n xs := h.heap fun _ _ => rfl

theorem heap_j2 {w : World} {g : Nat} {x y z z' : Value} (h : w.heap[g]? = some (.cells #[x, y, z] 24)) : (w.setCell ⟨g, 2, none⟩ z').heap[g]? = some (.cells #[x, y, z'] 24) := by
  rw [heap_setCell_same h]; simp
theorem heap_j0 {w : World} {g : Nat} {x y z z' : Value} (h : w.heap[g]? = some (.cells #[x, y, z] 24)) : (w.setCell ⟨g, 0, none⟩ z').heap[g]? = some (.cells #[z', y, z] 24) := by
  rw [heap_setCell_same h]; simp


set_option maxHeartbeats 8000000 in
set_option maxRecDepth 100000 in
theorem refWrite_calls (v : Value) (l : List Int) (d f : Int) (u : Value) (b : List Int) (w : World) (hv : Bys w v l) (hu : Bys w u b) (hn : l.length ≤ 1000000) (hn2 : b.length ≤ 1000000) (hf : -1 ≤ f) (hf2 : f ≤ 1073741824) :
    Calls Try.prog 49 #[.agg #[v, .int .i64 d, .int .i64 f], u] w fun e w' => ∃ v', e = .returned (.tuple #[.agg #[v', .int .i64 d, .int .i64 (leftF f b)], .bool (!crashF f b)]) ∧ Row w' w.heap.size 5 1 v' (l ++ wrote f b).length ((l ++ wrote f b).map (Value.int .u8)) ∧ Ext w w' := by
  obtain ⟨i8, hi8, hy0, hy1, hy2⟩ := info_parts info_byte
  have HV := Lib.hid hv
  have HU := Lib.hid hu
  obtain ⟨_, a, c, rfl, hlc, hvc⟩ := hv
  obtain ⟨_, a2, c2, rfl, hlc2, hvc2⟩ := hu
  clear hvc hvc2
  generalize hq : l.length = q at hn hlc ⊢
  generalize hr : b.length = r at hn2 hlc2 ⊢
  rw [hq] at HV
  rw [hr] at HU
  have HQ := Lib.hid hq
  have HR := Lib.hid hr
  clear hq hr
  go_enter Try.func49, Try.ntmps49
  go_upto_region 1 with fail
  obtain ⟨hb1, hb2, hb3, hb4⟩ := two_boxes (Ext.rf ((w.alloc (journalT (.slice a q c) d f)).alloc (journalT (.slice none 0 0) 0 0)))
  generalize (w.alloc (journalT (.slice a q c) d f)).alloc (journalT (.slice none 0 0) 0 0) = w1 at *
  have HB1 := Lib.hid hb1
  have HB2 := Lib.hid hb2
  have HB4 := Lib.hid hb4
  clear hb1 hb2 hb4
  have c0 := cell_of HB1.out 0
  have c1 := cell_of HB1.out 1
  have c2 := cell_of HB1.out 2
  simp only [List.getElem?_toArray, List.getElem?_cons_zero, List.getElem?_cons_succ] at c0 c1 c2
  have r0 := cell_of HB2.out 0
  have r1 := cell_of HB2.out 1
  have r2 := cell_of HB2.out 2
  simp only [List.getElem?_toArray, List.getElem?_cons_zero, List.getElem?_cons_succ] at r0 r1 r2
  have q0 := free_of HB2.out 0
  have q1 := free_of HB2.out 1
  have q2 := free_of HB2.out 2
  go_cut [6] (fun s6 wx => ∃ (g : Nat) (v' : Value), s6 = .pointer (some ⟨g, 0, none⟩) ∧ Aside (JVar wx w1.heap.size g v' l d f) ∧ Aside (Ext w1 wx))
  case first =>
    have n1 : w.heap.size ≠ w1.heap.size + 1 := by omega
    have n2 : w.heap.size ≠ w1.heap.size := by omega
    have n3 : w1.heap.size + 1 ≠ w.heap.size := by omega
    have n4 : w1.heap.size ≠ w.heap.size := by omega
    go_region_held3 (fun w' => w'.cell? ⟨w.heap.size, 0, none⟩ = some (.slice a q c) ∧ w'.cell? ⟨w.heap.size, 1, none⟩ = some (.int .i64 d) ∧ w'.cell? ⟨w.heap.size, 2, none⟩ = some (.int .i64 f)) (go_keep)
      ((refine step_append_rowM (by rfl) _ _ 22 (by rfl) w1.heap.size 5 i8 (.int .u8 0) 1 1 Try.underlying22 hi8 hy0 hy1 hy2 rfl (by decide) _ 0 [] (by rfl) (row_at (by first | exact heap_new_eq (by simp) | exact ((Ext.rf _).al _).hp (heap_new_eq (by simp)) | exact (((Ext.rf _).dr).al _).hp (heap_new_eq (by simp))) (by first | omega | (simp; done) | (simp; omega))) a q c (l.map (Value.int .u8)) (by rfl) (by rw [List.length_map, HQ.out, Nat.mul_one]) (HV.out.ext (by repeat (first | refine Ext.st ?_ (by first | exact Nat.le_refl _ | exact Nat.le_succ _ | assumption | omega) _ | refine Ext.al ?_ _ | refine Ext.dr ?_ | refine Ext.drN ?_ _ | exact HB4.out))).news (byte_one _) (by unfold maxLen; omega) (by omega) (by first | (simp; done) | (simp; omega)) ?_; intro v5 w5 hown5 hgrow5 hblk5; rw [Nat.zero_add, List.nil_append] at hown5; obtain ⟨fa, fc, rfl, hle5, hsh5⟩ := hown5.any; clear hsh5; have hx5 : Ext w1 w5 := Ext.gr (by repeat (first | refine Ext.st ?_ (by first | exact Nat.le_refl _ | exact Nat.le_succ _ | assumption | omega) _ | refine Ext.al ?_ _ | refine Ext.dr ?_ | refine Ext.drN ?_ _ | exact Ext.rf _)) hgrow5 (fun kk hkk => by simp [Act.eval, Value.ownBlock] at hkk; omega); have k0 := hx5.cl c0; have k1 := hx5.cl c1; have k2 := hx5.cl c2; have f1 := fun (k j : Nat) (h1 : k < _) (h2 : some k ≠ _) => hgrow5.cell_far ⟨k, j, none⟩ h1 h2; have f2 := fun (k j : Nat) (h1 : k < _) (h2 : some k ≠ _) => hgrow5.frozen_far ⟨k, j, none⟩ h1 h2; simp only [Act.eval, Value.ownBlock] at f1 f2))
    all_goals (go_wp2_with fail; go_meet)
    · exact jvar_late hown5 HQ.out.symm rfl hx5
    · exact jvar_early (hg := hgrow5) (hown := hown5) (hblk := hblk5) (hx := hx5) (hn := HQ.out.symm) (hxs := rfl) (hK := by exact heap_new_eq (w := w1.alloc (.cells #[] 5)) (by simp)) (hne := by simp [Value.ownBlock]) (hw := by omega)
    · exact jvar_early (hg := hgrow5) (hown := hown5) (hblk := hblk5) (hx := hx5) (hn := HQ.out.symm) (hxs := rfl) (hK := by exact ((Ext.rf (w1.alloc (journalT (.slice none 0 0) 0 0))).al _).hp (heap_new_eq (by simp))) (hne := by simp [Value.ownBlock]) (hw := by omega)
  case rest =>
    obtain ⟨g, v', rfl, HJ, HX⟩ := hcut
    have hbg := HJ.out.1
    have hsx := HX.out.sz
    clear c0 c1 c2 r0 r1 r2 q0 q1 q2
    go_wp2
    go_loopg [7] r (fun m s7 wr => ∃ k : Nat, k ≤ r ∧ r - k ≤ m ∧ s7 = .int .i64 k ∧ Aside (f < 0 ∨ (k : Int) ≤ f) ∧ Aside (∃ u', JVar wr w1.heap.size g u' (l ++ b.take k) d (curF f k)) ∧ Aside (Ext w1 wr))
    case atStart => exact ⟨0, Nat.zero_le _, by omega, rfl, (show f < 0 ∨ _ by omega), (show ∃ u', _ from ⟨v', by rw [List.take_zero, List.append_nil]; unfold curF; simpa using HJ.out⟩), HX.out⟩
    case round =>
      obtain ⟨k, hk, hm, rfl, FK, ⟨u', HJR⟩, HXR⟩ := hrel
      obtain ⟨_, hcell, hrow, hne⟩ := HJR
      obtain ⟨ua, uc, rfl, _, hsh⟩ := hrow.any
      clear hsh
      have hBz := HXR.out.sz
      obtain ⟨fk, hfk⟩ : ∃ fk, curF f k = fk := ⟨_, rfl⟩
      rw [hfk] at hcell
      have HFK := Lib.hid hfk
      have hfr : -1 ≤ fk ∧ fk ≤ 1073741824 := by
        unfold curF at hfk
        rcases FK.out with h | h <;> split at hfk <;> omega
      have hlu : (l ++ b.take k).length = q + k := by rw [List.length_append, List.length_take, HQ.out, HR.out]; omega
      rw [hlu] at hcell hrow hne
      obtain ⟨p, hp⟩ : ∃ p, q + k = p := ⟨_, rfl⟩
      rw [hp] at hcell hrow hne
      have hp2 : p ≤ 2000000 := by omega
      have HLU := Lib.hid (hlu.trans hp)
      clear hlu hp
      have HCELL := Lib.hid hcell
      have HC2 := Lib.hid (heap_j2 (z' := .int .i64 (fk - 1)) hcell)
      obtain ⟨XS, hXS⟩ : ∃ XS, (l ++ b.take k).map (Value.int .u8) = XS := ⟨_, rfl⟩
      rw [hXS] at hrow
      have HXS := Lib.hid hXS
      clear hXS
      have HROW := Lib.hid hrow
      have HNE := Lib.hid hne
      have hgl := (Array.getElem?_eq_some_iff.1 hcell).1
      have HR1' := Lib.hid (HXR.out.hp HB2.out)
      clear hfk hrow hne hcell
      have c0 := cell_of HCELL.out 0
      have c1 := cell_of HCELL.out 1
      have c2 := cell_of HCELL.out 2
      simp only [List.getElem?_toArray, List.getElem?_cons_zero, List.getElem?_cons_succ] at c0 c1 c2
      have y0 := free_of HCELL.out 0
      have y1 := free_of HCELL.out 1
      have y2 := free_of HCELL.out 2
      have r0 := cell_of HR1'.out 0
      have r1 := cell_of HR1'.out 1
      have r2 := cell_of HR1'.out 2
      simp only [List.getElem?_toArray, List.getElem?_cons_zero, List.getElem?_cons_succ] at r0 r1 r2
      have q0 := free_of HR1'.out 0
      have q1 := free_of HR1'.out 1
      have q2 := free_of HR1'.out 2
      by_cases hlt : k < r
      · have hltz : (k : Int) < (r : Int) := by omega
        have HUR := Lib.hid (HU.out.ext (HB4.out.trans' HXR.out))
        obtain ⟨x0, _, _, hve, _, hvc⟩ := HUR.out
        obtain ⟨bb, off, hba, hbb, hbc⟩ := hvc (by intro e; have := HR.out; simp [e] at this; omega)
        simp only [Value.slice.injEq] at hve
        obtain ⟨rfl, hjunk, rfl⟩ := hve
        clear hjunk
        subst hba
        have hx := hbc k (by rw [HR.out]; exact hlt)
        obtain ⟨x1, x2⟩ := x0 _ (mem_at b k (by rw [HR.out]; exact hlt))
        have hbl := HU.out.lt (by intro e; have := HR.out; simp [e] at this; omega) bb rfl
        have ST := Lib.hid (take_snoc' b k (by rw [HR.out]; exact hlt))
        clear hbc hvc x0
        generalize b[k]! = x at *
        have hkz : (0 : Int) ≤ (k : Int) := by omega
        by_cases h0 : fk = 0
        · have e0 : (fk == 0) = true := by simpa using h0
          have FK0 := Lib.hid h0; clear h0
          go_wp2
          refine bodyPost_ret (v := .tuple #[.agg #[.slice ua p uc, .int .i64 d, .int .i64 fk], .bool false]) (by simp [results, Try.results49, go_sem, r0, r1, r2]) rfl ?_
          have h1' := FK.out; have h2' := HFK.out; have h3' := FK0.out; unfold curF at h2'
          have hF : f = k := by split at h2' <;> omega
          have hR' := HR.out
          rw [show leftF f b = fk from by unfold leftF; rw [if_neg (by omega)]; split <;> omega, show crashF f b = true from by simp [crashF]; omega, show wrote f b = b.take k from by unfold wrote; rw [if_neg (by omega), hF, Int.toNat_natCast], HLU.out, HXS.out]
          have HE9 := Lib.hid (HB4.out.trans' HXR.out)
          exact ⟨_, rfl, (Row.st3 (base := w1.heap.size) (g := w.heap.size + 1) HROW.out (by omega) _ _ _).mono (by omega), (by repeat (first | refine Ext.st ?_ (by first | exact Nat.le_refl _ | exact Nat.le_succ _ | assumption | omega) _ | refine Ext.al ?_ _ | refine Ext.dr ?_ | refine Ext.drN ?_ _ | exact HE9.out))⟩
        · have e0 : (fk == 0) = false := by simpa using h0
          have FK0 := Lib.hid h0; clear h0
          by_cases h1 : 0 < fk
          · go_wp2
            go_region_law ((refine step_append_rowN (by rfl) _ _ 22 (by rfl) w1.heap.size 5 i8 (.int .u8 0) 1 1 Try.underlying22 hi8 hy0 hy1 hy2 rfl (by decide) (.slice ua p uc) p XS (by rfl) (by first | exact ((HROW.out.st HNE.out _).al _).dr | exact (HROW.out.st HNE.out _).al _ | exact ((HROW.out.st HNE.out _).dr).al _ | exact (((HROW.out.st HNE.out _).dr).al _).dr) wr.heap.size 1 [.int .u8 x] (by rfl) rfl (by first | exact ⟨(0, 0), heap_new_eq (by simp [World.setCell])⟩ | exact ⟨(0, 0), heap_new_eq (by simp)⟩) (by simp [Value.oneCell']) (by unfold maxLen; omega) (by omega) (by first | (simp [World.setCell]; omega) | (simp; omega)) ?_; intro v5 w5 hown5 hgrow5 hblk5; obtain ⟨va, vc, rfl, _, hsh5⟩ := hown5.any; clear hsh5; have h5 := grown_keep hgrow5 (fun e => HNE.out e) (((Ext.rf _).al _).hp HC2.out); have d0 := cell_of h5 0; have d1 := cell_of h5 1; have d2 := cell_of h5 2; have e0 := free_of h5 0; have e1 := free_of h5 1; have e2 := free_of h5 2; simp only [List.getElem?_toArray, List.getElem?_cons_zero, List.getElem?_cons_succ] at d0 d1 d2))
            all_goals
              go_wp2
              go_roundg (r - (k + 1))
              case measure => omega
              case rel =>
                have hne5 : (Value.slice va (p + 1) vc).ownBlock ≠ some g := by
                  rcases hblk5 with h | ⟨kk, h, hk2⟩
                  · rw [h]; exact HNE.out
                  · rw [h]; intro e; simp only [Option.some.injEq] at e; subst e; simp [World.setCell] at hk2; omega
                have hlen5 : (l ++ b.take (k + 1)).length = p + 1 := by
                  have := HLU.out
                  rw [ST.out, ← List.append_assoc, List.length_append, this]; rfl
                have hmap5 : (l ++ b.take (k + 1)).map (Value.int .u8) = XS ++ [.int .u8 x] := by
                  rw [ST.out, ← List.append_assoc, List.map_append, HXS.out]; rfl
                have hx5 : Ext w1 w5 := Ext.gr (by repeat (first | refine Ext.st ?_ (by first | exact Nat.le_refl _ | exact Nat.le_succ _ | assumption | omega) _ | refine Ext.al ?_ _ | refine Ext.dr ?_ | refine Ext.drN ?_ _ | exact HXR.out)) hgrow5 (fun kk hkk => (HROW.out.lt kk hkk).1)
                refine ⟨k + 1, by omega, by omega, by go_num, (show _ ∨ _ from ?_), (show ∃ u', _ from ⟨_, hbg, ?_, ?_, hne5⟩), (show Ext _ _ from hx5.st hbg _)⟩
                · have h1' := FK.out; have h2' := HFK.out; unfold curF at h2'; split at h2' <;> omega
                · rw [show curF f (k + 1) = fk - 1 from by have h1' := FK.out; have h2' := HFK.out; unfold curF at h2' ⊢; split at h2' <;> omega]
                  exact heap_j0 h5
                · rw [hlen5, hmap5]; exact hown5.st hne5 _
          · go_wp2
            go_region_law ((refine step_append_rowN (by rfl) _ _ 22 (by rfl) w1.heap.size 5 i8 (.int .u8 0) 1 1 Try.underlying22 hi8 hy0 hy1 hy2 rfl (by decide) (.slice ua p uc) p XS (by rfl) (by first | exact (HROW.out.al _).dr | exact HROW.out.al _ | exact (HROW.out.dr).al _ | exact ((HROW.out.dr).al _).dr) wr.heap.size 1 [.int .u8 x] (by rfl) rfl (by first | exact ⟨(0, 0), heap_new_eq (by simp [World.setCell])⟩ | exact ⟨(0, 0), heap_new_eq (by simp)⟩) (by simp [Value.oneCell']) (by unfold maxLen; omega) (by omega) (by first | (simp [World.setCell]; omega) | (simp; omega)) ?_; intro v5 w5 hown5 hgrow5 hblk5; obtain ⟨va, vc, rfl, _, hsh5⟩ := hown5.any; clear hsh5; have h5 := grown_keep hgrow5 (fun e => HNE.out e) (((Ext.rf _).al _).hp HCELL.out); have d0 := cell_of h5 0; have d1 := cell_of h5 1; have d2 := cell_of h5 2; have e0 := free_of h5 0; have e1 := free_of h5 1; have e2 := free_of h5 2; simp only [List.getElem?_toArray, List.getElem?_cons_zero, List.getElem?_cons_succ] at d0 d1 d2))
            all_goals
              go_wp2
              go_roundg (r - (k + 1))
              case measure => omega
              case rel =>
                have hne5 : (Value.slice va (p + 1) vc).ownBlock ≠ some g := by
                  rcases hblk5 with h | ⟨kk, h, hk2⟩
                  · rw [h]; exact HNE.out
                  · rw [h]; intro e; simp only [Option.some.injEq] at e; subst e; simp [World.setCell] at hk2; omega
                have hlen5 : (l ++ b.take (k + 1)).length = p + 1 := by
                  have := HLU.out
                  rw [ST.out, ← List.append_assoc, List.length_append, this]; rfl
                have hmap5 : (l ++ b.take (k + 1)).map (Value.int .u8) = XS ++ [.int .u8 x] := by
                  rw [ST.out, ← List.append_assoc, List.map_append, HXS.out]; rfl
                have hx5 : Ext w1 w5 := Ext.gr (by repeat (first | refine Ext.st ?_ (by first | exact Nat.le_refl _ | exact Nat.le_succ _ | assumption | omega) _ | refine Ext.al ?_ _ | refine Ext.dr ?_ | refine Ext.drN ?_ _ | exact HXR.out)) hgrow5 (fun kk hkk => (HROW.out.lt kk hkk).1)
                refine ⟨k + 1, by omega, by omega, by go_num, (show _ ∨ _ from ?_), (show ∃ u', _ from ⟨_, hbg, ?_, ?_, hne5⟩), (show Ext _ _ from hx5.st hbg _)⟩
                · have h1' := FK.out; have h2' := HFK.out; have h3' := FK0.out; unfold curF at h2'; split at h2' <;> omega
                · rw [show curF f (k + 1) = fk from by have h1' := FK.out; have h2' := HFK.out; have h3' := FK0.out; unfold curF at h2' ⊢; split at h2' <;> omega]
                  exact heap_j0 h5
                · rw [hlen5, hmap5]; exact hown5.st hne5 _
      · have hltz : ¬ (k : Int) < (r : Int) := by omega
        obtain rfl : k = r := by omega
        go_wp2
        refine bodyPost_ret (v := .tuple #[.agg #[.slice ua p uc, .int .i64 d, .int .i64 fk], .bool true]) (by simp [results, Try.results49, go_sem, r0, r1, r2]) rfl ?_
        have h1' := FK.out; have h2' := HFK.out; unfold curF at h2'
        have hR' := HR.out
        have htk : b.take k = b := List.take_of_length_le (by omega)
        have hXS := HXS.out; have hLU := HLU.out
        rw [htk, List.map_append] at hXS
        rw [htk, List.length_append] at hLU
        rw [show leftF f b = fk from by unfold leftF; repeat' split; all_goals (split at h2' <;> omega), show crashF f b = false from by simp [crashF]; omega, show wrote f b = b from by unfold wrote; split; rfl; exact List.take_of_length_le (by omega), hLU, hXS]
        have HE9 := Lib.hid (HB4.out.trans' HXR.out)
        exact ⟨_, rfl, (Row.st3 (base := w1.heap.size) (g := w.heap.size + 1) HROW.out (by omega) _ _ _).mono (by omega), (by repeat (first | refine Ext.st ?_ (by first | exact Nat.le_refl _ | exact Nat.le_succ _ | assumption | omega) _ | refine Ext.al ?_ _ | refine Ext.dr ?_ | refine Ext.drN ?_ _ | exact HE9.out))⟩

end Go.Proofs.Ytggofkaakccoeaa

/-
  The reference's Append.
-/
namespace Go.Proofs.Ytggofkaakccoeaa
open Go.RowKit
set_option linter.unusedVariables false
attribute [local go_sem ↓] Go.wp_at_zero Go.wp_at_succ

theorem jvar_behind {w wz : World} {base : Nat} {v : Value} {l : List Int} {d f : Int} {n : Nat} {xs : List Value} (hown : Row wz base 5 1 v n xs) (hb : w.heap.size ≤ base) (hn : n = l.length) (hxs : xs = l.map (Value.int .u8)) (hx : Ext w wz) :
    JVar (wz.alloc (.cells #[v, .int .i64 d, .int .i64 f] 24)) w.heap.size wz.heap.size v l d f ∧ Ext w (wz.alloc (.cells #[v, .int .i64 d, .int .i64 f] 24)) := by
  subst hn; subst hxs
  exact ⟨⟨hx.sz, heap_alloc_new _ _, (hown.mono hb).al _, fun h => by have := (hown.lt _ h).2; omega⟩, hx.al _⟩
theorem jvar_ahead {w wz : World} {K base : Nat} {v x y z : Value} {l : List Int} {d f : Int} {n : Nat} {xs : List Value} (hK : wz.heap[K]? = some (.cells #[x, y, z] 24)) (hw : w.heap.size ≤ K) (hown : Row wz base 5 1 v n xs) (hKb : K < base) (hn : n = l.length) (hxs : xs = l.map (Value.int .u8)) (hx : Ext w wz) :
    JVar (((wz.setCell ⟨K, 0, none⟩ v).setCell ⟨K, 1, none⟩ (.int .i64 d)).setCell ⟨K, 2, none⟩ (.int .i64 f)) w.heap.size K v l d f ∧ Ext w (((wz.setCell ⟨K, 0, none⟩ v).setCell ⟨K, 1, none⟩ (.int .i64 d)).setCell ⟨K, 2, none⟩ (.int .i64 f)) := by
  subst hn; subst hxs
  exact ⟨⟨hw, heap3 hK, ((hown.st3 hKb _ _ _).mono (by omega)), hown.far hKb⟩, ((hx.st (p := ⟨K, 0, none⟩) hw _).st (p := ⟨K, 1, none⟩) hw _).st (p := ⟨K, 2, none⟩) hw _⟩


set_option maxHeartbeats 4000000 in
set_option maxRecDepth 100000 in
theorem refAppend_bad (a : Option Addr) (c : Nat) (l : List Int) (d f : Int) (ba : Option Addr) (m n : Nat) (w : World) (E : Int) (hv : Bys w (.slice a l.length c) l) (hn : l.length ≤ 1000000) (hnn : n ≤ 1000000) (hE : checkN l d f n = E) (h0 : E ≠ 0) :
    Calls Try.prog 24 #[.agg #[.slice a l.length c, .int .i64 d, .int .i64 f], .slice ba n m] w fun e w' => e = .returned (.tuple #[.agg #[.slice none 0 0, .int .i64 0, .int .i64 0], .int .i64 E]) ∧ Ext w w' := by
  have hWL := whole_le' l hv.1
  have HV := Lib.hid hv
  generalize hT : wholeR (recordsL l) = T at *
  have HT := Lib.hid hT
  generalize hq : l.length = q at *
  have HQ := Lib.hid hq
  clear hv
  cases hval : validJ q d f with
  | false =>
    have HVAL := Lib.hid hval
    have hE1 : E = 1 := by rw [← hE]; unfold checkN; rw [hq, hval]; rfl
    subst hE1
    clear hE h0 hT hq hval
    go_enter Try.func24, Try.ntmps24
    go_wp2_with fail
    refine (refValid_calls _ _ _ _ _ _ (by omega)).mono ?_
    rw [HVAL.out]
    rintro e w1 ⟨rfl, hE1⟩
    obtain ⟨hb1, hb2, hb3, hb4⟩ := two_boxes hE1
    have HE1 := Lib.hid hE1
    have HB1 := Lib.hid hb1
    have HB2 := Lib.hid hb2
    have HB4 := Lib.hid hb4
    clear hb1 hb2 hb4 hE1
    have c0 := cell_of HB1.out 0
    have c1 := cell_of HB1.out 1
    have c2 := cell_of HB1.out 2
    simp only [List.getElem?_toArray, List.getElem?_cons_zero, List.getElem?_cons_succ] at c0 c1 c2
    have r0 := cell_of HB2.out 0
    have r1 := cell_of HB2.out 1
    have r2 := cell_of HB2.out 2
    simp only [List.getElem?_toArray, List.getElem?_cons_zero, List.getElem?_cons_succ] at r0 r1 r2
    have q0 := free_of HB2.out 0
    have q1 := free_of HB2.out 1
    have q2 := free_of HB2.out 2
    go_wp2
    refine bodyPost_ret (v := .tuple #[.agg #[.slice none 0 0, .int .i64 0, .int .i64 0], .int .i64 1]) (by simp [results, Try.results24, go_sem, r0, r1, r2]) rfl ⟨rfl, (by repeat (first | refine Ext.st ?_ (by first | exact Nat.le_refl _ | exact Nat.le_succ _ | assumption | omega) _ | refine Ext.al ?_ _ | refine Ext.dr ?_ | refine Ext.drN ?_ _ | exact HB4.out))⟩
  | true =>
    have HVAL := Lib.hid hval
    have hE1 : E = 5 ∧ fullB l n = true := by
      cases hfb : fullB l n with
      | true => exact ⟨by rw [← hE]; unfold checkN; rw [hq, hval, hfb]; rfl, rfl⟩
      | false => exact absurd (by rw [← hE]; unfold checkN; rw [hq, hval, hfb]; rfl) h0
    obtain ⟨rfl, hfull⟩ := hE1
    simp only [fullB, Bool.or_eq_true, decide_eq_true_eq, hT] at hfull
    clear hE h0 hT hq hval
    by_cases h1 : 16384 < n
    · have d1 : decide (16384 < (n : Int)) = true := by simp; omega
      go_enter Try.func24, Try.ntmps24
      go_wp2_with fail
      refine (refValid_calls _ _ _ _ _ _ (by omega)).mono ?_
      rw [HVAL.out]
      rintro e w1 ⟨rfl, hE1⟩
      obtain ⟨hb1, hb2, hb3, hb4⟩ := two_boxes hE1
      have HE1 := Lib.hid hE1
      have HB1 := Lib.hid hb1
      have HB2 := Lib.hid hb2
      have HB4 := Lib.hid hb4
      clear hb1 hb2 hb4 hE1
      have c0 := cell_of HB1.out 0
      have c1 := cell_of HB1.out 1
      have c2 := cell_of HB1.out 2
      simp only [List.getElem?_toArray, List.getElem?_cons_zero, List.getElem?_cons_succ] at c0 c1 c2
      have r0 := cell_of HB2.out 0
      have r1 := cell_of HB2.out 1
      have r2 := cell_of HB2.out 2
      simp only [List.getElem?_toArray, List.getElem?_cons_zero, List.getElem?_cons_succ] at r0 r1 r2
      have q0 := free_of HB2.out 0
      have q1 := free_of HB2.out 1
      have q2 := free_of HB2.out 2
      go_wp2_with fail
      refine (whole_calls _ l _ _ w1 (HV.out.ext HB4.out) (by rw [HQ.out]; omega)).mono ?_
      rw [HT.out]
      rintro e w2 ⟨rfl, hE2⟩
      obtain ⟨hb1, hb2, hb5, hb4⟩ := two_boxes (HE1.out.trans' hE2)
      clear c0 c1 c2 r0 r1 r2 q0 q1 q2 HB1 HB2 HB4
      have HB1 := Lib.hid hb1
      have HB2 := Lib.hid hb2
      have HB4 := Lib.hid hb4
      clear hb1 hb2 hb4 hE2
      have c0 := cell_of HB1.out 0
      have c1 := cell_of HB1.out 1
      have c2 := cell_of HB1.out 2
      simp only [List.getElem?_toArray, List.getElem?_cons_zero, List.getElem?_cons_succ] at c0 c1 c2
      have r0 := cell_of HB2.out 0
      have r1 := cell_of HB2.out 1
      have r2 := cell_of HB2.out 2
      simp only [List.getElem?_toArray, List.getElem?_cons_zero, List.getElem?_cons_succ] at r0 r1 r2
      have q0 := free_of HB2.out 0
      have q1 := free_of HB2.out 1
      have q2 := free_of HB2.out 2
      go_wp2
      refine bodyPost_ret (v := .tuple #[.agg #[.slice none 0 0, .int .i64 0, .int .i64 0], .int .i64 5]) (by simp [results, Try.results24, go_sem, r0, r1, r2]) rfl ⟨rfl, (by repeat (first | refine Ext.st ?_ (by first | exact Nat.le_refl _ | exact Nat.le_succ _ | assumption | omega) _ | refine Ext.al ?_ _ | refine Ext.dr ?_ | refine Ext.drN ?_ _ | exact HB4.out))⟩
    · have d1 : decide (16384 < (n : Int)) = false := by simp; omega
      have d2 : decide (163840 < (T : Int) + n + 8) = true := by simp; omega
      go_enter Try.func24, Try.ntmps24
      go_wp2_with fail
      refine (refValid_calls _ _ _ _ _ _ (by omega)).mono ?_
      rw [HVAL.out]
      rintro e w1 ⟨rfl, hE1⟩
      obtain ⟨hb1, hb2, hb3, hb4⟩ := two_boxes hE1
      have HE1 := Lib.hid hE1
      have HB1 := Lib.hid hb1
      have HB2 := Lib.hid hb2
      have HB4 := Lib.hid hb4
      clear hb1 hb2 hb4 hE1
      have c0 := cell_of HB1.out 0
      have c1 := cell_of HB1.out 1
      have c2 := cell_of HB1.out 2
      simp only [List.getElem?_toArray, List.getElem?_cons_zero, List.getElem?_cons_succ] at c0 c1 c2
      have r0 := cell_of HB2.out 0
      have r1 := cell_of HB2.out 1
      have r2 := cell_of HB2.out 2
      simp only [List.getElem?_toArray, List.getElem?_cons_zero, List.getElem?_cons_succ] at r0 r1 r2
      have q0 := free_of HB2.out 0
      have q1 := free_of HB2.out 1
      have q2 := free_of HB2.out 2
      go_wp2_with fail
      refine (whole_calls _ l _ _ w1 (HV.out.ext HB4.out) (by rw [HQ.out]; omega)).mono ?_
      rw [HT.out]
      rintro e w2 ⟨rfl, hE2⟩
      obtain ⟨hb1, hb2, hb5, hb4⟩ := two_boxes (HE1.out.trans' hE2)
      clear c0 c1 c2 r0 r1 r2 q0 q1 q2 HB1 HB2 HB4
      have HB1 := Lib.hid hb1
      have HB2 := Lib.hid hb2
      have HB4 := Lib.hid hb4
      clear hb1 hb2 hb4 hE2
      have c0 := cell_of HB1.out 0
      have c1 := cell_of HB1.out 1
      have c2 := cell_of HB1.out 2
      simp only [List.getElem?_toArray, List.getElem?_cons_zero, List.getElem?_cons_succ] at c0 c1 c2
      have r0 := cell_of HB2.out 0
      have r1 := cell_of HB2.out 1
      have r2 := cell_of HB2.out 2
      simp only [List.getElem?_toArray, List.getElem?_cons_zero, List.getElem?_cons_succ] at r0 r1 r2
      have q0 := free_of HB2.out 0
      have q1 := free_of HB2.out 1
      have q2 := free_of HB2.out 2
      go_wp2
      refine bodyPost_ret (v := .tuple #[.agg #[.slice none 0 0, .int .i64 0, .int .i64 0], .int .i64 5]) (by simp [results, Try.results24, go_sem, r0, r1, r2]) rfl ⟨rfl, (by repeat (first | refine Ext.st ?_ (by first | exact Nat.le_refl _ | exact Nat.le_succ _ | assumption | omega) _ | refine Ext.al ?_ _ | refine Ext.dr ?_ | refine Ext.drN ?_ _ | exact HB4.out))⟩

set_option maxHeartbeats 16000000 in
set_option maxRecDepth 100000 in
theorem refAppend_ok (a : Option Addr) (c : Nat) (l : List Int) (d f : Int) (ba : Option Addr) (m : Nat) (b : List Int) (w : World) (hv : Bys w (.slice a l.length c) l) (hn : l.length ≤ 1000000) (hb : Bys w (.slice ba b.length m) b) (hnn : b.length ≤ 100000) (hE : checkN l d f b.length = 0) (hf : -1 ≤ f) (hf2 : f ≤ 1073741824) :
    Calls Try.prog 24 #[.agg #[.slice a l.length c, .int .i64 d, .int .i64 f], .slice ba b.length m] w fun e w' => ∃ v', e = .returned (.tuple #[.agg #[v', .int .i64 (min d (wholeR (recordsL l))), .int .i64 (leftF f (recL b))], .int .i64 (crashE f (recL b))]) ∧ Row w' w.heap.size 5 1 v' (appL l f b).length ((appL l f b).map (Value.int .u8)) ∧ Ext w w' := by
  have hWL := whole_le' l hv.1
  have hrl := rec_len b
  have hE' : validJ l.length d f = true ∧ fullB l b.length = false := by
    unfold checkN at hE
    cases h1 : validJ l.length d f <;> cases h2 : fullB l b.length <;> simp [h1, h2] at hE ⊢
  obtain ⟨hval, hfull⟩ := hE'
  simp only [fullB, Bool.or_eq_false_iff, decide_eq_false_iff_not] at hfull
  have HTK := Lib.hid (hv.take (wholeR (recordsL l)) hWL)
  have HV := Lib.hid hv
  have HB := Lib.hid hb
  have HLL := Lib.hid (show appL l f b = l.take (wholeR (recordsL l)) ++ wrote f (recL b) from rfl)
  have hcE : crashE f (recL b) = if crashF f (recL b) then 19 else 0 := rfl
  generalize hcr : crashF f (recL b) = cr at hcE
  generalize crashE f (recL b) = ce at hcE ⊢
  have HCR := Lib.hid hcr
  generalize appL l f b = LL at *
  generalize hlf : leftF f (recL b) = lf at *
  have HLF := Lib.hid hlf
  generalize hT : wholeR (recordsL l) = T at *
  have HT := Lib.hid hT
  generalize hq : l.length = q at *
  have HQ := Lib.hid hq
  generalize hbl : b.length = n at *
  have HBL := Lib.hid hbl
  generalize hrc : recL b = R at *
  have HR := Lib.hid hrc
  have HRL := Lib.hid hrl
  have HVAL := Lib.hid hval
  clear hv hb hT hq hbl hrc hrl hval hE hlf hcr
  have d1 : decide (16384 < (n : Int)) = false := by simp; omega
  have d2 : decide (163840 < (T : Int) + n + 8) = false := by simp; omega
  have hTc : (T : Int) ≤ (c : Int) := by
    obtain ⟨_, a', c', h, h2, _⟩ := HV.out
    simp only [Value.slice.injEq] at h
    obtain ⟨_, _, rfl⟩ := h
    have := HQ.out
    omega
  have hT0 : (0 : Int) ≤ (T : Int) := by omega
  have hcase : ((T : Int) < d ∧ min d (T : Int) = T) ∨ (¬ (T : Int) < d ∧ min d (T : Int) = d) := by omega
  generalize min d (T : Int) = dm at hcase ⊢
  rcases hcase with ⟨hlt, rfl⟩ | ⟨hlt, rfl⟩
  · skip
    go_enter Try.func24, Try.ntmps24
    go_wp2_with fail
    refine (refValid_calls _ _ _ _ _ _ (by omega)).mono ?_
    rw [HVAL.out]
    rintro e w1 ⟨rfl, hE1⟩
    obtain ⟨hb1, hb2, hb3, hb4⟩ := two_boxes hE1
    have HE1 := Lib.hid hE1
    have HB1 := Lib.hid hb1
    have HB2 := Lib.hid hb2
    have HB4 := Lib.hid hb4
    clear hb1 hb2 hb4 hE1
    have c0 := cell_of HB1.out 0
    have c1 := cell_of HB1.out 1
    have c2 := cell_of HB1.out 2
    simp only [List.getElem?_toArray, List.getElem?_cons_zero, List.getElem?_cons_succ] at c0 c1 c2
    have r0 := cell_of HB2.out 0
    have r1 := cell_of HB2.out 1
    have r2 := cell_of HB2.out 2
    simp only [List.getElem?_toArray, List.getElem?_cons_zero, List.getElem?_cons_succ] at r0 r1 r2
    have q0 := free_of HB2.out 0
    have q1 := free_of HB2.out 1
    have q2 := free_of HB2.out 2
    go_wp2_with fail
    refine (whole_calls _ l _ _ w1 (HV.out.ext HB4.out) (by rw [HQ.out]; omega)).mono ?_
    rw [HT.out]
    rintro e w2 ⟨rfl, hE2⟩
    obtain ⟨hb1, hb2, hb5, hb4⟩ := two_boxes (HE1.out.trans' hE2)
    clear c0 c1 c2 r0 r1 r2 q0 q1 q2 HB1 HB2 HB4
    have HB1 := Lib.hid hb1
    have HB2 := Lib.hid hb2
    have HB4 := Lib.hid hb4
    clear hb1 hb2 hb4 hE2
    have c0 := cell_of HB1.out 0
    have c1 := cell_of HB1.out 1
    have c2 := cell_of HB1.out 2
    simp only [List.getElem?_toArray, List.getElem?_cons_zero, List.getElem?_cons_succ] at c0 c1 c2
    have r0 := cell_of HB2.out 0
    have r1 := cell_of HB2.out 1
    have r2 := cell_of HB2.out 2
    simp only [List.getElem?_toArray, List.getElem?_cons_zero, List.getElem?_cons_succ] at r0 r1 r2
    have q0 := free_of HB2.out 0
    have q1 := free_of HB2.out 1
    have q2 := free_of HB2.out 2
    go_upto_region 6 with (fail)
    go_cut [7, 8] (fun s7 s8 wx => ∃ (g : Nat) (v' : Value), s7 = .pointer (some ⟨g, 0, none⟩) ∧ s8 = .bool (!cr) ∧ Aside (JVar wx w2.heap.size g v' LL T lf) ∧ Aside (Ext w2 wx))
    case first =>
      have n1 : w.heap.size ≠ w2.heap.size + 1 := by omega
      have n2 : w.heap.size ≠ w2.heap.size := by omega
      have n3 : w2.heap.size + 1 ≠ w.heap.size := by omega
      have n4 : w2.heap.size ≠ w.heap.size := by omega
      go_region_held3 (fun w' => w'.cell? ⟨w.heap.size, 0, none⟩ = some (.slice a q c) ∧ w'.cell? ⟨w.heap.size, 1, none⟩ = some (.int .i64 d) ∧ w'.cell? ⟨w.heap.size, 2, none⟩ = some (.int .i64 f)) (go_keep)
        (first
          | (go_at_call 36
             refine (refRecord_calls _ b _ (HB.out.ext (by repeat (first | refine Ext.st ?_ (by first | exact Nat.le_refl _ | exact Nat.le_succ _ | assumption | omega) _ | refine Ext.al ?_ _ | refine Ext.dr ?_ | refine Ext.drN ?_ _ | exact HB4.out))) (by rw [HBL.out]; omega)).mono ?_
             rintro e wA ⟨vA, rfl, hRA, hEA⟩
             have hxA : Ext w2 wA := Ext.trans' (by repeat (first | refine Ext.st ?_ (by first | exact Nat.le_refl _ | exact Nat.le_succ _ | assumption | omega) _ | refine Ext.al ?_ _ | refine Ext.dr ?_ | refine Ext.drN ?_ _ | exact Ext.rf _)) hEA
             have HRA := Lib.hid hRA
             have HXA := Lib.hid hxA
             have kA0 := hxA.cl c0
             have kA1 := hxA.cl c1
             have kA2 := hxA.cl c2
             have fA1 := fun (k j : Nat) (h1 : k < _) => hEA.cell (p := ⟨k, j, none⟩) h1
             have fA2 := fun (k j : Nat) (h1 : k < _) => hEA.frozen (p := ⟨k, j, none⟩) h1
             have nA1 : w.heap.size ≠ wA.heap.size := by have := HXA.out.sz; omega
             have nA2 : wA.heap.size ≠ w.heap.size := by have := HXA.out.sz; omega
             have nA3 := HXA.out.sz
             have nA4 := hEA.size
             try simp at nA4
             clear hRA hxA)
          | (go_at_call 49
             refine (refWrite_calls _ (l.take T) _ _ _ R _ (HTK.out.ext (HB4.out.trans' (by repeat (first | refine Ext.st ?_ (by first | exact Nat.le_refl _ | exact Nat.le_succ _ | assumption | omega) _ | refine Ext.al ?_ _ | refine Ext.dr ?_ | refine Ext.drN ?_ _ | exact HXA.out)))) (Bys.ext (by rw [← HR.out]; exact HRA.out.bys (rec_byte HB.out.1)) (by repeat (first | refine Ext.st ?_ (by first | exact Nat.le_refl _ | exact Nat.le_succ _ | assumption | omega) _ | refine Ext.al ?_ _ | refine Ext.dr ?_ | refine Ext.drN ?_ _ | exact Ext.rf _))) (by rw [List.length_take]; omega) (by rw [HRL.out]; omega) hf hf2).mono ?_
             rintro e wB ⟨vB, rfl, hRB, hEB⟩
             rw [← HLL.out] at hRB
             obtain ⟨fa, fc, rfl, hle5, hsh5⟩ := hRB.any
             clear hsh5
             rw [HLF.out, HCR.out]
             have hxB : Ext w2 wB := Ext.trans' (by repeat (first | refine Ext.st ?_ (by first | exact Nat.le_refl _ | exact Nat.le_succ _ | assumption | omega) _ | refine Ext.al ?_ _ | refine Ext.dr ?_ | refine Ext.drN ?_ _ | exact HXA.out)) hEB
             have kB0 := hxB.cl c0
             have kB1 := hxB.cl c1
             have kB2 := hxB.cl c2
             have fB1 := fun (k j : Nat) (h1 : k < _) => hEB.cell (p := ⟨k, j, none⟩) h1
             have fB2 := fun (k j : Nat) (h1 : k < _) => hEB.frozen (p := ⟨k, j, none⟩) h1
             try (have z := hEB.hp (hEA.hp (heap_alloc_new w2 (journalT (.slice none 0 0) 0 0)))
                  have z0 := cell_of z 0
                  have z1 := cell_of z 1
                  have z2 := cell_of z 2
                  have y0 := free_of z 0
                  have y1 := free_of z 1
                  have y2 := free_of z 2
                  simp only [List.getElem?_toArray, List.getElem?_cons_zero, List.getElem?_cons_succ] at z0 z1 z2)))
      all_goals (go_wp2_with fail; go_meet)
      · obtain ⟨h1, h2⟩ := jvar_behind (w := w2) (d := T) (f := lf) hRB (by first | exact nA3 | (simp; omega)) rfl rfl hxB
        exact ⟨_, _, rfl, rfl, h1, h2⟩
      · obtain ⟨h1, h2⟩ := jvar_ahead (w := w2) (d := T) (f := lf) (hEB.hp (heap_alloc_new wA (journalT (.slice none 0 0) 0 0))) nA3 hRB (by simp) rfl rfl hxB
        exact ⟨_, _, rfl, rfl, h1, h2⟩
      · obtain ⟨h1, h2⟩ := jvar_ahead (w := w2) (d := T) (f := lf) (hEB.hp (hEA.hp (heap_alloc_new w2 (journalT (.slice none 0 0) 0 0)))) (Nat.le_refl _) hRB (by first | (simp; done) | (simp; omega) | exact nA4 | omega) rfl rfl hxB
        exact ⟨_, _, rfl, rfl, h1, h2⟩
      · obtain ⟨h1, h2⟩ := jvar_behind (w := w2) (d := T) (f := lf) hRB (by first | exact nA3 | (simp; omega)) rfl rfl hxB
        exact ⟨_, _, rfl, rfl, h1, h2⟩
      · obtain ⟨h1, h2⟩ := jvar_ahead (w := w2) (d := T) (f := lf) (hEB.hp (heap_alloc_new wA (journalT (.slice none 0 0) 0 0))) nA3 hRB (by simp) rfl rfl hxB
        exact ⟨_, _, rfl, rfl, h1, h2⟩
      · obtain ⟨h1, h2⟩ := jvar_ahead (w := w2) (d := T) (f := lf) (hEB.hp (heap_alloc_new wA (journalT (.slice none 0 0) 0 0))) nA3 hRB (by simp) rfl rfl hxB
        exact ⟨_, _, rfl, rfl, h1, h2⟩
      · obtain ⟨h1, h2⟩ := jvar_ahead (w := w2) (d := T) (f := lf) (hEB.hp (hEA.hp (heap_alloc_new w2 (journalT (.slice none 0 0) 0 0)))) (Nat.le_refl _) hRB (by first | (simp; done) | (simp; omega) | exact nA4 | omega) rfl rfl hxB
        exact ⟨_, _, rfl, rfl, h1, h2⟩
      · obtain ⟨h1, h2⟩ := jvar_ahead (w := w2) (d := T) (f := lf) (hEB.hp (hEA.hp (heap_alloc_new w2 (journalT (.slice none 0 0) 0 0)))) (Nat.le_refl _) hRB (by first | (simp; done) | (simp; omega) | exact nA4 | omega) rfl rfl hxB
        exact ⟨_, _, rfl, rfl, h1, h2⟩
    case rest =>
      obtain ⟨g, v', rfl, rfl, HJ, HX⟩ := hcut
      have hbg := HJ.out.1
      obtain ⟨va, vc, rfl, _, hsh⟩ := HJ.out.2.2.1.any
      clear hsh
      have HH := Lib.hid HJ.out.2.1
      have HB2' := Lib.hid (HX.out.hp HB2.out)
      have HROW := Lib.hid HJ.out.2.2.1
      have HE9 := Lib.hid (HB4.out.trans' HX.out)
      clear c0 c1 c2 r0 r1 r2 q0 q1 q2
      have g0 := cell_of HH.out 0
      have g1 := cell_of HH.out 1
      have g2 := cell_of HH.out 2
      simp only [List.getElem?_toArray, List.getElem?_cons_zero, List.getElem?_cons_succ] at g0 g1 g2
      have r0 := cell_of HB2'.out 0
      have r1 := cell_of HB2'.out 1
      have r2 := cell_of HB2'.out 2
      simp only [List.getElem?_toArray, List.getElem?_cons_zero, List.getElem?_cons_succ] at r0 r1 r2
      have q0 := free_of HB2'.out 0
      have q1 := free_of HB2'.out 1
      have q2 := free_of HB2'.out 2
      cases cr with
      | false =>
        simp only [Bool.not_false]
        simp only [Bool.false_eq_true, if_false] at hcE
        subst hcE
        go_wp2
        exact bodyPost_ret (v := .tuple #[.agg #[.slice va LL.length vc, .int .i64 T, .int .i64 lf], .int .i64 0]) (by simp [results, Try.results24, go_sem, r0, r1, r2]) rfl ⟨_, rfl, (Row.st3 (base := w2.heap.size) (g := w.heap.size + 1) HROW.out (by omega) _ _ _).mono (by omega), (by repeat (first | refine Ext.st ?_ (by first | exact Nat.le_refl _ | exact Nat.le_succ _ | assumption | omega) _ | refine Ext.al ?_ _ | refine Ext.dr ?_ | refine Ext.drN ?_ _ | exact HE9.out))⟩
      | true =>
        simp only [Bool.not_true]
        simp only [if_true] at hcE
        subst hcE
        go_wp2
        exact bodyPost_ret (v := .tuple #[.agg #[.slice va LL.length vc, .int .i64 T, .int .i64 lf], .int .i64 19]) (by simp [results, Try.results24, go_sem, r0, r1, r2]) rfl ⟨_, rfl, (Row.st3 (base := w2.heap.size) (g := w.heap.size + 1) HROW.out (by omega) _ _ _).mono (by omega), (by repeat (first | refine Ext.st ?_ (by first | exact Nat.le_refl _ | exact Nat.le_succ _ | assumption | omega) _ | refine Ext.al ?_ _ | refine Ext.dr ?_ | refine Ext.drN ?_ _ | exact HE9.out))⟩
  · skip
    go_enter Try.func24, Try.ntmps24
    go_wp2_with fail
    refine (refValid_calls _ _ _ _ _ _ (by omega)).mono ?_
    rw [HVAL.out]
    rintro e w1 ⟨rfl, hE1⟩
    obtain ⟨hb1, hb2, hb3, hb4⟩ := two_boxes hE1
    have HE1 := Lib.hid hE1
    have HB1 := Lib.hid hb1
    have HB2 := Lib.hid hb2
    have HB4 := Lib.hid hb4
    clear hb1 hb2 hb4 hE1
    have c0 := cell_of HB1.out 0
    have c1 := cell_of HB1.out 1
    have c2 := cell_of HB1.out 2
    simp only [List.getElem?_toArray, List.getElem?_cons_zero, List.getElem?_cons_succ] at c0 c1 c2
    have r0 := cell_of HB2.out 0
    have r1 := cell_of HB2.out 1
    have r2 := cell_of HB2.out 2
    simp only [List.getElem?_toArray, List.getElem?_cons_zero, List.getElem?_cons_succ] at r0 r1 r2
    have q0 := free_of HB2.out 0
    have q1 := free_of HB2.out 1
    have q2 := free_of HB2.out 2
    go_wp2_with fail
    refine (whole_calls _ l _ _ w1 (HV.out.ext HB4.out) (by rw [HQ.out]; omega)).mono ?_
    rw [HT.out]
    rintro e w2 ⟨rfl, hE2⟩
    obtain ⟨hb1, hb2, hb5, hb4⟩ := two_boxes (HE1.out.trans' hE2)
    clear c0 c1 c2 r0 r1 r2 q0 q1 q2 HB1 HB2 HB4
    have HB1 := Lib.hid hb1
    have HB2 := Lib.hid hb2
    have HB4 := Lib.hid hb4
    clear hb1 hb2 hb4 hE2
    have c0 := cell_of HB1.out 0
    have c1 := cell_of HB1.out 1
    have c2 := cell_of HB1.out 2
    simp only [List.getElem?_toArray, List.getElem?_cons_zero, List.getElem?_cons_succ] at c0 c1 c2
    have r0 := cell_of HB2.out 0
    have r1 := cell_of HB2.out 1
    have r2 := cell_of HB2.out 2
    simp only [List.getElem?_toArray, List.getElem?_cons_zero, List.getElem?_cons_succ] at r0 r1 r2
    have q0 := free_of HB2.out 0
    have q1 := free_of HB2.out 1
    have q2 := free_of HB2.out 2
    go_upto_region 6 with (fail)
    go_cut [7, 8] (fun s7 s8 wx => ∃ (g : Nat) (v' : Value), s7 = .pointer (some ⟨g, 0, none⟩) ∧ s8 = .bool (!cr) ∧ Aside (JVar wx w2.heap.size g v' LL dm lf) ∧ Aside (Ext w2 wx))
    case first =>
      have n1 : w.heap.size ≠ w2.heap.size + 1 := by omega
      have n2 : w.heap.size ≠ w2.heap.size := by omega
      have n3 : w2.heap.size + 1 ≠ w.heap.size := by omega
      have n4 : w2.heap.size ≠ w.heap.size := by omega
      go_region_held3 (fun w' => w'.cell? ⟨w.heap.size, 0, none⟩ = some (.slice a q c) ∧ w'.cell? ⟨w.heap.size, 1, none⟩ = some (.int .i64 dm) ∧ w'.cell? ⟨w.heap.size, 2, none⟩ = some (.int .i64 f)) (go_keep)
        (first
          | (go_at_call 36
             refine (refRecord_calls _ b _ (HB.out.ext (by repeat (first | refine Ext.st ?_ (by first | exact Nat.le_refl _ | exact Nat.le_succ _ | assumption | omega) _ | refine Ext.al ?_ _ | refine Ext.dr ?_ | refine Ext.drN ?_ _ | exact HB4.out))) (by rw [HBL.out]; omega)).mono ?_
             rintro e wA ⟨vA, rfl, hRA, hEA⟩
             have hxA : Ext w2 wA := Ext.trans' (by repeat (first | refine Ext.st ?_ (by first | exact Nat.le_refl _ | exact Nat.le_succ _ | assumption | omega) _ | refine Ext.al ?_ _ | refine Ext.dr ?_ | refine Ext.drN ?_ _ | exact Ext.rf _)) hEA
             have HRA := Lib.hid hRA
             have HXA := Lib.hid hxA
             have kA0 := hxA.cl c0
             have kA1 := hxA.cl c1
             have kA2 := hxA.cl c2
             have fA1 := fun (k j : Nat) (h1 : k < _) => hEA.cell (p := ⟨k, j, none⟩) h1
             have fA2 := fun (k j : Nat) (h1 : k < _) => hEA.frozen (p := ⟨k, j, none⟩) h1
             have nA1 : w.heap.size ≠ wA.heap.size := by have := HXA.out.sz; omega
             have nA2 : wA.heap.size ≠ w.heap.size := by have := HXA.out.sz; omega
             have nA3 := HXA.out.sz
             have nA4 := hEA.size
             try simp at nA4
             clear hRA hxA)
          | (go_at_call 49
             refine (refWrite_calls _ (l.take T) _ _ _ R _ (HTK.out.ext (HB4.out.trans' (by repeat (first | refine Ext.st ?_ (by first | exact Nat.le_refl _ | exact Nat.le_succ _ | assumption | omega) _ | refine Ext.al ?_ _ | refine Ext.dr ?_ | refine Ext.drN ?_ _ | exact HXA.out)))) (Bys.ext (by rw [← HR.out]; exact HRA.out.bys (rec_byte HB.out.1)) (by repeat (first | refine Ext.st ?_ (by first | exact Nat.le_refl _ | exact Nat.le_succ _ | assumption | omega) _ | refine Ext.al ?_ _ | refine Ext.dr ?_ | refine Ext.drN ?_ _ | exact Ext.rf _))) (by rw [List.length_take]; omega) (by rw [HRL.out]; omega) hf hf2).mono ?_
             rintro e wB ⟨vB, rfl, hRB, hEB⟩
             rw [← HLL.out] at hRB
             obtain ⟨fa, fc, rfl, hle5, hsh5⟩ := hRB.any
             clear hsh5
             rw [HLF.out, HCR.out]
             have hxB : Ext w2 wB := Ext.trans' (by repeat (first | refine Ext.st ?_ (by first | exact Nat.le_refl _ | exact Nat.le_succ _ | assumption | omega) _ | refine Ext.al ?_ _ | refine Ext.dr ?_ | refine Ext.drN ?_ _ | exact HXA.out)) hEB
             have kB0 := hxB.cl c0
             have kB1 := hxB.cl c1
             have kB2 := hxB.cl c2
             have fB1 := fun (k j : Nat) (h1 : k < _) => hEB.cell (p := ⟨k, j, none⟩) h1
             have fB2 := fun (k j : Nat) (h1 : k < _) => hEB.frozen (p := ⟨k, j, none⟩) h1
             try (have z := hEB.hp (hEA.hp (heap_alloc_new w2 (journalT (.slice none 0 0) 0 0)))
                  have z0 := cell_of z 0
                  have z1 := cell_of z 1
                  have z2 := cell_of z 2
                  have y0 := free_of z 0
                  have y1 := free_of z 1
                  have y2 := free_of z 2
                  simp only [List.getElem?_toArray, List.getElem?_cons_zero, List.getElem?_cons_succ] at z0 z1 z2)))
      all_goals (go_wp2_with fail; go_meet)
      · obtain ⟨h1, h2⟩ := jvar_behind (w := w2) (d := dm) (f := lf) hRB (by first | exact nA3 | (simp; omega)) rfl rfl hxB
        exact ⟨_, _, rfl, rfl, h1, h2⟩
      · obtain ⟨h1, h2⟩ := jvar_ahead (w := w2) (d := dm) (f := lf) (hEB.hp (heap_alloc_new wA (journalT (.slice none 0 0) 0 0))) nA3 hRB (by simp) rfl rfl hxB
        exact ⟨_, _, rfl, rfl, h1, h2⟩
      · obtain ⟨h1, h2⟩ := jvar_ahead (w := w2) (d := dm) (f := lf) (hEB.hp (hEA.hp (heap_alloc_new w2 (journalT (.slice none 0 0) 0 0)))) (Nat.le_refl _) hRB (by first | (simp; done) | (simp; omega) | exact nA4 | omega) rfl rfl hxB
        exact ⟨_, _, rfl, rfl, h1, h2⟩
      · obtain ⟨h1, h2⟩ := jvar_behind (w := w2) (d := dm) (f := lf) hRB (by first | exact nA3 | (simp; omega)) rfl rfl hxB
        exact ⟨_, _, rfl, rfl, h1, h2⟩
      · obtain ⟨h1, h2⟩ := jvar_ahead (w := w2) (d := dm) (f := lf) (hEB.hp (heap_alloc_new wA (journalT (.slice none 0 0) 0 0))) nA3 hRB (by simp) rfl rfl hxB
        exact ⟨_, _, rfl, rfl, h1, h2⟩
      · obtain ⟨h1, h2⟩ := jvar_ahead (w := w2) (d := dm) (f := lf) (hEB.hp (heap_alloc_new wA (journalT (.slice none 0 0) 0 0))) nA3 hRB (by simp) rfl rfl hxB
        exact ⟨_, _, rfl, rfl, h1, h2⟩
      · obtain ⟨h1, h2⟩ := jvar_ahead (w := w2) (d := dm) (f := lf) (hEB.hp (hEA.hp (heap_alloc_new w2 (journalT (.slice none 0 0) 0 0)))) (Nat.le_refl _) hRB (by first | (simp; done) | (simp; omega) | exact nA4 | omega) rfl rfl hxB
        exact ⟨_, _, rfl, rfl, h1, h2⟩
      · obtain ⟨h1, h2⟩ := jvar_ahead (w := w2) (d := dm) (f := lf) (hEB.hp (hEA.hp (heap_alloc_new w2 (journalT (.slice none 0 0) 0 0)))) (Nat.le_refl _) hRB (by first | (simp; done) | (simp; omega) | exact nA4 | omega) rfl rfl hxB
        exact ⟨_, _, rfl, rfl, h1, h2⟩
    case rest =>
      obtain ⟨g, v', rfl, rfl, HJ, HX⟩ := hcut
      have hbg := HJ.out.1
      obtain ⟨va, vc, rfl, _, hsh⟩ := HJ.out.2.2.1.any
      clear hsh
      have HH := Lib.hid HJ.out.2.1
      have HB2' := Lib.hid (HX.out.hp HB2.out)
      have HROW := Lib.hid HJ.out.2.2.1
      have HE9 := Lib.hid (HB4.out.trans' HX.out)
      clear c0 c1 c2 r0 r1 r2 q0 q1 q2
      have g0 := cell_of HH.out 0
      have g1 := cell_of HH.out 1
      have g2 := cell_of HH.out 2
      simp only [List.getElem?_toArray, List.getElem?_cons_zero, List.getElem?_cons_succ] at g0 g1 g2
      have r0 := cell_of HB2'.out 0
      have r1 := cell_of HB2'.out 1
      have r2 := cell_of HB2'.out 2
      simp only [List.getElem?_toArray, List.getElem?_cons_zero, List.getElem?_cons_succ] at r0 r1 r2
      have q0 := free_of HB2'.out 0
      have q1 := free_of HB2'.out 1
      have q2 := free_of HB2'.out 2
      cases cr with
      | false =>
        simp only [Bool.not_false]
        simp only [Bool.false_eq_true, if_false] at hcE
        subst hcE
        go_wp2
        exact bodyPost_ret (v := .tuple #[.agg #[.slice va LL.length vc, .int .i64 dm, .int .i64 lf], .int .i64 0]) (by simp [results, Try.results24, go_sem, r0, r1, r2]) rfl ⟨_, rfl, (Row.st3 (base := w2.heap.size) (g := w.heap.size + 1) HROW.out (by omega) _ _ _).mono (by omega), (by repeat (first | refine Ext.st ?_ (by first | exact Nat.le_refl _ | exact Nat.le_succ _ | assumption | omega) _ | refine Ext.al ?_ _ | refine Ext.dr ?_ | refine Ext.drN ?_ _ | exact HE9.out))⟩
      | true =>
        simp only [Bool.not_true]
        simp only [if_true] at hcE
        subst hcE
        go_wp2
        exact bodyPost_ret (v := .tuple #[.agg #[.slice va LL.length vc, .int .i64 dm, .int .i64 lf], .int .i64 19]) (by simp [results, Try.results24, go_sem, r0, r1, r2]) rfl ⟨_, rfl, (Row.st3 (base := w2.heap.size) (g := w.heap.size + 1) HROW.out (by omega) _ _ _).mono (by omega), (by repeat (first | refine Ext.st ?_ (by first | exact Nat.le_refl _ | exact Nat.le_succ _ | assumption | omega) _ | refine Ext.al ?_ _ | refine Ext.dr ?_ | refine Ext.drN ?_ _ | exact HE9.out))⟩

end Go.Proofs.Ytggofkaakccoeaa
