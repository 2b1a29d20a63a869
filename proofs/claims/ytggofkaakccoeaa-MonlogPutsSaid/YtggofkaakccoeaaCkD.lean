/-
  The conclusion of the reference's text.
-/
import Derived.Test.YtggofkaakccoeaaBase
import Derived.Test.YtggofkaakccoeaaProg
import Derived.BigQuiet
import Derived.Deep.QuietTactic
import Derived.Deep.LoopGhost
import Derived.Shelf.Abstract
import Derived.Test.YtggofkaakccoeaaCkC
import Derived.Test.YtggofkaakccoeaaStep
import Derived.Deep.RegionHeld3
import Derived.Deep.DrawnRows
import Derived.Deep.DeepCutAuto
import Derived.Deep.AppendLies
import Derived.Deep.RegionLaw
namespace Go.Proofs.Ytggofkaakccoeaa
open Go.RowKit
set_option linter.unusedVariables false
attribute [local go_sem ↓] Go.wp_at_zero Go.wp_at_succ

abbrev ckT (q e d c : Value) : Obj := .cells #[q, e, d, c] 62
theorem Row.drw {w : World} {base : Nat} {e : TypeId} {size : Nat} {v : Value} {n : Nat} {xs : List Value} (h : Row w base e size v n xs) : Row w.drew base e size v n xs := h.heap fun _ _ => rfl
theorem Row.drwN {w : World} {base : Nat} {e : TypeId} {size : Nat} {v : Value} {n : Nat} {xs : List Value} (h : Row w base e size v n xs) (k : Nat) : Row (w.drewN k) base e size v n xs := h.heap fun _ _ => rfl
theorem Row.st4 {w : World} {base : Nat} {e : TypeId} {size : Nat} {v : Value} {n : Nat} {xs : List Value} {g : Nat} (h : Row w base e size v n xs) (hg : g < base) (x y z u : Value) : Row ((((w.setCell ⟨g, 0, none⟩ x).setCell ⟨g, 1, none⟩ y).setCell ⟨g, 2, none⟩ z).setCell ⟨g, 3, none⟩ u) base e size v n xs := by
  have hb : v.ownBlock ≠ some g := fun hk => by have := (h.lt _ hk).1; omega
  exact (((h.st (p := ⟨g, 0, none⟩) hb x).st (p := ⟨g, 1, none⟩) hb y).st (p := ⟨g, 2, none⟩) hb z).st (p := ⟨g, 3, none⟩) hb u
theorem ck_set2 {w : World} {g : Nat} {q e d c x : Value} (h : w.heap[g]? = some (ckT q e d c)) : (w.setCell ⟨g, 2, none⟩ x).heap[g]? = some (ckT q e x c) := by
  rw [heap_setCell_same h]; simp
theorem ck_set3 {w : World} {g : Nat} {q e d c x : Value} (h : w.heap[g]? = some (ckT q e d c)) : (w.setCell ⟨g, 3, none⟩ x).heap[g]? = some (ckT q e d x) := by
  rw [heap_setCell_same h]; simp
theorem ck_set0 {w : World} {g : Nat} {q e d c x : Value} (h : w.heap[g]? = some (ckT q e d c)) : (w.setCell ⟨g, 0, none⟩ x).heap[g]? = some (ckT x e d c) := by
  rw [heap_setCell_same h]; simp
theorem ck_set1 {w : World} {g : Nat} {q e d c x : Value} (h : w.heap[g]? = some (ckT q e d c)) : (w.setCell ⟨g, 1, none⟩ x).heap[g]? = some (ckT q x d c) := by
  rw [heap_setCell_same h]; simp

theorem all_succ (f : Nat → Bool) (k : Nat) : (List.range (k + 1)).all f = ((List.range k).all f && f k) := by rw [List.range_succ, List.all_append]; simp
theorem any_succ (f : Nat → Bool) (k : Nat) : (List.range (k + 1)).any f = ((List.range k).any f || f k) := by rw [List.range_succ, List.any_append]; simp
def cutK (qs : List (List (List Int))) (k : Nat) : List Int := (List.range k).map fun p => qs[p]![0]![p]!
theorem cutK_succ (qs : List (List (List Int))) (k : Nat) : cutK qs (k + 1) = cutK qs k ++ [qs[k]![0]![k]!] := by unfold cutK; rw [List.range_succ, List.map_append]; rfl
theorem cutK_len (qs : List (List (List Int))) (k : Nat) : (cutK qs k).length = k := by simp [cutK]

/-- A checker with a conclusion of its own, handed back. -/
def ConcCk (w w' : World) (e : Ending) (uq ue : Value) (b : Bool) (l : List Int) : Prop := ∃ v, e = .returned (.agg #[uq, ue, .bool b, v]) ∧ Row w' w.heap.size 3 1 v l.length (l.map (Value.int .i64)) ∧ Ext w w'


/-- The worlds behind the two stores of a conclusion. -/
theorem conc_world {w wr : World} {q e d c z0 z1 z2 z3 b : Value} (h0 : wr.heap[w.heap.size]? = some (ckT q e d c)) (h1 : wr.heap[w.heap.size + 1]? = some (ckT z0 z1 z2 z3)) (hx : Ext w wr) :
    ((wr.setCell ⟨w.heap.size, 2, none⟩ b).setCell ⟨w.heap.size, 3, none⟩ (.slice none 0 0)).heap[w.heap.size]? = some (ckT q e b (.slice none 0 0)) ∧
    ((wr.setCell ⟨w.heap.size, 2, none⟩ b).setCell ⟨w.heap.size, 3, none⟩ (.slice none 0 0)).heap[w.heap.size + 1]? = some (ckT z0 z1 z2 z3) ∧
    Ext w ((wr.setCell ⟨w.heap.size, 2, none⟩ b).setCell ⟨w.heap.size, 3, none⟩ (.slice none 0 0)) ∧
    ((wr.setCell ⟨w.heap.size, 2, none⟩ b).setCell ⟨w.heap.size, 3, none⟩ (.slice none 0 0)).heap.size = wr.heap.size := by
  refine ⟨ck_set3 (ck_set2 h0), ?_, (hx.st (Nat.le_refl _) _).st (Nat.le_refl _) _, by simp only [size_setCell]⟩
  rw [Below.heap_setCell _ _ _ _ (by simp only; omega), Below.heap_setCell _ _ _ _ (by simp only; omega)]
  exact h1


set_option maxHeartbeats 16000000 in
set_option maxRecDepth 100000 in
theorem concludeR_calls (uq ue uc : Value) (d : Bool) (qs : List (List (List Int))) (ended : List Bool) (w : World) (hq : Sl RQueue 1 w uq qs) (he : Sl RBool 1 w ue ended) (hf : FitQ qs) (hl : ended.length = qs.length) :
    Calls Try.prog 78 #[.agg #[uq, ue, .bool d, uc]] w fun e w' => ConcCk w w' e uq ue (doneB qs ended) (cutB qs) := by
  obtain ⟨ii, ni, nz0, nz1, nz2⟩ := info_parts info_int
  have HQ := Lib.hid hq
  have HEN := Lib.hid he
  have HF := Lib.hid hf
  have hn8 := hf.1
  obtain ⟨a, c, rfl, hlc⟩ := hq.shape
  obtain ⟨ea, ec, rfl, hec⟩ := he.shape
  rw [hl] at hec HEN ⊢
  have HDB := Lib.hid (show doneB qs ended = ((List.range qs.length).all (fun p => decide (0 < qs[p]!.length)) || (List.range qs.length).any (fun p => decide (qs[p]!.length = 0) && ended[p]!)) from rfl)
  have HCB := Lib.hid (show cutB qs = if (List.range qs.length).all (fun p => decide (0 < qs[p]!.length)) then cutK qs qs.length else [] from rfl)
  generalize doneB qs ended = db at *
  generalize cutB qs = cb at *
  generalize hn : qs.length = n at *
  have HN := Lib.hid hn
  have HL := Lib.hid hl
  clear hq hf hn he hl
  have HX0 := Lib.hid (((Ext.rf (w.alloc (ckT (.slice a n c) (.slice ea n ec) (.bool d) uc))).al (ckT (.slice none 0 0) (.slice none 0 0) (.bool false) (.slice none 0 0))).hp (heap_alloc_new w (ckT (.slice a n c) (.slice ea n ec) (.bool d) uc)))
  have HX1 := Lib.hid (heap_alloc_new (w.alloc (ckT (.slice a n c) (.slice ea n ec) (.bool d) uc)) (ckT (.slice none 0 0) (.slice none 0 0) (.bool false) (.slice none 0 0)))
  have HE0 : Hid (Ext w ((w.alloc (ckT (.slice a n c) (.slice ea n ec) (.bool d) uc)).alloc (ckT (.slice none 0 0) (.slice none 0 0) (.bool false) (.slice none 0 0)))) := Lib.hid (((Ext.rf w).al _).al _)
  go_enter Try.func78, Try.ntmps78
  go_wp2
  go_loopg [3, 4, 5] n (fun g s3 s4 s5 wr => ∃ (k : Nat) (al ov : Bool), k ≤ n ∧ n - k ≤ g ∧ s5 = .int .i64 k ∧ s3 = .bool al ∧ s4 = .bool ov ∧ wr = (w.alloc (ckT (.slice a n c) (.slice ea n ec) (.bool d) uc)).alloc (ckT (.slice none 0 0) (.slice none 0 0) (.bool false) (.slice none 0 0)) ∧ Aside ((List.range k).all (fun p => decide (0 < qs[p]!.length)) = al) ∧ Aside ((List.range k).any (fun p => decide (qs[p]!.length = 0) && ended[p]!) = ov))
  case atStart => exact ⟨0, true, false, Nat.zero_le _, by omega, rfl, rfl, rfl, rfl, rfl, rfl⟩
  case round =>
    obtain ⟨k, al, ov, hk, hg, rfl, rfl, rfl, hwr, AL, OV⟩ := hrel
    have HWR := Lib.hid hwr
    have HB0 := Lib.hid (show wr.heap[w.heap.size]? = some (ckT (.slice a n c) (.slice ea n ec) (.bool d) uc) from by rw [hwr]; exact HX0.out)
    have HEW := Lib.hid (show Ext w wr from by rw [hwr]; exact HE0.out)
    clear hwr
    have x0 := cellOf HB0.out 0
    have x1 := cellOf HB0.out 1
    have x2 := cellOf HB0.out 2
    have x3 := cellOf HB0.out 3
    simp only [List.getElem?_toArray, List.getElem?_cons_zero, List.getElem?_cons_succ] at x0 x1 x2 x3
    by_cases hlt : k < n
    · have hltz : (k : Int) < (n : Int) := by omega
      have hkz : (0 : Int) ≤ (k : Int) := by omega
      obtain ⟨B, O, C, a1, m1, c1, hue0, hcp0, M1, hmc1, HS1, HD1⟩ := heads_at HQ.out HF.out k (by rw [HN.out]; exact hlt)
      simp only [Value.slice.injEq] at hue0
      obtain ⟨rfl, hnn, rfl⟩ := hue0
      obtain ⟨EB, EO, EC, ev, hee, _, _, hec0, hev⟩ := HEN.out.at1 k (by rw [HL.out]; exact hlt)
      simp only [Value.slice.injEq] at hee
      obtain ⟨rfl, hnn2, rfl⟩ := hee
      obtain rfl : ev = .bool ended[k]! := by simpa [RBool] using hev
      have hcp := HEW.out.cl hcp0
      have hce := HEW.out.cl hec0
      have HM1 := Lib.hid M1
      clear M1 HS1 hnn hnn2 hcp0 HD1 hev hec0
      generalize hen : ended[k]! = en at *
      have HENK := Lib.hid hen
      clear hen
      rcases Nat.eq_zero_or_pos m1 with h1 | h1
      · have b2 : ((m1 : Int) == 0) = true := by simp; omega
        have HZ := Lib.hid (show qs[k]!.length = 0 from by rw [← HM1.out]; exact h1)
        clear h1
        cases ov with
        | true =>
          go_wp2
          go_roundg (n - (k + 1))
          case measure => omega
          case rel => exact ⟨k + 1, false, true, by omega, by omega, by go_num, rfl, rfl, HWR.out, (show _ = _ by rw [all_succ, HZ.out]; simp), (show _ = _ by rw [any_succ, OV.out]; rfl)⟩
        | false =>
          cases en with
          | true =>
            go_wp2
            go_roundg (n - (k + 1))
            case measure => omega
            case rel => exact ⟨k + 1, false, true, by omega, by omega, by go_num, rfl, rfl, HWR.out, (show _ = _ by rw [all_succ, HZ.out]; simp), (show _ = _ by rw [any_succ, HZ.out, HENK.out]; simp)⟩
          | false =>
            go_wp2
            go_roundg (n - (k + 1))
            case measure => omega
            case rel => exact ⟨k + 1, false, false, by omega, by omega, by go_num, rfl, rfl, HWR.out, (show _ = _ by rw [all_succ, HZ.out]; simp), (show _ = _ by rw [any_succ, OV.out, HENK.out]; simp)⟩
      · have b2 : ((m1 : Int) == 0) = false := by simp; omega
        have HZ := Lib.hid (show 0 < qs[k]!.length from by rw [← HM1.out]; omega)
        clear h1
        go_wp2
        go_roundg (n - (k + 1))
        case measure => omega
        case rel => exact ⟨k + 1, al, ov, by omega, by omega, by go_num, rfl, rfl, HWR.out, (show _ = _ by rw [all_succ, AL.out, decide_eq_true HZ.out]; simp), (show _ = _ by rw [any_succ, OV.out, decide_eq_false (by have := HZ.out; omega)]; simp)⟩
    · have hltz : ¬ (k : Int) < (n : Int) := by omega
      obtain rfl : n = k := by omega
      have hal := AL.out
      have hov := OV.out
      have HDB2 := Lib.hid (show db = (al || ov) from by rw [HDB.out, hal, hov])
      have HCB2 := Lib.hid (show cb = if al then cutK qs n else [] from by rw [HCB.out, hal])
      have HAL := Lib.hid hal
      clear hal hov
      have f2 := freeOf HB0.out 2
      have f3 := freeOf HB0.out 3
      have HBR := Lib.hid (show wr.heap[w.heap.size + 1]? = some (ckT (.slice none 0 0) (.slice none 0 0) (.bool false) (.slice none 0 0)) from by rw [HWR.out]; have := HX1.out; rwa [show (w.alloc (ckT (.slice a n c) (.slice ea n ec) (.bool d) uc)).heap.size = w.heap.size + 1 from by simp] at this)
      have hszr : wr.heap.size = w.heap.size + 2 := by rw [HWR.out]; simp
      cases al with
      | false =>
        go_wp2
        cases ov with
        | false =>
          obtain ⟨g0, g1, g2, g3⟩ := conc_world (b := (.bool false)) HB0.out HBR.out HEW.out
          clear x0 x1 x2 x3 f2 f3
          generalize ((wr.setCell ⟨w.heap.size, 2, none⟩ (.bool false)).setCell ⟨w.heap.size, 3, none⟩ (.slice none 0 0)) = w1 at *
          have HB1 := Lib.hid g0
          have HR1 := Lib.hid g1
          have HE1 := Lib.hid g2
          have hsz1 : w1.heap.size = w.heap.size + 2 := by omega
          clear g0 g1 g2 g3 hszr HWR
          go_loopg [6] 0 (fun g s6 wr => s6 = .int .i64 0 ∧ wr = w1)
          case atStart => exact ⟨rfl, rfl⟩
          case round =>
            obtain ⟨rfl, rfl⟩ := hrel
            have HB2 := HB1
            have HR2 := HR1
            have HE2 := HE1
            rcases Nat.eq_zero_or_pos n with h0 | h0
            · have b5 : decide ((0 : Int) < (n : Int)) = false := by simp; omega
              have b6 : ¬ (0 : Int) < (n : Int) := by omega
              clear h0
              have q0 := freeOf HR2.out 0
              have q1 := freeOf HR2.out 1
              have q2 := freeOf HR2.out 2
              have q3 := freeOf HR2.out 3
              have r0 := cellOf HR2.out 0
              have r1 := cellOf HR2.out 1
              have r2 := cellOf HR2.out 2
              have r3 := cellOf HR2.out 3
              simp only [List.getElem?_toArray, List.getElem?_cons_zero, List.getElem?_cons_succ] at r0 r1 r2 r3
              have x0 := cellOf HB2.out 0
              have x1 := cellOf HB2.out 1
              have x2 := cellOf HB2.out 2
              have x3 := cellOf HB2.out 3
              simp only [List.getElem?_toArray, List.getElem?_cons_zero, List.getElem?_cons_succ] at x0 x1 x2 x3
              go_wp2
              refine bodyPost_ret (v := .agg #[.slice a n c, .slice ea n ec, .bool false, (.slice none 0 0)]) (by simp [results, Try.results78, go_sem, r0, r1, r2, r3]) rfl ⟨_, by rw [HDB2.out]; rfl, ?_, (by repeat (first | refine Ext.st ?_ (by first | exact Nat.le_refl _ | exact Nat.le_succ _ | assumption | omega) _ | refine Ext.al ?_ _ | refine Ext.dr ?_ | refine Ext.drN ?_ _ | exact HE2.out))⟩
              rw [HCB2.out]
              exact Row.mkNil _ _ _ _
            · have b5 : decide ((0 : Int) < (n : Int)) = true := by simp; omega
              have b6 : (0 : Int) < (n : Int) := by omega
              clear h0
              have q0 := freeOf HR2.out 0
              have q1 := freeOf HR2.out 1
              have q2 := freeOf HR2.out 2
              have q3 := freeOf HR2.out 3
              have r0 := cellOf HR2.out 0
              have r1 := cellOf HR2.out 1
              have r2 := cellOf HR2.out 2
              have r3 := cellOf HR2.out 3
              simp only [List.getElem?_toArray, List.getElem?_cons_zero, List.getElem?_cons_succ] at r0 r1 r2 r3
              have x0 := cellOf HB2.out 0
              have x1 := cellOf HB2.out 1
              have x2 := cellOf HB2.out 2
              have x3 := cellOf HB2.out 3
              simp only [List.getElem?_toArray, List.getElem?_cons_zero, List.getElem?_cons_succ] at x0 x1 x2 x3
              go_wp2
              refine bodyPost_ret (v := .agg #[.slice a n c, .slice ea n ec, .bool false, (.slice none 0 0)]) (by simp [results, Try.results78, go_sem, r0, r1, r2, r3]) rfl ⟨_, by rw [HDB2.out]; rfl, ?_, (by repeat (first | refine Ext.st ?_ (by first | exact Nat.le_refl _ | exact Nat.le_succ _ | assumption | omega) _ | refine Ext.al ?_ _ | refine Ext.dr ?_ | refine Ext.drN ?_ _ | exact HE2.out))⟩
              rw [HCB2.out]
              exact Row.mkNil _ _ _ _
        | true =>
          obtain ⟨g0, g1, g2, g3⟩ := conc_world (b := (.bool true)) HB0.out HBR.out HEW.out
          clear x0 x1 x2 x3 f2 f3
          generalize ((wr.setCell ⟨w.heap.size, 2, none⟩ (.bool true)).setCell ⟨w.heap.size, 3, none⟩ (.slice none 0 0)) = w1 at *
          have HB1 := Lib.hid g0
          have HR1 := Lib.hid g1
          have HE1 := Lib.hid g2
          have hsz1 : w1.heap.size = w.heap.size + 2 := by omega
          clear g0 g1 g2 g3 hszr HWR
          go_loopg [6] 0 (fun g s6 wr => s6 = .int .i64 0 ∧ wr = w1)
          case atStart => exact ⟨rfl, rfl⟩
          case round =>
            obtain ⟨rfl, rfl⟩ := hrel
            have HB2 := HB1
            have HR2 := HR1
            have HE2 := HE1
            rcases Nat.eq_zero_or_pos n with h0 | h0
            · have b5 : decide ((0 : Int) < (n : Int)) = false := by simp; omega
              have b6 : ¬ (0 : Int) < (n : Int) := by omega
              clear h0
              have q0 := freeOf HR2.out 0
              have q1 := freeOf HR2.out 1
              have q2 := freeOf HR2.out 2
              have q3 := freeOf HR2.out 3
              have r0 := cellOf HR2.out 0
              have r1 := cellOf HR2.out 1
              have r2 := cellOf HR2.out 2
              have r3 := cellOf HR2.out 3
              simp only [List.getElem?_toArray, List.getElem?_cons_zero, List.getElem?_cons_succ] at r0 r1 r2 r3
              have x0 := cellOf HB2.out 0
              have x1 := cellOf HB2.out 1
              have x2 := cellOf HB2.out 2
              have x3 := cellOf HB2.out 3
              simp only [List.getElem?_toArray, List.getElem?_cons_zero, List.getElem?_cons_succ] at x0 x1 x2 x3
              go_wp2
              refine bodyPost_ret (v := .agg #[.slice a n c, .slice ea n ec, .bool true, (.slice none 0 0)]) (by simp [results, Try.results78, go_sem, r0, r1, r2, r3]) rfl ⟨_, by rw [HDB2.out]; rfl, ?_, (by repeat (first | refine Ext.st ?_ (by first | exact Nat.le_refl _ | exact Nat.le_succ _ | assumption | omega) _ | refine Ext.al ?_ _ | refine Ext.dr ?_ | refine Ext.drN ?_ _ | exact HE2.out))⟩
              rw [HCB2.out]
              exact Row.mkNil _ _ _ _
            · have b5 : decide ((0 : Int) < (n : Int)) = true := by simp; omega
              have b6 : (0 : Int) < (n : Int) := by omega
              clear h0
              have q0 := freeOf HR2.out 0
              have q1 := freeOf HR2.out 1
              have q2 := freeOf HR2.out 2
              have q3 := freeOf HR2.out 3
              have r0 := cellOf HR2.out 0
              have r1 := cellOf HR2.out 1
              have r2 := cellOf HR2.out 2
              have r3 := cellOf HR2.out 3
              simp only [List.getElem?_toArray, List.getElem?_cons_zero, List.getElem?_cons_succ] at r0 r1 r2 r3
              have x0 := cellOf HB2.out 0
              have x1 := cellOf HB2.out 1
              have x2 := cellOf HB2.out 2
              have x3 := cellOf HB2.out 3
              simp only [List.getElem?_toArray, List.getElem?_cons_zero, List.getElem?_cons_succ] at x0 x1 x2 x3
              go_wp2
              refine bodyPost_ret (v := .agg #[.slice a n c, .slice ea n ec, .bool true, (.slice none 0 0)]) (by simp [results, Try.results78, go_sem, r0, r1, r2, r3]) rfl ⟨_, by rw [HDB2.out]; rfl, ?_, (by repeat (first | refine Ext.st ?_ (by first | exact Nat.le_refl _ | exact Nat.le_succ _ | assumption | omega) _ | refine Ext.al ?_ _ | refine Ext.dr ?_ | refine Ext.drN ?_ _ | exact HE2.out))⟩
              rw [HCB2.out]
              exact Row.mkNil _ _ _ _
      | true =>
        go_wp2
        have hdb3 : db = true := by rw [HDB2.out]; rfl
        have HDB2 := Lib.hid hdb3
        clear hdb3
        cases ov with
        | false =>
          obtain ⟨g0, g1, g2, g3⟩ := conc_world (b := (.bool true)) HB0.out HBR.out HEW.out
          clear x0 x1 x2 x3 f2 f3
          generalize ((wr.setCell ⟨w.heap.size, 2, none⟩ (.bool true)).setCell ⟨w.heap.size, 3, none⟩ (.slice none 0 0)) = w1 at *
          have HB1 := Lib.hid g0
          have HR1 := Lib.hid g1
          have HE1 := Lib.hid g2
          have hsz1 : w1.heap.size = w.heap.size + 2 := by omega
          clear g0 g1 g2 g3 hszr HWR
          have hall := HAL.out
          go_loopg [6] n (fun g s6 wr => ∃ (k : Nat) (cv : Value), k ≤ n ∧ n - k ≤ g ∧ s6 = .int .i64 k ∧ Aside (wr.heap[w.heap.size]? = some (ckT (.slice a n c) (.slice ea n ec) (.bool true) cv)) ∧ Aside (wr.heap[w.heap.size + 1]? = some (ckT (.slice none 0 0) (.slice none 0 0) (.bool false) (.slice none 0 0))) ∧ Aside (Row wr (w.heap.size + 2) 3 1 cv k ((cutK qs k).map (Value.int .i64))) ∧ Aside (Ext w wr ∧ w.heap.size + 2 ≤ wr.heap.size))
          case atStart => exact ⟨0, _, Nat.zero_le _, by omega, rfl, HB1.out, HR1.out, Row.mkNil _ _ _ _, (show _ ∧ _ from ⟨HE1.out, by omega⟩)⟩
          case round =>
            obtain ⟨k, cv, hk, hg, rfl, HB2, HR2, HROW, HEZ⟩ := hrel
            obtain ⟨ra, rc, rfl, hrc, hsh⟩ := HROW.out.any
            clear hsh
            have HE2 := Lib.hid HEZ.out.1
            have hsz2 := HEZ.out.2
            by_cases hlt2 : k < n
            · have hltz2 : (k : Int) < (n : Int) := by omega
              have b7 : decide ((k : Int) < (n : Int)) = true := by simp; omega
              have hkz : (0 : Int) ≤ (k : Int) := by omega
              obtain ⟨B, O, C, a1, m1, c1, hue0, hcp0, M1, hmc1, HS1, HD1⟩ := heads_at HQ.out HF.out k (by rw [HN.out]; exact hlt2)
              simp only [Value.slice.injEq] at hue0
              obtain ⟨rfl, hnn, rfl⟩ := hue0
              have hm1 : 0 < m1 := by have := (range_all _ _).1 HAL.out k hlt2; rw [M1]; simpa using this
              obtain ⟨x1, y1, e1, f1, g1, rfl, hd1, hk1⟩ := HD1 hm1
              have hz1 : (0 : Int) < (m1 : Int) := by omega
              rw [HN.out] at hd1
              have hcp := HE2.out.cl hcp0
              have k1 := HE2.out.cl hd1
              have k3 := HE2.out.cl (hk1 k (by rw [HN.out]; exact hlt2))
              have HCK := Lib.hid (cutK_succ qs k)
              have hBne : B ≠ w.heap.size := by have := World.block_lt_of_cell? w _ hcp0; simp only at this; omega
              have hx1ne : x1 ≠ w.heap.size := by have := World.block_lt_of_cell? w _ hd1; simp only at this; omega
              have he1ne : e1 ≠ w.heap.size := by have := World.block_lt_of_cell? w _ (hk1 k (by rw [HN.out]; exact hlt2)); simp only at this; omega
              clear M1 HS1 hnn hcp0 HD1 hd1 hk1
              generalize qs[k]![0]![k]! = x at *
              have HBX := HB2
              have hltw : w.heap.size < wr.heap.size := by omega
              have hltn : w.heap.size ≠ wr.heap.size := by omega
              have hltn2 : w.heap.size + 1 ≠ wr.heap.size := by omega
              have x0 := cellOf HB2.out 0
              have x1 := cellOf HB2.out 1
              have x2 := cellOf HB2.out 2
              have x3 := cellOf HB2.out 3
              simp only [List.getElem?_toArray, List.getElem?_cons_zero, List.getElem?_cons_succ] at x0 x1 x2 x3
              go_wp2
              go_region_law ((refine step_append_rowN (by rfl) _ _ 38 (by rfl) (w.heap.size + 2) 3 ii (.int .i64 0) 1 8 Try.underlying38 ni nz0 nz1 nz2 rfl (by decide) (.slice ra k rc) k _ (by rfl) (by first | exact (HROW.out.al _).drw | exact HROW.out.al _ | exact (HROW.out.drw).al _ | exact ((HROW.out.drw).al _).drw) wr.heap.size 1 [.int .i64 x] (by rfl) rfl (by first | exact ⟨(0, 0), heap_new_eq (by simp [World.setCell])⟩ | exact ⟨(0, 0), heap_new_eq (by simp)⟩) (by simp [Value.oneCell']) (by unfold maxLen; omega) (by omega) (by first | (simp [World.setCell]; omega) | (simp; omega)) ?_; intro v5 w5 hown5 hgrow5 hblk5; obtain ⟨va, vc, rfl, _, hsh5⟩ := hown5.any; clear hsh5; have h5 := grownKeep hgrow5 (HROW.out.notBox HBX.out (by decide)) (((Ext.rf _).al _).hp HBX.out); have d0 := cellOf h5 0; have d1 := cellOf h5 1; have d2 := cellOf h5 2; have d3 := cellOf h5 3; have e0 := freeOf h5 3; simp only [List.getElem?_toArray, List.getElem?_cons_zero, List.getElem?_cons_succ] at d0 d1 d2 d3))
              all_goals
                go_wp2
                go_roundg (n - (k + 1))
                case measure => omega
                case rel =>
                  have hx5 : Ext w w5 := Ext.gr (by repeat (first | refine Ext.st ?_ (by first | exact Nat.le_refl _ | exact Nat.le_succ _ | assumption | omega) _ | refine Ext.al ?_ _ | refine Ext.dr ?_ | refine Ext.drN ?_ _ | exact HE2.out)) hgrow5 (fun kk hkk => by have := (HROW.out.lt kk hkk).1; omega)
                  have hr5 := grownKeep hgrow5 (HROW.out.notBox HR2.out (by decide)) (((Ext.rf _).al _).hp HR2.out)
                  have hs5 := hgrow5.size
                  simp at hs5
                  refine ⟨k + 1, .slice va (k + 1) vc, by omega, by omega, by go_num, (show _ = _ from ck_set3 h5), (show _ = _ from ?_), (show Row _ _ _ _ _ _ _ from ?_), (show _ ∧ _ from ⟨hx5.st (Nat.le_refl _) _, ?_⟩)⟩
                  · rw [Below.heap_setCell _ _ _ _ (by simp only; omega)]; exact hr5
                  · rw [HCK.out, List.map_append]; exact hown5.st (hown5.notBox h5 (by decide)) _
                  · rw [size_setCell]; omega
            · have hltz2 : ¬ (k : Int) < (n : Int) := by omega
              have b7 : decide ((k : Int) < (n : Int)) = false := by simp; omega
              obtain rfl : n = k := by omega
              have q0 := freeOf HR2.out 0
              have q1 := freeOf HR2.out 1
              have q2 := freeOf HR2.out 2
              have q3 := freeOf HR2.out 3
              have r0 := cellOf HR2.out 0
              have r1 := cellOf HR2.out 1
              have r2 := cellOf HR2.out 2
              have r3 := cellOf HR2.out 3
              simp only [List.getElem?_toArray, List.getElem?_cons_zero, List.getElem?_cons_succ] at r0 r1 r2 r3
              have x0 := cellOf HB2.out 0
              have x1 := cellOf HB2.out 1
              have x2 := cellOf HB2.out 2
              have x3 := cellOf HB2.out 3
              simp only [List.getElem?_toArray, List.getElem?_cons_zero, List.getElem?_cons_succ] at x0 x1 x2 x3
              go_wp2
              refine bodyPost_ret (v := .agg #[.slice a n c, .slice ea n ec, .bool true, (.slice ra n rc)]) (by simp [results, Try.results78, go_sem, r0, r1, r2, r3]) rfl ⟨_, by rw [HDB2.out]; rfl, ?_, (by repeat (first | refine Ext.st ?_ (by first | exact Nat.le_refl _ | exact Nat.le_succ _ | assumption | omega) _ | refine Ext.al ?_ _ | refine Ext.dr ?_ | refine Ext.drN ?_ _ | exact HE2.out))⟩
              rw [HCB2.out]
              exact (by rw [if_pos trivial, cutK_len]; exact (Row.st4 HROW.out (g := w.heap.size + 1) (by omega) _ _ _ _).mono (by omega))
        | true =>
          obtain ⟨g0, g1, g2, g3⟩ := conc_world (b := (.bool true)) HB0.out HBR.out HEW.out
          clear x0 x1 x2 x3 f2 f3
          generalize ((wr.setCell ⟨w.heap.size, 2, none⟩ (.bool true)).setCell ⟨w.heap.size, 3, none⟩ (.slice none 0 0)) = w1 at *
          have HB1 := Lib.hid g0
          have HR1 := Lib.hid g1
          have HE1 := Lib.hid g2
          have hsz1 : w1.heap.size = w.heap.size + 2 := by omega
          clear g0 g1 g2 g3 hszr HWR
          have hall := HAL.out
          go_loopg [6] n (fun g s6 wr => ∃ (k : Nat) (cv : Value), k ≤ n ∧ n - k ≤ g ∧ s6 = .int .i64 k ∧ Aside (wr.heap[w.heap.size]? = some (ckT (.slice a n c) (.slice ea n ec) (.bool true) cv)) ∧ Aside (wr.heap[w.heap.size + 1]? = some (ckT (.slice none 0 0) (.slice none 0 0) (.bool false) (.slice none 0 0))) ∧ Aside (Row wr (w.heap.size + 2) 3 1 cv k ((cutK qs k).map (Value.int .i64))) ∧ Aside (Ext w wr ∧ w.heap.size + 2 ≤ wr.heap.size))
          case atStart => exact ⟨0, _, Nat.zero_le _, by omega, rfl, HB1.out, HR1.out, Row.mkNil _ _ _ _, (show _ ∧ _ from ⟨HE1.out, by omega⟩)⟩
          case round =>
            obtain ⟨k, cv, hk, hg, rfl, HB2, HR2, HROW, HEZ⟩ := hrel
            obtain ⟨ra, rc, rfl, hrc, hsh⟩ := HROW.out.any
            clear hsh
            have HE2 := Lib.hid HEZ.out.1
            have hsz2 := HEZ.out.2
            by_cases hlt2 : k < n
            · have hltz2 : (k : Int) < (n : Int) := by omega
              have b7 : decide ((k : Int) < (n : Int)) = true := by simp; omega
              have hkz : (0 : Int) ≤ (k : Int) := by omega
              obtain ⟨B, O, C, a1, m1, c1, hue0, hcp0, M1, hmc1, HS1, HD1⟩ := heads_at HQ.out HF.out k (by rw [HN.out]; exact hlt2)
              simp only [Value.slice.injEq] at hue0
              obtain ⟨rfl, hnn, rfl⟩ := hue0
              have hm1 : 0 < m1 := by have := (range_all _ _).1 HAL.out k hlt2; rw [M1]; simpa using this
              obtain ⟨x1, y1, e1, f1, g1, rfl, hd1, hk1⟩ := HD1 hm1
              have hz1 : (0 : Int) < (m1 : Int) := by omega
              rw [HN.out] at hd1
              have hcp := HE2.out.cl hcp0
              have k1 := HE2.out.cl hd1
              have k3 := HE2.out.cl (hk1 k (by rw [HN.out]; exact hlt2))
              have HCK := Lib.hid (cutK_succ qs k)
              have hBne : B ≠ w.heap.size := by have := World.block_lt_of_cell? w _ hcp0; simp only at this; omega
              have hx1ne : x1 ≠ w.heap.size := by have := World.block_lt_of_cell? w _ hd1; simp only at this; omega
              have he1ne : e1 ≠ w.heap.size := by have := World.block_lt_of_cell? w _ (hk1 k (by rw [HN.out]; exact hlt2)); simp only at this; omega
              clear M1 HS1 hnn hcp0 HD1 hd1 hk1
              generalize qs[k]![0]![k]! = x at *
              have HBX := HB2
              have hltw : w.heap.size < wr.heap.size := by omega
              have hltn : w.heap.size ≠ wr.heap.size := by omega
              have hltn2 : w.heap.size + 1 ≠ wr.heap.size := by omega
              have x0 := cellOf HB2.out 0
              have x1 := cellOf HB2.out 1
              have x2 := cellOf HB2.out 2
              have x3 := cellOf HB2.out 3
              simp only [List.getElem?_toArray, List.getElem?_cons_zero, List.getElem?_cons_succ] at x0 x1 x2 x3
              go_wp2
              go_region_law ((refine step_append_rowN (by rfl) _ _ 38 (by rfl) (w.heap.size + 2) 3 ii (.int .i64 0) 1 8 Try.underlying38 ni nz0 nz1 nz2 rfl (by decide) (.slice ra k rc) k _ (by rfl) (by first | exact (HROW.out.al _).drw | exact HROW.out.al _ | exact (HROW.out.drw).al _ | exact ((HROW.out.drw).al _).drw) wr.heap.size 1 [.int .i64 x] (by rfl) rfl (by first | exact ⟨(0, 0), heap_new_eq (by simp [World.setCell])⟩ | exact ⟨(0, 0), heap_new_eq (by simp)⟩) (by simp [Value.oneCell']) (by unfold maxLen; omega) (by omega) (by first | (simp [World.setCell]; omega) | (simp; omega)) ?_; intro v5 w5 hown5 hgrow5 hblk5; obtain ⟨va, vc, rfl, _, hsh5⟩ := hown5.any; clear hsh5; have h5 := grownKeep hgrow5 (HROW.out.notBox HBX.out (by decide)) (((Ext.rf _).al _).hp HBX.out); have d0 := cellOf h5 0; have d1 := cellOf h5 1; have d2 := cellOf h5 2; have d3 := cellOf h5 3; have e0 := freeOf h5 3; simp only [List.getElem?_toArray, List.getElem?_cons_zero, List.getElem?_cons_succ] at d0 d1 d2 d3))
              all_goals
                go_wp2
                go_roundg (n - (k + 1))
                case measure => omega
                case rel =>
                  have hx5 : Ext w w5 := Ext.gr (by repeat (first | refine Ext.st ?_ (by first | exact Nat.le_refl _ | exact Nat.le_succ _ | assumption | omega) _ | refine Ext.al ?_ _ | refine Ext.dr ?_ | refine Ext.drN ?_ _ | exact HE2.out)) hgrow5 (fun kk hkk => by have := (HROW.out.lt kk hkk).1; omega)
                  have hr5 := grownKeep hgrow5 (HROW.out.notBox HR2.out (by decide)) (((Ext.rf _).al _).hp HR2.out)
                  have hs5 := hgrow5.size
                  simp at hs5
                  refine ⟨k + 1, .slice va (k + 1) vc, by omega, by omega, by go_num, (show _ = _ from ck_set3 h5), (show _ = _ from ?_), (show Row _ _ _ _ _ _ _ from ?_), (show _ ∧ _ from ⟨hx5.st (Nat.le_refl _) _, ?_⟩)⟩
                  · rw [Below.heap_setCell _ _ _ _ (by simp only; omega)]; exact hr5
                  · rw [HCK.out, List.map_append]; exact hown5.st (hown5.notBox h5 (by decide)) _
                  · rw [size_setCell]; omega
            · have hltz2 : ¬ (k : Int) < (n : Int) := by omega
              have b7 : decide ((k : Int) < (n : Int)) = false := by simp; omega
              obtain rfl : n = k := by omega
              have q0 := freeOf HR2.out 0
              have q1 := freeOf HR2.out 1
              have q2 := freeOf HR2.out 2
              have q3 := freeOf HR2.out 3
              have r0 := cellOf HR2.out 0
              have r1 := cellOf HR2.out 1
              have r2 := cellOf HR2.out 2
              have r3 := cellOf HR2.out 3
              simp only [List.getElem?_toArray, List.getElem?_cons_zero, List.getElem?_cons_succ] at r0 r1 r2 r3
              have x0 := cellOf HB2.out 0
              have x1 := cellOf HB2.out 1
              have x2 := cellOf HB2.out 2
              have x3 := cellOf HB2.out 3
              simp only [List.getElem?_toArray, List.getElem?_cons_zero, List.getElem?_cons_succ] at x0 x1 x2 x3
              go_wp2
              refine bodyPost_ret (v := .agg #[.slice a n c, .slice ea n ec, .bool true, (.slice ra n rc)]) (by simp [results, Try.results78, go_sem, r0, r1, r2, r3]) rfl ⟨_, by rw [HDB2.out]; rfl, ?_, (by repeat (first | refine Ext.st ?_ (by first | exact Nat.le_refl _ | exact Nat.le_succ _ | assumption | omega) _ | refine Ext.al ?_ _ | refine Ext.dr ?_ | refine Ext.drN ?_ _ | exact HE2.out))⟩
              rw [HCB2.out]
              exact (by rw [if_pos trivial, cutK_len]; exact (Row.st4 HROW.out (g := w.heap.size + 1) (by omega) _ _ _ _).mono (by omega))

end Go.Proofs.Ytggofkaakccoeaa
