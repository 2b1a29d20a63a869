/-
  A trace with a further variable: the program's With.
-/
import Derived.Test.YtfcpnggdpaeldaaGa
import Derived.Test.YtfcpnggdpaeldaaProg
import Derived.BigQuiet
import Derived.Deep.QuietTactic
import Derived.Deep.LoopGhost
import Derived.Shelf.Abstract
import Derived.Test.YtfcpnggdpaeldaaGq
import Derived.Test.YtfcpnggdpaeldaaGr
import Derived.Test.YtfcpnggdpaeldaaGo
import Derived.Test.YtfcpnggdpaeldaaGn
import Derived.BigRegion
import Derived.Laws.EntriesVeiled
import Derived.Deep.DeepCutAuto
namespace Go.Proofs.Ytfcpnggdpaeldaa
open Go.RowKit
set_option linter.unusedVariables false
attribute [local go_sem ↓] Go.wp_at_zero Go.wp_at_succ

theorem enters_56 : ∀ args w, (callFunc 56 args).run Try.prog w = .ok (.enter 56 args) w := enters_of Try.func56 (by kernel_rfl) rfl
theorem enters_57 : ∀ args w, (callFunc 57 args).run Try.prog w = .ok (.enter 57 args) w := enters_of Try.func57 (by kernel_rfl) rfl
theorem enters_58 : ∀ args w, (callFunc 58 args).run Try.prog w = .ok (.enter 58 args) w := enters_of Try.func58 (by kernel_rfl) rfl

/-- What With hands back. -/
def WiOut (w w' : World) (e : Ending) (E : Int) (u : Tr) : Prop := ∃ v, e = .returned (.tuple #[.agg #[v], .int .i64 E]) ∧ TrAt w' v u ∧ Ext w w'
theorem tr_none (w : World) : TrAt w (.slice none 0 0) [] := ⟨none, 0, rfl, Nat.le_refl _, fun h => absurd rfl h⟩
theorem prc_set {w : World} {K : Nat} {a b c x y z : Value} {ty : TypeId} {fr : Nat × Nat} (h : w.heap[K]? = some (.cells #[a, b, c] ty fr)) :
    (((w.setCell ⟨K, 0, none⟩ x).setCell ⟨K, 1, none⟩ y).setCell ⟨K, 2, none⟩ z).heap[K]? = some (.cells #[x, y, z] ty fr) := by
  have h1 := heap_setCell_same (o := 0) (u := x) h
  have h2 := heap_setCell_same (o := 1) (u := y) h1
  have h3 := heap_setCell_same (o := 2) (u := z) h2
  simpa using h3
/-- Between two rounds: the box of the result so far, and what it owns. -/
def WiI (w8 W : World) (l : List Pr) : Prop := (∃ vo vv ve va, W.heap[w8.heap.size]? = some (.cells #[vo] 24) ∧ OwnP W (w8.heap.size + 1) vo l vv ve va) ∧ Ext w8 W ∧ w8.heap.size + 1 ≤ W.heap.size

theorem Row.prc {w : World} {base e2 size n K : Nat} {v : Value} {xs : List Value} {a b c x y z : Value} {ty : TypeId} {fr : Nat × Nat} (hr : Row w base e2 size v n xs) (h : w.heap[K]? = some (.cells #[a, b, c] ty fr)) (hne : ty ≠ e2) :
    Row (((w.setCell ⟨K, 0, none⟩ x).setCell ⟨K, 1, none⟩ y).setCell ⟨K, 2, none⟩ z) base e2 size v n xs := by
  have h1 := heap_setCell_same (o := 0) (u := x) h
  have h2 := heap_setCell_same (o := 1) (u := y) h1
  exact ((hr.stO h hne x).stO h1 hne y).stO h2 hne z
theorem prc_keep {w : World} {K k : Nat} (h : k ≠ K) (x y z : Value) : (((w.setCell ⟨K, 0, none⟩ x).setCell ⟨K, 1, none⟩ y).setCell ⟨K, 2, none⟩ z).heap[k]? = w.heap[k]? := by
  rw [Below.heap_setCell _ ⟨K, 2, none⟩ _ _ h, Below.heap_setCell _ ⟨K, 1, none⟩ _ _ h, Below.heap_setCell _ ⟨K, 0, none⟩ _ _ h]
theorem Row.at_heap {w : World} {base g off cap m : Nat} {e : TypeId} {size n : Nat} {xs : List Value} (h : Row w base e size (.slice (some ⟨g, off, none⟩) m cap) n xs) : ∃ cur fr, w.heap[g]? = some (.cells cur e fr) := by
  rcases h.2 with ⟨e2, _⟩ | ⟨g', off', cap', cur, e2, _, hgg, _⟩
  · cases e2
  · simp only [Value.slice.injEq, Option.some.injEq, Addr.mk.injEq, and_true] at e2
    obtain ⟨⟨rfl, _⟩, _⟩ := e2
    exact ⟨_, _, hgg⟩
theorem kept_box3 {W W' : World} {base g : Nat} {e e' : TypeId} {size : Nat} {v : Value} {n : Nat} {xs : List Value} {cs : Array Value} {fr : Nat × Nat} (hb : W.heap[g]? = some (.cells cs e' fr)) (h : Row W base e size v n xs) (hne : e' ≠ e) (hg : W.grownBy W' v.ownBlock) : W'.heap[g]? = some (.cells cs e' fr) := kept_box hb h hne hg
/-- Between two rounds of the inner loop. -/
def WiK (w wo W : World) (D : Nat) (nm : ByteArray) (u2 u3 : Value) (vs : List Vr) (es : List Ev) (k : Nat) : Prop :=
  ∃ va, W.heap[D]? = some (.cells #[.string nm, u2, u3] 47) ∧ RowV W wo.heap.size u2 vs ∧ MixE w W wo.heap.size u3 es k va ∧ Ext wo W
theorem evC_at {cs : List Value} {l : List Ev} {va : Nat → Value} (h : EvC cs l va) {k : Nat} (hk : k < l.length) : cs[k * 5 + 4]? = some (va k) := by
  have h2 := h.2 k hk
  have : ((cs.drop (k * 5)).take 5)[4]? = cs[k * 5 + 4]? := by rw [List.getElem?_take_of_lt (by omega), List.getElem?_drop]
  rw [← this, h2]; rfl


set_option maxHeartbeats 16000000 in
set_option maxRecDepth 100000 in
theorem withP_calls (v vl : Value) (t : Tr) (s : ByteArray) (l : List (List Int)) (w : World) (h : TrAt w v t) (hs : LooseTr t) (hl : Sl RInts 1 w vl l) (hln : l.length ≤ 1000000) (hlb : ∀ p, p < l.length → l[p]!.length ≤ 1000000) :
    Calls Try.prog 25 #[.agg #[v], .string s, vl] w fun e w' => WiOut w w' e (wiE t s l) (wiT t s l) := by
  have HT := Lib.hid h
  have HW := Lib.hid hl
  have HVC := Lib.hid (fun W (hW : Ext w W) => validP_calls v t W (h.ext hW) hs)
  have HFC := Lib.hid (fun W (hW : Ext w W) (hv : validT t = true) => fitsP_calls v vl t l W (h.ext hW) (valid_small hv) (hl.ext rints_lasts hW))
  have HUC := Lib.hid (fun W (hW : Ext w W) (hv : validT t = true) hf => fullP_calls v vl t l W (h.ext hW) (valid_small hv) (hl.ext rints_lasts hW) hf)
  have HRC := Lib.hid (fun W (hW : Ext w W) (hf : fitsW t l = true) => containsFunc_rows RInts rints_lasts 51 #[] enters_51 (fun x => !rangR x) vl l W (hl.ext rints_lasts hW) hln
    (fun y hy W2 vs _ hR => by
      obtain ⟨p, hp, rfl⟩ := List.getElem_of_mem hy
      have h1 := (fitsW_iff.1 hf).2 p hp
      have h2 := hlb p hp
      rw [getElem!_pos l p hp] at h1 h2
      exact with1_calls vs _ _ W2 hR h1 (by omega)))
  have HTC := Lib.hid (fun W (hW : Ext w W) (hc : W.cell? ⟨w.heap.size + 1, 0, none⟩ = some (.string s)) => containsFunc_procs RPr rpr_lasts 53 #[.pointer (some ⟨w.heap.size + 1, 0, none⟩)] enters_53 (twiceP s) v t W (h.ext hW) hs.1
    (fun y hy W2 vs hW2 hR => by
      obtain ⟨p, hp, rfl⟩ := List.getElem_of_mem hy
      have := (hs.2 p hp).1
      rw [getElem!_pos t p hp] at this
      exact with2_calls vs _ _ s W2 hR this (hW2.cl hc)))
  have HRA : Hid (rangW l = !(l.any fun x => !rangR x)) := Lib.hid (all_any_not l _)
  obtain ⟨E, hE⟩ : ∃ E, wiE t s l = E := ⟨_, rfl⟩
  have HED : Hid (E = if validT t = true then (if fitsW t l = true then (if rangW l = true then (if nameB s = true then (if twiceW t s = true then 8 else if fullW t l = true then 5 else 0) else 13) else 2) else 3) else 1) := Lib.hid hE.symm
  have HTD : Hid (E = 0 → wiT t s l = withT s l t ∧ validT t = true ∧ fitsW t l = true) := Lib.hid (fun h => by
    have h0 : wiE t s l = 0 := hE.trans h
    obtain ⟨h1, h2, _⟩ := wi_ok h0
    exact ⟨by unfold wiT; rw [if_pos h0], h1, h2⟩)
  have HTN : Hid (E ≠ 0 → wiT t s l = []) := Lib.hid (fun h => by unfold wiT; rw [if_neg (by rw [hE]; exact h)])
  rw [hE]
  generalize wiT t s l = U at *
  obtain ⟨ta, tc, rfl, htc⟩ := h.sh
  obtain ⟨la, lc, rfl, hlc⟩ := hl.shape
  rw [HRA.out] at HED
  generalize (l.any fun x => !rangR x) = rb at *
  have hTA : twiceW t s = t.any (twiceP s) := rfl
  rw [hTA] at HED
  generalize t.any (twiceP s) = tb at *
  obtain ⟨vb, hvb⟩ : ∃ b, validT t = b := ⟨_, rfl⟩
  obtain ⟨fb, hfb⟩ : ∃ b, fitsW t l = b := ⟨_, rfl⟩
  obtain ⟨nb, hnb⟩ : ∃ b, nameB s = b := ⟨_, rfl⟩
  obtain ⟨ub, hub⟩ : ∃ b, fullW t l = b := ⟨_, rfl⟩
  have HNC := Lib.hid (fun W => nameP_calls s W)
  rw [hvb] at HVC HFC HUC HED
  rw [hfb] at HFC HRC HUC HED
  rw [hnb] at HED HNC
  rw [hub] at HED HUC
  obtain ⟨n, htn⟩ : ∃ n, t.length = n := ⟨_, rfl⟩
  have HN := Lib.hid htn
  obtain ⟨m, hlm⟩ : ∃ n, l.length = n := ⟨_, rfl⟩
  have HM := Lib.hid hlm
  have hn1 := hs.1
  rw [htn] at HVC HFC HUC HTC HT hn1 ⊢
  rw [hlm] at HFC HUC HRC HW hln ⊢
  have HLB := Lib.hid hlb
  have HY1 : Hid ((((w.alloc (.cells #[.slice ta n tc] 24)).alloc (.cells #[.string s] 9)).alloc (.cells #[.slice none 0 0] 24)).heap[w.heap.size]? = some (.cells #[.slice ta n tc] 24)) := Lib.hid (allocs_at [.cells #[.slice ta n tc] 24, .cells #[.string s] 9, .cells #[.slice none 0 0] 24] w 0 _ rfl)
  have HS1 : Hid ((((w.alloc (.cells #[.slice ta n tc] 24)).alloc (.cells #[.string s] 9)).alloc (.cells #[.slice none 0 0] 24)).heap[w.heap.size + 1]? = some (.cells #[.string s] 9)) := Lib.hid (allocs_at [.cells #[.slice ta n tc] 24, .cells #[.string s] 9, .cells #[.slice none 0 0] 24] w 1 _ rfl)
  have HR1 : Hid ((((w.alloc (.cells #[.slice ta n tc] 24)).alloc (.cells #[.string s] 9)).alloc (.cells #[.slice none 0 0] 24)).heap[w.heap.size + 1 + 1]? = some (.cells #[.slice none 0 0] 24)) := Lib.hid (allocs_at [.cells #[.slice ta n tc] 24, .cells #[.string s] 9, .cells #[.slice none 0 0] 24] w 2 _ rfl)
  have HE1 : Hid (Ext w (((w.alloc (.cells #[.slice ta n tc] 24)).alloc (.cells #[.string s] 9)).alloc (.cells #[.slice none 0 0] 24))) := Lib.hid (by repeat (first | refine Ext.st ?_ (by first | exact Nat.le_refl _ | exact Nat.le_succ _ | assumption | omega) _ | refine Ext.al ?_ _ | refine Ext.dr ?_ | refine Ext.drN ?_ _ | exact Ext.rf _))
  clear h hs hl hE hvb hfb hnb hub htn hlm hTA htc hlc hlb
  go_enter Try.func25, Try.ntmps25
  go_wp2_with fail
  refine (HVC.out _ HE1.out).mono ?_
  rintro e w2 ⟨rfl, hX⟩
  have HE2 := Lib.hid (HE1.out.trans' hX)
  have HY2 := Lib.hid (hX.hp HY1.out)
  have HS2 := Lib.hid (hX.hp HS1.out)
  have HR2 := Lib.hid (hX.hp HR1.out)
  have t2 := cellOf HY2.out 0
  have s2 := cellOf HS2.out 0
  have r2 := cellOf HR2.out 0
  have f2 := freeOf HR2.out 0
  simp only [List.getElem?_toArray, List.getElem?_cons_zero] at t2 s2 r2
  clear hX
  cases vb with
  | false =>
    obtain rfl : E = 1 := HED.out
    obtain rfl : U = [] := HTN.out (by decide)
    go_wp2
    have z0 := cellOf (heap_setCell_same (o := 0) (u := .slice none 0 0) HR2.out) 0
    simp only [Array.setIfInBounds, List.size_toArray, List.length_cons, List.length_nil, Nat.zero_lt_succ] at z0
    refine bodyPost_ret (v := .tuple #[.agg #[.slice none 0 0], .int .i64 1]) (by simp [results, Try.results25, go_sem, z0]) rfl ?_
    exact ⟨_, rfl, tr_none _, HE2.out.st (by show w.heap.size ≤ w.heap.size + 1 + 1; omega) _⟩
  | true =>
  have HFC2 := Lib.hid (fun W hW => HFC.out W hW (by trivial))
  clear s2 r2 f2
  go_wp2_with fail
  refine (HFC2.out _ HE2.out).mono ?_
  rintro e w3 ⟨rfl, hX⟩
  have HE3 := Lib.hid (HE2.out.trans' hX)
  have HY3 := Lib.hid (hX.hp HY2.out)
  have HS3 := Lib.hid (hX.hp HS2.out)
  have HR3 := Lib.hid (hX.hp HR2.out)
  have t3 := cellOf HY3.out 0
  have s3 := cellOf HS3.out 0
  have r3 := cellOf HR3.out 0
  have f3 := freeOf HR3.out 0
  simp only [List.getElem?_toArray, List.getElem?_cons_zero] at t3 s3 r3
  clear hX
  cases fb with
  | false =>
    obtain rfl : E = 3 := HED.out
    obtain rfl : U = [] := HTN.out (by decide)
    clear t2
    go_wp2
    have z0 := cellOf (heap_setCell_same (o := 0) (u := .slice none 0 0) HR3.out) 0
    simp only [Array.setIfInBounds, List.size_toArray, List.length_cons, List.length_nil, Nat.zero_lt_succ] at z0
    refine bodyPost_ret (v := .tuple #[.agg #[.slice none 0 0], .int .i64 3]) (by simp [results, Try.results25, go_sem, z0]) rfl ?_
    exact ⟨_, rfl, tr_none _, HE3.out.st (by show w.heap.size ≤ w.heap.size + 1 + 1; omega) _⟩
  | true =>
  have HRC2 := Lib.hid (fun W hW => HRC.out W hW (by trivial))
  clear t2 s3 r3 f3
  go_wp2_with fail
  refine (HRC2.out _ HE3.out).mono ?_
  rintro e w4 ⟨rfl, hX⟩
  have HE4 := Lib.hid (HE3.out.trans' hX)
  have HY4 := Lib.hid (hX.hp HY3.out)
  have HS4 := Lib.hid (hX.hp HS3.out)
  have HR4 := Lib.hid (hX.hp HR3.out)
  have t4 := cellOf HY4.out 0
  have s4 := cellOf HS4.out 0
  have r4 := cellOf HR4.out 0
  have f4 := freeOf HR4.out 0
  simp only [List.getElem?_toArray, List.getElem?_cons_zero] at t4 s4 r4
  clear hX
  cases rb with
  | true =>
    obtain rfl : E = 2 := HED.out
    obtain rfl : U = [] := HTN.out (by decide)
    clear t3
    go_wp2
    have z0 := cellOf (heap_setCell_same (o := 0) (u := .slice none 0 0) HR4.out) 0
    simp only [Array.setIfInBounds, List.size_toArray, List.length_cons, List.length_nil, Nat.zero_lt_succ] at z0
    refine bodyPost_ret (v := .tuple #[.agg #[.slice none 0 0], .int .i64 2]) (by simp [results, Try.results25, go_sem, z0]) rfl ?_
    exact ⟨_, rfl, tr_none _, HE4.out.st (by show w.heap.size ≤ w.heap.size + 1 + 1; omega) _⟩
  | false =>
  clear t3 t4 r4 f4
  go_wp2_with fail
  refine (HNC.out _).mono ?_
  rintro e w5 ⟨rfl, hX⟩
  have HE5 := Lib.hid (HE4.out.trans' hX)
  have HY5 := Lib.hid (hX.hp HY4.out)
  have HS5 := Lib.hid (hX.hp HS4.out)
  have HR5 := Lib.hid (hX.hp HR4.out)
  have t5 := cellOf HY5.out 0
  have s5 := cellOf HS5.out 0
  have r5 := cellOf HR5.out 0
  have f5 := freeOf HR5.out 0
  simp only [List.getElem?_toArray, List.getElem?_cons_zero] at t5 s5 r5
  clear hX
  cases nb with
  | false =>
    obtain rfl : E = 13 := HED.out
    obtain rfl : U = [] := HTN.out (by decide)
    clear s4
    go_wp2
    have z0 := cellOf (heap_setCell_same (o := 0) (u := .slice none 0 0) HR5.out) 0
    simp only [Array.setIfInBounds, List.size_toArray, List.length_cons, List.length_nil, Nat.zero_lt_succ] at z0
    refine bodyPost_ret (v := .tuple #[.agg #[.slice none 0 0], .int .i64 13]) (by simp [results, Try.results25, go_sem, z0]) rfl ?_
    exact ⟨_, rfl, tr_none _, HE5.out.st (by show w.heap.size ≤ w.heap.size + 1 + 1; omega) _⟩
  | true =>
  clear s4 r5 f5
  go_wp2_with fail
  refine (HTC.out _ HE5.out s5).mono ?_
  rintro e w6 ⟨rfl, hX⟩
  have HE6 := Lib.hid (HE5.out.trans' hX)
  have HY6 := Lib.hid (hX.hp HY5.out)
  have HS6 := Lib.hid (hX.hp HS5.out)
  have HR6 := Lib.hid (hX.hp HR5.out)
  have t6 := cellOf HY6.out 0
  have s6 := cellOf HS6.out 0
  have r6 := cellOf HR6.out 0
  have f6 := freeOf HR6.out 0
  simp only [List.getElem?_toArray, List.getElem?_cons_zero] at t6 s6 r6
  clear hX
  cases tb with
  | true =>
    obtain rfl : E = 8 := HED.out
    obtain rfl : U = [] := HTN.out (by decide)
    clear s5 t5
    go_wp2
    have z0 := cellOf (heap_setCell_same (o := 0) (u := .slice none 0 0) HR6.out) 0
    simp only [Array.setIfInBounds, List.size_toArray, List.length_cons, List.length_nil, Nat.zero_lt_succ] at z0
    refine bodyPost_ret (v := .tuple #[.agg #[.slice none 0 0], .int .i64 8]) (by simp [results, Try.results25, go_sem, z0]) rfl ?_
    exact ⟨_, rfl, tr_none _, HE6.out.st (by show w.heap.size ≤ w.heap.size + 1 + 1; omega) _⟩
  | false =>
  have HUC2 := Lib.hid (fun W hW => HUC.out W hW (by trivial) (by trivial))
  clear s5 t5 s6 r6 f6
  go_wp2_with fail
  refine (HUC2.out _ HE6.out).mono ?_
  rintro e w7 ⟨rfl, hX⟩
  have HE7 := Lib.hid (HE6.out.trans' hX)
  have HY7 := Lib.hid (hX.hp HY6.out)
  have HS7 := Lib.hid (hX.hp HS6.out)
  have HR7 := Lib.hid (hX.hp HR6.out)
  have t7 := cellOf HY7.out 0
  have s7 := cellOf HS7.out 0
  have r7 := cellOf HR7.out 0
  have f7 := freeOf HR7.out 0
  simp only [List.getElem?_toArray, List.getElem?_cons_zero] at t7 s7 r7
  clear hX
  cases ub with
  | true =>
    obtain rfl : E = 5 := HED.out
    obtain rfl : U = [] := HTN.out (by decide)
    clear t6
    go_wp2
    have z0 := cellOf (heap_setCell_same (o := 0) (u := .slice none 0 0) HR7.out) 0
    simp only [Array.setIfInBounds, List.size_toArray, List.length_cons, List.length_nil, Nat.zero_lt_succ] at z0
    refine bodyPost_ret (v := .tuple #[.agg #[.slice none 0 0], .int .i64 5]) (by simp [results, Try.results25, go_sem, z0]) rfl ?_
    exact ⟨_, rfl, tr_none _, HE7.out.st (by show w.heap.size ≤ w.heap.size + 1 + 1; omega) _⟩
  | false =>
  obtain rfl : E = 0 := HED.out
  obtain ⟨hUU, hV, hF⟩ := HTD.out (by trivial)
  subst hUU
  have HV := Lib.hid hV
  have HF := Lib.hid hF
  clear hV hF t6 s7 r7 f7 HED HTD HTN HUC HUC2 HRC HRC2 HFC HFC2 HVC HTC
  obtain ⟨hF1, hF2⟩ := fitsW_iff.1 HF.out
  rw [HM.out, HN.out] at hF1
  subst hF1
  have HFL := Lib.hid hF2
  have HSM := Lib.hid (valid_small HV.out)
  have HUL := Lib.hid (withT_len (s := s) (l := l) (t := t))
  obtain ⟨ip, hip, ip0, ip1, ip2⟩ := info_parts info_proc
  obtain ⟨iv, hiv, iv0, iv1, iv2⟩ := info_parts info_var
  obtain ⟨ia, hia, ia0, ia1, ia2⟩ := info_parts info_asg
  clear hF2
  have hb71 := World.block_lt_of_cell? w7 _ t7
  have hb72 : w.heap.size ≠ w7.heap.size := Nat.ne_of_lt hb71
  go_wp2
  clear hb71 hb72 t7
  have HI0 : Hid (WiI w7 (w7.alloc (.cells #[.slice none 0 0] 24)) []) := Lib.hid ⟨⟨_, fun _ => undef, fun _ => undef, fun _ _ => undef, heap_alloc_new w7 _, OwnP.nil _ _ _ _ _⟩, (Ext.rf w7).al _, by simp⟩
  generalize hw8 : w7.alloc (.cells #[.slice none 0 0] 24) = w8 at *
  clear hw8
  have hsz7 := HE7.out.sz
  have hr7 : w.heap.size + 1 + 1 < w7.heap.size := (Array.getElem?_eq_some_iff.1 HR7.out).1
  go_loopg [47] m (fun g s47 wr => ∃ p : Nat, p ≤ m ∧ m - p ≤ g ∧ s47 = .int .i64 p ∧ Aside (WiI w7 wr ((withT s l t).take p)))
  case atStart => exact ⟨0, Nat.zero_le _, by omega, rfl, (show WiI _ _ _ from by rw [List.take_zero]; exact HI0.out)⟩
  case round =>
    obtain ⟨p, hp, hg, rfl, HI⟩ := hrel
    obtain ⟨wo, rfl⟩ : ∃ x, x = wr := ⟨_, rfl⟩
    obtain ⟨⟨vo, vv, ve, va0, hb8, hown⟩, hEX, hsz⟩ := HI.out
    have HB8 := Lib.hid hb8
    have HOW := Lib.hid hown
    have HEX := Lib.hid hEX
    have HEW := Lib.hid (HE7.out.trans' hEX)
    have t0 := cellOf (hEX.hp HY7.out) 0
    have s0 := cellOf (hEX.hp HS7.out) 0
    simp only [List.getElem?_toArray, List.getElem?_cons_zero] at t0 s0
    have HS0 := Lib.hid s0
    clear hb8 hown hEX
    by_cases hlt : p < m
    case pos =>
      have hltz : (p : Int) < (m : Int) := by omega
      have hpz : (0 : Int) ≤ (p : Int) := by omega
      have HQ := Lib.hid (show p < t.length from by rw [HN.out]; exact hlt)
      obtain ⟨B, O, C, xv0, xe0, hve, hlC, hB, hn0, hv0, he0, hVV, hEE⟩ := proc_at HT.out p HQ.out
      simp only [Value.slice.injEq] at hve
      obtain ⟨rfl, hzz, rfl⟩ := hve
      obtain ⟨va, vc, rfl, hvc⟩ := hVV.sh
      obtain ⟨ea, ec, rfl, hec⟩ := hEE.sh
      obtain ⟨rb, ro, sv, sc, rfl, hr0, hi0⟩ := rowl_at HW.out p (by rw [HM.out]; exact hlt)
      have HLP := Lib.hid (HFL.out p (by rw [HM.out]; exact hlt))
      obtain ⟨cb, co, rfl, hcb, hc0⟩ := ints_at hi0 0 (by rw [HLP.out]; omega)
      rw [Nat.add_zero] at hc0
      have HII := Lib.hid hi0
      have n1 := HEW.out.cl hn0
      have v1 := HEW.out.cl hv0
      have e1 := HEW.out.cl he0
      have r1 := HEW.out.cl hr0
      have d1 := HEW.out.cl hc0
      have HR1 := Lib.hid hr0
      obtain ⟨hnv, hne, hnas⟩ := HSM.out.2 p HQ.out
      have HNAS := Lib.hid hnas
      have HUP : Hid ((withT s l t)[p]! = withP s l[p]! t[p]!) := Lib.hid (withT_at HQ.out)
      have HTK : Hid ((withT s l t).take (p + 1) = (withT s l t).take p ++ [withP s l[p]! t[p]!]) := Lib.hid (by rw [take_snoc' _ _ (by rw [HUL.out]; exact HQ.out), HUP.out])
      have HTL : Hid (((withT s l t).take p).length = p) := Lib.hid (by rw [List.length_take, HUL.out, HN.out]; omega)
      have HPN : Hid ((withP s l[p]! t[p]!).name = t[p]!.name) := Lib.hid rfl
      have HPV : Hid ((withP s l[p]! t[p]!).vars = t[p]!.vars ++ [⟨s, l[p]![0]!⟩]) := Lib.hid rfl
      have HPE := Lib.hid (fun k hk => mixV_all s l[p]! t[p]! (k := k) hk)
      obtain ⟨ecs, ua, hec1, hec2, hec3, hec4⟩ := events_cells hEE
      have HCV := Lib.hid (fun W (hW : Ext w W) => clone_cvar (.slice va t[p]!.vars.length vc) t[p]!.vars.length (t[p]!.vars.flatMap vrC) W ((vars_cells hVV).ext hW) (flat_one vrC_one _) hnv)
      have HCE := Lib.hid (fun W (hW : Ext w W) => clone_cevt (.slice ea t[p]!.events.length ec) t[p]!.events.length ecs W (hec1.ext hW) hec4 hne)
      have HEC2 := Lib.hid hec2
      have HEC3 := Lib.hid hec3
      generalize withP s l[p]! t[p]! = UP at *
      generalize t[p]!.name = nm at *
      generalize hxv : t[p]!.vars.flatMap vrC = xv at *
      have HXV := Lib.hid hxv
      generalize hvs : t[p]!.vars = vs at *
      generalize hnvv : vs.length = nv at *
      have HNV := Lib.hid hnvv
      generalize hes : t[p]!.events = es at *
      generalize hnee : es.length = ne at *
      have HNE := Lib.hid hnee
      generalize hlp : l[p]! = lp at *
      generalize ha0 : lp[0]! = a0 at *
      generalize hmlq : lp.length = ml at *
      have HLL := Lib.hid hmlq
      have hml : ml = ne + 1 := HLP.out
      have hml0 : (0 : Int) < (ml : Int) := by omega
      have hb1 := World.block_lt_of_cell? wo _ r1
      have hb2 := World.block_lt_of_cell? wo _ d1
      have hb3 := World.block_lt_of_cell? wo _ s0
      have hb4 : rb ≠ wo.heap.size := Nat.ne_of_lt hb1
      have hb5 : cb ≠ wo.heap.size := Nat.ne_of_lt hb2
      have hb6 : w.heap.size + 1 ≠ wo.heap.size := Nat.ne_of_lt hb3
      clear hn0 hv0 he0 hVV hEE hzz hr0 hi0 hec1 hec2 hec3 hec4 hnas HI hvs hnvv hes hnee hlp ha0 hxv hvc hec hcb hmlq
      go_upto_region 17 with (fail)
      go_cut [11] (fun s11 wx => ∃ D a2 c2 a3 c3, s11 = .pointer (some ⟨D, 0, none⟩) ∧ Aside (wx.heap[D]? = some (.cells #[.string nm, .slice a2 (nv + 1) c2, .slice a3 ne c3] 47)) ∧ Aside (Row wx wo.heap.size 52 2 (.slice a2 (nv + 1) c2) (nv + 1) (xv ++ [.string s, .int .i64 a0])) ∧ Aside (Row wx wo.heap.size 55 5 (.slice a3 ne c3) ne ecs) ∧ Aside (Ext wo wx) ∧ Aside (wo.heap.size ≤ D) ∧ Aside (wx.heap[wo.heap.size]? = some (.cells #[.string nm, .slice va nv vc, .slice ea ne ec] 47)))
      case first =>
        go_wp2
        have hX1 := (Ext.rf wo).al (.cells #[.string nm, .slice va nv vc, .slice ea ne ec] 47)
        have hB1 := heap_alloc_new wo (.cells #[.string nm, .slice va nv vc, .slice ea ne ec] 47)
        generalize hw1 : wo.alloc (.cells #[.string nm, .slice va nv vc, .slice ea ne ec] 47) = w1 at *
        have HSX := Lib.hid (show Ext wo w1.drew from hX1.dr)
        have HSW := Lib.hid (show wo.heap.size ≤ w1.drew.heap.size from HSX.out.sz)
        have HBS := Lib.hid (((Ext.rf w1).dr).hp hB1)
        have q0 := cellOf HBS.out 0
        have q1 := cellOf HBS.out 1
        have q2 := cellOf HBS.out 2
        simp only [List.getElem?_toArray, List.getElem?_cons_zero, List.getElem?_cons_succ] at q0 q1 q2
        have q3 := HSX.out.cl s0
        have q4 := HSX.out.cl r1
        have q5 := HSX.out.cl d1
        have SS : Hid (∀ W, Ext w1.drew W → W.cell? ⟨wo.heap.size, 0, none⟩ = some (.string nm) ∧ W.cell? ⟨wo.heap.size, 1, none⟩ = some (.slice va nv vc) ∧ W.cell? ⟨wo.heap.size, 2, none⟩ = some (.slice ea ne ec) ∧ W.cell? ⟨w.heap.size + 1, 0, none⟩ = some (.string s) ∧ W.cell? ⟨rb, ro + p, none⟩ = some (.slice (some ⟨cb, co, none⟩) ml sc) ∧ W.cell? ⟨cb, co, none⟩ = some (.int .i64 a0)) := Lib.hid (fun W hW => ⟨hW.cl q0, hW.cl q1, hW.cl q2, hW.cl q3, hW.cl q4, hW.cl q5⟩)
        clear t0 n1 v1 e1 s0 r1 d1 hb1 hb2 hb3 hb4 hb5 hb6 q0 q1 q2 q3 q4 q5 hX1 hB1 hw1
        refine wp_region_tails (fun W => W.cell? ⟨wo.heap.size, 0, none⟩ = some (.string nm) ∧ W.cell? ⟨wo.heap.size, 1, none⟩ = some (.slice va nv vc) ∧ W.cell? ⟨wo.heap.size, 2, none⟩ = some (.slice ea ne ec) ∧ W.cell? ⟨w.heap.size + 1, 0, none⟩ = some (.string s) ∧ W.cell? ⟨rb, ro + p, none⟩ = some (.slice (some ⟨cb, co, none⟩) ml sc) ∧ W.cell? ⟨cb, co, none⟩ = some (.int .i64 a0)) [20] (by kernel_rfl) (SS.out _ (Ext.rf _)) (fun hHeld => ?_)
        obtain ⟨ws, hws⟩ : ∃ z, w1.drew = z := ⟨_, rfl⟩
        have HBX := HBS
        rw [hws] at HSX HSW SS HBX hHeld ⊢
        have HSZ := Lib.hid (show wo.heap.size < ws.heap.size from (Array.getElem?_eq_some_iff.1 HBX.out).1)
        obtain ⟨y0, hy0⟩ : ∃ z, z = ws := ⟨_, rfl⟩
        have HX0 : Hid (Ext ws y0) := Lib.hid (by rw [hy0]; exact Ext.rf _)
        rw [← hy0] at hHeld ⊢
        have HCV := Lib.hid (fun W (hW : Ext ws W) => HCV.out W (HEW.out.trans' (HSX.out.trans' hW)))
        have HCE := Lib.hid (fun W (hW : Ext ws W) => HCE.out W (HEW.out.trans' (HSX.out.trans' hW)))
        clear hws hy0 HBS
        refine wpAnyU_take (i := 0) (d := some 52) (v := ?_) rfl rfl (by kernel_rfl) (by kernel_rfl) (by kernel_rfl) (by kernel_rfl) (fun _ _ _ h => h) (Or.inl ⟨by rfl, ?_⟩) (by assumption) ?_
        rotate_left
        · (intro w hSw; (try dsimp only at hSw); go_simp; try (with_reducible rfl))
        try simp only [Act.put]
        try simp only [List.setIfInBounds_toArray]
        try simp only [List.set_cons_zero, List.set_cons_succ]
        refine wpAnyU_take (i := 1) (d := some 53) (v := ?_) rfl rfl (by kernel_rfl) (by kernel_rfl) (by kernel_rfl) (by kernel_rfl) (fun _ _ _ h => h) (Or.inl ⟨by rfl, ?_⟩) (by assumption) ?_
        rotate_left
        · (intro w hSw; (try dsimp only at hSw); go_simp; try (with_reducible rfl))
        try simp only [Act.put]
        try simp only [List.setIfInBounds_toArray]
        try simp only [List.set_cons_zero, List.set_cons_succ]
        refine wpAnyU_take (i := 2) (d := some 54) (v := ?_) rfl rfl (by kernel_rfl) (by kernel_rfl) (by kernel_rfl) (by kernel_rfl) (fun _ _ _ h => h) (Or.inl ⟨by rfl, ?_⟩) (by assumption) ?_
        rotate_left
        · (intro w hSw; (try dsimp only at hSw); go_simp; try (with_reducible rfl))
        try simp only [Act.put]
        try simp only [List.setIfInBounds_toArray]
        try simp only [List.set_cons_zero, List.set_cons_succ]
        refine wpAnyU_take (i := 3) (d := some 55) (v := ?_) rfl rfl (by kernel_rfl) (by kernel_rfl) (by kernel_rfl) (by kernel_rfl) (fun _ _ _ h => h) (Or.inl ⟨by rfl, ?_⟩) (by assumption) ?_
        rotate_left
        · (intro w hSw; (try dsimp only at hSw); go_simp; try (with_reducible rfl))
        try simp only [Act.put]
        try simp only [List.setIfInBounds_toArray]
        try simp only [List.set_cons_zero, List.set_cons_succ]
        refine wpAnyU_take (i := 5) (d := some 57) (v := ?_) rfl rfl (by kernel_rfl) (by kernel_rfl) (by kernel_rfl) (by kernel_rfl) (fun _ _ _ h => h) (Or.inl ⟨by rfl, ?_⟩) (by assumption) ?_
        rotate_left
        · (intro w hSw; (try dsimp only at hSw); go_simp; try (with_reducible rfl))
        try simp only [Act.put]
        try simp only [List.setIfInBounds_toArray]
        try simp only [List.set_cons_zero, List.set_cons_succ]
        refine wpAnyU_take (i := 6) (d := some 58) (v := ?_) rfl rfl (by kernel_rfl) (by kernel_rfl) (by kernel_rfl) (by kernel_rfl) (fun _ _ _ h => h) (Or.inl ⟨by rfl, ?_⟩) (by assumption) ?_
        rotate_left
        · (intro w hSw; (try dsimp only at hSw); go_simp; try (with_reducible rfl))
        try simp only [Act.put]
        try simp only [List.setIfInBounds_toArray]
        try simp only [List.set_cons_zero, List.set_cons_succ]
        refine wpAnyU_take (i := 7) (d := some 59) (v := ?_) rfl rfl (by kernel_rfl) (by kernel_rfl) (by kernel_rfl) (by kernel_rfl) (fun _ _ _ h => h) (Or.inl ⟨by rfl, ?_⟩) (by assumption) ?_
        rotate_left
        · (intro w hSw; (try dsimp only at hSw); go_simp; try (with_reducible rfl))
        try simp only [Act.put]
        try simp only [List.setIfInBounds_toArray]
        try simp only [List.set_cons_zero, List.set_cons_succ]
        refine wpAnyU_take (i := 8) (d := some 60) (v := ?_) rfl rfl (by kernel_rfl) (by kernel_rfl) (by kernel_rfl) (by kernel_rfl) (fun _ _ _ h => h) (Or.inl ⟨by rfl, ?_⟩) (by assumption) ?_
        rotate_left
        · (intro w hSw; (try dsimp only at hSw); go_simp; try (with_reducible rfl))
        try simp only [Act.put]
        try simp only [List.setIfInBounds_toArray]
        try simp only [List.set_cons_zero, List.set_cons_succ]
        refine wpAnyU_take (i := 9) (d := some 61) (v := ?_) rfl rfl (by kernel_rfl) (by kernel_rfl) (by kernel_rfl) (by kernel_rfl) (fun _ _ _ h => h) (Or.inl ⟨by rfl, ?_⟩) (by assumption) ?_
        rotate_left
        · (intro w hSw; (try dsimp only at hSw); go_simp; try (with_reducible rfl))
        try simp only [Act.put]
        try simp only [List.setIfInBounds_toArray]
        try simp only [List.set_cons_zero, List.set_cons_succ]
        refine wpAnyU_take (i := 10) (d := some 62) (v := ?_) rfl rfl (by kernel_rfl) (by kernel_rfl) (by kernel_rfl) (by kernel_rfl) (fun _ _ _ h => h) (Or.inl ⟨by rfl, ?_⟩) (by assumption) ?_
        rotate_left
        · (intro w hSw; (try dsimp only at hSw); go_simp; try (with_reducible rfl))
        try simp only [Act.put]
        try simp only [List.setIfInBounds_toArray]
        try simp only [List.set_cons_zero, List.set_cons_succ]
        refine wpAnyU_take (i := 11) (d := some 63) (v := ?_) rfl rfl (by kernel_rfl) (by kernel_rfl) (by kernel_rfl) (by kernel_rfl) (fun _ _ _ h => h) (Or.inl ⟨by rfl, ?_⟩) (by assumption) ?_
        rotate_left
        · (intro w hSw; (try dsimp only at hSw); go_simp; try (with_reducible rfl))
        try simp only [Act.put]
        try simp only [List.setIfInBounds_toArray]
        try simp only [List.set_cons_zero, List.set_cons_succ]
        refine wpAnyU_take (i := 12) (d := some 64) (v := ?_) rfl rfl (by kernel_rfl) (by kernel_rfl) (by kernel_rfl) (by kernel_rfl) (fun _ _ _ h => h) (Or.inl ⟨by rfl, ?_⟩) (by assumption) ?_
        rotate_left
        · (intro w hSw; (try dsimp only at hSw); go_simp; try (with_reducible rfl))
        try simp only [Act.put]
        try simp only [List.setIfInBounds_toArray]
        try simp only [List.set_cons_zero, List.set_cons_succ]
        refine wpAnyU_take (i := 15) (d := some 67) (v := ?_) rfl rfl (by kernel_rfl) (by kernel_rfl) (by kernel_rfl) (by kernel_rfl) (fun _ _ _ h => h) (Or.inl ⟨by rfl, ?_⟩) (by assumption) ?_
        rotate_left
        · (intro w hSw; (try dsimp only at hSw); go_simp; try (with_reducible rfl))
        try simp only [Act.put]
        try simp only [List.setIfInBounds_toArray]
        try simp only [List.set_cons_zero, List.set_cons_succ]
        refine wpAnyU_take (i := 16) (d := some 68) (v := ?_) rfl rfl (by kernel_rfl) (by kernel_rfl) (by kernel_rfl) (by kernel_rfl) (fun _ _ _ h => h) (Or.inl ⟨by rfl, ?_⟩) (by assumption) ?_
        rotate_left
        · (intro w hSw; (try dsimp only at hSw); go_simp; try (with_reducible rfl))
        try simp only [Act.put]
        try simp only [List.setIfInBounds_toArray]
        try simp only [List.set_cons_zero, List.set_cons_succ]
        refine wpAnyU_ready (rs := [4, 13, 19]) (by kernel_rfl) (by simp) ?_
        refine AllU.cons rfl (fun K hK => ?_) (AllU.cons rfl (fun K hK => ?_) (AllU.cons rfl (fun K hK => ?_) AllU.nil))
        · skip
          refine step_callW (by kernel_rfl) 56 _ _ rfl enters_56 [.slice va nv vc] (by first | rfl | kernel_rfl | go_simp) (HCV.out _ HX0.out) ?_
          rintro e y1 ⟨u1, rfl, hR, hX⟩
          obtain ⟨a1, c1, rfl, _⟩ := hR.any
          refine ⟨_, rfl, ?_⟩
          have HX1 := Lib.hid (HX0.out.trans' hX)
          have HC1 := Lib.hid (hR.mono HX0.out.sz)
          clear hR hX
          refine hK.out _ _ ?_ (fun hHeld => ?_)
          · (try dsimp only)
            exact SS.out _ HX1.out
          clear hK K
          try simp only [List.getElem_toArray, List.getElem_cons_zero, List.getElem_cons_succ]
          try simp only [Act.put]
          try simp only [List.setIfInBounds_toArray]
          try simp only [List.set_cons_zero, List.set_cons_succ]
          refine wpAnyU_ready (rs := [13, 19]) (by kernel_rfl) (by simp) ?_
          refine AllU.cons rfl (fun K hK => ?_) (AllU.cons rfl (fun K hK => ?_) AllU.nil)
          · skip
            go_simp
            have HX2 := Lib.hid (HX1.out.al (.cells #[.string s, .int .i64 a0] 52))
            have HB2 := Lib.hid (heap_alloc_new y1 (.cells #[.string s, .int .i64 a0] 52))
            have HC2 := Lib.hid (HC1.out.al (.cells #[.string s, .int .i64 a0] 52))
            refine hK.out _ _ ?_ (fun hHeld => ?_)
            · (try dsimp only)
              exact SS.out _ HX2.out
            clear hK K
            try simp only [List.getElem_toArray, List.getElem_cons_zero, List.getElem_cons_succ]
            try simp only [Act.put]
            try simp only [List.setIfInBounds_toArray]
            try simp only [List.set_cons_zero, List.set_cons_succ]
            generalize hyg : y1.alloc (.cells #[.string s, .int .i64 a0] 52) = y2 at *
            clear hyg
            generalize y1.heap.size = bb at *
            refine wpAnyU_ready (rs := [14, 19]) (by kernel_rfl) (by simp) ?_
            refine AllU.cons rfl (fun K hK => ?_) (AllU.cons rfl (fun K hK => ?_) AllU.nil)
            · skip
              refine step_append_rowN rfl _ _ 44 rfl ws.heap.size 52 iv (.agg #[.string ⟨#[]⟩, .int .i64 0]) 2 24 Try.underlying44 hiv iv0 iv1 iv2 rfl (by decide) (.slice a1 nv c1) nv xv rfl HC2.out bb 1 [.string s, .int .i64 a0] rfl rfl ⟨_, HB2.out⟩ (by simp [Value.oneCell']) (by unfold maxLen; omega) (by omega) HX2.out.sz ?_
              intro u2 y3 hown hgrow hblk
              obtain ⟨a2, c2, rfl, _⟩ := hown.any
              have HX3 := Lib.hid (HX2.out.gr hgrow (fun q hq => (HC2.out.lt q hq).1))
              have HA3 := Lib.hid hown
              clear hown hgrow hblk
              refine hK.out _ _ ?_ (fun hHeld => ?_)
              · (try dsimp only)
                exact SS.out _ HX3.out
              clear hK K
              try simp only [List.getElem_toArray, List.getElem_cons_zero, List.getElem_cons_succ]
              try simp only [Act.put]
              try simp only [List.setIfInBounds_toArray]
              try simp only [List.set_cons_zero, List.set_cons_succ]
              refine wpAnyU_ready (rs := [17, 19]) (by kernel_rfl) (by simp) ?_
              refine AllU.cons rfl (fun K hK => ?_) (AllU.cons rfl (fun K hK => ?_) AllU.nil)
              · skip
                refine step_callW (by kernel_rfl) 57 _ _ rfl enters_57 [.slice ea ne ec] (by first | rfl | kernel_rfl | go_simp) (HCE.out _ HX3.out) ?_
                rintro e y4 ⟨u3, rfl, hR, hX⟩
                obtain ⟨a3, c3, rfl, _⟩ := hR.any
                refine ⟨_, rfl, ?_⟩
                have HX4 := Lib.hid (HX3.out.trans' hX)
                have HD4 := Lib.hid (hR.mono HX3.out.sz)
                have HA4 := Lib.hid (HA3.out.ext hX)
                clear hR hX
                refine hK.out _ _ ?_ (fun hHeld => ?_)
                · (try dsimp only)
                  exact SS.out _ HX4.out
                clear hK K
                try simp only [List.getElem_toArray, List.getElem_cons_zero, List.getElem_cons_succ]
                try simp only [Act.put]
                try simp only [List.setIfInBounds_toArray]
                try simp only [List.set_cons_zero, List.set_cons_succ]
                refine wpAnyU_take (i := 18) (d := some 70) (v := ?_) rfl rfl (by kernel_rfl) (by kernel_rfl) (by kernel_rfl) (by kernel_rfl) (fun _ _ _ h => h) (Or.inl ⟨by rfl, ?_⟩) (by assumption) ?_
                rotate_left
                · (intro w hSw; (try dsimp only at hSw); go_simp; try (with_reducible rfl))
                try simp only [Act.put]
                try simp only [List.setIfInBounds_toArray]
                try simp only [List.set_cons_zero, List.set_cons_succ]
                refine wpAnyU_step (i := 19) (by kernel_rfl) rfl (fun K hK => ?_)
                go_simp
                have HG := Lib.hid (show ws.heap.size ≤ y4.heap.size from HX4.out.sz)
                have HX5 := Lib.hid (HX4.out.al (.cells #[.string ⟨#[]⟩, .slice none 0 0, .slice none 0 0] 47))
                have HY5 := Lib.hid (heap_alloc_new y4 (.cells #[.string ⟨#[]⟩, .slice none 0 0, .slice none 0 0] 47))
                have HA5 := Lib.hid (HA4.out.al (.cells #[.string ⟨#[]⟩, .slice none 0 0, .slice none 0 0] 47))
                have HD5 := Lib.hid (HD4.out.al (.cells #[.string ⟨#[]⟩, .slice none 0 0, .slice none 0 0] 47))
                refine hK.out _ _ ?_ (fun hHeld => ?_)
                · (try dsimp only)
                  exact SS.out _ HX5.out
                clear hK K
                try simp only [List.getElem_toArray, List.getElem_cons_zero, List.getElem_cons_succ]
                try simp only [Act.put]
                try simp only [List.setIfInBounds_toArray]
                try simp only [List.set_cons_zero, List.set_cons_succ]
                generalize hyg : y4.alloc (.cells #[.string ⟨#[]⟩, .slice none 0 0, .slice none 0 0] 47) = y5 at *
                clear hyg
                generalize y4.heap.size = D at *
                have q0 := cellOf HY5.out 0
                have q1 := cellOf HY5.out 1
                have q2 := cellOf HY5.out 2
                have f0 := freeOf HY5.out 0
                have f1 := freeOf HY5.out 1
                have f2 := freeOf HY5.out 2
                simp only [List.getElem?_toArray, List.getElem?_cons_zero, List.getElem?_cons_succ] at q0 q1 q2
                refine wpAnyU_store (i := 20) (by kernel_rfl) rfl (by decide) (fun K hK => ?_)
                go_simp
                refine hK.out _ _ ?_
                clear hK K
                try simp only [Act.put]
                try simp only [List.setIfInBounds_toArray]
                try simp only [List.set_cons_zero, List.set_cons_succ]
                refine wpAnyU_done (by kernel_rfl) ?_
                go_wp2_with fail
                go_meet
                exact ⟨D, a2, c2, a3, c3, rfl, (show _ = _ from prc_set HY5.out), (show Row _ _ _ _ _ _ _ from (HA5.out.prc HY5.out (by decide)).mono HSW.out), (show Row _ _ _ _ _ _ _ from (HD5.out.prc HY5.out (by decide)).mono HSW.out), (show Ext _ _ from (((HSX.out.trans' HX5.out).st (Nat.le_trans HSW.out HG.out) _).st (Nat.le_trans HSW.out HG.out) _).st (Nat.le_trans HSW.out HG.out) _), (show _ ≤ _ from Nat.le_trans HSW.out HG.out), (show _ = _ from (prc_keep (by have h1 := HSZ.out; have h2 := HG.out; omega) _ _ _).trans (HX5.out.hp HBX.out))⟩
              · skip
                go_simp
                have HG := Lib.hid (show ws.heap.size ≤ y3.heap.size from HX3.out.sz)
                have HX4 := Lib.hid (HX3.out.al (.cells #[.string ⟨#[]⟩, .slice none 0 0, .slice none 0 0] 47))
                have HY4 := Lib.hid (heap_alloc_new y3 (.cells #[.string ⟨#[]⟩, .slice none 0 0, .slice none 0 0] 47))
                have HA4 := Lib.hid (HA3.out.al (.cells #[.string ⟨#[]⟩, .slice none 0 0, .slice none 0 0] 47))
                refine hK.out _ _ ?_ (fun hHeld => ?_)
                · (try dsimp only)
                  exact SS.out _ HX4.out
                clear hK K
                try simp only [List.getElem_toArray, List.getElem_cons_zero, List.getElem_cons_succ]
                try simp only [Act.put]
                try simp only [List.setIfInBounds_toArray]
                try simp only [List.set_cons_zero, List.set_cons_succ]
                generalize hyg : y3.alloc (.cells #[.string ⟨#[]⟩, .slice none 0 0, .slice none 0 0] 47) = y4 at *
                clear hyg
                generalize y3.heap.size = D at *
                refine wpAnyU_step (i := 17) (by kernel_rfl) rfl (fun K hK => ?_)
                refine step_callW (by kernel_rfl) 57 _ _ rfl enters_57 [.slice ea ne ec] (by first | rfl | kernel_rfl | go_simp) (HCE.out _ HX4.out) ?_
                rintro e y5 ⟨u3, rfl, hR, hX⟩
                obtain ⟨a3, c3, rfl, _⟩ := hR.any
                refine ⟨_, rfl, ?_⟩
                have HX5 := Lib.hid (HX4.out.trans' hX)
                have HD5 := Lib.hid (hR.mono HX4.out.sz)
                have HA5 := Lib.hid (HA4.out.ext hX)
                have HY5 := Lib.hid (hX.hp HY4.out)
                clear hR hX
                refine hK.out _ _ ?_ (fun hHeld => ?_)
                · (try dsimp only)
                  exact SS.out _ HX5.out
                clear hK K
                try simp only [List.getElem_toArray, List.getElem_cons_zero, List.getElem_cons_succ]
                try simp only [Act.put]
                try simp only [List.setIfInBounds_toArray]
                try simp only [List.set_cons_zero, List.set_cons_succ]
                refine wpAnyU_take (i := 18) (d := some 70) (v := ?_) rfl rfl (by kernel_rfl) (by kernel_rfl) (by kernel_rfl) (by kernel_rfl) (fun _ _ _ h => h) (Or.inl ⟨by rfl, ?_⟩) (by assumption) ?_
                rotate_left
                · (intro w hSw; (try dsimp only at hSw); go_simp; try (with_reducible rfl))
                try simp only [Act.put]
                try simp only [List.setIfInBounds_toArray]
                try simp only [List.set_cons_zero, List.set_cons_succ]
                have q0 := cellOf HY5.out 0
                have q1 := cellOf HY5.out 1
                have q2 := cellOf HY5.out 2
                have f0 := freeOf HY5.out 0
                have f1 := freeOf HY5.out 1
                have f2 := freeOf HY5.out 2
                simp only [List.getElem?_toArray, List.getElem?_cons_zero, List.getElem?_cons_succ] at q0 q1 q2
                refine wpAnyU_store (i := 20) (by kernel_rfl) rfl (by decide) (fun K hK => ?_)
                go_simp
                refine hK.out _ _ ?_
                clear hK K
                try simp only [Act.put]
                try simp only [List.setIfInBounds_toArray]
                try simp only [List.set_cons_zero, List.set_cons_succ]
                refine wpAnyU_done (by kernel_rfl) ?_
                go_wp2_with fail
                go_meet
                exact ⟨D, a2, c2, a3, c3, rfl, (show _ = _ from prc_set HY5.out), (show Row _ _ _ _ _ _ _ from (HA5.out.prc HY5.out (by decide)).mono HSW.out), (show Row _ _ _ _ _ _ _ from (HD5.out.prc HY5.out (by decide)).mono HSW.out), (show Ext _ _ from (((HSX.out.trans' HX5.out).st (Nat.le_trans HSW.out HG.out) _).st (Nat.le_trans HSW.out HG.out) _).st (Nat.le_trans HSW.out HG.out) _), (show _ ≤ _ from Nat.le_trans HSW.out HG.out), (show _ = _ from (prc_keep (by have h1 := HSZ.out; have h2 := HG.out; omega) _ _ _).trans (HX5.out.hp HBX.out))⟩
            · skip
              go_simp
              have HG := Lib.hid (show ws.heap.size ≤ y2.heap.size from HX2.out.sz)
              have HX3 := Lib.hid (HX2.out.al (.cells #[.string ⟨#[]⟩, .slice none 0 0, .slice none 0 0] 47))
              have HY3 := Lib.hid (heap_alloc_new y2 (.cells #[.string ⟨#[]⟩, .slice none 0 0, .slice none 0 0] 47))
              have HC3 := Lib.hid (HC2.out.al (.cells #[.string ⟨#[]⟩, .slice none 0 0, .slice none 0 0] 47))
              have HB3 := Lib.hid (((Ext.rf y2).al (.cells #[.string ⟨#[]⟩, .slice none 0 0, .slice none 0 0] 47)).hp HB2.out)
              refine hK.out _ _ ?_ (fun hHeld => ?_)
              · (try dsimp only)
                exact SS.out _ HX3.out
              clear hK K
              try simp only [List.getElem_toArray, List.getElem_cons_zero, List.getElem_cons_succ]
              try simp only [Act.put]
              try simp only [List.setIfInBounds_toArray]
              try simp only [List.set_cons_zero, List.set_cons_succ]
              generalize hyg : y2.alloc (.cells #[.string ⟨#[]⟩, .slice none 0 0, .slice none 0 0] 47) = y3 at *
              clear hyg
              generalize y2.heap.size = D at *
              refine wpAnyU_step (i := 14) (by kernel_rfl) rfl (fun K hK => ?_)
              refine step_append_rowN rfl _ _ 44 rfl ws.heap.size 52 iv (.agg #[.string ⟨#[]⟩, .int .i64 0]) 2 24 Try.underlying44 hiv iv0 iv1 iv2 rfl (by decide) (.slice a1 nv c1) nv xv rfl HC3.out bb 1 [.string s, .int .i64 a0] rfl rfl ⟨_, HB3.out⟩ (by simp [Value.oneCell']) (by unfold maxLen; omega) (by omega) HX3.out.sz ?_
              intro u2 y4 hown hgrow hblk
              obtain ⟨a2, c2, rfl, _⟩ := hown.any
              have HX4 := Lib.hid (HX3.out.gr hgrow (fun q hq => (HC3.out.lt q hq).1))
              have HA4 := Lib.hid hown
              have HY4 := Lib.hid (kept_box HY3.out HC3.out (by decide) hgrow)
              clear hown hgrow hblk
              refine hK.out _ _ ?_ (fun hHeld => ?_)
              · (try dsimp only)
                exact SS.out _ HX4.out
              clear hK K
              try simp only [List.getElem_toArray, List.getElem_cons_zero, List.getElem_cons_succ]
              try simp only [Act.put]
              try simp only [List.setIfInBounds_toArray]
              try simp only [List.set_cons_zero, List.set_cons_succ]
              refine wpAnyU_step (i := 17) (by kernel_rfl) rfl (fun K hK => ?_)
              refine step_callW (by kernel_rfl) 57 _ _ rfl enters_57 [.slice ea ne ec] (by first | rfl | kernel_rfl | go_simp) (HCE.out _ HX4.out) ?_
              rintro e y5 ⟨u3, rfl, hR, hX⟩
              obtain ⟨a3, c3, rfl, _⟩ := hR.any
              refine ⟨_, rfl, ?_⟩
              have HX5 := Lib.hid (HX4.out.trans' hX)
              have HD5 := Lib.hid (hR.mono HX4.out.sz)
              have HA5 := Lib.hid (HA4.out.ext hX)
              have HY5 := Lib.hid (hX.hp HY4.out)
              clear hR hX
              refine hK.out _ _ ?_ (fun hHeld => ?_)
              · (try dsimp only)
                exact SS.out _ HX5.out
              clear hK K
              try simp only [List.getElem_toArray, List.getElem_cons_zero, List.getElem_cons_succ]
              try simp only [Act.put]
              try simp only [List.setIfInBounds_toArray]
              try simp only [List.set_cons_zero, List.set_cons_succ]
              refine wpAnyU_take (i := 18) (d := some 70) (v := ?_) rfl rfl (by kernel_rfl) (by kernel_rfl) (by kernel_rfl) (by kernel_rfl) (fun _ _ _ h => h) (Or.inl ⟨by rfl, ?_⟩) (by assumption) ?_
              rotate_left
              · (intro w hSw; (try dsimp only at hSw); go_simp; try (with_reducible rfl))
              try simp only [Act.put]
              try simp only [List.setIfInBounds_toArray]
              try simp only [List.set_cons_zero, List.set_cons_succ]
              have q0 := cellOf HY5.out 0
              have q1 := cellOf HY5.out 1
              have q2 := cellOf HY5.out 2
              have f0 := freeOf HY5.out 0
              have f1 := freeOf HY5.out 1
              have f2 := freeOf HY5.out 2
              simp only [List.getElem?_toArray, List.getElem?_cons_zero, List.getElem?_cons_succ] at q0 q1 q2
              refine wpAnyU_store (i := 20) (by kernel_rfl) rfl (by decide) (fun K hK => ?_)
              go_simp
              refine hK.out _ _ ?_
              clear hK K
              try simp only [Act.put]
              try simp only [List.setIfInBounds_toArray]
              try simp only [List.set_cons_zero, List.set_cons_succ]
              refine wpAnyU_done (by kernel_rfl) ?_
              go_wp2_with fail
              go_meet
              exact ⟨D, a2, c2, a3, c3, rfl, (show _ = _ from prc_set HY5.out), (show Row _ _ _ _ _ _ _ from (HA5.out.prc HY5.out (by decide)).mono HSW.out), (show Row _ _ _ _ _ _ _ from (HD5.out.prc HY5.out (by decide)).mono HSW.out), (show Ext _ _ from (((HSX.out.trans' HX5.out).st (Nat.le_trans HSW.out HG.out) _).st (Nat.le_trans HSW.out HG.out) _).st (Nat.le_trans HSW.out HG.out) _), (show _ ≤ _ from Nat.le_trans HSW.out HG.out), (show _ = _ from (prc_keep (by have h1 := HSZ.out; have h2 := HG.out; omega) _ _ _).trans (HX5.out.hp HBX.out))⟩
          · skip
            go_simp
            have HG := Lib.hid (show ws.heap.size ≤ y1.heap.size from HX1.out.sz)
            have HX2 := Lib.hid (HX1.out.al (.cells #[.string ⟨#[]⟩, .slice none 0 0, .slice none 0 0] 47))
            have HY2 := Lib.hid (heap_alloc_new y1 (.cells #[.string ⟨#[]⟩, .slice none 0 0, .slice none 0 0] 47))
            have HC2 := Lib.hid (HC1.out.al (.cells #[.string ⟨#[]⟩, .slice none 0 0, .slice none 0 0] 47))
            refine hK.out _ _ ?_ (fun hHeld => ?_)
            · (try dsimp only)
              exact SS.out _ HX2.out
            clear hK K
            try simp only [List.getElem_toArray, List.getElem_cons_zero, List.getElem_cons_succ]
            try simp only [Act.put]
            try simp only [List.setIfInBounds_toArray]
            try simp only [List.set_cons_zero, List.set_cons_succ]
            generalize hyg : y1.alloc (.cells #[.string ⟨#[]⟩, .slice none 0 0, .slice none 0 0] 47) = y2 at *
            clear hyg
            generalize y1.heap.size = D at *
            refine wpAnyU_step (i := 13) (by kernel_rfl) rfl (fun K hK => ?_)
            go_simp
            have HX3 := Lib.hid (HX2.out.al (.cells #[.string s, .int .i64 a0] 52))
            have HB3 := Lib.hid (heap_alloc_new y2 (.cells #[.string s, .int .i64 a0] 52))
            have HC3 := Lib.hid (HC2.out.al (.cells #[.string s, .int .i64 a0] 52))
            have HY3 := Lib.hid (((Ext.rf y2).al (.cells #[.string s, .int .i64 a0] 52)).hp HY2.out)
            refine hK.out _ _ ?_ (fun hHeld => ?_)
            · (try dsimp only)
              exact SS.out _ HX3.out
            clear hK K
            try simp only [List.getElem_toArray, List.getElem_cons_zero, List.getElem_cons_succ]
            try simp only [Act.put]
            try simp only [List.setIfInBounds_toArray]
            try simp only [List.set_cons_zero, List.set_cons_succ]
            generalize hyg : y2.alloc (.cells #[.string s, .int .i64 a0] 52) = y3 at *
            clear hyg
            generalize y2.heap.size = bb at *
            refine wpAnyU_step (i := 14) (by kernel_rfl) rfl (fun K hK => ?_)
            refine step_append_rowN rfl _ _ 44 rfl ws.heap.size 52 iv (.agg #[.string ⟨#[]⟩, .int .i64 0]) 2 24 Try.underlying44 hiv iv0 iv1 iv2 rfl (by decide) (.slice a1 nv c1) nv xv rfl HC3.out bb 1 [.string s, .int .i64 a0] rfl rfl ⟨_, HB3.out⟩ (by simp [Value.oneCell']) (by unfold maxLen; omega) (by omega) HX3.out.sz ?_
            intro u2 y4 hown hgrow hblk
            obtain ⟨a2, c2, rfl, _⟩ := hown.any
            have HX4 := Lib.hid (HX3.out.gr hgrow (fun q hq => (HC3.out.lt q hq).1))
            have HA4 := Lib.hid hown
            have HY4 := Lib.hid (kept_box HY3.out HC3.out (by decide) hgrow)
            clear hown hgrow hblk
            refine hK.out _ _ ?_ (fun hHeld => ?_)
            · (try dsimp only)
              exact SS.out _ HX4.out
            clear hK K
            try simp only [List.getElem_toArray, List.getElem_cons_zero, List.getElem_cons_succ]
            try simp only [Act.put]
            try simp only [List.setIfInBounds_toArray]
            try simp only [List.set_cons_zero, List.set_cons_succ]
            refine wpAnyU_step (i := 17) (by kernel_rfl) rfl (fun K hK => ?_)
            refine step_callW (by kernel_rfl) 57 _ _ rfl enters_57 [.slice ea ne ec] (by first | rfl | kernel_rfl | go_simp) (HCE.out _ HX4.out) ?_
            rintro e y5 ⟨u3, rfl, hR, hX⟩
            obtain ⟨a3, c3, rfl, _⟩ := hR.any
            refine ⟨_, rfl, ?_⟩
            have HX5 := Lib.hid (HX4.out.trans' hX)
            have HD5 := Lib.hid (hR.mono HX4.out.sz)
            have HA5 := Lib.hid (HA4.out.ext hX)
            have HY5 := Lib.hid (hX.hp HY4.out)
            clear hR hX
            refine hK.out _ _ ?_ (fun hHeld => ?_)
            · (try dsimp only)
              exact SS.out _ HX5.out
            clear hK K
            try simp only [List.getElem_toArray, List.getElem_cons_zero, List.getElem_cons_succ]
            try simp only [Act.put]
            try simp only [List.setIfInBounds_toArray]
            try simp only [List.set_cons_zero, List.set_cons_succ]
            refine wpAnyU_take (i := 18) (d := some 70) (v := ?_) rfl rfl (by kernel_rfl) (by kernel_rfl) (by kernel_rfl) (by kernel_rfl) (fun _ _ _ h => h) (Or.inl ⟨by rfl, ?_⟩) (by assumption) ?_
            rotate_left
            · (intro w hSw; (try dsimp only at hSw); go_simp; try (with_reducible rfl))
            try simp only [Act.put]
            try simp only [List.setIfInBounds_toArray]
            try simp only [List.set_cons_zero, List.set_cons_succ]
            have q0 := cellOf HY5.out 0
            have q1 := cellOf HY5.out 1
            have q2 := cellOf HY5.out 2
            have f0 := freeOf HY5.out 0
            have f1 := freeOf HY5.out 1
            have f2 := freeOf HY5.out 2
            simp only [List.getElem?_toArray, List.getElem?_cons_zero, List.getElem?_cons_succ] at q0 q1 q2
            refine wpAnyU_store (i := 20) (by kernel_rfl) rfl (by decide) (fun K hK => ?_)
            go_simp
            refine hK.out _ _ ?_
            clear hK K
            try simp only [Act.put]
            try simp only [List.setIfInBounds_toArray]
            try simp only [List.set_cons_zero, List.set_cons_succ]
            refine wpAnyU_done (by kernel_rfl) ?_
            go_wp2_with fail
            go_meet
            exact ⟨D, a2, c2, a3, c3, rfl, (show _ = _ from prc_set HY5.out), (show Row _ _ _ _ _ _ _ from (HA5.out.prc HY5.out (by decide)).mono HSW.out), (show Row _ _ _ _ _ _ _ from (HD5.out.prc HY5.out (by decide)).mono HSW.out), (show Ext _ _ from (((HSX.out.trans' HX5.out).st (Nat.le_trans HSW.out HG.out) _).st (Nat.le_trans HSW.out HG.out) _).st (Nat.le_trans HSW.out HG.out) _), (show _ ≤ _ from Nat.le_trans HSW.out HG.out), (show _ = _ from (prc_keep (by have h1 := HSZ.out; have h2 := HG.out; omega) _ _ _).trans (HX5.out.hp HBX.out))⟩
        · skip
          go_simp
          have HX1 := Lib.hid (HX0.out.al (.cells #[.string s, .int .i64 a0] 52))
          have HB1 := Lib.hid (heap_alloc_new y0 (.cells #[.string s, .int .i64 a0] 52))
          refine hK.out _ _ ?_ (fun hHeld => ?_)
          · (try dsimp only)
            exact SS.out _ HX1.out
          clear hK K
          try simp only [List.getElem_toArray, List.getElem_cons_zero, List.getElem_cons_succ]
          try simp only [Act.put]
          try simp only [List.setIfInBounds_toArray]
          try simp only [List.set_cons_zero, List.set_cons_succ]
          generalize hyg : y0.alloc (.cells #[.string s, .int .i64 a0] 52) = y1 at *
          clear hyg
          generalize y0.heap.size = bb at *
          refine wpAnyU_ready (rs := [4, 19]) (by kernel_rfl) (by simp) ?_
          refine AllU.cons rfl (fun K hK => ?_) (AllU.cons rfl (fun K hK => ?_) AllU.nil)
          · skip
            refine step_callW (by kernel_rfl) 56 _ _ rfl enters_56 [.slice va nv vc] (by first | rfl | kernel_rfl | go_simp) (HCV.out _ HX1.out) ?_
            rintro e y2 ⟨u1, rfl, hR, hX⟩
            obtain ⟨a1, c1, rfl, _⟩ := hR.any
            refine ⟨_, rfl, ?_⟩
            have HX2 := Lib.hid (HX1.out.trans' hX)
            have HC2 := Lib.hid (hR.mono HX1.out.sz)
            have HB2 := Lib.hid (hX.hp HB1.out)
            clear hR hX
            refine hK.out _ _ ?_ (fun hHeld => ?_)
            · (try dsimp only)
              exact SS.out _ HX2.out
            clear hK K
            try simp only [List.getElem_toArray, List.getElem_cons_zero, List.getElem_cons_succ]
            try simp only [Act.put]
            try simp only [List.setIfInBounds_toArray]
            try simp only [List.set_cons_zero, List.set_cons_succ]
            refine wpAnyU_ready (rs := [14, 19]) (by kernel_rfl) (by simp) ?_
            refine AllU.cons rfl (fun K hK => ?_) (AllU.cons rfl (fun K hK => ?_) AllU.nil)
            · skip
              refine step_append_rowN rfl _ _ 44 rfl ws.heap.size 52 iv (.agg #[.string ⟨#[]⟩, .int .i64 0]) 2 24 Try.underlying44 hiv iv0 iv1 iv2 rfl (by decide) (.slice a1 nv c1) nv xv rfl HC2.out bb 1 [.string s, .int .i64 a0] rfl rfl ⟨_, HB2.out⟩ (by simp [Value.oneCell']) (by unfold maxLen; omega) (by omega) HX2.out.sz ?_
              intro u2 y3 hown hgrow hblk
              obtain ⟨a2, c2, rfl, _⟩ := hown.any
              have HX3 := Lib.hid (HX2.out.gr hgrow (fun q hq => (HC2.out.lt q hq).1))
              have HA3 := Lib.hid hown
              clear hown hgrow hblk
              refine hK.out _ _ ?_ (fun hHeld => ?_)
              · (try dsimp only)
                exact SS.out _ HX3.out
              clear hK K
              try simp only [List.getElem_toArray, List.getElem_cons_zero, List.getElem_cons_succ]
              try simp only [Act.put]
              try simp only [List.setIfInBounds_toArray]
              try simp only [List.set_cons_zero, List.set_cons_succ]
              refine wpAnyU_ready (rs := [17, 19]) (by kernel_rfl) (by simp) ?_
              refine AllU.cons rfl (fun K hK => ?_) (AllU.cons rfl (fun K hK => ?_) AllU.nil)
              · skip
                refine step_callW (by kernel_rfl) 57 _ _ rfl enters_57 [.slice ea ne ec] (by first | rfl | kernel_rfl | go_simp) (HCE.out _ HX3.out) ?_
                rintro e y4 ⟨u3, rfl, hR, hX⟩
                obtain ⟨a3, c3, rfl, _⟩ := hR.any
                refine ⟨_, rfl, ?_⟩
                have HX4 := Lib.hid (HX3.out.trans' hX)
                have HD4 := Lib.hid (hR.mono HX3.out.sz)
                have HA4 := Lib.hid (HA3.out.ext hX)
                clear hR hX
                refine hK.out _ _ ?_ (fun hHeld => ?_)
                · (try dsimp only)
                  exact SS.out _ HX4.out
                clear hK K
                try simp only [List.getElem_toArray, List.getElem_cons_zero, List.getElem_cons_succ]
                try simp only [Act.put]
                try simp only [List.setIfInBounds_toArray]
                try simp only [List.set_cons_zero, List.set_cons_succ]
                refine wpAnyU_take (i := 18) (d := some 70) (v := ?_) rfl rfl (by kernel_rfl) (by kernel_rfl) (by kernel_rfl) (by kernel_rfl) (fun _ _ _ h => h) (Or.inl ⟨by rfl, ?_⟩) (by assumption) ?_
                rotate_left
                · (intro w hSw; (try dsimp only at hSw); go_simp; try (with_reducible rfl))
                try simp only [Act.put]
                try simp only [List.setIfInBounds_toArray]
                try simp only [List.set_cons_zero, List.set_cons_succ]
                refine wpAnyU_step (i := 19) (by kernel_rfl) rfl (fun K hK => ?_)
                go_simp
                have HG := Lib.hid (show ws.heap.size ≤ y4.heap.size from HX4.out.sz)
                have HX5 := Lib.hid (HX4.out.al (.cells #[.string ⟨#[]⟩, .slice none 0 0, .slice none 0 0] 47))
                have HY5 := Lib.hid (heap_alloc_new y4 (.cells #[.string ⟨#[]⟩, .slice none 0 0, .slice none 0 0] 47))
                have HA5 := Lib.hid (HA4.out.al (.cells #[.string ⟨#[]⟩, .slice none 0 0, .slice none 0 0] 47))
                have HD5 := Lib.hid (HD4.out.al (.cells #[.string ⟨#[]⟩, .slice none 0 0, .slice none 0 0] 47))
                refine hK.out _ _ ?_ (fun hHeld => ?_)
                · (try dsimp only)
                  exact SS.out _ HX5.out
                clear hK K
                try simp only [List.getElem_toArray, List.getElem_cons_zero, List.getElem_cons_succ]
                try simp only [Act.put]
                try simp only [List.setIfInBounds_toArray]
                try simp only [List.set_cons_zero, List.set_cons_succ]
                generalize hyg : y4.alloc (.cells #[.string ⟨#[]⟩, .slice none 0 0, .slice none 0 0] 47) = y5 at *
                clear hyg
                generalize y4.heap.size = D at *
                have q0 := cellOf HY5.out 0
                have q1 := cellOf HY5.out 1
                have q2 := cellOf HY5.out 2
                have f0 := freeOf HY5.out 0
                have f1 := freeOf HY5.out 1
                have f2 := freeOf HY5.out 2
                simp only [List.getElem?_toArray, List.getElem?_cons_zero, List.getElem?_cons_succ] at q0 q1 q2
                refine wpAnyU_store (i := 20) (by kernel_rfl) rfl (by decide) (fun K hK => ?_)
                go_simp
                refine hK.out _ _ ?_
                clear hK K
                try simp only [Act.put]
                try simp only [List.setIfInBounds_toArray]
                try simp only [List.set_cons_zero, List.set_cons_succ]
                refine wpAnyU_done (by kernel_rfl) ?_
                go_wp2_with fail
                go_meet
                exact ⟨D, a2, c2, a3, c3, rfl, (show _ = _ from prc_set HY5.out), (show Row _ _ _ _ _ _ _ from (HA5.out.prc HY5.out (by decide)).mono HSW.out), (show Row _ _ _ _ _ _ _ from (HD5.out.prc HY5.out (by decide)).mono HSW.out), (show Ext _ _ from (((HSX.out.trans' HX5.out).st (Nat.le_trans HSW.out HG.out) _).st (Nat.le_trans HSW.out HG.out) _).st (Nat.le_trans HSW.out HG.out) _), (show _ ≤ _ from Nat.le_trans HSW.out HG.out), (show _ = _ from (prc_keep (by have h1 := HSZ.out; have h2 := HG.out; omega) _ _ _).trans (HX5.out.hp HBX.out))⟩
              · skip
                go_simp
                have HG := Lib.hid (show ws.heap.size ≤ y3.heap.size from HX3.out.sz)
                have HX4 := Lib.hid (HX3.out.al (.cells #[.string ⟨#[]⟩, .slice none 0 0, .slice none 0 0] 47))
                have HY4 := Lib.hid (heap_alloc_new y3 (.cells #[.string ⟨#[]⟩, .slice none 0 0, .slice none 0 0] 47))
                have HA4 := Lib.hid (HA3.out.al (.cells #[.string ⟨#[]⟩, .slice none 0 0, .slice none 0 0] 47))
                refine hK.out _ _ ?_ (fun hHeld => ?_)
                · (try dsimp only)
                  exact SS.out _ HX4.out
                clear hK K
                try simp only [List.getElem_toArray, List.getElem_cons_zero, List.getElem_cons_succ]
                try simp only [Act.put]
                try simp only [List.setIfInBounds_toArray]
                try simp only [List.set_cons_zero, List.set_cons_succ]
                generalize hyg : y3.alloc (.cells #[.string ⟨#[]⟩, .slice none 0 0, .slice none 0 0] 47) = y4 at *
                clear hyg
                generalize y3.heap.size = D at *
                refine wpAnyU_step (i := 17) (by kernel_rfl) rfl (fun K hK => ?_)
                refine step_callW (by kernel_rfl) 57 _ _ rfl enters_57 [.slice ea ne ec] (by first | rfl | kernel_rfl | go_simp) (HCE.out _ HX4.out) ?_
                rintro e y5 ⟨u3, rfl, hR, hX⟩
                obtain ⟨a3, c3, rfl, _⟩ := hR.any
                refine ⟨_, rfl, ?_⟩
                have HX5 := Lib.hid (HX4.out.trans' hX)
                have HD5 := Lib.hid (hR.mono HX4.out.sz)
                have HA5 := Lib.hid (HA4.out.ext hX)
                have HY5 := Lib.hid (hX.hp HY4.out)
                clear hR hX
                refine hK.out _ _ ?_ (fun hHeld => ?_)
                · (try dsimp only)
                  exact SS.out _ HX5.out
                clear hK K
                try simp only [List.getElem_toArray, List.getElem_cons_zero, List.getElem_cons_succ]
                try simp only [Act.put]
                try simp only [List.setIfInBounds_toArray]
                try simp only [List.set_cons_zero, List.set_cons_succ]
                refine wpAnyU_take (i := 18) (d := some 70) (v := ?_) rfl rfl (by kernel_rfl) (by kernel_rfl) (by kernel_rfl) (by kernel_rfl) (fun _ _ _ h => h) (Or.inl ⟨by rfl, ?_⟩) (by assumption) ?_
                rotate_left
                · (intro w hSw; (try dsimp only at hSw); go_simp; try (with_reducible rfl))
                try simp only [Act.put]
                try simp only [List.setIfInBounds_toArray]
                try simp only [List.set_cons_zero, List.set_cons_succ]
                have q0 := cellOf HY5.out 0
                have q1 := cellOf HY5.out 1
                have q2 := cellOf HY5.out 2
                have f0 := freeOf HY5.out 0
                have f1 := freeOf HY5.out 1
                have f2 := freeOf HY5.out 2
                simp only [List.getElem?_toArray, List.getElem?_cons_zero, List.getElem?_cons_succ] at q0 q1 q2
                refine wpAnyU_store (i := 20) (by kernel_rfl) rfl (by decide) (fun K hK => ?_)
                go_simp
                refine hK.out _ _ ?_
                clear hK K
                try simp only [Act.put]
                try simp only [List.setIfInBounds_toArray]
                try simp only [List.set_cons_zero, List.set_cons_succ]
                refine wpAnyU_done (by kernel_rfl) ?_
                go_wp2_with fail
                go_meet
                exact ⟨D, a2, c2, a3, c3, rfl, (show _ = _ from prc_set HY5.out), (show Row _ _ _ _ _ _ _ from (HA5.out.prc HY5.out (by decide)).mono HSW.out), (show Row _ _ _ _ _ _ _ from (HD5.out.prc HY5.out (by decide)).mono HSW.out), (show Ext _ _ from (((HSX.out.trans' HX5.out).st (Nat.le_trans HSW.out HG.out) _).st (Nat.le_trans HSW.out HG.out) _).st (Nat.le_trans HSW.out HG.out) _), (show _ ≤ _ from Nat.le_trans HSW.out HG.out), (show _ = _ from (prc_keep (by have h1 := HSZ.out; have h2 := HG.out; omega) _ _ _).trans (HX5.out.hp HBX.out))⟩
            · skip
              go_simp
              have HG := Lib.hid (show ws.heap.size ≤ y2.heap.size from HX2.out.sz)
              have HX3 := Lib.hid (HX2.out.al (.cells #[.string ⟨#[]⟩, .slice none 0 0, .slice none 0 0] 47))
              have HY3 := Lib.hid (heap_alloc_new y2 (.cells #[.string ⟨#[]⟩, .slice none 0 0, .slice none 0 0] 47))
              have HC3 := Lib.hid (HC2.out.al (.cells #[.string ⟨#[]⟩, .slice none 0 0, .slice none 0 0] 47))
              have HB3 := Lib.hid (((Ext.rf y2).al (.cells #[.string ⟨#[]⟩, .slice none 0 0, .slice none 0 0] 47)).hp HB2.out)
              refine hK.out _ _ ?_ (fun hHeld => ?_)
              · (try dsimp only)
                exact SS.out _ HX3.out
              clear hK K
              try simp only [List.getElem_toArray, List.getElem_cons_zero, List.getElem_cons_succ]
              try simp only [Act.put]
              try simp only [List.setIfInBounds_toArray]
              try simp only [List.set_cons_zero, List.set_cons_succ]
              generalize hyg : y2.alloc (.cells #[.string ⟨#[]⟩, .slice none 0 0, .slice none 0 0] 47) = y3 at *
              clear hyg
              generalize y2.heap.size = D at *
              refine wpAnyU_step (i := 14) (by kernel_rfl) rfl (fun K hK => ?_)
              refine step_append_rowN rfl _ _ 44 rfl ws.heap.size 52 iv (.agg #[.string ⟨#[]⟩, .int .i64 0]) 2 24 Try.underlying44 hiv iv0 iv1 iv2 rfl (by decide) (.slice a1 nv c1) nv xv rfl HC3.out bb 1 [.string s, .int .i64 a0] rfl rfl ⟨_, HB3.out⟩ (by simp [Value.oneCell']) (by unfold maxLen; omega) (by omega) HX3.out.sz ?_
              intro u2 y4 hown hgrow hblk
              obtain ⟨a2, c2, rfl, _⟩ := hown.any
              have HX4 := Lib.hid (HX3.out.gr hgrow (fun q hq => (HC3.out.lt q hq).1))
              have HA4 := Lib.hid hown
              have HY4 := Lib.hid (kept_box HY3.out HC3.out (by decide) hgrow)
              clear hown hgrow hblk
              refine hK.out _ _ ?_ (fun hHeld => ?_)
              · (try dsimp only)
                exact SS.out _ HX4.out
              clear hK K
              try simp only [List.getElem_toArray, List.getElem_cons_zero, List.getElem_cons_succ]
              try simp only [Act.put]
              try simp only [List.setIfInBounds_toArray]
              try simp only [List.set_cons_zero, List.set_cons_succ]
              refine wpAnyU_step (i := 17) (by kernel_rfl) rfl (fun K hK => ?_)
              refine step_callW (by kernel_rfl) 57 _ _ rfl enters_57 [.slice ea ne ec] (by first | rfl | kernel_rfl | go_simp) (HCE.out _ HX4.out) ?_
              rintro e y5 ⟨u3, rfl, hR, hX⟩
              obtain ⟨a3, c3, rfl, _⟩ := hR.any
              refine ⟨_, rfl, ?_⟩
              have HX5 := Lib.hid (HX4.out.trans' hX)
              have HD5 := Lib.hid (hR.mono HX4.out.sz)
              have HA5 := Lib.hid (HA4.out.ext hX)
              have HY5 := Lib.hid (hX.hp HY4.out)
              clear hR hX
              refine hK.out _ _ ?_ (fun hHeld => ?_)
              · (try dsimp only)
                exact SS.out _ HX5.out
              clear hK K
              try simp only [List.getElem_toArray, List.getElem_cons_zero, List.getElem_cons_succ]
              try simp only [Act.put]
              try simp only [List.setIfInBounds_toArray]
              try simp only [List.set_cons_zero, List.set_cons_succ]
              refine wpAnyU_take (i := 18) (d := some 70) (v := ?_) rfl rfl (by kernel_rfl) (by kernel_rfl) (by kernel_rfl) (by kernel_rfl) (fun _ _ _ h => h) (Or.inl ⟨by rfl, ?_⟩) (by assumption) ?_
              rotate_left
              · (intro w hSw; (try dsimp only at hSw); go_simp; try (with_reducible rfl))
              try simp only [Act.put]
              try simp only [List.setIfInBounds_toArray]
              try simp only [List.set_cons_zero, List.set_cons_succ]
              have q0 := cellOf HY5.out 0
              have q1 := cellOf HY5.out 1
              have q2 := cellOf HY5.out 2
              have f0 := freeOf HY5.out 0
              have f1 := freeOf HY5.out 1
              have f2 := freeOf HY5.out 2
              simp only [List.getElem?_toArray, List.getElem?_cons_zero, List.getElem?_cons_succ] at q0 q1 q2
              refine wpAnyU_store (i := 20) (by kernel_rfl) rfl (by decide) (fun K hK => ?_)
              go_simp
              refine hK.out _ _ ?_
              clear hK K
              try simp only [Act.put]
              try simp only [List.setIfInBounds_toArray]
              try simp only [List.set_cons_zero, List.set_cons_succ]
              refine wpAnyU_done (by kernel_rfl) ?_
              go_wp2_with fail
              go_meet
              exact ⟨D, a2, c2, a3, c3, rfl, (show _ = _ from prc_set HY5.out), (show Row _ _ _ _ _ _ _ from (HA5.out.prc HY5.out (by decide)).mono HSW.out), (show Row _ _ _ _ _ _ _ from (HD5.out.prc HY5.out (by decide)).mono HSW.out), (show Ext _ _ from (((HSX.out.trans' HX5.out).st (Nat.le_trans HSW.out HG.out) _).st (Nat.le_trans HSW.out HG.out) _).st (Nat.le_trans HSW.out HG.out) _), (show _ ≤ _ from Nat.le_trans HSW.out HG.out), (show _ = _ from (prc_keep (by have h1 := HSZ.out; have h2 := HG.out; omega) _ _ _).trans (HX5.out.hp HBX.out))⟩
          · skip
            go_simp
            have HG := Lib.hid (show ws.heap.size ≤ y1.heap.size from HX1.out.sz)
            have HX2 := Lib.hid (HX1.out.al (.cells #[.string ⟨#[]⟩, .slice none 0 0, .slice none 0 0] 47))
            have HY2 := Lib.hid (heap_alloc_new y1 (.cells #[.string ⟨#[]⟩, .slice none 0 0, .slice none 0 0] 47))
            have HB2 := Lib.hid (((Ext.rf y1).al (.cells #[.string ⟨#[]⟩, .slice none 0 0, .slice none 0 0] 47)).hp HB1.out)
            refine hK.out _ _ ?_ (fun hHeld => ?_)
            · (try dsimp only)
              exact SS.out _ HX2.out
            clear hK K
            try simp only [List.getElem_toArray, List.getElem_cons_zero, List.getElem_cons_succ]
            try simp only [Act.put]
            try simp only [List.setIfInBounds_toArray]
            try simp only [List.set_cons_zero, List.set_cons_succ]
            generalize hyg : y1.alloc (.cells #[.string ⟨#[]⟩, .slice none 0 0, .slice none 0 0] 47) = y2 at *
            clear hyg
            generalize y1.heap.size = D at *
            refine wpAnyU_step (i := 4) (by kernel_rfl) rfl (fun K hK => ?_)
            refine step_callW (by kernel_rfl) 56 _ _ rfl enters_56 [.slice va nv vc] (by first | rfl | kernel_rfl | go_simp) (HCV.out _ HX2.out) ?_
            rintro e y3 ⟨u1, rfl, hR, hX⟩
            obtain ⟨a1, c1, rfl, _⟩ := hR.any
            refine ⟨_, rfl, ?_⟩
            have HX3 := Lib.hid (HX2.out.trans' hX)
            have HC3 := Lib.hid (hR.mono HX2.out.sz)
            have HB3 := Lib.hid (hX.hp HB2.out)
            have HY3 := Lib.hid (hX.hp HY2.out)
            clear hR hX
            refine hK.out _ _ ?_ (fun hHeld => ?_)
            · (try dsimp only)
              exact SS.out _ HX3.out
            clear hK K
            try simp only [List.getElem_toArray, List.getElem_cons_zero, List.getElem_cons_succ]
            try simp only [Act.put]
            try simp only [List.setIfInBounds_toArray]
            try simp only [List.set_cons_zero, List.set_cons_succ]
            refine wpAnyU_step (i := 14) (by kernel_rfl) rfl (fun K hK => ?_)
            refine step_append_rowN rfl _ _ 44 rfl ws.heap.size 52 iv (.agg #[.string ⟨#[]⟩, .int .i64 0]) 2 24 Try.underlying44 hiv iv0 iv1 iv2 rfl (by decide) (.slice a1 nv c1) nv xv rfl HC3.out bb 1 [.string s, .int .i64 a0] rfl rfl ⟨_, HB3.out⟩ (by simp [Value.oneCell']) (by unfold maxLen; omega) (by omega) HX3.out.sz ?_
            intro u2 y4 hown hgrow hblk
            obtain ⟨a2, c2, rfl, _⟩ := hown.any
            have HX4 := Lib.hid (HX3.out.gr hgrow (fun q hq => (HC3.out.lt q hq).1))
            have HA4 := Lib.hid hown
            have HY4 := Lib.hid (kept_box HY3.out HC3.out (by decide) hgrow)
            clear hown hgrow hblk
            refine hK.out _ _ ?_ (fun hHeld => ?_)
            · (try dsimp only)
              exact SS.out _ HX4.out
            clear hK K
            try simp only [List.getElem_toArray, List.getElem_cons_zero, List.getElem_cons_succ]
            try simp only [Act.put]
            try simp only [List.setIfInBounds_toArray]
            try simp only [List.set_cons_zero, List.set_cons_succ]
            refine wpAnyU_step (i := 17) (by kernel_rfl) rfl (fun K hK => ?_)
            refine step_callW (by kernel_rfl) 57 _ _ rfl enters_57 [.slice ea ne ec] (by first | rfl | kernel_rfl | go_simp) (HCE.out _ HX4.out) ?_
            rintro e y5 ⟨u3, rfl, hR, hX⟩
            obtain ⟨a3, c3, rfl, _⟩ := hR.any
            refine ⟨_, rfl, ?_⟩
            have HX5 := Lib.hid (HX4.out.trans' hX)
            have HD5 := Lib.hid (hR.mono HX4.out.sz)
            have HA5 := Lib.hid (HA4.out.ext hX)
            have HY5 := Lib.hid (hX.hp HY4.out)
            clear hR hX
            refine hK.out _ _ ?_ (fun hHeld => ?_)
            · (try dsimp only)
              exact SS.out _ HX5.out
            clear hK K
            try simp only [List.getElem_toArray, List.getElem_cons_zero, List.getElem_cons_succ]
            try simp only [Act.put]
            try simp only [List.setIfInBounds_toArray]
            try simp only [List.set_cons_zero, List.set_cons_succ]
            refine wpAnyU_take (i := 18) (d := some 70) (v := ?_) rfl rfl (by kernel_rfl) (by kernel_rfl) (by kernel_rfl) (by kernel_rfl) (fun _ _ _ h => h) (Or.inl ⟨by rfl, ?_⟩) (by assumption) ?_
            rotate_left
            · (intro w hSw; (try dsimp only at hSw); go_simp; try (with_reducible rfl))
            try simp only [Act.put]
            try simp only [List.setIfInBounds_toArray]
            try simp only [List.set_cons_zero, List.set_cons_succ]
            have q0 := cellOf HY5.out 0
            have q1 := cellOf HY5.out 1
            have q2 := cellOf HY5.out 2
            have f0 := freeOf HY5.out 0
            have f1 := freeOf HY5.out 1
            have f2 := freeOf HY5.out 2
            simp only [List.getElem?_toArray, List.getElem?_cons_zero, List.getElem?_cons_succ] at q0 q1 q2
            refine wpAnyU_store (i := 20) (by kernel_rfl) rfl (by decide) (fun K hK => ?_)
            go_simp
            refine hK.out _ _ ?_
            clear hK K
            try simp only [Act.put]
            try simp only [List.setIfInBounds_toArray]
            try simp only [List.set_cons_zero, List.set_cons_succ]
            refine wpAnyU_done (by kernel_rfl) ?_
            go_wp2_with fail
            go_meet
            exact ⟨D, a2, c2, a3, c3, rfl, (show _ = _ from prc_set HY5.out), (show Row _ _ _ _ _ _ _ from (HA5.out.prc HY5.out (by decide)).mono HSW.out), (show Row _ _ _ _ _ _ _ from (HD5.out.prc HY5.out (by decide)).mono HSW.out), (show Ext _ _ from (((HSX.out.trans' HX5.out).st (Nat.le_trans HSW.out HG.out) _).st (Nat.le_trans HSW.out HG.out) _).st (Nat.le_trans HSW.out HG.out) _), (show _ ≤ _ from Nat.le_trans HSW.out HG.out), (show _ = _ from (prc_keep (by have h1 := HSZ.out; have h2 := HG.out; omega) _ _ _).trans (HX5.out.hp HBX.out))⟩
        · skip
          go_simp
          have HG := Lib.hid (show ws.heap.size ≤ y0.heap.size from HX0.out.sz)
          have HX1 := Lib.hid (HX0.out.al (.cells #[.string ⟨#[]⟩, .slice none 0 0, .slice none 0 0] 47))
          have HY1 := Lib.hid (heap_alloc_new y0 (.cells #[.string ⟨#[]⟩, .slice none 0 0, .slice none 0 0] 47))
          refine hK.out _ _ ?_ (fun hHeld => ?_)
          · (try dsimp only)
            exact SS.out _ HX1.out
          clear hK K
          try simp only [List.getElem_toArray, List.getElem_cons_zero, List.getElem_cons_succ]
          try simp only [Act.put]
          try simp only [List.setIfInBounds_toArray]
          try simp only [List.set_cons_zero, List.set_cons_succ]
          generalize hyg : y0.alloc (.cells #[.string ⟨#[]⟩, .slice none 0 0, .slice none 0 0] 47) = y1 at *
          clear hyg
          generalize y0.heap.size = D at *
          refine wpAnyU_ready (rs := [4, 13]) (by kernel_rfl) (by simp) ?_
          refine AllU.cons rfl (fun K hK => ?_) (AllU.cons rfl (fun K hK => ?_) AllU.nil)
          · skip
            refine step_callW (by kernel_rfl) 56 _ _ rfl enters_56 [.slice va nv vc] (by first | rfl | kernel_rfl | go_simp) (HCV.out _ HX1.out) ?_
            rintro e y2 ⟨u1, rfl, hR, hX⟩
            obtain ⟨a1, c1, rfl, _⟩ := hR.any
            refine ⟨_, rfl, ?_⟩
            have HX2 := Lib.hid (HX1.out.trans' hX)
            have HC2 := Lib.hid (hR.mono HX1.out.sz)
            have HY2 := Lib.hid (hX.hp HY1.out)
            clear hR hX
            refine hK.out _ _ ?_ (fun hHeld => ?_)
            · (try dsimp only)
              exact SS.out _ HX2.out
            clear hK K
            try simp only [List.getElem_toArray, List.getElem_cons_zero, List.getElem_cons_succ]
            try simp only [Act.put]
            try simp only [List.setIfInBounds_toArray]
            try simp only [List.set_cons_zero, List.set_cons_succ]
            refine wpAnyU_step (i := 13) (by kernel_rfl) rfl (fun K hK => ?_)
            go_simp
            have HX3 := Lib.hid (HX2.out.al (.cells #[.string s, .int .i64 a0] 52))
            have HB3 := Lib.hid (heap_alloc_new y2 (.cells #[.string s, .int .i64 a0] 52))
            have HC3 := Lib.hid (HC2.out.al (.cells #[.string s, .int .i64 a0] 52))
            have HY3 := Lib.hid (((Ext.rf y2).al (.cells #[.string s, .int .i64 a0] 52)).hp HY2.out)
            refine hK.out _ _ ?_ (fun hHeld => ?_)
            · (try dsimp only)
              exact SS.out _ HX3.out
            clear hK K
            try simp only [List.getElem_toArray, List.getElem_cons_zero, List.getElem_cons_succ]
            try simp only [Act.put]
            try simp only [List.setIfInBounds_toArray]
            try simp only [List.set_cons_zero, List.set_cons_succ]
            generalize hyg : y2.alloc (.cells #[.string s, .int .i64 a0] 52) = y3 at *
            clear hyg
            generalize y2.heap.size = bb at *
            refine wpAnyU_step (i := 14) (by kernel_rfl) rfl (fun K hK => ?_)
            refine step_append_rowN rfl _ _ 44 rfl ws.heap.size 52 iv (.agg #[.string ⟨#[]⟩, .int .i64 0]) 2 24 Try.underlying44 hiv iv0 iv1 iv2 rfl (by decide) (.slice a1 nv c1) nv xv rfl HC3.out bb 1 [.string s, .int .i64 a0] rfl rfl ⟨_, HB3.out⟩ (by simp [Value.oneCell']) (by unfold maxLen; omega) (by omega) HX3.out.sz ?_
            intro u2 y4 hown hgrow hblk
            obtain ⟨a2, c2, rfl, _⟩ := hown.any
            have HX4 := Lib.hid (HX3.out.gr hgrow (fun q hq => (HC3.out.lt q hq).1))
            have HA4 := Lib.hid hown
            have HY4 := Lib.hid (kept_box HY3.out HC3.out (by decide) hgrow)
            clear hown hgrow hblk
            refine hK.out _ _ ?_ (fun hHeld => ?_)
            · (try dsimp only)
              exact SS.out _ HX4.out
            clear hK K
            try simp only [List.getElem_toArray, List.getElem_cons_zero, List.getElem_cons_succ]
            try simp only [Act.put]
            try simp only [List.setIfInBounds_toArray]
            try simp only [List.set_cons_zero, List.set_cons_succ]
            refine wpAnyU_step (i := 17) (by kernel_rfl) rfl (fun K hK => ?_)
            refine step_callW (by kernel_rfl) 57 _ _ rfl enters_57 [.slice ea ne ec] (by first | rfl | kernel_rfl | go_simp) (HCE.out _ HX4.out) ?_
            rintro e y5 ⟨u3, rfl, hR, hX⟩
            obtain ⟨a3, c3, rfl, _⟩ := hR.any
            refine ⟨_, rfl, ?_⟩
            have HX5 := Lib.hid (HX4.out.trans' hX)
            have HD5 := Lib.hid (hR.mono HX4.out.sz)
            have HA5 := Lib.hid (HA4.out.ext hX)
            have HY5 := Lib.hid (hX.hp HY4.out)
            clear hR hX
            refine hK.out _ _ ?_ (fun hHeld => ?_)
            · (try dsimp only)
              exact SS.out _ HX5.out
            clear hK K
            try simp only [List.getElem_toArray, List.getElem_cons_zero, List.getElem_cons_succ]
            try simp only [Act.put]
            try simp only [List.setIfInBounds_toArray]
            try simp only [List.set_cons_zero, List.set_cons_succ]
            refine wpAnyU_take (i := 18) (d := some 70) (v := ?_) rfl rfl (by kernel_rfl) (by kernel_rfl) (by kernel_rfl) (by kernel_rfl) (fun _ _ _ h => h) (Or.inl ⟨by rfl, ?_⟩) (by assumption) ?_
            rotate_left
            · (intro w hSw; (try dsimp only at hSw); go_simp; try (with_reducible rfl))
            try simp only [Act.put]
            try simp only [List.setIfInBounds_toArray]
            try simp only [List.set_cons_zero, List.set_cons_succ]
            have q0 := cellOf HY5.out 0
            have q1 := cellOf HY5.out 1
            have q2 := cellOf HY5.out 2
            have f0 := freeOf HY5.out 0
            have f1 := freeOf HY5.out 1
            have f2 := freeOf HY5.out 2
            simp only [List.getElem?_toArray, List.getElem?_cons_zero, List.getElem?_cons_succ] at q0 q1 q2
            refine wpAnyU_store (i := 20) (by kernel_rfl) rfl (by decide) (fun K hK => ?_)
            go_simp
            refine hK.out _ _ ?_
            clear hK K
            try simp only [Act.put]
            try simp only [List.setIfInBounds_toArray]
            try simp only [List.set_cons_zero, List.set_cons_succ]
            refine wpAnyU_done (by kernel_rfl) ?_
            go_wp2_with fail
            go_meet
            exact ⟨D, a2, c2, a3, c3, rfl, (show _ = _ from prc_set HY5.out), (show Row _ _ _ _ _ _ _ from (HA5.out.prc HY5.out (by decide)).mono HSW.out), (show Row _ _ _ _ _ _ _ from (HD5.out.prc HY5.out (by decide)).mono HSW.out), (show Ext _ _ from (((HSX.out.trans' HX5.out).st (Nat.le_trans HSW.out HG.out) _).st (Nat.le_trans HSW.out HG.out) _).st (Nat.le_trans HSW.out HG.out) _), (show _ ≤ _ from Nat.le_trans HSW.out HG.out), (show _ = _ from (prc_keep (by have h1 := HSZ.out; have h2 := HG.out; omega) _ _ _).trans (HX5.out.hp HBX.out))⟩
          · skip
            go_simp
            have HX2 := Lib.hid (HX1.out.al (.cells #[.string s, .int .i64 a0] 52))
            have HB2 := Lib.hid (heap_alloc_new y1 (.cells #[.string s, .int .i64 a0] 52))
            have HY2 := Lib.hid (((Ext.rf y1).al (.cells #[.string s, .int .i64 a0] 52)).hp HY1.out)
            refine hK.out _ _ ?_ (fun hHeld => ?_)
            · (try dsimp only)
              exact SS.out _ HX2.out
            clear hK K
            try simp only [List.getElem_toArray, List.getElem_cons_zero, List.getElem_cons_succ]
            try simp only [Act.put]
            try simp only [List.setIfInBounds_toArray]
            try simp only [List.set_cons_zero, List.set_cons_succ]
            generalize hyg : y1.alloc (.cells #[.string s, .int .i64 a0] 52) = y2 at *
            clear hyg
            generalize y1.heap.size = bb at *
            refine wpAnyU_step (i := 4) (by kernel_rfl) rfl (fun K hK => ?_)
            refine step_callW (by kernel_rfl) 56 _ _ rfl enters_56 [.slice va nv vc] (by first | rfl | kernel_rfl | go_simp) (HCV.out _ HX2.out) ?_
            rintro e y3 ⟨u1, rfl, hR, hX⟩
            obtain ⟨a1, c1, rfl, _⟩ := hR.any
            refine ⟨_, rfl, ?_⟩
            have HX3 := Lib.hid (HX2.out.trans' hX)
            have HC3 := Lib.hid (hR.mono HX2.out.sz)
            have HB3 := Lib.hid (hX.hp HB2.out)
            have HY3 := Lib.hid (hX.hp HY2.out)
            clear hR hX
            refine hK.out _ _ ?_ (fun hHeld => ?_)
            · (try dsimp only)
              exact SS.out _ HX3.out
            clear hK K
            try simp only [List.getElem_toArray, List.getElem_cons_zero, List.getElem_cons_succ]
            try simp only [Act.put]
            try simp only [List.setIfInBounds_toArray]
            try simp only [List.set_cons_zero, List.set_cons_succ]
            refine wpAnyU_step (i := 14) (by kernel_rfl) rfl (fun K hK => ?_)
            refine step_append_rowN rfl _ _ 44 rfl ws.heap.size 52 iv (.agg #[.string ⟨#[]⟩, .int .i64 0]) 2 24 Try.underlying44 hiv iv0 iv1 iv2 rfl (by decide) (.slice a1 nv c1) nv xv rfl HC3.out bb 1 [.string s, .int .i64 a0] rfl rfl ⟨_, HB3.out⟩ (by simp [Value.oneCell']) (by unfold maxLen; omega) (by omega) HX3.out.sz ?_
            intro u2 y4 hown hgrow hblk
            obtain ⟨a2, c2, rfl, _⟩ := hown.any
            have HX4 := Lib.hid (HX3.out.gr hgrow (fun q hq => (HC3.out.lt q hq).1))
            have HA4 := Lib.hid hown
            have HY4 := Lib.hid (kept_box HY3.out HC3.out (by decide) hgrow)
            clear hown hgrow hblk
            refine hK.out _ _ ?_ (fun hHeld => ?_)
            · (try dsimp only)
              exact SS.out _ HX4.out
            clear hK K
            try simp only [List.getElem_toArray, List.getElem_cons_zero, List.getElem_cons_succ]
            try simp only [Act.put]
            try simp only [List.setIfInBounds_toArray]
            try simp only [List.set_cons_zero, List.set_cons_succ]
            refine wpAnyU_step (i := 17) (by kernel_rfl) rfl (fun K hK => ?_)
            refine step_callW (by kernel_rfl) 57 _ _ rfl enters_57 [.slice ea ne ec] (by first | rfl | kernel_rfl | go_simp) (HCE.out _ HX4.out) ?_
            rintro e y5 ⟨u3, rfl, hR, hX⟩
            obtain ⟨a3, c3, rfl, _⟩ := hR.any
            refine ⟨_, rfl, ?_⟩
            have HX5 := Lib.hid (HX4.out.trans' hX)
            have HD5 := Lib.hid (hR.mono HX4.out.sz)
            have HA5 := Lib.hid (HA4.out.ext hX)
            have HY5 := Lib.hid (hX.hp HY4.out)
            clear hR hX
            refine hK.out _ _ ?_ (fun hHeld => ?_)
            · (try dsimp only)
              exact SS.out _ HX5.out
            clear hK K
            try simp only [List.getElem_toArray, List.getElem_cons_zero, List.getElem_cons_succ]
            try simp only [Act.put]
            try simp only [List.setIfInBounds_toArray]
            try simp only [List.set_cons_zero, List.set_cons_succ]
            refine wpAnyU_take (i := 18) (d := some 70) (v := ?_) rfl rfl (by kernel_rfl) (by kernel_rfl) (by kernel_rfl) (by kernel_rfl) (fun _ _ _ h => h) (Or.inl ⟨by rfl, ?_⟩) (by assumption) ?_
            rotate_left
            · (intro w hSw; (try dsimp only at hSw); go_simp; try (with_reducible rfl))
            try simp only [Act.put]
            try simp only [List.setIfInBounds_toArray]
            try simp only [List.set_cons_zero, List.set_cons_succ]
            have q0 := cellOf HY5.out 0
            have q1 := cellOf HY5.out 1
            have q2 := cellOf HY5.out 2
            have f0 := freeOf HY5.out 0
            have f1 := freeOf HY5.out 1
            have f2 := freeOf HY5.out 2
            simp only [List.getElem?_toArray, List.getElem?_cons_zero, List.getElem?_cons_succ] at q0 q1 q2
            refine wpAnyU_store (i := 20) (by kernel_rfl) rfl (by decide) (fun K hK => ?_)
            go_simp
            refine hK.out _ _ ?_
            clear hK K
            try simp only [Act.put]
            try simp only [List.setIfInBounds_toArray]
            try simp only [List.set_cons_zero, List.set_cons_succ]
            refine wpAnyU_done (by kernel_rfl) ?_
            go_wp2_with fail
            go_meet
            exact ⟨D, a2, c2, a3, c3, rfl, (show _ = _ from prc_set HY5.out), (show Row _ _ _ _ _ _ _ from (HA5.out.prc HY5.out (by decide)).mono HSW.out), (show Row _ _ _ _ _ _ _ from (HD5.out.prc HY5.out (by decide)).mono HSW.out), (show Ext _ _ from (((HSX.out.trans' HX5.out).st (Nat.le_trans HSW.out HG.out) _).st (Nat.le_trans HSW.out HG.out) _).st (Nat.le_trans HSW.out HG.out) _), (show _ ≤ _ from Nat.le_trans HSW.out HG.out), (show _ = _ from (prc_keep (by have h1 := HSZ.out; have h2 := HG.out; omega) _ _ _).trans (HX5.out.hp HBX.out))⟩
      case rest =>
        obtain ⟨D, a2, c2, a3, c3, rfl, HDB, HVR, HER, HEC, HGD, HBX⟩ := hcut
        have HEW3 := Lib.hid (HEW.out.trans' HEC.out)
        have HK0 : Hid (WiK w wo wc D nm (.slice a2 (nv + 1) c2) (.slice a3 ne c3) (vs ++ [⟨s, a0⟩]) (mixV nv lp es 0) 0) := Lib.hid (by
          refine ⟨ua, HDB.out, ?_, ?_, HEC.out⟩
          · show Row _ _ _ _ _ _ _
            rw [List.length_append, List.length_singleton, HNV.out, List.flatMap_append, HXV.out]
            exact HVR.out
          · rw [mixV_zero]
            exact ⟨ecs, by rw [HNE.out]; exact HER.out, HEC2.out, fun j hj => absurd hj (Nat.not_lt_zero _), fun j _ hj => HEC3.out j (by rw [HNE.out] at hj; exact hj)⟩)
        have HXB := Lib.hid HBX.out
        have c11 := cellOf HDB.out 2
        simp only [List.getElem?_toArray, List.getElem?_cons_zero, List.getElem?_cons_succ] at c11
        clear HVR HER HDB HBX t0 n1 v1 e1 s0 r1 d1 hb1 hb2 hb3 hb4 hb5 hb6
        go_wp2
        clear c11
        go_loopg [74] ne (fun g2 s74 wr => ∃ k : Nat, k ≤ ne ∧ ne - k ≤ g2 ∧ s74 = .int .i64 k ∧ Aside (WiK w wo wr D nm (.slice a2 (nv + 1) c2) (.slice a3 ne c3) (vs ++ [⟨s, a0⟩]) (mixV nv lp es k) k) ∧ Aside (wr.heap[wo.heap.size]? = some (.cells #[.string nm, .slice va nv vc, .slice ea ne ec] 47)))
        case atStart => exact ⟨0, Nat.zero_le _, by omega, rfl, (show WiK _ _ _ _ _ _ _ _ _ _ from HK0.out), (show _ = _ from HXB.out)⟩
        case round =>
          obtain ⟨k, hk, hg2, rfl, HK, HBW⟩ := hrel
          by_cases hlk : k < ne
          case neg =>
            have hlkz : ¬ (k : Int) < (ne : Int) := by omega
            obtain rfl : ne = k := by omega
            obtain ⟨vk, hkb, hkv, hke, hkx⟩ := HK.out
            have hoe := hke.done (by rw [mixV_len, HNE.out]; exact Nat.le_refl _)
            rw [HPE.out ne (Nat.le_refl _)] at hoe
            obtain ⟨ps, hpr, hpc, hpx⟩ := HOW.out
            rw [HTL.out] at hpr
            obtain ⟨pb, pcap, rfl, _⟩ := hpr.any
            have HPR := Lib.hid hpr
            have HPC := Lib.hid hpc
            have HPX := Lib.hid hpx
            have HKB := Lib.hid hkb
            have HKV := Lib.hid hkv
            have HKX := Lib.hid hkx
            have HOE := Lib.hid hoe
            have ho := hkx.hp HB8.out
            have HO9 := Lib.hid ho
            have o0 := cellOf ho 0
            have fo := freeOf ho 0
            have x0 := cellOf hkb 0
            have x1 := cellOf hkb 1
            have x2 := cellOf hkb 2
            simp only [List.getElem?_toArray, List.getElem?_cons_zero, List.getElem?_cons_succ] at o0 x0 x1 x2
            have hD0 : D < wr.heap.size := (Array.getElem?_eq_some_iff.1 hkb).1
            have hD1 : D ≠ wr.heap.size := Nat.ne_of_lt hD0
            have h70 : w7.heap.size < wr.heap.size := (Array.getElem?_eq_some_iff.1 ho).1
            have h71 : w7.heap.size ≠ wr.heap.size := Nat.ne_of_lt h70
            have hpm : p ≤ 1000000 := by omega
            have hb71 : w7.heap.size + 1 ≤ wr.heap.size := h70
            clear hkb hkv hke hkx hoe hpr hpc hpx ho HK
            go_wp2_with ((at_builtin; go_loud (refine wpList_append_one rfl _ _ 22 rfl (w7.heap.size + 1) 47 ip (.agg #[.string ⟨#[]⟩, .slice none 0 0, .slice none 0 0]) 3 64 Try.underlying22 hip ip0 ip1 ip2 rfl (by decide) _ p ps rfl ((HPR.out.ext HKX.out).al _) wr.heap.size 1 [.string nm, .slice a2 (nv + 1) c2, .slice a3 ne c3] rfl rfl ⟨_, heap_alloc_new _ _⟩ (by simp [Value.oneCell']) (by unfold maxLen; omega) (by omega) (Nat.le_trans hb71 ((Ext.rf wr).al _).sz) ?_; intro v8 w8 hown8 hgrow8 hblk8; obtain ⟨a8, c8, rfl, _⟩ := hown8.any; have HOWN := Lib.hid hown8; have HG8 := Lib.hid hgrow8; have HOB := Lib.hid (kept_box (((Ext.rf wr).al (.cells #[.string nm, .slice a2 (nv + 1) c2, .slice a3 ne c3] 47)).hp HO9.out) ((HPR.out.ext HKX.out).al _) (by decide) HG8.out); have z2 := cellOf HOB.out 0; have f2 := freeOf HOB.out 0; simp only [List.getElem?_toArray, List.getElem?_cons_zero] at z2; clear hown8 hgrow8 hblk8)))
            go_roundg (m - (p + 1))
            case measure => exact Nat.lt_of_lt_of_le (Nat.sub_lt_sub_left hlt (Nat.lt_succ_self p)) hg
            case rel =>
              have hwA := (Ext.rf wr).al (.cells #[.string nm, .slice a2 (nv + 1) c2, .slice a3 ne c3] 47)
              have hwB : ∀ q, (Value.slice pb p pcap).ownBlock = some q → w7.heap.size ≤ q := fun q hq => by have := (HPR.out.lt q hq).1; omega
              refine ⟨p + 1, hlt, Nat.le_refl _, by go_num, (show WiI w7 _ ((withT s l t).take (p + 1)) from ?_)⟩
              have hE8 : Ext w7 (w8.setCell ⟨w7.heap.size, 0, none⟩ (.slice a8 (p + 1) c8)) := (((HEX.out.trans' HKX.out).trans' hwA).gr HG8.out hwB).st (Nat.le_refl _) _
              have hrest : ∀ q, q < ((withT s l t).take p).length → RowV (wr.alloc (.cells #[.string nm, .slice a2 (nv + 1) c2, .slice a3 ne c3] 47)) (w7.heap.size + 1) (vv q) ((withT s l t).take p)[q]!.vars ∧ OwnE (wr.alloc (.cells #[.string nm, .slice a2 (nv + 1) c2, .slice a3 ne c3] 47)) (w7.heap.size + 1) (ve q) ((withT s l t).take p)[q]!.events (va0 q) := fun q hq => ⟨((HPX.out q hq).1.ext HKX.out).ext hwA, ((HPX.out q hq).2.ext HKX.out).ext hwA⟩
              have hnV : RowV (wr.alloc (.cells #[.string nm, .slice a2 (nv + 1) c2, .slice a3 ne c3] 47)) (w7.heap.size + 1) (.slice a2 (nv + 1) c2) UP.vars := by
                rw [HPV.out]; exact (HKV.out.mono hsz).ext hwA
              have hnE := (HOE.out.mono hsz).ext hwA
              have hown := OwnP.snoc (w' := w8) (v' := .slice a8 (p + 1) c8) (x := UP) (by rw [HTL.out]; exact (HPR.out.ext HKX.out).ext hwA) HPC.out hrest hnV hnE HG8.out (by rw [HTL.out]; simp only [prC3, HPN.out]; exact HOWN.out)
              rw [HTK.out]
              exact ⟨⟨_, _, _, _, by rw [heap_setCell_same HOB.out]; simp, OwnP.stO hown HOB.out (by decide) (by decide) (by decide) (by decide) _⟩, hE8, by rw [size_setCell]; have := HG8.out.size; simp at this; omega⟩
          case pos =>
            have hlkz : (k : Int) < (ne : Int) := by omega
            have hkz : (0 : Int) ≤ (k : Int) := by omega
            obtain ⟨vk, hkb, hkv, hke, hkx⟩ := HK.out
            have HKB := Lib.hid hkb
            have HKV := Lib.hid hkv
            have HKE := Lib.hid hke
            have HKX := Lib.hid hkx
            have HML := Lib.hid (show (mixV nv lp es k).length = ne from by rw [mixV_len]; exact HNE.out)
            obtain ⟨cs, hcr, hce, hca, hcs⟩ := hke
            rw [HML.out] at hcr
            obtain ⟨g, off, cap, he3, hgg1, hgg2, _⟩ := hcr.shape (by omega)
            simp only [Value.slice.injEq] at he3
            obtain ⟨rfl, _, rfl⟩ := he3
            have hcc := hcr.cell (k * 5 + 4) (by omega)
            rw [evC_at hce (by rw [HML.out]; exact hlk)] at hcc
            have hsl := hcs k (Nat.le_refl _) (by rw [HML.out]; exact hlk)
            rw [mixV_here (by rw [HNE.out]; exact hlk)] at hsl
            obtain ⟨ua1, uc1, hva, _⟩ := hsl.sh
            have hna := HNAS.out k hlk
            have HAS := Lib.hid (asgs_cells hsl)
            have HHERE := Lib.hid (mixV_here (nv := nv) (lp := lp) (l := es) (k := k) (by rw [HNE.out]; exact hlk))
            have HSAME := Lib.hid (mixV_same (nv := nv) (lp := lp) (l := es) (k := k))
            have HNEW := Lib.hid (mixV_new (nv := nv) (lp := lp) (l := es) (k := k) (by rw [HNE.out]; exact hlk))
            have hff := hcr.free (off + (k * 5 + 4))
            have HGG := Lib.hid (show wo.heap.size ≤ g from hgg1)
            have hDD : D ≠ g := fun e => by
              have := hcr.notBox HKB.out (by decide)
              exact this (by rw [e]; rfl)
            generalize hAA : es[k]!.asg = al at *
            generalize hnaa : al.length = na at *
            have HNA := Lib.hid hnaa
            have HAA := Lib.hid hAA
            rw [hva] at hcc HAS
            have hcl : cb = cb := rfl
            obtain ⟨cb0, co0, hcbq, _, hx0⟩ := ints_at HII.out k (by rw [HLL.out]; omega)
            obtain ⟨cb1, co1, hcbr, _, hx1⟩ := ints_at HII.out (k + 1) (by rw [HLL.out]; omega)
            simp only [Option.some.injEq, Addr.mk.injEq, and_true] at hcbq hcbr
            obtain ⟨rfl, rfl⟩ := hcbq
            obtain ⟨rfl, rfl⟩ := hcbr
            have HX0 := Lib.hid hx0
            have HX1 := Lib.hid hx1
            generalize lp[k]! = za at *
            generalize lp[k + 1]! = zb at *
            have HCA := Lib.hid (fun W (hW : Ext w W) => clone_casg (.slice ua1 na uc1) na (al.flatMap asC) W (HAS.out.ext hW) (flat_one asC_one _) hna)
            have k2 := cellOf hkb 2
            simp only [List.getElem?_toArray, List.getElem?_cons_zero, List.getElem?_cons_succ] at k2
            clear hkb hkv hkx hcr hce hca hcs hsl hva hAA hnaa hx0 hx1 hcl HK hgg1 hgg2
            go_wp2
            have HET := Lib.hid (show Ext wr wr.drew from (Ext.rf wr).dr)
            have z0 := HET.out.cl k2
            have z1 : wr.drew.cell? ⟨g, off + k * 5 + 4, none⟩ = some (.slice ua1 na uc1) := HET.out.cl hcc
            have z2 : wr.drew.frozen? ⟨g, off + k * 5 + 4, none⟩ = false := hff
            refine wp_region_tail (fun W => W.cell? ⟨D, 2, none⟩ = some (.slice (some ⟨g, off, none⟩) ne c3) ∧ W.cell? ⟨g, off + k * 5 + 4, none⟩ = some (.slice ua1 na uc1)) 12 (by kernel_rfl) ⟨z0, z1⟩ (fun hHeld => ?_)
            generalize wr.drew = wT at *
            refine wpAnyT_take (i := 0) (d := some 77) (v := ?_) rfl rfl (by kernel_rfl) (by kernel_rfl) (by kernel_rfl) (by kernel_rfl) (fun _ _ _ h => h) (Or.inl ⟨by rfl, ?_⟩) (by assumption) ?_
            rotate_left
            · (intro w hSw; (try dsimp only at hSw); go_simp; try (with_reducible rfl))
            try simp only [Act.put]
            try simp only [List.setIfInBounds_toArray]
            try simp only [List.set_cons_zero, List.set_cons_succ]
            refine wpAnyT_take (i := 1) (d := some 78) (v := ?_) rfl rfl (by kernel_rfl) (by kernel_rfl) (by kernel_rfl) (by kernel_rfl) (fun _ _ _ h => h) (Or.inl ⟨by rfl, ?_⟩) (by assumption) ?_
            rotate_left
            · (intro w hSw; (try dsimp only at hSw); go_simp; try (with_reducible rfl))
            try simp only [Act.put]
            try simp only [List.setIfInBounds_toArray]
            try simp only [List.set_cons_zero, List.set_cons_succ]
            refine wpAnyT_take (i := 2) (d := some 79) (v := ?_) rfl rfl (by kernel_rfl) (by kernel_rfl) (by kernel_rfl) (by kernel_rfl) (fun _ _ _ h => h) (Or.inl ⟨by rfl, ?_⟩) (by assumption) ?_
            rotate_left
            · (intro w hSw; (try dsimp only at hSw); go_simp; try (with_reducible rfl))
            try simp only [Act.put]
            try simp only [List.setIfInBounds_toArray]
            try simp only [List.set_cons_zero, List.set_cons_succ]
            refine wpAnyT_take (i := 3) (d := some 80) (v := ?_) rfl rfl (by kernel_rfl) (by kernel_rfl) (by kernel_rfl) (by kernel_rfl) (fun _ _ _ h => h) (Or.inl ⟨by rfl, ?_⟩) (by assumption) ?_
            rotate_left
            · (intro w hSw; (try dsimp only at hSw); go_simp; try (with_reducible rfl))
            try simp only [Act.put]
            try simp only [List.setIfInBounds_toArray]
            try simp only [List.set_cons_zero, List.set_cons_succ]
            refine wpAnyT_take (i := 4) (d := some 81) (v := ?_) rfl rfl (by kernel_rfl) (by kernel_rfl) (by kernel_rfl) (by kernel_rfl) (fun _ _ _ h => h) (Or.inl ⟨by rfl, ?_⟩) (by assumption) ?_
            rotate_left
            · (intro w hSw; (try dsimp only at hSw); go_simp; try (with_reducible rfl))
            try simp only [Act.put]
            try simp only [List.setIfInBounds_toArray]
            try simp only [List.set_cons_zero, List.set_cons_succ]
            refine wpAnyT_take (i := 5) (d := some 82) (v := ?_) rfl rfl (by kernel_rfl) (by kernel_rfl) (by kernel_rfl) (by kernel_rfl) (fun _ _ _ h => h) (Or.inl ⟨by rfl, ?_⟩) (by assumption) ?_
            rotate_left
            · (intro w hSw; (try dsimp only at hSw); go_simp; try (with_reducible rfl))
            try simp only [Act.put]
            try simp only [List.setIfInBounds_toArray]
            try simp only [List.set_cons_zero, List.set_cons_succ]
            refine wpAnyT_take (i := 6) (d := some 83) (v := ?_) rfl rfl (by kernel_rfl) (by kernel_rfl) (by kernel_rfl) (by kernel_rfl) (fun _ _ _ h => h) (Or.inl ⟨by rfl, ?_⟩) (by assumption) ?_
            rotate_left
            · (intro w hSw; (try dsimp only at hSw); go_simp; try (with_reducible rfl))
            try simp only [Act.put]
            try simp only [List.setIfInBounds_toArray]
            try simp only [List.set_cons_zero, List.set_cons_succ]
            refine wpAnyT_take (i := 7) (d := some 84) (v := ?_) rfl rfl (by kernel_rfl) (by kernel_rfl) (by kernel_rfl) (by kernel_rfl) (fun _ _ _ h => h) (Or.inl ⟨by rfl, ?_⟩) (by assumption) ?_
            rotate_left
            · (intro w hSw; (try dsimp only at hSw); go_simp; try (with_reducible rfl))
            try simp only [Act.put]
            try simp only [List.setIfInBounds_toArray]
            try simp only [List.set_cons_zero, List.set_cons_succ]
            refine wpAnyT_take (i := 8) (d := some 85) (v := ?_) rfl rfl (by kernel_rfl) (by kernel_rfl) (by kernel_rfl) (by kernel_rfl) (fun _ _ _ h => h) (Or.inl ⟨by rfl, ?_⟩) (by assumption) ?_
            rotate_left
            · (intro w hSw; (try dsimp only at hSw); go_simp; try (with_reducible rfl))
            try simp only [Act.put]
            try simp only [List.setIfInBounds_toArray]
            try simp only [List.set_cons_zero, List.set_cons_succ]
            refine wpAnyT_step (i := 9) (by kernel_rfl) rfl (fun K hK => ?_)
            refine step_callW (by kernel_rfl) 58 _ _ rfl enters_58 [.slice ua1 na uc1] (by first | rfl | kernel_rfl | go_simp) (HCA.out _ (HEW.out.trans' (HKX.out.trans' HET.out))) ?_
            rintro e y1 ⟨u1, rfl, hR, hX⟩
            obtain ⟨b1, d1, rfl, _⟩ := hR.any
            refine ⟨_, rfl, ?_⟩
            have HXC := Lib.hid (HET.out.trans' hX)
            have HYT := Lib.hid hX.sz
            have HU1 := Lib.hid hR
            have w0 := hX.cl z0
            have w1' : y1.cell? ⟨g, off + k * 5 + 4, none⟩ = some (.slice ua1 na uc1) := hX.cl z1
            have HKE1 := Lib.hid (HKE.out.ext HXC.out)
            have w2' : y1.frozen? ⟨g, off + k * 5 + 4, none⟩ = false := by
              obtain ⟨_, hr1, _⟩ := HKE1.out
              rw [HML.out] at hr1
              exact hr1.free _
            clear hR hX z0 z1 z2 k2 hcc hff
            refine hK.out _ _ ?_ (fun hHeld => ?_)
            · (try dsimp only)
              exact ⟨w0, w1'⟩
            clear hK K
            try simp only [Act.put]
            try simp only [List.setIfInBounds_toArray]
            try simp only [List.set_cons_zero, List.set_cons_succ]
            refine wpAnyT_take (i := 10) (d := some 87) (v := ?_) rfl rfl (by kernel_rfl) (by kernel_rfl) (by kernel_rfl) (by kernel_rfl) (fun _ _ _ h => h) (Or.inl ⟨by rfl, ?_⟩) (by assumption) ?_
            rotate_left
            · (intro w hSw; (try dsimp only at hSw); go_simp; try (with_reducible rfl))
            try simp only [Act.put]
            try simp only [List.setIfInBounds_toArray]
            try simp only [List.set_cons_zero, List.set_cons_succ]
            refine wpAnyT_take (i := 11) (d := some 88) (v := ?_) rfl rfl (by kernel_rfl) (by kernel_rfl) (by kernel_rfl) (by kernel_rfl) (fun _ _ _ h => h) (Or.inl ⟨by rfl, ?_⟩) (by assumption) ?_
            rotate_left
            · (intro w hSw; (try dsimp only at hSw); go_simp; try (with_reducible rfl))
            try simp only [Act.put]
            try simp only [List.setIfInBounds_toArray]
            try simp only [List.set_cons_zero, List.set_cons_succ]
            refine wpAnyT_last (by kernel_rfl) rfl (by kernel_rfl) (fun K hK => ?_)
            go_simp
            refine hK.out _ _ ?_
            have HKE2 := Lib.hid (show MixE w (y1.setCell ⟨g, off + k * 5 + 4, none⟩ (.slice b1 na d1)) wo.heap.size (.slice (some ⟨g, off, none⟩) ne c3) (mixV nv lp es k) (k + 1) (updV vk k (.slice b1 na d1)) from by
              have h0 := HKE1.out
              have hm := HML.out
              rw [← hm] at h0 ⊢
              refine h0.put (by rw [hm]; exact hlk) ?_
              rw [HHERE.out, HAA.out]
              have := HU1.out.mono (base' := wo.heap.size) (Nat.le_trans HKX.out.sz HET.out.sz)
              show Row _ _ _ _ _ _ _
              rw [HNA.out]
              exact this)
            obtain ⟨curE, frE, hgE⟩ : ∃ cur fr, y1.heap[g]? = some (.cells cur 55 fr) := by
              obtain ⟨_, hr1, _⟩ := HKE1.out
              exact hr1.at_heap
            have HU2 := Lib.hid (HU1.out.stO (o := off + k * 5 + 4) hgE (by decide) (.slice b1 na d1))
            have HKX2 := Lib.hid ((HKX.out.trans' HXC.out).st (p := ⟨g, off + k * 5 + 4, none⟩) HGG.out (.slice b1 na d1))
            have HKB2 := Lib.hid (show (y1.setCell ⟨g, off + k * 5 + 4, none⟩ (.slice b1 na d1)).heap[D]? = _ from (Below.heap_setCell y1 ⟨g, off + k * 5 + 4, none⟩ _ D hDD).trans (HXC.out.hp HKB.out))
            have hgw : wo.heap.size ≠ g := fun e => by
              rw [← e, HXC.out.hp HBW.out] at hgE
              simp at hgE
            have HBW2 := Lib.hid (show (y1.setCell ⟨g, off + k * 5 + 4, none⟩ (.slice b1 na d1)).heap[wo.heap.size]? = _ from (Below.heap_setCell y1 ⟨g, off + k * 5 + 4, none⟩ _ _ hgw).trans (HXC.out.hp HBW.out))
            have HKV2 := Lib.hid (show RowV (y1.setCell ⟨g, off + k * 5 + 4, none⟩ (.slice b1 na d1)) wo.heap.size (.slice a2 (nv + 1) c2) (vs ++ [⟨s, a0⟩]) from by
              exact (HKV.out.ext HXC.out).stO hgE (by decide) _)
            have hTS : wT.heap.size ≤ wT.heap.size := Nat.le_refl _
            have hdis : ∀ j, j < k → Dis (updV vk k (.slice b1 na d1) j) (updV vk k (.slice b1 na d1) k) := fun j hj => by
              rw [updV_at, updV_ne (by omega)]
              obtain ⟨_, _, _, hr3, _⟩ := HKE.out.ext HET.out
              exact dis_new (hr3 j hj (by rw [HML.out]; omega)) HU1.out (Nat.le_refl _)
            have HDIS := Lib.hid hdis
            have HXS := Lib.hid (show wT.heap.size ≤ (y1.setCell ⟨g, off + k * 5 + 4, none⟩ (.slice b1 na d1)).heap.size from by rw [size_setCell]; exact HYT.out)
            have HTW := Lib.hid (show wo.heap.size ≤ wT.heap.size from Nat.le_trans HKX.out.sz HET.out.sz)
            generalize hW2 : y1.setCell ⟨g, off + k * 5 + 4, none⟩ (.slice b1 na d1) = W2 at *
            clear hW2 hdis w0 w1' w2' hgw hTS hgE
            have HEW5 := Lib.hid (HEW.out.trans' HKX2.out)
            have r1 := HEW5.out.cl HR1.out
            have x0 := HEW5.out.cl HX0.out
            have x1 := HEW5.out.cl HX1.out
            have hk1z : (0 : Int) ≤ (k : Int) + 1 := by omega
            have hkm : (k : Int) < (ml : Int) := by omega
            have hk1m : (k : Int) + 1 < (ml : Int) := by omega
            have hwk : IntKind.i64.wrap ((k : Int) + 1) = (k : Int) + 1 := IntWalk.i64_in _ (by omega)
            obtain ⟨q, hq⟩ : ∃ q, (zb != za) = q := ⟨_, rfl⟩
            have HQQ := Lib.hid hq
            cases q with
            | false =>
              have HSM2 := Lib.hid (HSAME.out (by have := HQQ.out; simpa using this))
              go_wp2
              go_quiet (fail)
              have HQ4 := Lib.hid (show Ext W2 (W2.drewN nq) from (Ext.rf W2).drN _)
              go_wp2
              go_roundg (ne - (k + 1))
              case measure => exact Nat.lt_of_lt_of_le (Nat.sub_lt_sub_left hlk (Nat.lt_succ_self k)) hg2
              case rel =>
                exact ⟨k + 1, hlk, Nat.le_refl _, by go_num, (show WiK w wo _ D nm (.slice a2 (nv + 1) c2) (.slice (some ⟨g, off, none⟩) ne c3) (vs ++ [⟨s, a0⟩]) (mixV nv lp es (k + 1)) (k + 1) from ⟨updV vk k (.slice b1 na d1), HQ4.out.hp HKB2.out, HKV2.out.ext HQ4.out, by rw [HSM2.out]; exact HKE2.out.ext HQ4.out, HKX2.out.trans' HQ4.out⟩), (show _ = _ from HQ4.out.hp HBW2.out)⟩
            | true =>
              have HNW2 := Lib.hid (HNEW.out (by have := HQQ.out; simpa using this))
              have HNA2 := Lib.hid hna
              go_wp2
              go_quiet (fail)
              have HQ3 := Lib.hid (show Ext W2 (W2.drewN nq) from (Ext.rf W2).drN _)
              generalize W2.drewN nq = W3 at *
              have HKE3 := Lib.hid (HKE2.out.ext HQ3.out)
              have HU3 := Lib.hid (HU2.out.ext HQ3.out)
              have HKX3 := Lib.hid (HKX2.out.trans' HQ3.out)
              have HKB3 := Lib.hid (HQ3.out.hp HKB2.out)
              have HBW3 := Lib.hid (HQ3.out.hp HBW2.out)
              have HKV3 := Lib.hid (HKV2.out.ext HQ3.out)
              have HEW6 := Lib.hid (HEW.out.trans' HKX3.out)
              have HTS := Lib.hid (show wT.heap.size ≤ W3.heap.size from Nat.le_trans (show wT.heap.size ≤ W2.heap.size from by have h1 := HXS.out; exact h1) HQ3.out.sz)
              clear r1 x0 x1 hq
              go_wp2
              have HES := Lib.hid (show Ext W3 W3.drew from (Ext.rf W3).dr)
              have k2 := cellOf (HES.out.hp HKB3.out) 2
              have k1 := cellOf (HES.out.hp HBW3.out) 1
              simp only [List.getElem?_toArray, List.getElem?_cons_zero, List.getElem?_cons_succ] at k1 k2
              have HRR := Lib.hid (show ∃ cs, Row W3 wo.heap.size 55 5 (.slice (some ⟨g, off, none⟩) ne c3) ne cs ∧ cs[k * 5 + 4]? = some (.slice b1 na d1) from by
                obtain ⟨cs, hr, he, _⟩ := HKE3.out
                rw [HML.out] at hr
                exact ⟨cs, hr, by rw [evC_at he (by rw [HML.out]; exact hlk), updV_at]⟩)
              obtain ⟨cs3, hr3, he3⟩ := HRR.out
              have HR3 := Lib.hid hr3
              have HC3 := Lib.hid he3
              have kg : W3.drew.cell? ⟨g, off + k * 5 + 4, none⟩ = some (.slice b1 na d1) := by
                have := (hr3.ext HES.out).cell (k * 5 + 4) (by omega)
                rw [he3] at this; exact this
              have r1 := (HEW6.out.trans' HES.out).cl HR1.out
              have x1 := (HEW6.out.trans' HES.out).cl HX1.out
              have SS : Hid (∀ W, Ext W3.drew W → W.cell? ⟨D, 2, none⟩ = some (.slice (some ⟨g, off, none⟩) ne c3) ∧ W.cell? ⟨g, off + k * 5 + 4, none⟩ = some (.slice b1 na d1) ∧ W.cell? ⟨wo.heap.size, 1, none⟩ = some (.slice va nv vc) ∧ W.cell? ⟨rb, ro + p, none⟩ = some (.slice (some ⟨cb, co, none⟩) ml sc) ∧ W.cell? ⟨cb, co + (k + 1), none⟩ = some (.int .i64 zb)) := Lib.hid (fun W hW => ⟨hW.cl k2, hW.cl kg, hW.cl k1, hW.cl r1, hW.cl x1⟩)
              clear hr3 he3 k1 k2 kg r1 x1
              refine wp_region_tail (fun W => W.cell? ⟨D, 2, none⟩ = some (.slice (some ⟨g, off, none⟩) ne c3) ∧ W.cell? ⟨g, off + k * 5 + 4, none⟩ = some (.slice b1 na d1) ∧ W.cell? ⟨wo.heap.size, 1, none⟩ = some (.slice va nv vc) ∧ W.cell? ⟨rb, ro + p, none⟩ = some (.slice (some ⟨cb, co, none⟩) ml sc) ∧ W.cell? ⟨cb, co + (k + 1), none⟩ = some (.int .i64 zb)) 25 (by kernel_rfl) (SS.out _ (Ext.rf _)) (fun hHeld => ?_)
              generalize W3.drew = wS at *
              refine wpAnyT_take (i := 0) (d := some 105) (v := ?_) rfl rfl (by kernel_rfl) (by kernel_rfl) (by kernel_rfl) (by kernel_rfl) (fun _ _ _ h => h) (Or.inl ⟨by rfl, ?_⟩) (by assumption) ?_
              rotate_left
              · (intro w hSw; (try dsimp only at hSw); go_simp; try (with_reducible rfl))
              try simp only [Act.put]
              try simp only [List.setIfInBounds_toArray]
              try simp only [List.set_cons_zero, List.set_cons_succ]
              refine wpAnyT_take (i := 1) (d := some 106) (v := ?_) rfl rfl (by kernel_rfl) (by kernel_rfl) (by kernel_rfl) (by kernel_rfl) (fun _ _ _ h => h) (Or.inl ⟨by rfl, ?_⟩) (by assumption) ?_
              rotate_left
              · (intro w hSw; (try dsimp only at hSw); go_simp; try (with_reducible rfl))
              try simp only [Act.put]
              try simp only [List.setIfInBounds_toArray]
              try simp only [List.set_cons_zero, List.set_cons_succ]
              refine wpAnyT_take (i := 2) (d := some 107) (v := ?_) rfl rfl (by kernel_rfl) (by kernel_rfl) (by kernel_rfl) (by kernel_rfl) (fun _ _ _ h => h) (Or.inl ⟨by rfl, ?_⟩) (by assumption) ?_
              rotate_left
              · (intro w hSw; (try dsimp only at hSw); go_simp; try (with_reducible rfl))
              try simp only [Act.put]
              try simp only [List.setIfInBounds_toArray]
              try simp only [List.set_cons_zero, List.set_cons_succ]
              refine wpAnyT_take (i := 3) (d := some 108) (v := ?_) rfl rfl (by kernel_rfl) (by kernel_rfl) (by kernel_rfl) (by kernel_rfl) (fun _ _ _ h => h) (Or.inl ⟨by rfl, ?_⟩) (by assumption) ?_
              rotate_left
              · (intro w hSw; (try dsimp only at hSw); go_simp; try (with_reducible rfl))
              try simp only [Act.put]
              try simp only [List.setIfInBounds_toArray]
              try simp only [List.set_cons_zero, List.set_cons_succ]
              refine wpAnyT_take (i := 4) (d := some 109) (v := ?_) rfl rfl (by kernel_rfl) (by kernel_rfl) (by kernel_rfl) (by kernel_rfl) (fun _ _ _ h => h) (Or.inl ⟨by rfl, ?_⟩) (by assumption) ?_
              rotate_left
              · (intro w hSw; (try dsimp only at hSw); go_simp; try (with_reducible rfl))
              try simp only [Act.put]
              try simp only [List.setIfInBounds_toArray]
              try simp only [List.set_cons_zero, List.set_cons_succ]
              refine wpAnyT_take (i := 5) (d := some 110) (v := ?_) rfl rfl (by kernel_rfl) (by kernel_rfl) (by kernel_rfl) (by kernel_rfl) (fun _ _ _ h => h) (Or.inl ⟨by rfl, ?_⟩) (by assumption) ?_
              rotate_left
              · (intro w hSw; (try dsimp only at hSw); go_simp; try (with_reducible rfl))
              try simp only [Act.put]
              try simp only [List.setIfInBounds_toArray]
              try simp only [List.set_cons_zero, List.set_cons_succ]
              refine wpAnyT_take (i := 6) (d := some 111) (v := ?_) rfl rfl (by kernel_rfl) (by kernel_rfl) (by kernel_rfl) (by kernel_rfl) (fun _ _ _ h => h) (Or.inl ⟨by rfl, ?_⟩) (by assumption) ?_
              rotate_left
              · (intro w hSw; (try dsimp only at hSw); go_simp; try (with_reducible rfl))
              try simp only [Act.put]
              try simp only [List.setIfInBounds_toArray]
              try simp only [List.set_cons_zero, List.set_cons_succ]
              refine wpAnyT_take (i := 7) (d := some 112) (v := ?_) rfl rfl (by kernel_rfl) (by kernel_rfl) (by kernel_rfl) (by kernel_rfl) (fun _ _ _ h => h) (Or.inl ⟨by rfl, ?_⟩) (by assumption) ?_
              rotate_left
              · (intro w hSw; (try dsimp only at hSw); go_simp; try (with_reducible rfl))
              try simp only [Act.put]
              try simp only [List.setIfInBounds_toArray]
              try simp only [List.set_cons_zero, List.set_cons_succ]
              refine wpAnyT_take (i := 8) (d := some 113) (v := ?_) rfl rfl (by kernel_rfl) (by kernel_rfl) (by kernel_rfl) (by kernel_rfl) (fun _ _ _ h => h) (Or.inl ⟨by rfl, ?_⟩) (by assumption) ?_
              rotate_left
              · (intro w hSw; (try dsimp only at hSw); go_simp; try (with_reducible rfl))
              try simp only [Act.put]
              try simp only [List.setIfInBounds_toArray]
              try simp only [List.set_cons_zero, List.set_cons_succ]
              refine wpAnyT_take (i := 9) (d := some 114) (v := ?_) rfl rfl (by kernel_rfl) (by kernel_rfl) (by kernel_rfl) (by kernel_rfl) (fun _ _ _ h => h) (Or.inl ⟨by rfl, ?_⟩) (by assumption) ?_
              rotate_left
              · (intro w hSw; (try dsimp only at hSw); go_simp; try (with_reducible rfl))
              try simp only [Act.put]
              try simp only [List.setIfInBounds_toArray]
              try simp only [List.set_cons_zero, List.set_cons_succ]
              refine wpAnyT_take (i := 10) (d := some 115) (v := ?_) rfl rfl (by kernel_rfl) (by kernel_rfl) (by kernel_rfl) (by kernel_rfl) (fun _ _ _ h => h) (Or.inl ⟨by rfl, ?_⟩) (by assumption) ?_
              rotate_left
              · (intro w hSw; (try dsimp only at hSw); go_simp; try (with_reducible rfl))
              try simp only [Act.put]
              try simp only [List.setIfInBounds_toArray]
              try simp only [List.set_cons_zero, List.set_cons_succ]
              refine wpAnyT_take (i := 11) (d := some 116) (v := ?_) rfl rfl (by kernel_rfl) (by kernel_rfl) (by kernel_rfl) (by kernel_rfl) (fun _ _ _ h => h) (Or.inl ⟨by rfl, ?_⟩) (by assumption) ?_
              rotate_left
              · (intro w hSw; (try dsimp only at hSw); go_simp; try (with_reducible rfl))
              try simp only [Act.put]
              try simp only [List.setIfInBounds_toArray]
              try simp only [List.set_cons_zero, List.set_cons_succ]
              refine wpAnyT_take (i := 12) (d := some 117) (v := ?_) rfl rfl (by kernel_rfl) (by kernel_rfl) (by kernel_rfl) (by kernel_rfl) (fun _ _ _ h => h) (Or.inl ⟨by rfl, ?_⟩) (by assumption) ?_
              rotate_left
              · (intro w hSw; (try dsimp only at hSw); go_simp; try (with_reducible rfl))
              try simp only [Act.put]
              try simp only [List.setIfInBounds_toArray]
              try simp only [List.set_cons_zero, List.set_cons_succ]
              refine wpAnyT_take (i := 13) (d := some 118) (v := ?_) rfl rfl (by kernel_rfl) (by kernel_rfl) (by kernel_rfl) (by kernel_rfl) (fun _ _ _ h => h) (Or.inl ⟨by rfl, ?_⟩) (by assumption) ?_
              rotate_left
              · (intro w hSw; (try dsimp only at hSw); go_simp; try (with_reducible rfl))
              try simp only [Act.put]
              try simp only [List.setIfInBounds_toArray]
              try simp only [List.set_cons_zero, List.set_cons_succ]
              refine wpAnyT_take (i := 14) (d := some 119) (v := ?_) rfl rfl (by kernel_rfl) (by kernel_rfl) (by kernel_rfl) (by kernel_rfl) (fun _ _ _ h => h) (Or.inl ⟨by rfl, ?_⟩) (by assumption) ?_
              rotate_left
              · (intro w hSw; (try dsimp only at hSw); go_simp; try (with_reducible rfl))
              try simp only [Act.put]
              try simp only [List.setIfInBounds_toArray]
              try simp only [List.set_cons_zero, List.set_cons_succ]
              refine wpAnyT_take (i := 15) (d := some 120) (v := ?_) rfl rfl (by kernel_rfl) (by kernel_rfl) (by kernel_rfl) (by kernel_rfl) (fun _ _ _ h => h) (Or.inl ⟨by rfl, ?_⟩) (by assumption) ?_
              rotate_left
              · (intro w hSw; (try dsimp only at hSw); go_simp; try (with_reducible rfl))
              try simp only [Act.put]
              try simp only [List.setIfInBounds_toArray]
              try simp only [List.set_cons_zero, List.set_cons_succ]
              refine wpAnyT_take (i := 16) (d := some 121) (v := ?_) rfl rfl (by kernel_rfl) (by kernel_rfl) (by kernel_rfl) (by kernel_rfl) (fun _ _ _ h => h) (Or.inl ⟨by rfl, ?_⟩) (by assumption) ?_
              rotate_left
              · (intro w hSw; (try dsimp only at hSw); go_simp; try (with_reducible rfl))
              try simp only [Act.put]
              try simp only [List.setIfInBounds_toArray]
              try simp only [List.set_cons_zero, List.set_cons_succ]
              refine wpAnyT_take (i := 17) (d := some 122) (v := ?_) rfl rfl (by kernel_rfl) (by kernel_rfl) (by kernel_rfl) (by kernel_rfl) (fun _ _ _ h => h) (Or.inl ⟨by rfl, ?_⟩) (by assumption) ?_
              rotate_left
              · (intro w hSw; (try dsimp only at hSw); go_simp; try (with_reducible rfl))
              try simp only [Act.put]
              try simp only [List.setIfInBounds_toArray]
              try simp only [List.set_cons_zero, List.set_cons_succ]
              refine wpAnyT_take (i := 18) (d := some 123) (v := ?_) rfl rfl (by kernel_rfl) (by kernel_rfl) (by kernel_rfl) (by kernel_rfl) (fun _ _ _ h => h) (Or.inl ⟨by rfl, ?_⟩) (by assumption) ?_
              rotate_left
              · (intro w hSw; (try dsimp only at hSw); go_simp; try (with_reducible rfl))
              try simp only [Act.put]
              try simp only [List.setIfInBounds_toArray]
              try simp only [List.set_cons_zero, List.set_cons_succ]
              refine wpAnyT_take (i := 19) (d := some 124) (v := ?_) rfl rfl (by kernel_rfl) (by kernel_rfl) (by kernel_rfl) (by kernel_rfl) (fun _ _ _ h => h) (Or.inl ⟨by rfl, ?_⟩) (by assumption) ?_
              rotate_left
              · (intro w hSw; (try dsimp only at hSw); go_simp; try (with_reducible rfl))
              try simp only [Act.put]
              try simp only [List.setIfInBounds_toArray]
              try simp only [List.set_cons_zero, List.set_cons_succ]
              refine wpAnyT_take (i := 20) (d := some 125) (v := ?_) rfl rfl (by kernel_rfl) (by kernel_rfl) (by kernel_rfl) (by kernel_rfl) (fun _ _ _ h => h) (Or.inl ⟨by rfl, ?_⟩) (by assumption) ?_
              rotate_left
              · (intro w hSw; (try dsimp only at hSw); go_simp; try (with_reducible rfl))
              try simp only [Act.put]
              try simp only [List.setIfInBounds_toArray]
              try simp only [List.set_cons_zero, List.set_cons_succ]
              refine wpAnyT_step (i := 21) (by kernel_rfl) rfl (fun K hK => ?_)
              go_simp
              refine hK.out _ _ ?_ (fun hHeld => ?_)
              · (try dsimp only)
                exact SS.out _ ((Ext.rf _).al _)
              clear hK K
              try simp only [Act.put]
              try simp only [List.setIfInBounds_toArray]
              try simp only [List.set_cons_zero, List.set_cons_succ]
              have HAL := Lib.hid (HES.out.al (.cells #[.int .i64 (nv : Int), .int .i64 zb] 57))
              have HBL := Lib.hid (heap_alloc_new wS (.cells #[.int .i64 (nv : Int), .int .i64 zb] 57))
              generalize hwA : wS.alloc (.cells #[.int .i64 (nv : Int), .int .i64 zb] 57) = wA at *
              generalize wS.heap.size = bs at *
              clear hwA
              refine wpAnyT_step (i := 22) (by kernel_rfl) rfl (fun K hK => ?_)
              refine step_append_rowN rfl _ _ 53 rfl wT.heap.size 57 ia (.agg #[.int .i64 0, .int .i64 0]) 2 16 Try.underlying53 hia ia0 ia1 ia2 rfl (by decide) (.slice b1 na d1) na (al.flatMap asC) rfl (HU3.out.ext HAL.out) bs 1 [.int .i64 (nv : Int), .int .i64 zb] rfl rfl ⟨_, HBL.out⟩ (by simp [Value.oneCell']) (by unfold maxLen; omega) (by omega) (Nat.le_trans HTS.out HAL.out.sz) ?_
              intro v8 w8 hown8 hgrow8 hblk8
              obtain ⟨a8, c8, rfl, _⟩ := hown8.any
              have HOWN8 := Lib.hid hown8
              have HGR8 := Lib.hid hgrow8
              have hUA := HU3.out.ext HAL.out
              have HX8 := Lib.hid ((HKX3.out.trans' HAL.out).gr hgrow8 (fun q hq => by have := (hUA.lt q hq).1; have := HTW.out; omega))
              have HD8 := Lib.hid (kept_box3 (HAL.out.hp HKB3.out) hUA (by decide) hgrow8)
              have HB8W := Lib.hid (kept_box3 (HAL.out.hp HBW3.out) hUA (by decide) hgrow8)
              have HR8 := Lib.hid ((HR3.out.ext HAL.out).grown hgrow8 ((HR3.out.ext HAL.out).apart hUA (by decide)))
              have j2 := cellOf HD8.out 2
              have j1 := cellOf HB8W.out 1
              simp only [List.getElem?_toArray, List.getElem?_cons_zero, List.getElem?_cons_succ] at j1 j2
              have jg : w8.cell? ⟨g, off + k * 5 + 4, none⟩ = some (.slice b1 na d1) := by
                have := HR8.out.cell (k * 5 + 4) (by omega)
                rw [HC3.out] at this; exact this
              have jf : w8.frozen? ⟨g, off + k * 5 + 4, none⟩ = false := HR8.out.free _
              have jr := (HEW.out.trans' HX8.out).cl HR1.out
              have jx := (HEW.out.trans' HX8.out).cl HX1.out
              clear hown8 hgrow8 hblk8 hUA
              refine hK.out _ _ ?_ (fun hHeld => ?_)
              · (try dsimp only)
                exact ⟨j2, jg, j1, jr, jx⟩
              clear hK K
              try simp only [Act.put]
              try simp only [List.setIfInBounds_toArray]
              try simp only [List.set_cons_zero, List.set_cons_succ]
              refine wpAnyT_take (i := 23) (d := some 128) (v := ?_) rfl rfl (by kernel_rfl) (by kernel_rfl) (by kernel_rfl) (by kernel_rfl) (fun _ _ _ h => h) (Or.inl ⟨by rfl, ?_⟩) (by assumption) ?_
              rotate_left
              · (intro w hSw; (try dsimp only at hSw); go_simp; try (with_reducible rfl))
              try simp only [Act.put]
              try simp only [List.setIfInBounds_toArray]
              try simp only [List.set_cons_zero, List.set_cons_succ]
              refine wpAnyT_take (i := 24) (d := some 129) (v := ?_) rfl rfl (by kernel_rfl) (by kernel_rfl) (by kernel_rfl) (by kernel_rfl) (fun _ _ _ h => h) (Or.inl ⟨by rfl, ?_⟩) (by assumption) ?_
              rotate_left
              · (intro w hSw; (try dsimp only at hSw); go_simp; try (with_reducible rfl))
              try simp only [Act.put]
              try simp only [List.setIfInBounds_toArray]
              try simp only [List.set_cons_zero, List.set_cons_succ]
              refine wpAnyT_last (by kernel_rfl) rfl (by kernel_rfl) (fun K hK => ?_)
              go_simp
              refine hK.out _ _ ?_
              go_wp2_with fail
              go_roundg (ne - (k + 1))
              case measure => exact Nat.lt_of_lt_of_le (Nat.sub_lt_sub_left hlk (Nat.lt_succ_self k)) hg2
              case rel =>
                have hgc := HR8.out.at_heap
                obtain ⟨cur, fr, hgc⟩ := hgc
                have hwg : wo.heap.size ≠ g := fun e => by rw [← e, HB8W.out] at hgc; simp at hgc
                refine ⟨k + 1, hlk, Nat.le_refl _, by go_num, (show WiK w wo _ D nm (.slice a2 (nv + 1) c2) (.slice (some ⟨g, off, none⟩) ne c3) (vs ++ [⟨s, a0⟩]) (mixV nv lp es (k + 1)) (k + 1) from ⟨updV (updV vk k (.slice b1 na d1)) k (.slice a8 (na + 1) c8), ?_, ?_, ?_, ?_⟩), ?_⟩
                · exact (Below.heap_setCell w8 ⟨g, off + k * 5 + 4, none⟩ _ D hDD).trans HD8.out
                · have hv9 := HKV3.out.ext HAL.out
                  exact (hv9.grown HGR8.out (hv9.apart (HU3.out.ext HAL.out) (by decide))).stO hgc (by decide) _
                · have hm := HML.out
                  have h9 := HKE3.out.ext HAL.out
                  rw [HNW2.out]
                  rw [← hm] at h9 ⊢
                  refine MixE.app (b := al ++ [⟨(nv : Int), zb⟩]) ?_ (by rw [hm]; exact hlk) HDIS.out (by rw [updV_at]; exact HGR8.out) ?_
                  · exact h9
                  · have h10 := HOWN8.out.mono (base' := wo.heap.size) HTW.out
                    show Row _ _ _ _ _ _ _
                    rw [List.length_append, List.length_singleton, HNA.out, List.flatMap_append]
                    exact h10
                · exact HX8.out.st (p := ⟨g, off + k * 5 + 4, none⟩) HGG.out _
                · exact (show _ = _ from (Below.heap_setCell w8 ⟨g, off + k * 5 + 4, none⟩ _ _ hwg).trans HB8W.out)
    case neg =>
      have hltz : ¬ (p : Int) < (m : Int) := by omega
      obtain rfl : m = p := by omega
      have HTLM : Hid (((withT s l t).take m).length = m) := Lib.hid (by rw [List.length_take, HUL.out, HN.out]; omega)
      have HOW2 := HOW.out
      rw [List.take_of_length_le (by rw [HUL.out, HN.out]; exact Nat.le_refl _)] at HOW2
      obtain ⟨ps, hpr, _⟩ := HOW.out
      rw [HTLM.out] at hpr
      obtain ⟨pb, pcap, rfl, _⟩ := hpr.any
      have HOWX := Lib.hid HOW2
      have HRB := Lib.hid (HEX.out.hp HR7.out)
      have o0 := cellOf HB8.out 0
      have r0 := cellOf HRB.out 0
      have fr := freeOf HRB.out 0
      simp only [List.getElem?_toArray, List.getElem?_cons_zero] at o0 r0
      clear HOW2 hpr
      go_wp2
      have z0 := cellOf (heap_setCell_same (o := 0) (u := .slice pb m pcap) HRB.out) 0
      simp only [Array.setIfInBounds, List.size_toArray, List.length_cons, List.length_nil, Nat.zero_lt_succ] at z0
      refine bodyPost_ret (v := .tuple #[.agg #[.slice pb m pcap], .int .i64 0]) (by simp [results, Try.results25, go_sem, z0]) rfl ?_
      exact ⟨_, rfl, (OwnP.stO HOWX.out HRB.out (by decide) (by decide) (by decide) (by decide) _).tr, HEW.out.st (by show w.heap.size ≤ w.heap.size + 1 + 1; omega) _⟩

end Go.Proofs.Ytfcpnggdpaeldaa
