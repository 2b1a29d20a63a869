import Derived.Test.YtijncboddmjdcaaGa
import Derived.Test.YtijncboddmjdcaaProg
import Derived.Test.YtijncboddmjdcaaGb
import Derived.Test.YtijncboddmjdcaaGk
import Derived.Test.YtijncboddmjdcaaRows
import Derived.Test.YtijncboddmjdcaaGe
import Derived.Test.YtijncboddmjdcaaGc
import Derived.BigQuiet
import Derived.Deep.QuietTactic
import Derived.Deep.LoopGhost
import Derived.Shelf.Abstract
import Derived.Laws.EntriesVeiled
import Derived.ProofKit
import Derived.OpenShut
import Derived.ChangeArms
import Derived.ChangeSlices
/-
  The example of the chapter on cuts: the trace, and what is reckoned of it.
-/
namespace Go.Proofs.Ytijncboddmjdcaa
open Go.RowKit
set_option linter.unusedVariables false

/-- The trace of the chapter. -/
def exT : Tr := [⟨⟨#[97]⟩, [], [⟨2, 1, 1, 0, []⟩, ⟨1, 0, 0, 0, []⟩]⟩, ⟨⟨#[98]⟩, [], [⟨1, 0, 0, 0, []⟩, ⟨3, 0, 1, 0, []⟩]⟩]

def exA : List Value := [.int .i64 2, .int .i64 1, .int .i64 1, .int .i64 0, .slice none 0 0, .int .i64 1, .int .i64 0, .int .i64 0, .int .i64 0, .slice none 0 0]
def exB : List Value := [.int .i64 1, .int .i64 0, .int .i64 0, .int .i64 0, .slice none 0 0, .int .i64 3, .int .i64 0, .int .i64 1, .int .i64 0, .slice none 0 0]
def exC (n : Nat) : List Value := [.string ⟨#[97]⟩, .slice none 0 0, .slice (some ⟨n + 1, 0, none⟩) 2 2, .string ⟨#[98]⟩, .slice none 0 0, .slice (some ⟨n + 1 + 1, 0, none⟩) 2 2]
theorem sl_none {α : Type} [Inhabited α] (R : World → List Value → α → Prop) (k : Nat) (w : World) : Sl R k w (.slice none 0 0) [] := ⟨none, 0, rfl, Nat.le_refl _, fun h => absurd rfl h⟩
theorem two_at {n : Nat} (h : n < 2) : n = 0 ∨ n = 1 := by omega
theorem exT_at {W : World} {n : Nat} {e f : TypeId} (h1 : W.heap[n + 1]? = some (.cells exA.toArray e)) (h2 : W.heap[n + 2]? = some (.cells exB.toArray e)) (h3 : W.heap[n + 3]? = some (.cells (exC n).toArray f)) :
    TrAt W (.slice (some ⟨n + 1 + 1 + 1, 0, none⟩) 2 2) exT := by
  have a1 : Sl REv 5 W (.slice (some ⟨n + 1, 0, none⟩) 2 2) [⟨2, 1, 1, 0, []⟩, ⟨1, 0, 0, 0, []⟩] :=
    (cells_laid 5 2 h1 rfl).sl (R := REv) (l := ([⟨2, 1, 1, 0, []⟩, ⟨1, 0, 0, 0, []⟩] : List Ev)) (fun i hi => by
      rcases two_at hi with rfl | rfl
      · exact ⟨_, rfl, sl_none _ _ _⟩
      · exact ⟨_, rfl, sl_none _ _ _⟩)
  have a2 : Sl REv 5 W (.slice (some ⟨n + 1 + 1, 0, none⟩) 2 2) [⟨1, 0, 0, 0, []⟩, ⟨3, 0, 1, 0, []⟩] :=
    (cells_laid 5 2 h2 rfl).sl (R := REv) (l := ([⟨1, 0, 0, 0, []⟩, ⟨3, 0, 1, 0, []⟩] : List Ev)) (fun i hi => by
      rcases two_at hi with rfl | rfl
      · exact ⟨_, rfl, sl_none _ _ _⟩
      · exact ⟨_, rfl, sl_none _ _ _⟩)
  exact (cells_laid 3 2 h3 rfl).sl (R := RPr) (l := exT) (fun i hi => by
    rcases two_at hi with rfl | rfl
    · exact ⟨_, _, rfl, sl_none _ _ _, a1⟩
    · exact ⟨_, _, rfl, sl_none _ _ _, a2⟩)

set_option maxHeartbeats 2000000 in
theorem example_calls (w : World) : Calls Try.prog 46 #[] w fun e w' => ∃ v, e = .returned (.agg #[v]) ∧ TrAt w' v exT ∧ Ext w w' := by
  go_enter Try.func46, Try.ntmps46
  go_wp2
  have hb := fun i o => allocs_at [.cells #[.slice (some ⟨w.heap.size + 1 + 1 + 1, 0, none⟩) 2 2] 24, .cells (exA).toArray 59, .cells (exB).toArray 59, .cells (exC w.heap.size).toArray 56] w i o
  have h0 := cellOf (hb 0 _ rfl) 0
  have r0 := h0
  simp only [List.getElem?_toArray, List.getElem?_cons_zero, Nat.add_zero] at r0
  refine bodyPost_ret (v := .agg #[.slice (some ⟨w.heap.size + 1 + 1 + 1, 0, none⟩) 2 2]) (by simp [results, Try.results46, go_sem]) rfl ?_
  exact ⟨_, rfl, exT_at (hb 1 _ rfl) (hb 2 _ rfl) (hb 3 _ rfl), (by repeat (first | refine Ext.st ?_ (by first | exact Nat.le_refl _ | exact Nat.le_succ _ | assumption | omega) _ | refine Ext.al ?_ _ | refine Ext.dr ?_ | refine Ext.drN ?_ _ | exact Ext.rf _))⟩

end Go.Proofs.Ytijncboddmjdcaa

/-
  What is reckoned of the example of the chapter on cuts.
-/
namespace Go.Proofs.Ytijncboddmjdcaa
open Go.RowKit
set_option linter.unusedVariables false

theorem ex_small : SmallTr exT := by
  refine ⟨by decide, fun p hp => ?_⟩
  have hp : p < 2 := hp
  rcases two_at hp with rfl | rfl
  · refine ⟨by decide, by decide, fun i hi => ?_⟩
    have hi : i < 2 := hi
    rcases two_at hi with rfl | rfl <;> decide
  · refine ⟨by decide, by decide, fun i hi => ?_⟩
    have hi : i < 2 := hi
    rcases two_at hi with rfl | rfl <;> decide
theorem ex_shape : shapeB exT = true := by decide +kernel
theorem ex_pair : pairB exT = true := by decide +kernel
theorem ex_dir {y x : Eid} (h : Dir exT y x) : 10 * y.1 + y.2 < 10 * x.1 + x.2 := by
  obtain ⟨⟨h1, h2⟩, h⟩ := h
  obtain ⟨p, i⟩ := x
  obtain ⟨q, j⟩ := y
  simp only at h1 h2 h ⊢
  rcases h with ⟨rfl, rfl⟩ | ⟨hk, hf⟩
  · omega
  · have h1 : p < 2 := h1
    rcases two_at h1 with rfl | rfl
    · have h2 : i < 2 := h2
      rcases two_at h2 with rfl | rfl
      · exact absurd hk (by decide)
      · exact absurd hk (by decide)
    · have h2 : i < 2 := h2
      rcases two_at h2 with rfl | rfl
      · exact absurd hk (by decide)
      · have e : findE exT 2 (ev exT (1, 1)).msg = some (0, 0) := by decide +kernel
        rw [e] at hf
        cases hf
        omega
theorem ex_cyc : ¬ Cyc exT := by
  rintro ⟨x, hx⟩
  have key : ∀ {y x : Eid}, Relation.TransGen (Dir exT) y x → 10 * y.1 + y.2 < 10 * x.1 + x.2 := by
    intro y x h
    induction h with
    | single h => exact ex_dir h
    | tail _ h ih => exact Nat.lt_trans ih (ex_dir h)
  exact Nat.lt_irrefl _ (key hx)
theorem ex_valid : validT exT = true := validT_parts2.2 ⟨ex_shape, ex_pair, ex_cyc⟩
theorem ex_close : repE exT [0, 2] = 0 ∧ closeC exT [0, 2] = [1, 2] := by
  refine ⟨?_, ?_⟩
  · unfold repE; rw [ex_valid]; decide +kernel
  · unfold closeC
    exact fixC_eq (n := 1) ⟨(1, 1), by decide +kernel, by decide +kernel, by decide +kernel⟩
theorem ex_open : openC exT [0, 2] = [0, 1] := by
  unfold openC
  exact fixC_eq (n := 1) ⟨(1, 1), by decide +kernel, by decide +kernel, by decide +kernel⟩
theorem ex_given1 : givenE exT [[0, 1]] [] = 0 := by unfold givenE; rw [ex_valid]; decide +kernel
theorem ex_given2 : givenE exT [[1, 1]] [0, 1] = 0 := by unfold givenE; rw [ex_valid]; decide +kernel
theorem ex_enabled : enabledC exT [0, 1] = [0] := by decide +kernel
theorem ex_under : underC exT [1, 1] (0 : Int).toNat 1 = [1] := by decide +kernel

end Go.Proofs.Ytijncboddmjdcaa

/-
  The library's Index, Contains and Equal on slices of numbers.
-/
namespace Go.Proofs.Ytijncboddmjdcaa
open Go.RowKit
set_option linter.unusedVariables false

set_option maxHeartbeats 400000 in
theorem index_int (x : Int) (v : Value) (l : List Int) (w : World) (hv : Ints w v l) (hn : l.length ≤ 1000000) :
    Calls Try.prog 66 #[v, .int .i64 x] w fun e w' => e = .returned (.int .i64 (firstAt (fun y => x == y) l)) ∧ w = w' := by
  obtain ⟨a, c, rfl, hlc, hv⟩ := hv
  have HLC := Lib.hid hlc; clear hlc
  have HV := Lib.hid hv; clear hv
  generalize hln : l.length = n at hn
  have HL := Lib.hid hln; clear hln
  go_enter Try.func66, Try.ntmps66
  go_wp2
  go_loopg [5, 8] n (fun m _ s8 wr => ∃ k : Nat, k ≤ n ∧ n - k ≤ m ∧ s8 = .int .i64 k ∧ wr = w ∧ Aside (∀ j, j < k → (fun y => x == y) l[j]! = false))
  case atStart => exact ⟨0, Nat.zero_le _, by omega, rfl, rfl, (fun j hj => absurd hj (Nat.not_lt_zero _))⟩
  case round =>
    obtain ⟨k, hk, hm, rfl, rfl, A⟩ := hrel
    by_cases hlt : k < n
    · obtain ⟨b, off, rfl, hb, hc⟩ := HV.out (by intro e; have := HL.out; simp [e] at this; omega)
      have hcell : wr.cell? ⟨b, off + k, none⟩ = some (.int .i64 l[k]!) := hc k (by rw [HL.out]; exact hlt)
      have hltz : (k : Int) < (n : Int) := by omega
      clear hc HV
      generalize hy : l[k]! = y at hcell
      have B := Lib.hid hy
      clear hy
      cases hq : (x == y) with
      | true =>
        go_wp2
        go_ret
        exact ⟨by rw [firstAt_hit (fun y => x == y) l k (by rw [HL.out]; omega) (by rw [B.out]; exact hq) A.out]; rfl, rfl⟩
      | false =>
        go_wp2
        go_roundg (n - (k + 1))
        case measure => omega
        case rel =>
          refine ⟨k + 1, by omega, by omega, by go_num, rfl, (show Aside _ from fun j hj => ?_)⟩
          by_cases e : j = k
          · subst e
            rw [B.out]; exact hq
          · exact A.out j (by omega)
    · have hltz : ¬ (k : Int) < (n : Int) := by omega
      go_wp2
      go_ret
      exact ⟨by rw [firstAt_miss (fun y => x == y) l (fun j hj => A.out j (by rw [HL.out] at hj; omega))]; rfl, rfl⟩

theorem enters_66 : ∀ args w, (callFunc 66 args).run Try.prog w = .ok (.enter 66 args) w := enters_of Try.func66 (by kernel_rfl) rfl

set_option maxHeartbeats 400000 in
theorem contains_int (x : Int) (v : Value) (l : List Int) (w : World) (hv : Ints w v l) (hn : l.length ≤ 1000000) :
    Calls Try.prog 44 #[v, .int .i64 x] w fun e w' => e = .returned (.bool (l.contains x)) ∧ w = w' := by
  have HI := Lib.hid (index_int x v l w hv hn)
  clear hv
  rw [show l.contains x = l.any (fun y => x == y) from by rw [List.contains_eq_any_beq], ← firstAt_any]
  go_enter Try.func44, Try.ntmps44
  go_wp2_with (go_at_call 66; refine HI.out.mono ?_; rintro e w' ⟨rfl, rfl⟩)
  go_ret
  exact ⟨rfl, rfl⟩

theorem beq_at (l m : List Int) (h : l.length = m.length) : (∃ k, k < l.length ∧ l[k]! ≠ m[k]!) → (l == m) = false := by
  rintro ⟨k, hk, hne⟩
  rw [beq_eq_false_iff_ne]
  rintro rfl
  exact hne rfl
theorem beq_all (l m : List Int) (h : l.length = m.length) (hall : ∀ k, k < l.length → l[k]! = m[k]!) : (l == m) = true := by
  rw [beq_iff_eq]
  refine List.ext_getElem h fun i h1 h2 => ?_
  have := hall i h1
  rwa [getElem!_pos l i h1, getElem!_pos m i h2] at this
theorem beq_len (l m : List Int) (h : l.length ≠ m.length) : (l == m) = false := by
  rw [beq_eq_false_iff_ne]
  rintro rfl
  exact h rfl

set_option maxHeartbeats 400000 in
theorem equal_int (u v : Value) (l m : List Int) (w : World) (hu : Ints w u l) (hv : Ints w v m) (hn : l.length ≤ 1000000) (hm : m.length ≤ 1000000) :
    Calls Try.prog 21 #[u, v] w fun e w' => e = .returned (.bool (l == m)) ∧ Ext w w' := by
  obtain ⟨a, c, rfl, _, hu⟩ := hu
  obtain ⟨a2, c2, rfl, _, hv⟩ := hv
  have HU := Lib.hid hu; clear hu
  have HV := Lib.hid hv; clear hv
  generalize hln : l.length = n at hn
  generalize hlm : m.length = n2 at hm
  have HL := Lib.hid hln; clear hln
  have HM := Lib.hid hlm; clear hlm
  by_cases hne : n = n2
  · subst hne
    go_enter Try.func21, Try.ntmps21
    go_wp2
    go_loopg [5, 13] n (fun g _ s13 wr => ∃ k : Nat, k ≤ n ∧ n - k ≤ g ∧ s13 = .int .i64 k ∧ Ext w wr ∧ Aside (∀ j, j < k → l[j]! = m[j]!))
    case atStart => exact ⟨0, Nat.zero_le _, by omega, rfl, Ext.rf _, (fun j hj => absurd hj (Nat.not_lt_zero _))⟩
    case round =>
      obtain ⟨k, hk, hg, rfl, he, A⟩ := hrel
      have HE := Lib.hid he; clear he
      by_cases hlt : k < n
      · obtain ⟨b, off, rfl, hb, hc⟩ := HU.out (by intro e; have := HL.out; simp [e] at this; omega)
        obtain ⟨b2, off2, rfl, hb2, hc2⟩ := HV.out (by intro e; have := HM.out; simp [e] at this; omega)
        have hcell : wr.cell? ⟨b, off + k, none⟩ = some (.int .i64 l[k]!) := HE.out.cl (hc k (by rw [HL.out]; exact hlt))
        have hcell2 : wr.cell? ⟨b2, off2 + k, none⟩ = some (.int .i64 m[k]!) := HE.out.cl (hc2 k (by rw [HM.out]; exact hlt))
        have hltz : (k : Int) < (n : Int) := by omega
        have hkz : (0 : Int) ≤ (k : Int) := by omega
        clear hc HV hc2 HU
        generalize hy : l[k]! = y at hcell
        generalize hz : m[k]! = z at hcell2
        have B := Lib.hid hy
        have C := Lib.hid hz
        clear hy hz
        cases hq : (y != z) with
        | true =>
          go_wp2
          go_quiet (fail)
          go_wp2
          go_ret
          exact ⟨by rw [beq_at l m (by rw [HL.out, HM.out]) ⟨k, by rw [HL.out]; exact hlt, by rw [B.out, C.out]; simpa using hq⟩]; rfl, HE.out.drN _⟩
        | false =>
          go_wp2
          go_quiet (fail)
          go_wp2
          go_roundg (n - (k + 1))
          case measure => omega
          case rel =>
            refine ⟨k + 1, by omega, by omega, by go_num, HE.out.drN _, (show Aside _ from fun j hj => ?_)⟩
            by_cases e : j = k
            · subst e
              rw [B.out, C.out]; simpa using hq
            · exact A.out j (by omega)
      · have hltz : ¬ (k : Int) < (n : Int) := by omega
        go_wp2
        go_ret
        exact ⟨by rw [beq_all l m (by rw [HL.out, HM.out]) (fun j hj => A.out j (by rw [HL.out] at hj; omega))]; rfl, HE.out⟩
  · have h1 : ((n : Int) != (n2 : Int)) = true := by rw [bne_iff_ne]; omega
    go_enter Try.func21, Try.ntmps21
    go_wp2
    go_ret
    exact ⟨by rw [beq_len l m (by rw [HL.out, HM.out]; exact hne)]; rfl, Ext.rf _⟩

end Go.Proofs.Ytijncboddmjdcaa

/-
  The law's example holds.
-/
namespace Go.Proofs.Ytijncboddmjdcaa
open Go.RowKit
set_option linter.unusedVariables false

theorem IntsRes.to {w w' : World} {e : Ending} {E E' : Int} {l l' : List Int} (h : IntsRes w w' e E l) (hE : E = E') (hl : l = l') : IntsRes w w' e E' l' := by subst hE; subst hl; exact h
theorem eqT (u v : Value) (l : List Int) (w : World) (hu : Ints w u l) (hv : Ints w v l) (hl : l.length ≤ 1000000) : Calls Try.prog 21 #[u, v] w fun e w' => e = .returned (.bool true) ∧ Ext w w' := by
  have := equal_int u v l l w hu hv hl hl
  rw [show (l == l) = true from by simp] at this
  exact this
set_option maxHeartbeats 4000000 in
set_option maxRecDepth 100000 in
theorem awake22_calls (w : World) : Calls Try.prog 12 #[] w fun e w' => e = .returned (.bool true) ∧ Ext w w' := by
  have HE0 := Lib.hid (Ext.rf w)
  go_enter Try.func12, Try.ntmps12
  go_wp2_with fail
  refine (example_calls _).mono ?_
  rintro e x1 ⟨v1, rfl, hT1, hX1⟩
  have HT1 := Lib.hid (hT1.ext ((Ext.rf _).al (.cells #[.int .i64 0, .int .i64 2] 3)))
  have HX1 := Lib.hid (hX1.al (.cells #[.int .i64 0, .int .i64 2] 3))
  have HB1 := Lib.hid (heap_alloc_new x1 (.cells #[.int .i64 0, .int .i64 2] 3))
  clear hT1 hX1
  go_wp2_with fail
  refine (closeP_calls _ _ exT [0, 2] _ HT1.out ex_small.loose (ints_laid [0, 2] HB1.out) (by decide)).mono ?_
  intro e y1 hres
  obtain ⟨u1, rfl, hR1, hY1⟩ := hres.to ex_close.1 (by rw [if_pos ex_close.1, ex_close.2])
  have HE1 := Lib.hid (HE0.out.trans' (HX1.out.trans' hY1))
  have HI1 := Lib.hid hR1.ints
  have HY1 := Lib.hid (HX1.out.trans' hY1)
  obtain ⟨au1, cu1, hu1, _⟩ := hR1.any
  subst hu1
  clear hR1 hY1 hres
  go_wp2_with fail
  refine (example_calls _).mono ?_
  rintro e x2 ⟨v2, rfl, hT2, hX2⟩
  have HT2 := Lib.hid (hT2.ext ((Ext.rf _).al (.cells #[.int .i64 0, .int .i64 2] 3)))
  have HX2 := Lib.hid (hX2.al (.cells #[.int .i64 0, .int .i64 2] 3))
  have HB2 := Lib.hid (heap_alloc_new x2 (.cells #[.int .i64 0, .int .i64 2] 3))
  clear hT2 hX2
  go_wp2_with fail
  refine (openP_calls _ _ exT [0, 2] _ HT2.out ex_small.loose (ints_laid [0, 2] HB2.out) (by decide)).mono ?_
  intro e y2 hres
  obtain ⟨u2, rfl, hR2, hY2⟩ := hres.to ex_close.1 (by rw [if_pos ex_close.1, ex_open])
  have HE2 := Lib.hid (HE1.out.trans' (HX2.out.trans' hY2))
  have HI2 := Lib.hid hR2.ints
  have HY2 := Lib.hid (HX2.out.trans' hY2)
  obtain ⟨au2, cu2, hu2, _⟩ := hR2.any
  subst hu2
  clear hR2 hY2 hres
  go_wp2_with fail
  refine (example_calls _).mono ?_
  rintro e x3 ⟨v3, rfl, hT3, hX3⟩
  have HT3 := Lib.hid (hT3.ext ((Ext.rf _).al (.cells #[.int .i64 0, .int .i64 1] 3)))
  have HX3 := Lib.hid (hX3.al (.cells #[.int .i64 0, .int .i64 1] 3))
  have HB3 := Lib.hid (heap_alloc_new x3 (.cells #[.int .i64 0, .int .i64 1] 3))
  clear hT3 hX3
  go_wp2_with fail
  refine (enabledP_calls _ _ exT [0, 1] _ HT3.out ex_small.loose (ints_laid [0, 1] HB3.out)).mono ?_
  intro e y3 hres
  obtain ⟨u3, rfl, hR3, hY3⟩ := hres.to ex_given1 (by rw [if_pos ex_given1, ex_enabled])
  have HE3 := Lib.hid (HE2.out.trans' (HX3.out.trans' hY3))
  have HI3 := Lib.hid hR3.ints
  have HY3 := Lib.hid (HX3.out.trans' hY3)
  obtain ⟨au3, cu3, hu3, _⟩ := hR3.any
  subst hu3
  clear hR3 hY3 hres
  go_wp2_with fail
  refine (example_calls _).mono ?_
  rintro e x4 ⟨v4, rfl, hT4, hX4⟩
  have HT4 := Lib.hid (hT4.ext ((Ext.rf _).al (.cells #[.int .i64 1, .int .i64 1] 3)))
  have HX4 := Lib.hid (hX4.al (.cells #[.int .i64 1, .int .i64 1] 3))
  have HB4 := Lib.hid (heap_alloc_new x4 (.cells #[.int .i64 1, .int .i64 1] 3))
  clear hT4 hX4
  go_wp2_with fail
  refine (underWayP_calls _ _ exT [1, 1] 0 1 _ HT4.out ex_small.loose (ints_laid [1, 1] HB4.out)).mono ?_
  intro e y4 hres
  obtain ⟨u4, rfl, hR4, hY4⟩ := hres.to ex_given2 (by rw [if_pos ex_given2, ex_under])
  have HE4 := Lib.hid (HE3.out.trans' (HX4.out.trans' hY4))
  have HI4 := Lib.hid hR4.ints
  have HY4 := Lib.hid (HX4.out.trans' hY4)
  obtain ⟨au4, cu4, hu4, _⟩ := hR4.any
  subst hu4
  clear hR4 hY4 hres
  have HA1 := Lib.hid (HI1.out.ext (HY2.out.trans' (HY3.out.trans' HY4.out)))
  have HA2 := Lib.hid (HI2.out.ext (HY3.out.trans' HY4.out))
  have HA3 := Lib.hid (HI3.out.ext HY4.out)
  go_wp2_with fail
  refine (eqT _ _ [1, 2] _ (HA1.out.ext ((Ext.rf _).al _)) (ints_laid [1, 2] (heap_alloc_new y4 _)) (by decide)).mono ?_
  rintro e z1 ⟨rfl, hZ1⟩
  have HE5 := Lib.hid (((Ext.rf y4).al (.cells #[.int .i64 1, .int .i64 2] 3)).trans' hZ1)
  clear hZ1
  go_wp2_with fail
  refine (eqT _ _ [0, 1] _ ((HA2.out.ext HE5.out).ext ((Ext.rf _).al _)) (ints_laid [0, 1] (heap_alloc_new z1 _)) (by decide)).mono ?_
  rintro e z2 ⟨rfl, hZ2⟩
  have HE6 := Lib.hid (HE5.out.trans' (((Ext.rf z1).al (.cells #[.int .i64 0, .int .i64 1] 3)).trans' hZ2))
  clear hZ2
  go_wp2_with fail
  refine (eqT _ _ [0] _ ((HA3.out.ext HE6.out).ext ((Ext.rf _).al _)) (ints_laid [0] (heap_alloc_new z2 _)) (by decide)).mono ?_
  rintro e z3 ⟨rfl, hZ3⟩
  have HE7 := Lib.hid (HE6.out.trans' (((Ext.rf z2).al (.cells #[.int .i64 0] 3)).trans' hZ3))
  clear hZ3
  go_wp2_with fail
  refine (eqT _ _ [1] _ ((HI4.out.ext HE7.out).ext ((Ext.rf _).al _)) (ints_laid [1] (heap_alloc_new z3 _)) (by decide)).mono ?_
  rintro e z4 ⟨rfl, hZ4⟩
  go_wp2
  go_ret
  exact ⟨rfl, HE4.out.trans' (HE7.out.trans' (((Ext.rf z3).al _).trans' hZ4))⟩

end Go.Proofs.Ytijncboddmjdcaa

/-
  From a reading of an argument to what the walks ask of it. No program is named here.
-/
namespace Go.Proofs.Ytijncboddmjdcaa
open Go.RowKit Go.ChangeShapes Go.WideShapes
set_option linter.unusedVariables false

section
variable {H : Type} {enc : TypeId × Value → H} {P : Program} {w : World} {base : Nat} {spare : Nat → Bool} {held : Bool}

/-- What the readings of a type at its cells give. -/
def Gives {α : Type} (enc : TypeId × Value → H) (P : Program) (w : World) (base : Nat) (spare : Nat → Bool) (held : Bool) (t : TypeId) (R : World → List Value → α → Prop) : Prop :=
  ∀ fuel cs x, DataW.trod enc P w base spare held fuel t cs = some x → ∃ y, R w cs y

theorem gives_int {t : TypeId} (ht : P.underlying t = some (.int .i64)) : Gives enc P w base spare held t (fun _ cs (n : Int) => cs = [.int .i64 n] ∧ -9223372036854775808 ≤ n ∧ n ≤ 9223372036854775807) := by
  intro fuel cs x h
  obtain ⟨n, rfl, _, hw⟩ := DataW.trod_int ht h
  refine ⟨n, rfl, ?_⟩
  simpa [Lit.wf, IntKind.min, IntKind.max, IntKind.signed, IntKind.bits] using hw

/-- A slice, whose elements are read by R. -/
theorem gives_slice {α : Type} [Inhabited α] {t e : TypeId} {R : World → List Value → α → Prop} {k : Nat} (ht : P.underlying t = some (.slice e)) (hk : P.cellsOf e = k) (hk0 : 0 < k) (hR : Gives enc P w base spare held e R) :
    Gives enc P w base spare held t (fun w cs (l : List α) => ∃ v, cs = [v] ∧ Sl R k w v l ∧ l.length ≤ 9223372036854775807) := by
  intro fuel cs x h
  rcases DataW.trod_slice ht h with ⟨rfl, _⟩ | ⟨a, len, cap, elems, rest, n, _, rfl, _, hb, hl, hm, hlen, hel, _, _⟩
  · exact ⟨[], _, rfl, ⟨_, _, rfl, Nat.le_refl _, fun h => absurd rfl h⟩, by simp⟩
  · have hlm : len ≤ 9223372036854775807 := by unfold maxLen at hm; omega
    have one : ∀ i, i < len → ∃ vs y, w.cells? base (a.add (i * k)) k = some vs ∧ R w vs y := by
      intro i hi
      have := hel i hi
      rw [List.getElem?_eq_getElem (by omega), hk] at this
      obtain ⟨cs', h1, h2⟩ := Option.bind_eq_some_iff.1 this
      obtain ⟨y, hy⟩ := hR _ _ _ h2
      exact ⟨cs', y, h1, hy⟩
    by_cases h0 : len = 0
    · subst h0
      exact ⟨[], _, rfl, ⟨_, _, rfl, hl, fun h => absurd rfl h⟩, by simp⟩
    -- the address
    have haddr : ∃ b off, a = ⟨b, off, none⟩ ∧ b < w.heap.size := by
      obtain ⟨vs, y, h1, _⟩ := one 0 (by omega)
      obtain ⟨_, hlen', hc⟩ := World.cells?_some h1
      have hc0 := hc 0 (by omega)
      rw [List.getElem?_eq_getElem (by omega)] at hc0
      have hsp := World.cell?_spot hc0
      obtain ⟨b, off, sp⟩ := a
      simp only [Nat.zero_mul, Addr.add, if_true] at hsp hc0
      subst hsp
      exact ⟨b, off, rfl, World.block_lt_of_cell? w _ hc0⟩
    obtain ⟨b, off, rfl, hbw⟩ := haddr
    classical
    let f : Nat → α := fun i => if hi : i < len then Classical.choose (Classical.choose_spec (one i hi)) else default
    refine ⟨(List.range len).map f, _, rfl, ⟨_, cap, by simp, by simpa using hl, fun _ => ⟨b, off, rfl, hbw, fun i hi => ?_⟩⟩, by simpa using hlm⟩
    have hi' : i < len := by simpa using hi
    have hspec := Classical.choose_spec (Classical.choose_spec (one i hi'))
    refine ⟨Classical.choose (one i hi'), ?_, ?_, fun j hj => ?_⟩
    · exact (World.cells?_some hspec.1).2.1
    · have : ((List.range len).map f)[i]! = f i := by rw [getElem!_pos _ i hi]; simp
      rw [this]
      simp only [f, dif_pos hi']
      exact hspec.2
    · obtain ⟨_, hl2, hc⟩ := World.cells?_some hspec.1
      have := hc j hj
      rw [getElem!_pos _ j (by rw [hl2]; exact hj)]
      rw [← List.getElem?_eq_getElem, ← this]
      congr 1
      by_cases hik : i * k = 0
      · by_cases hj0 : j = 0
        · simp [Addr.add, hik, hj0]
        · simp [Addr.add, hik, hj0]
      · by_cases hj0 : j = 0
        · simp [Addr.add, hik, hj0]
        · simp [Addr.add, hik, hj0]

theorem sl_ints {w : World} {v : Value} {l : List Int} (h : Sl (fun _ cs (n : Int) => cs = [.int .i64 n] ∧ -9223372036854775808 ≤ n ∧ n ≤ 9223372036854775807) 1 w v l) : Ints w v l := by
  obtain ⟨a, c, rfl, hlc, h⟩ := h
  refine ⟨a, c, rfl, hlc, fun hl => ?_⟩
  obtain ⟨b, off, rfl, hb, hc⟩ := h hl
  refine ⟨b, off, rfl, hb, fun i hi => ?_⟩
  obtain ⟨vs, _, ⟨rfl, _⟩, h3⟩ := hc i hi
  have := h3 0 (by omega)
  simpa using this

theorem gives_ints {t e : TypeId} (ht : P.underlying t = some (.slice e)) (he : P.underlying e = some (.int .i64)) (hk : P.cellsOf e = 1) :
    Gives enc P w base spare held t (fun w cs (l : List Int) => ∃ v, cs = [v] ∧ Ints w v l ∧ l.length ≤ 9223372036854775807) := by
  intro fuel cs x h
  obtain ⟨l, v, rfl, hs, hl⟩ := gives_slice ht hk (by omega) (gives_int he) fuel cs x h
  exact ⟨l, v, rfl, sl_ints hs, hl⟩

/-- An array of two numbers. -/
theorem gives_pair {t e : TypeId} (ht : P.underlying t = some (.array 2 e)) (he : P.underlying e = some (.int .i64)) (hk : P.cellsOf e = 1) (hkt : P.cellsOf t = 2) :
    Gives enc P w base spare held t (fun _ cs (x : Int × Int) => cs = [.int .i64 x.1, .int .i64 x.2]) := by
  intro fuel cs x h
  obtain ⟨xs, m, _, _, hl, hxl, hx⟩ := DataW.trod_array ht h
  rw [hkt] at hl
  match cs, hl with
  | [c0, c1], _ =>
    have h0 := hx 0 (by omega)
    have h1 := hx 1 (by omega)
    rw [hk, List.getElem?_eq_getElem (by omega)] at h0 h1
    simp only [Nat.zero_mul, List.drop_zero, Nat.one_mul, List.drop_succ_cons, List.take_succ_cons, List.take_zero] at h0 h1
    obtain ⟨n0, e0, _⟩ := DataW.trod_int he h0
    obtain ⟨n1, e1, _⟩ := DataW.trod_int he h1
    simp only [List.cons.injEq, and_true] at e0 e1
    exact ⟨(n0, n1), by rw [e0, e1]⟩

theorem Gives.imp {α : Type} {t : TypeId} {R R' : World → List Value → α → Prop} (h : Gives enc P w base spare held t R) (hi : ∀ cs y, R w cs y → R' w cs y) : Gives enc P w base spare held t R' := by
  intro fuel cs x hx
  obtain ⟨y, hy⟩ := h fuel cs x hx
  exact ⟨y, hi _ _ hy⟩

/-- An argument of one cell. -/
theorem gives_arg {α : Type} {t : TypeId} {R : World → List Value → α → Prop} {v : Value} {d : DataW H} {ps : List MemPlace} (h : Gives enc P w base spare held t R) (hd : DataW.Trod enc P w base spare held t v d ps) : ∃ y, R w v.cells.toList y := by
  obtain ⟨fuel, hf⟩ := hd
  exact h _ _ _ hf

theorem okWide_array {r : Reach} {t e : TypeId} {n : Nat} {v : Value} (ht : P.underlying t = some (.array n e)) (h : Value.okWide P w r base t v) : ∃ cs, v = .agg cs := by
  simp only [Value.okWide, ht] at h
  obtain ⟨cs, h1, _⟩ := h
  exact ⟨cs, h1⟩

end

end Go.Proofs.Ytijncboddmjdcaa

/-
  From a reading of a trace to what the walks ask of it.
-/
namespace Go.Proofs.Ytijncboddmjdcaa
open Go.RowKit
set_option linter.unusedVariables false
open Go.ChangeShapes Go.WideShapes

section
variable {H : Type} {enc : TypeId × Value → H} {w : World} {base : Nat} {spare : Nat → Bool} {held : Bool}

theorem gives_num : Gives enc Try.prog w base spare held 3 (fun w cs (n : Int) => cs = [.int .i64 n]) := by
  intro fuel cs x h
  obtain ⟨n, rfl, _⟩ := DataW.trod_int Try.underlying3 h
  exact ⟨n, rfl⟩
theorem gives_str : Gives enc Try.prog w base spare held 9 (fun w cs (s : ByteArray) => cs = [.string s]) := by
  intro fuel cs x h
  obtain ⟨n, rfl, _⟩ := DataW.trod_string Try.underlying9 h
  exact ⟨n, rfl⟩

set_option maxRecDepth 100000 in
theorem gives_asg : Gives enc Try.prog w base spare held 106 RAsg := by
  have hk2 : Try.prog.cellsOf 3 = 1 := by kernel_rfl
  intro fuel cs x h
  obtain ⟨xs, n, _, _, hl, hxl, hf⟩ := DataW.trod_struct Try.underlying106 h
  rw [show Try.prog.cellsOf 106 = 2 from by kernel_rfl] at hl
  have hxl3 : xs.length = 2 := hxl
  match cs, hl with
  | [c0, c1], _ =>
    have h0 : DataW.trod enc Try.prog w base spare held n 3 (([c0, c1].drop 0).take (Try.prog.cellsOf 3)) = xs[0]? := hf 0 _ rfl
    have h1 : DataW.trod enc Try.prog w base spare held n 3 (([c0, c1].drop 1).take (Try.prog.cellsOf 3)) = xs[1]? := hf 1 _ rfl
    rw [hk2, List.getElem?_eq_getElem (by omega)] at h0 h1
    simp only [List.drop_zero, List.drop_succ_cons, List.take_succ_cons, List.take_zero] at h0 h1
    obtain ⟨a, e0⟩ := gives_num _ _ _ h0
    obtain ⟨b, e1⟩ := gives_num _ _ _ h1
    simp only [List.cons.injEq, and_true] at e0 e1
    exact ⟨⟨a, b⟩, by unfold RAsg; rw [e0, e1]⟩
theorem gives_asgs : Gives enc Try.prog w base spare held 57 (fun w cs (l : List Asg) => ∃ v, cs = [v] ∧ Sl RAsg 2 w v l ∧ l.length ≤ 9223372036854775807) :=
  gives_slice Try.underlying57 (show Try.prog.cellsOf 106 = 2 from by kernel_rfl) (by omega) gives_asg

set_option maxRecDepth 100000 in
theorem gives_var : Gives enc Try.prog w base spare held 70 RVr := by
  have hk1 : Try.prog.cellsOf 9 = 1 := by kernel_rfl
  have hk2 : Try.prog.cellsOf 3 = 1 := by kernel_rfl
  intro fuel cs x h
  obtain ⟨xs, n, _, _, hl, hxl, hf⟩ := DataW.trod_struct Try.underlying70 h
  rw [show Try.prog.cellsOf 70 = 2 from by kernel_rfl] at hl
  have hxl3 : xs.length = 2 := hxl
  match cs, hl with
  | [c0, c1], _ =>
    have h0 : DataW.trod enc Try.prog w base spare held n 9 (([c0, c1].drop 0).take (Try.prog.cellsOf 9)) = xs[0]? := hf 0 _ rfl
    have h1 : DataW.trod enc Try.prog w base spare held n 3 (([c0, c1].drop 1).take (Try.prog.cellsOf 3)) = xs[1]? := hf 1 _ rfl
    rw [hk1] at h0
    rw [hk2] at h1
    rw [List.getElem?_eq_getElem (by omega)] at h0 h1
    simp only [List.drop_zero, List.drop_succ_cons, List.take_succ_cons, List.take_zero] at h0 h1
    obtain ⟨a, e0⟩ := gives_str _ _ _ h0
    obtain ⟨b, e1⟩ := gives_num _ _ _ h1
    simp only [List.cons.injEq, and_true] at e0 e1
    exact ⟨⟨a, b⟩, by unfold RVr; rw [e0, e1]⟩
theorem gives_vars : Gives enc Try.prog w base spare held 54 (fun w cs (l : List Vr) => ∃ v, cs = [v] ∧ Sl RVr 2 w v l ∧ l.length ≤ 9223372036854775807) :=
  gives_slice Try.underlying54 (show Try.prog.cellsOf 70 = 2 from by kernel_rfl) (by omega) gives_var

set_option maxRecDepth 100000 in
theorem gives_event : Gives enc Try.prog w base spare held 59 REv := by
  have hk1 : Try.prog.cellsOf 57 = 1 := by kernel_rfl
  have hk2 : Try.prog.cellsOf 3 = 1 := by kernel_rfl
  intro fuel cs x h
  obtain ⟨xs, n, _, _, hl, hxl, hf⟩ := DataW.trod_struct Try.underlying59 h
  rw [show Try.prog.cellsOf 59 = 5 from by kernel_rfl] at hl
  have hxl3 : xs.length = 5 := hxl
  match cs, hl with
  | [c0, c1, c2, c3, c4], _ =>
    have h0 : DataW.trod enc Try.prog w base spare held n 3 (([c0, c1, c2, c3, c4].drop 0).take (Try.prog.cellsOf 3)) = xs[0]? := hf 0 _ rfl
    have h1 : DataW.trod enc Try.prog w base spare held n 3 (([c0, c1, c2, c3, c4].drop 1).take (Try.prog.cellsOf 3)) = xs[1]? := hf 1 _ rfl
    have h2 : DataW.trod enc Try.prog w base spare held n 3 (([c0, c1, c2, c3, c4].drop 2).take (Try.prog.cellsOf 3)) = xs[2]? := hf 2 _ rfl
    have h3 : DataW.trod enc Try.prog w base spare held n 3 (([c0, c1, c2, c3, c4].drop 3).take (Try.prog.cellsOf 3)) = xs[3]? := hf 3 _ rfl
    have h4 : DataW.trod enc Try.prog w base spare held n 57 (([c0, c1, c2, c3, c4].drop 4).take (Try.prog.cellsOf 57)) = xs[4]? := hf 4 _ rfl
    rw [hk2] at h0 h1 h2 h3
    rw [hk1] at h4
    rw [List.getElem?_eq_getElem (by omega)] at h0 h1 h2 h3 h4
    simp only [List.drop_zero, List.drop_succ_cons, List.take_succ_cons, List.take_zero] at h0 h1 h2 h3 h4
    obtain ⟨a0, e0⟩ := gives_num _ _ _ h0
    obtain ⟨a1, e1⟩ := gives_num _ _ _ h1
    obtain ⟨a2, e2⟩ := gives_num _ _ _ h2
    obtain ⟨a3, e3⟩ := gives_num _ _ _ h3
    obtain ⟨l, v, e4, hv, _⟩ := gives_asgs _ _ _ h4
    simp only [List.cons.injEq, and_true] at e0 e1 e2 e3 e4
    exact ⟨⟨a0, a1, a2, a3, l⟩, v, by rw [e0, e1, e2, e3, e4], hv⟩
theorem gives_events : Gives enc Try.prog w base spare held 53 (fun w cs (l : List Ev) => ∃ v, cs = [v] ∧ Sl REv 5 w v l ∧ l.length ≤ 9223372036854775807) :=
  gives_slice Try.underlying53 (show Try.prog.cellsOf 59 = 5 from by kernel_rfl) (by omega) gives_event

/-- What a machine bears: no list has more elements than an index can name. -/
def TopPr (x : Pr) : Prop := x.vars.length ≤ 9223372036854775807 ∧ x.events.length ≤ 9223372036854775807
set_option maxRecDepth 100000 in
theorem gives_proc : Gives enc Try.prog w base spare held 56 (fun w cs (x : Pr) => RPr w cs x ∧ TopPr x) := by
  have hk1 : Try.prog.cellsOf 9 = 1 := by kernel_rfl
  have hk2 : Try.prog.cellsOf 54 = 1 := by kernel_rfl
  have hk3 : Try.prog.cellsOf 53 = 1 := by kernel_rfl
  intro fuel cs x h
  obtain ⟨xs, n, _, _, hl, hxl, hf⟩ := DataW.trod_struct Try.underlying56 h
  rw [show Try.prog.cellsOf 56 = 3 from by kernel_rfl] at hl
  have hxl3 : xs.length = 3 := hxl
  match cs, hl with
  | [c0, c1, c2], _ =>
    have h0 : DataW.trod enc Try.prog w base spare held n 9 (([c0, c1, c2].drop 0).take (Try.prog.cellsOf 9)) = xs[0]? := hf 0 _ rfl
    have h1 : DataW.trod enc Try.prog w base spare held n 54 (([c0, c1, c2].drop 1).take (Try.prog.cellsOf 54)) = xs[1]? := hf 1 _ rfl
    have h2 : DataW.trod enc Try.prog w base spare held n 53 (([c0, c1, c2].drop 2).take (Try.prog.cellsOf 53)) = xs[2]? := hf 2 _ rfl
    rw [hk1] at h0
    rw [hk2] at h1
    rw [hk3] at h2
    rw [List.getElem?_eq_getElem (by omega)] at h0 h1 h2
    simp only [List.drop_zero, List.drop_succ_cons, List.take_succ_cons, List.take_zero] at h0 h1 h2
    obtain ⟨s, e0⟩ := gives_str _ _ _ h0
    obtain ⟨vl, vv, e1, hv, hvl⟩ := gives_vars _ _ _ h1
    obtain ⟨el, ve, e2, he, hel⟩ := gives_events _ _ _ h2
    simp only [List.cons.injEq, and_true] at e0 e1 e2
    exact ⟨⟨s, vl, el⟩, ⟨vv, ve, by rw [e0, e1, e2], hv, he⟩, hvl, hel⟩
/-- No list of a trace has more elements than an index can name. -/
def TopTr (t : Tr) : Prop := t.length ≤ 9223372036854775807 ∧ ∀ p, p < t.length → TopPr t[p]!
set_option maxRecDepth 100000 in
theorem gives_trace : Gives enc Try.prog w base spare held 24 (fun w cs (t : Tr) => ∃ v, cs = [v] ∧ TrAt w v t ∧ TopTr t) := by
  have hk1 : Try.prog.cellsOf 22 = 1 := by kernel_rfl
  intro fuel cs x h
  obtain ⟨xs, n, _, _, hl, hxl, hf⟩ := DataW.trod_struct Try.underlying24 h
  rw [show Try.prog.cellsOf 24 = 1 from by kernel_rfl] at hl
  have hxl3 : xs.length = 1 := hxl
  match cs, hl with
  | [c0], _ =>
    have h0 : DataW.trod enc Try.prog w base spare held n 22 (([c0].drop 0).take (Try.prog.cellsOf 22)) = xs[0]? := hf 0 _ rfl
    rw [hk1, List.getElem?_eq_getElem (by omega)] at h0
    simp only [List.drop_zero, List.take_succ_cons, List.take_zero] at h0
    obtain ⟨l, v, e0, hs, hl⟩ := gives_slice Try.underlying22 (show Try.prog.cellsOf 56 = 3 from by kernel_rfl) (by omega) gives_proc _ _ _ h0
    simp only [List.cons.injEq, and_true] at e0
    refine ⟨l, v, by rw [e0], ?_, hl, fun p hp => ?_⟩
    · obtain ⟨a, c, rfl, hlc, h⟩ := hs
      refine ⟨a, c, rfl, hlc, fun hl => ?_⟩
      obtain ⟨b, off, rfl, hb, hc⟩ := h hl
      refine ⟨b, off, rfl, hb, fun i hi => ?_⟩
      obtain ⟨vs, h1, ⟨h2, _⟩, h3⟩ := hc i hi
      exact ⟨vs, h1, h2, h3⟩
    · obtain ⟨a, c, rfl, hlc, h⟩ := hs
      obtain ⟨b, off, rfl, hb, hc⟩ := h (by rintro rfl; simp at hp)
      obtain ⟨vs, h1, ⟨_, h2⟩, h3⟩ := hc p hp
      exact h2

end
end Go.Proofs.Ytijncboddmjdcaa

/-
  The law's own test of traces: its sum of events may run over.
-/
namespace Go.Proofs.Ytijncboddmjdcaa
open Go.RowKit
set_option linter.unusedVariables false

set_option maxHeartbeats 400000 in
theorem indexFuncL_evs {α : Type} [Inhabited α] (R : World → List Value → α → Prop) (hLasts : Lasts R) (g : Nat) (cb : Array Value) (eg : ∀ args w, (callFunc g args).run Try.prog w = .ok (.enter g args) w) (p : α → Bool) (v : Value) (l : List α) (w : World)
    (hv : Sl R 5 w v l) (hn : l.length ≤ 9223372036854775807) (hp : SaysOf Try.prog R encAgg g cb p l w) :
    Calls Try.prog 68 #[v, .func (.func g) #[] cb] w fun e w' => e = .returned (.int .i64 (firstAt p l)) ∧ Ext w w' := by
  obtain ⟨a, c, rfl, hlc, hv⟩ := hv
  have HLC := Lib.hid hlc; clear hlc
  have HV := Lib.hid hv; clear hv
  have HP := Lib.hid hp; clear hp
  have HT := Lib.hid hLasts; clear hLasts
  generalize hln : l.length = n at hn
  have HL := Lib.hid hln; clear hln
  go_enter Try.func68, Try.ntmps68
  go_wp2
  go_loopg [5, 8] n (fun m _ s8 wr => ∃ k : Nat, k ≤ n ∧ n - k ≤ m ∧ s8 = .int .i64 k ∧ Ext w wr ∧ Aside (∀ j, j < k → p l[j]! = false))
  case atStart => exact ⟨0, Nat.zero_le _, by omega, rfl, Below.refl _ _, (fun j hj => absurd hj (Nat.not_lt_zero _))⟩
  case round =>
    obtain ⟨k, hk, hm, rfl, he, A⟩ := hrel
    have HE := Lib.hid he; clear he
    by_cases hlt : k < n
    · obtain ⟨b, off, rfl, hb, hc⟩ := HV.out (by intro e; have := HL.out; simp [e] at this; omega)
      obtain ⟨vs, hvs, hR, hcell⟩ := hc k (by rw [HL.out]; exact hlt)
      obtain ⟨c0, c1, c2, c3, c4, rfl⟩ : ∃ c0 c1 c2 c3 c4, vs = [c0, c1, c2, c3, c4] := by match vs, hvs with | [c0, c1, c2, c3, c4], _ => exact ⟨c0, c1, c2, c3, c4, rfl⟩
      have d0 : wr.cell? ⟨b, off + k * 5, none⟩ = some c0 := (HE.out.cell hb).trans (hcell 0 (by omega))
      have d1 : wr.cell? ⟨b, off + k * 5 + 1, none⟩ = some c1 := (HE.out.cell hb).trans (hcell 1 (by omega))
      have d2 : wr.cell? ⟨b, off + k * 5 + 2, none⟩ = some c2 := (HE.out.cell hb).trans (hcell 2 (by omega))
      have d3 : wr.cell? ⟨b, off + k * 5 + 3, none⟩ = some c3 := (HE.out.cell hb).trans (hcell 3 (by omega))
      have d4 : wr.cell? ⟨b, off + k * 5 + 4, none⟩ = some c4 := (HE.out.cell hb).trans (hcell 4 (by omega))
      have hltz : (k : Int) < (n : Int) := by omega
      clear hc hcell
      have hcall := HP.out _ (mem_at l k (by rw [HL.out]; exact hlt)) wr _ HE.out (HT.out _ _ _ _ hR HE.out)
      unfold encAgg at hcall
      generalize hy : l[k]! = y at hcall hR
      have B := Lib.hid hy
      clear hy hR hvs HV HT HP
      cases hq : p y with
      | true =>
        rw [hq] at hcall
        have HQ := Lib.hid hq; clear hq
        go_wp2_with (go_at_fn g; refine hcall.mono ?_; rintro e w' ⟨rfl, he'⟩)
        go_ret
        exact ⟨by rw [firstAt_hit p l k (by rw [HL.out]; omega) (by rw [B.out]; exact HQ.out) A.out]; rfl, HE.out.trans' he'⟩
      | false =>
        rw [hq] at hcall
        have HQ := Lib.hid hq; clear hq
        go_wp2_with (go_at_fn g; refine hcall.mono ?_; rintro e w' ⟨rfl, he'⟩)
        go_roundg (n - (k + 1))
        case measure => omega
        case rel =>
          refine ⟨k + 1, by omega, by omega, by go_num, HE.out.trans' he', (show Aside _ from fun j hj => ?_)⟩
          by_cases e : j = k
          · subst e
            rw [B.out]; exact HQ.out
          · exact A.out j (by omega)
    · have hltz : ¬ (k : Int) < (n : Int) := by omega
      go_wp2
      go_ret
      exact ⟨by rw [firstAt_miss p l (fun j hj => A.out j (by rw [HL.out] at hj; omega))]; rfl, HE.out⟩


set_option maxHeartbeats 400000 in
theorem containsFuncL_evs {α : Type} [Inhabited α] (R : World → List Value → α → Prop) (hLasts : Lasts R) (g : Nat) (cb : Array Value) (eg : ∀ args w, (callFunc g args).run Try.prog w = .ok (.enter g args) w) (p : α → Bool) (v : Value) (l : List α) (w : World)
    (hv : Sl R 5 w v l) (hn : l.length ≤ 9223372036854775807) (hp : SaysOf Try.prog R encAgg g cb p l w) :
    Calls Try.prog 47 #[v, .func (.func g) #[] cb] w fun e w' => e = .returned (.bool (l.any p)) ∧ Ext w w' := by
  have HI := Lib.hid (indexFuncL_evs R hLasts g cb eg p v l w hv hn hp)
  clear hv hp eg hLasts
  rw [← firstAt_any]
  go_enter Try.func47, Try.ntmps47
  go_wp2_with (go_at_call 68; refine HI.out.mono ?_; rintro e w' ⟨rfl, he'⟩)
  go_ret
  exact ⟨rfl, he'⟩

/-- The running sum of events, as a machine sums. -/
def sumW (t : Tr) : Nat → Int
  | 0 => 0
  | p + 1 => IntKind.i64.wrap (sumW t p + (t[p]!.events.length : Int))
def muchE (e : Ev) : Bool := decide (12 < e.asg.length)
def muchN (v : Vr) : Bool := decide (40 < v.name.size)
def badP (t : Tr) (p : Nat) : Bool :=
  decide (120 < sumW t (p + 1)) || (decide (12 < t[p]!.vars.length) || (decide (40 < t[p]!.name.size) || (t[p]!.events.any muchE || t[p]!.vars.any muchN)))
def few22 (t : Tr) : Bool := ((List.range t.length).all fun p => !badP t p) && decide (t.length ≤ 10)
theorem few22_loose {t : Tr} (h : few22 t = true) : LooseTr t ∧ t.length ≤ 10 := by
  simp only [few22, Bool.and_eq_true, decide_eq_true_eq, List.all_eq_true, List.mem_range, Bool.not_eq_true'] at h
  refine ⟨⟨by omega, fun p hp => ?_⟩, h.2⟩
  have h1 := h.1 p hp
  simp only [badP, Bool.or_eq_false_iff, decide_eq_false_iff_not] at h1
  refine ⟨by omega, fun i hi => ?_⟩
  have h2 := List.any_eq_false.1 h1.2.2.2.1 _ (mem_at t[p]!.events i hi)
  simp only [muchE, decide_eq_true_eq] at h2
  omega

theorem enters_48 : ∀ args w, (callFunc 48 args).run Try.prog w = .ok (.enter 48 args) w := enters_of Try.func48 (by kernel_rfl) rfl
theorem enters_50 : ∀ args w, (callFunc 50 args).run Try.prog w = .ok (.enter 50 args) w := enters_of Try.func50 (by kernel_rfl) rfl

set_option maxHeartbeats 1000000 in
theorem few1_calls (vs : List Value) (x : Ev) (w : World) (hv : REv w vs x) : Calls Try.prog 48 #[.agg vs.toArray] w fun e w' => e = .returned (.bool (muchE x)) ∧ Ext w w' := by
  obtain ⟨v, rfl, hs⟩ := hv
  obtain ⟨a, c, rfl, hlc⟩ := hs.sh
  clear hs
  obtain ⟨r, hr⟩ : ∃ r, decide (12 < (x.asg.length : Int)) = r := ⟨_, rfl⟩
  have HR : Hid (muchE x = r) := Lib.hid (by unfold muchE; rw [← hr]; simp; omega)
  rw [HR.out]
  generalize x.asg.length = n at *
  go_enter Try.func48, Try.ntmps48
  go_wp2
  go_ret
  exact ⟨rfl, (by repeat (first | refine Ext.st ?_ (by first | exact Nat.le_refl _ | exact Nat.le_succ _ | assumption | omega) _ | refine Ext.al ?_ _ | refine Ext.dr ?_ | refine Ext.drN ?_ _ | exact Ext.rf _))⟩
set_option maxHeartbeats 1000000 in
theorem few2_calls (vs : List Value) (x : Vr) (w : World) (hv : RVr w vs x) : Calls Try.prog 50 #[.agg vs.toArray] w fun e w' => e = .returned (.bool (muchN x)) ∧ Ext w w' := by
  obtain rfl : vs = _ := hv
  obtain ⟨r, hr⟩ : ∃ r, decide (40 < (x.name.size : Int)) = r := ⟨_, rfl⟩
  have HR : Hid (muchN x = r) := Lib.hid (by unfold muchN; rw [← hr]; simp; omega)
  rw [HR.out]
  go_enter Try.func50, Try.ntmps50
  go_wp2
  go_ret
  exact ⟨rfl, (by repeat (first | refine Ext.st ?_ (by first | exact Nat.le_refl _ | exact Nat.le_succ _ | assumption | omega) _ | refine Ext.al ?_ _ | refine Ext.dr ?_ | refine Ext.drN ?_ _ | exact Ext.rf _))⟩

set_option maxHeartbeats 8000000 in
set_option maxRecDepth 100000 in
theorem few22_calls (v : Value) (t : Tr) (w : World) (h : TrAt w v t) (htop : TopTr t) :
    Calls Try.prog 13 #[.agg #[v]] w fun e w' => e = .returned (.bool (few22 t)) ∧ Ext w w' := by
  have HT := Lib.hid h
  have HTOP := Lib.hid htop
  obtain ⟨ta, tc, rfl, htc⟩ := h.sh
  have hn1 := htop.1
  obtain ⟨fb, hfb⟩ : ∃ b, few22 t = b := ⟨_, rfl⟩
  rw [hfb]
  have HFB := Lib.hid hfb
  generalize hln : t.length = n at *
  have HL := Lib.hid hln
  have HX0 := Lib.hid (heap_alloc_new w (.cells #[.slice ta n tc] 24))
  have HE1 := Lib.hid ((Ext.rf w).al (.cells #[.slice ta n tc] 24))
  clear h htop hfb hln
  have t0 := cellOf HX0.out 0
  simp only [List.getElem?_toArray, List.getElem?_cons_zero] at t0
  go_enter Try.func13, Try.ntmps13
  go_wp2
  generalize hw2 : w.alloc (.cells #[.slice ta n tc] 24) = w2 at *
  clear hw2 t0
  go_loopg [3, 9] n (fun g s3 s9 wr => ∃ (p : Nat) (z : Int), p ≤ n ∧ n - p ≤ g ∧ s9 = .int .i64 p ∧ s3 = .int .i64 z ∧ Aside (sumW t p = z) ∧ Aside (∀ q, q < p → badP t q = false) ∧ Aside (Ext w2 wr))
  case atStart => exact ⟨0, 0, Nat.zero_le _, by omega, rfl, rfl, (show Aside _ from rfl), (fun j hj => absurd hj (Nat.not_lt_zero _)), Ext.rf _⟩
  case round =>
    obtain ⟨p, z, hp, hg, rfl, rfl, HZ, A, HEK⟩ := hrel
    have HEW := Lib.hid (HE1.out.trans' HEK.out)
    have HY0 := Lib.hid (HEK.out.hp HX0.out)
    by_cases hlt : p < n
    · have hltz : (p : Int) < (n : Int) := by omega
      have hpz : (0 : Int) ≤ (p : Int) := by omega
      have HPL := Lib.hid (show p < t.length from by rw [HL.out]; exact hlt)
      obtain ⟨B, O, C, vv, ve, hve, hlC, hB, hn0, hv0, he0, hV, hE0⟩ := proc_at HT.out p HPL.out
      simp only [Value.slice.injEq] at hve
      obtain ⟨rfl, hzz, rfl⟩ := hve
      have HVV := Lib.hid hV
      have HEV := Lib.hid hE0
      obtain ⟨ea, ec, rfl, hec⟩ := hE0.sh
      obtain ⟨va, vc, rfl, hvc⟩ := hV.sh
      have HTP := Lib.hid (HTOP.out.2 p (by first | exact hlt | exact HPL.out))
      have hn2 := HEW.out.cl hn0
      have hv2 := HEW.out.cl hv0
      have he2 := HEW.out.cl he0
      have HBD : Hid (badP t p = (decide (120 < IntKind.i64.wrap (z + (t[p]!.events.length : Int))) || (decide (12 < t[p]!.vars.length) || (decide (40 < t[p]!.name.size) || (t[p]!.events.any muchE || t[p]!.vars.any muchN))))) := Lib.hid (by rw [← HZ.out]; rfl)
      have HZ2 : Hid (sumW t (p + 1) = IntKind.i64.wrap (z + (t[p]!.events.length : Int))) := Lib.hid (by rw [← HZ.out]; rfl)
      generalize hxx : t[p]! = x at *
      have hel := HTP.out.2
      generalize hne : x.events.length = ne at *
      generalize hnv : x.vars.length = nv at *
      have HNE := Lib.hid hne
      have HNV := Lib.hid hnv
      have HCE := Lib.hid (fun W (hW : Ext w W) => containsFuncL_evs REv rev_lasts 48 #[] enters_48 muchE (.slice ea ne ec) x.events W (HEV.out.ext rev_lasts hW) (by rw [hne]; exact hel) (fun y _ W vs _ hR => few1_calls vs y W hR))
      have HCV := Lib.hid (fun W (hW : Ext w W) (hb : nv ≤ 12) => containsFunc_vars RVr rvr_lasts 50 #[] enters_50 muchN (.slice va nv vc) x.vars W (HVV.out.ext rvr_lasts hW) (by rw [hnv]; omega) (fun y _ W vs _ hR => few2_calls vs y W hR))
      obtain ⟨z2, hz2⟩ : ∃ z2, IntKind.i64.wrap (z + (ne : Int)) = z2 := ⟨_, rfl⟩
      rw [hz2] at HBD HZ2
      clear hn0 hv0 he0 hV hE0 hzz hxx hne hnv
      have HNO : Hid (badP t p = true → fb = false) := Lib.hid (fun hb => by
        rw [← HFB.out, Bool.eq_false_iff]
        intro hf
        simp only [few22, Bool.and_eq_true, decide_eq_true_eq, List.all_eq_true, List.mem_range, Bool.not_eq_true'] at hf
        rw [hf.1 p HPL.out] at hb; cases hb)
      generalize hns : x.name.size = ns at *
      have HBX := Lib.hid (heap_alloc_new wr (.cells #[.string x.name, .slice va nv vc, .slice ea ne ec] 56))
      have HXB := Lib.hid ((Ext.rf wr).al (.cells #[.string x.name, .slice va nv vc, .slice ea ne ec] 56))
      have t0 := cellOf HY0.out 0
      simp only [List.getElem?_toArray, List.getElem?_cons_zero] at t0
      by_cases h1 : 120 < z2
      · have d1 : decide (120 < z2) = true := decide_eq_true h1
        have HF := Lib.hid (HNO.out (by rw [HBD.out, d1]; rfl))
        clear h1
        go_wp2
        go_ret
        exact ⟨by rw [HF.out]; rfl, HEW.out.trans' HXB.out⟩
      have d1 : decide (120 < z2) = false := decide_eq_false h1
      by_cases h2 : 12 < nv
      · have d2 : decide (12 < (nv : Int)) = true := decide_eq_true (by omega)
        have d2n : decide (12 < nv) = true := decide_eq_true h2
        have HF := Lib.hid (HNO.out (by rw [HBD.out, d2n]; simp))
        clear h1 h2
        go_wp2
        go_ret
        exact ⟨by rw [HF.out]; rfl, HEW.out.trans' HXB.out⟩
      have d2 : decide (12 < (nv : Int)) = false := decide_eq_false (by omega)
      have d2n : decide (12 < nv) = false := decide_eq_false h2
      have HCV := Lib.hid (fun W hW => HCV.out W hW (by omega))
      by_cases h3 : 40 < ns
      · have d3 : decide (40 < (ns : Int)) = true := decide_eq_true (by omega)
        have d3n : decide (40 < ns) = true := decide_eq_true h3
        have HF := Lib.hid (HNO.out (by rw [HBD.out, d3n]; simp))
        clear h1 h2 h3
        go_wp2
        go_ret
        exact ⟨by rw [HF.out]; rfl, HEW.out.trans' HXB.out⟩
      have d3 : decide (40 < (ns : Int)) = false := decide_eq_false (by omega)
      have d3n : decide (40 < ns) = false := decide_eq_false h3
      obtain ⟨be, hbe⟩ : ∃ b, x.events.any muchE = b := ⟨_, rfl⟩
      obtain ⟨bv, hbv⟩ : ∃ b, x.vars.any muchN = b := ⟨_, rfl⟩
      rw [hbe] at HCE HBD
      rw [hbv] at HCV HBD
      have HBD2 : Hid (badP t p = (be || bv)) := Lib.hid (by rw [HBD.out, d1, d2n, d3n]; simp)
      clear h1 h2 h3 hbe hbv
      go_wp2_with fail
      refine (HCE.out _ (HEW.out.trans' HXB.out)).mono ?_
      rintro e w5 ⟨rfl, hX5⟩
      have HX5 := Lib.hid (HXB.out.trans' hX5)
      have HB5 := Lib.hid (hX5.hp HBX.out)
      have y1 := cellOf HB5.out 1
      simp only [List.getElem?_toArray, List.getElem?_cons_zero, List.getElem?_cons_succ] at y1
      clear hX5 t0
      cases be with
      | true =>
        have HF := Lib.hid (HNO.out (by rw [HBD2.out]; rfl))
        go_wp2
        go_ret
        exact ⟨by rw [HF.out]; rfl, HEW.out.trans' HX5.out⟩
      | false =>
        go_wp2_with fail
        refine (HCV.out _ (HEW.out.trans' HX5.out)).mono ?_
        rintro e w6 ⟨rfl, hX6⟩
        have HX6 := Lib.hid (HX5.out.trans' hX6)
        clear hX6 y1
        cases bv with
        | true =>
          have HF := Lib.hid (HNO.out (by rw [HBD2.out]; rfl))
          go_wp2
          go_ret
          exact ⟨by rw [HF.out]; rfl, HEW.out.trans' HX6.out⟩
        | false =>
          have HG := Lib.hid (show badP t p = false from by rw [HBD2.out]; rfl)
          go_wp2
          go_roundg (n - (p + 1))
          case measure => omega
          case rel =>
            refine ⟨p + 1, z2, by omega, by omega, by go_num, rfl, (show Aside _ from HZ2.out), (show Aside _ from fun j hj => ?_), (show Ext _ _ from HEK.out.trans' HX6.out)⟩
            by_cases e : j = p
            · subst e; exact HG.out
            · exact A.out j (by omega)
    · have hltz : ¬ (p : Int) < (n : Int) := by omega
      obtain rfl : n = p := by omega
      have t0 := cellOf HY0.out 0
      simp only [List.getElem?_toArray, List.getElem?_cons_zero] at t0
      obtain ⟨r, hr⟩ : ∃ r, decide ((n : Int) ≤ 10) = r := ⟨_, rfl⟩
      have HF : Hid (fb = r) := Lib.hid (by
        have ha : ((List.range t.length).all fun p => !badP t p) = true := by
          rw [List.all_eq_true]; intro q hq; rw [List.mem_range, HL.out] at hq; rw [A.out q hq]; rfl
        rw [← HFB.out, few22, ha, HL.out, ← hr]; simp; omega)
      go_wp2
      go_ret
      exact ⟨by rw [HF.out]; rfl, HEW.out⟩

end Go.Proofs.Ytijncboddmjdcaa
