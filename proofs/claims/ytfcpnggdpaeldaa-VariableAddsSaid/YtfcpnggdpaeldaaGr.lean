import Derived.Test.YtfcpnggdpaeldaaGa
import Derived.Test.YtfcpnggdpaeldaaProg
import Derived.Test.YtfcpnggdpaeldaaGo
import Derived.Test.YtfcpnggdpaeldaaGq
import Derived.Test.YtfcpnggdpaeldaaGl
import Derived.BigQuiet
import Derived.Deep.QuietTactic
import Derived.Deep.LoopGhost
import Derived.Shelf.Abstract
/-
  The library's Clone on variables, events and assignments.
-/
namespace Go.Proofs.Ytfcpnggdpaeldaa
open Go.RowKit
set_option linter.unusedVariables false

theorem info_cvar : (Try.prog.info? 52).map (fun i => (i.zero, i.size, i.bytes)) = some (some (.agg #[.string ⟨#[]⟩, .int .i64 0]), 2, 24) := by kernel_rfl

set_option maxHeartbeats 400000 in
theorem clone_cvar (v : Value) (n : Nat) (xs : List Value) (w : World) (hv : CellsAt w v 2 n xs) (h1 : ∀ u ∈ xs, u.oneCell' = true) (hn : n ≤ 1000000) :
    Calls Try.prog 56 #[v] w fun e w' => ∃ v', e = .returned v' ∧ Row w' w.heap.size 52 2 v' n xs ∧ Ext w w' := by
  obtain ⟨i0, hi, hz0, hz1, hz2⟩ := info_parts info_cvar
  obtain ⟨hl, a, c, rfl, hlc, hv⟩ := hv
  have HLC := Lib.hid hlc; clear hlc
  cases a with
  | none =>
    have hn0 : n = 0 := by
      rcases Nat.eq_zero_or_pos n with h | h
      · exact h
      · obtain ⟨_, _, h, _⟩ := hv h; simp at h
    subst hn0
    obtain rfl : xs = [] := List.eq_nil_of_length_eq_zero (by omega)
    clear hv h1 hn hl
    have heq := fun wx => Lib.run_eql_slice_nil (P := Try.prog) wx 44 52 none 0 c 0 0 Try.underlying44
    go_enter Try.func56, Try.ntmps56
    go_wp2
    go_ret
    exact ⟨_, rfl, Row.mkNil _ _ _ _, Ext.rf _⟩
  | some ad =>
    have heq := fun wx => Lib.run_eql_slice_nil (P := Try.prog) wx 44 52 (some ad) n c 0 0 Try.underlying44
    have HV := Lib.hid hv; clear hv
    have H1 := Lib.hid h1; clear h1
    have HL := Lib.hid hl; clear hl
    have hrow : Row (w.alloc (.cells #[] 52)) w.heap.size 52 2 (.slice (some ⟨w.heap.size, 0, none⟩) 0 0) 0 [] :=
      ⟨by simp, .inr ⟨w.heap.size, 0, 0, #[], rfl, Nat.le_refl _, heap_alloc_new w _, Nat.le_refl _, Nat.zero_le _, by simp, by simp⟩⟩
    have HR := Lib.hid hrow; clear hrow
    have hcs : 0 < n → ∃ ad', some ad = some ad' ∧ ∀ j u, xs[j]? = some u → (w.alloc (.cells #[] 52)).cell? (ad'.add j) = some u := by
      intro hp
      obtain ⟨b, off, hab, hb, hc⟩ := HV.out hp
      refine ⟨ad, rfl, fun j u hj => ?_⟩
      simp only [Option.some.injEq] at hab
      subst hab
      have hjl : j < n * 2 := by have := (List.getElem?_eq_some_iff.1 hj).1; rw [HL.out] at this; exact this
      rw [Addr.add_lit]
      exact ((Ext.rf w).al _).cl ((hc j hjl).trans hj)
    have HC := Lib.hid hcs; clear hcs
    go_enter Try.func56, Try.ntmps56
    go_wp2_with ((at_builtin; refine wpList_append_row rfl _ _ 44 rfl w.heap.size 52 i0 (.agg #[.string ⟨#[]⟩, .int .i64 0]) 2 24 Try.underlying44 hi hz0 hz1 hz2 rfl (by decide) _ 0 [] rfl HR.out _ n c xs rfl HL.out HC.out H1.out (by unfold maxLen; omega) (by omega) (by simp) ?_; intro v' w1 hown1 hgrow1 hblk))
    go_ret
    exact ⟨_, rfl, by simpa using hown1, ((Ext.rf w).al _).gr hgrow1 (fun k hk => by have e : some w.heap.size = some k := hk; simp at e; omega)⟩

theorem info_cevt : (Try.prog.info? 55).map (fun i => (i.zero, i.size, i.bytes)) = some (some (.agg #[.int .i64 0, .int .i64 0, .int .i64 0, .int .i64 0, .slice none 0 0]), 5, 56) := by kernel_rfl

set_option maxHeartbeats 400000 in
theorem clone_cevt (v : Value) (n : Nat) (xs : List Value) (w : World) (hv : CellsAt w v 5 n xs) (h1 : ∀ u ∈ xs, u.oneCell' = true) (hn : n ≤ 1000000) :
    Calls Try.prog 57 #[v] w fun e w' => ∃ v', e = .returned v' ∧ Row w' w.heap.size 55 5 v' n xs ∧ Ext w w' := by
  obtain ⟨i0, hi, hz0, hz1, hz2⟩ := info_parts info_cevt
  obtain ⟨hl, a, c, rfl, hlc, hv⟩ := hv
  have HLC := Lib.hid hlc; clear hlc
  cases a with
  | none =>
    have hn0 : n = 0 := by
      rcases Nat.eq_zero_or_pos n with h | h
      · exact h
      · obtain ⟨_, _, h, _⟩ := hv h; simp at h
    subst hn0
    obtain rfl : xs = [] := List.eq_nil_of_length_eq_zero (by omega)
    clear hv h1 hn hl
    have heq := fun wx => Lib.run_eql_slice_nil (P := Try.prog) wx 45 55 none 0 c 0 0 Try.underlying45
    go_enter Try.func57, Try.ntmps57
    go_wp2
    go_ret
    exact ⟨_, rfl, Row.mkNil _ _ _ _, Ext.rf _⟩
  | some ad =>
    have heq := fun wx => Lib.run_eql_slice_nil (P := Try.prog) wx 45 55 (some ad) n c 0 0 Try.underlying45
    have HV := Lib.hid hv; clear hv
    have H1 := Lib.hid h1; clear h1
    have HL := Lib.hid hl; clear hl
    have hrow : Row (w.alloc (.cells #[] 55)) w.heap.size 55 5 (.slice (some ⟨w.heap.size, 0, none⟩) 0 0) 0 [] :=
      ⟨by simp, .inr ⟨w.heap.size, 0, 0, #[], rfl, Nat.le_refl _, heap_alloc_new w _, Nat.le_refl _, Nat.zero_le _, by simp, by simp⟩⟩
    have HR := Lib.hid hrow; clear hrow
    have hcs : 0 < n → ∃ ad', some ad = some ad' ∧ ∀ j u, xs[j]? = some u → (w.alloc (.cells #[] 55)).cell? (ad'.add j) = some u := by
      intro hp
      obtain ⟨b, off, hab, hb, hc⟩ := HV.out hp
      refine ⟨ad, rfl, fun j u hj => ?_⟩
      simp only [Option.some.injEq] at hab
      subst hab
      have hjl : j < n * 5 := by have := (List.getElem?_eq_some_iff.1 hj).1; rw [HL.out] at this; exact this
      rw [Addr.add_lit]
      exact ((Ext.rf w).al _).cl ((hc j hjl).trans hj)
    have HC := Lib.hid hcs; clear hcs
    go_enter Try.func57, Try.ntmps57
    go_wp2_with ((at_builtin; refine wpList_append_row rfl _ _ 45 rfl w.heap.size 55 i0 (.agg #[.int .i64 0, .int .i64 0, .int .i64 0, .int .i64 0, .slice none 0 0]) 5 56 Try.underlying45 hi hz0 hz1 hz2 rfl (by decide) _ 0 [] rfl HR.out _ n c xs rfl HL.out HC.out H1.out (by unfold maxLen; omega) (by omega) (by simp) ?_; intro v' w1 hown1 hgrow1 hblk))
    go_ret
    exact ⟨_, rfl, by simpa using hown1, ((Ext.rf w).al _).gr hgrow1 (fun k hk => by have e : some w.heap.size = some k := hk; simp at e; omega)⟩

theorem info_casg : (Try.prog.info? 57).map (fun i => (i.zero, i.size, i.bytes)) = some (some (.agg #[.int .i64 0, .int .i64 0]), 2, 16) := by kernel_rfl

set_option maxHeartbeats 400000 in
theorem clone_casg (v : Value) (n : Nat) (xs : List Value) (w : World) (hv : CellsAt w v 2 n xs) (h1 : ∀ u ∈ xs, u.oneCell' = true) (hn : n ≤ 1000000) :
    Calls Try.prog 58 #[v] w fun e w' => ∃ v', e = .returned v' ∧ Row w' w.heap.size 57 2 v' n xs ∧ Ext w w' := by
  obtain ⟨i0, hi, hz0, hz1, hz2⟩ := info_parts info_casg
  obtain ⟨hl, a, c, rfl, hlc, hv⟩ := hv
  have HLC := Lib.hid hlc; clear hlc
  cases a with
  | none =>
    have hn0 : n = 0 := by
      rcases Nat.eq_zero_or_pos n with h | h
      · exact h
      · obtain ⟨_, _, h, _⟩ := hv h; simp at h
    subst hn0
    obtain rfl : xs = [] := List.eq_nil_of_length_eq_zero (by omega)
    clear hv h1 hn hl
    have heq := fun wx => Lib.run_eql_slice_nil (P := Try.prog) wx 53 57 none 0 c 0 0 Try.underlying53
    go_enter Try.func58, Try.ntmps58
    go_wp2
    go_ret
    exact ⟨_, rfl, Row.mkNil _ _ _ _, Ext.rf _⟩
  | some ad =>
    have heq := fun wx => Lib.run_eql_slice_nil (P := Try.prog) wx 53 57 (some ad) n c 0 0 Try.underlying53
    have HV := Lib.hid hv; clear hv
    have H1 := Lib.hid h1; clear h1
    have HL := Lib.hid hl; clear hl
    have hrow : Row (w.alloc (.cells #[] 57)) w.heap.size 57 2 (.slice (some ⟨w.heap.size, 0, none⟩) 0 0) 0 [] :=
      ⟨by simp, .inr ⟨w.heap.size, 0, 0, #[], rfl, Nat.le_refl _, heap_alloc_new w _, Nat.le_refl _, Nat.zero_le _, by simp, by simp⟩⟩
    have HR := Lib.hid hrow; clear hrow
    have hcs : 0 < n → ∃ ad', some ad = some ad' ∧ ∀ j u, xs[j]? = some u → (w.alloc (.cells #[] 57)).cell? (ad'.add j) = some u := by
      intro hp
      obtain ⟨b, off, hab, hb, hc⟩ := HV.out hp
      refine ⟨ad, rfl, fun j u hj => ?_⟩
      simp only [Option.some.injEq] at hab
      subst hab
      have hjl : j < n * 2 := by have := (List.getElem?_eq_some_iff.1 hj).1; rw [HL.out] at this; exact this
      rw [Addr.add_lit]
      exact ((Ext.rf w).al _).cl ((hc j hjl).trans hj)
    have HC := Lib.hid hcs; clear hcs
    go_enter Try.func58, Try.ntmps58
    go_wp2_with ((at_builtin; refine wpList_append_row rfl _ _ 53 rfl w.heap.size 57 i0 (.agg #[.int .i64 0, .int .i64 0]) 2 16 Try.underlying53 hi hz0 hz1 hz2 rfl (by decide) _ 0 [] rfl HR.out _ n c xs rfl HL.out HC.out H1.out (by unfold maxLen; omega) (by omega) (by simp) ?_; intro v' w1 hown1 hgrow1 hblk))
    go_ret
    exact ⟨_, rfl, by simpa using hown1, ((Ext.rf w).al _).gr hgrow1 (fun k hk => by have e : some w.heap.size = some k := hk; simp at e; omega)⟩

end Go.Proofs.Ytfcpnggdpaeldaa

/-
  Events of the call's own, of which the first ones have assignments of the call's own, and the rest those that lay before. No function is named here.
-/
namespace Go.Proofs.Ytfcpnggdpaeldaa
open Go.RowKit
set_option linter.unusedVariables false

def updV (va : Nat → Value) (k : Nat) (u : Value) : Nat → Value := fun j => if j = k then u else va j
theorem updV_at (va : Nat → Value) (k : Nat) (u : Value) : updV va k u k = u := if_pos rfl
theorem updV_ne {va : Nat → Value} {k j : Nat} {u : Value} (h : j ≠ k) : updV va k u j = va j := if_neg h
def MixE (w0 w : World) (base : Nat) (v : Value) (l : List Ev) (k : Nat) (va : Nat → Value) : Prop :=
  ∃ cs, Row w base 55 5 v l.length cs ∧ EvC cs l va ∧ (∀ j, j < k → j < l.length → RowA w base (va j) l[j]!.asg) ∧ ∀ j, k ≤ j → j < l.length → Sl RAsg 2 w0 (va j) l[j]!.asg
theorem MixE.ext {w0 w w' : World} {base : Nat} {v : Value} {l : List Ev} {k : Nat} {va : Nat → Value} (h : MixE w0 w base v l k va) (x : Ext w w') : MixE w0 w' base v l k va := by
  obtain ⟨cs, h1, h2, h3, h4⟩ := h
  exact ⟨cs, h1.ext x, h2, fun j hj hl => (h3 j hj hl).ext x, h4⟩
theorem MixE.done {w0 w : World} {base : Nat} {v : Value} {l : List Ev} {k : Nat} {va : Nat → Value} (h : MixE w0 w base v l k va) (hk : l.length ≤ k) : OwnE w base v l va := by
  obtain ⟨cs, h1, h2, h3, _⟩ := h
  exact ⟨cs, h1, h2, fun j hj => h3 j (by omega) hj⟩
theorem evC_set {cs : List Value} {l : List Ev} {va : Nat → Value} (h : EvC cs l va) {k : Nat} (hk : k < l.length) (u : Value) (b : List Asg) : EvC (cs.set (k * 5 + 4) u) (l.set k { l[k]! with asg := b }) (updV va k u) := by
  obtain ⟨h1, h2⟩ := h
  refine ⟨by rw [List.length_set, List.length_set]; exact h1, fun j hj => ?_⟩
  rw [List.length_set] at hj
  rw [List.drop_set]
  by_cases e : j = k
  · subst e
    rw [if_neg (by omega), List.take_set, h2 j hj, updV_at, show j * 5 + 4 - j * 5 = 4 by omega]
    rw [getElem!_pos (l.set j _) j (by rw [List.length_set]; exact hj), List.getElem_set_self]
    rfl
  · rw [updV_ne e, show (l.set k { l[k]! with asg := b })[j]! = l[j]! from by rw [getElem!_pos _ j (by rw [List.length_set]; exact hj), getElem!_pos l j hj, List.getElem_set_ne (fun h => e h.symm)]]
    by_cases hlt : k * 5 + 4 < j * 5
    · rw [if_pos hlt]; exact h2 j hj
    · rw [if_neg hlt, List.take_set, List.set_eq_of_length_le (by rw [List.length_take]; omega)]; exact h2 j hj
theorem set_self {l : List Ev} {k : Nat} (hk : k < l.length) : l.set k { l[k]! with asg := l[k]!.asg } = l := by
  refine List.ext_getElem (by simp) fun j h1 h2 => ?_
  by_cases e : k = j
  · subst e; rw [List.getElem_set_self, getElem!_pos l k h2]
  · rw [List.getElem_set_ne e]
theorem ev_set_at {l : List Ev} {k : Nat} (hk : k < l.length) (b : List Asg) : (l.set k { l[k]! with asg := b })[k]! = { l[k]! with asg := b } := by
  rw [getElem!_pos _ k (by rw [List.length_set]; exact hk), List.getElem_set_self]
theorem ev_set_ne {l : List Ev} {k j : Nat} (h : j ≠ k) (hj : j < l.length) (x : Ev) : (l.set k x)[j]! = l[j]! := by
  rw [getElem!_pos _ j (by rw [List.length_set]; exact hj), getElem!_pos l j hj, List.getElem_set_ne (fun e => h e.symm)]
/-- What lies in the block of another row stays. -/
theorem MixE.put0 {w0 w : World} {base g off cap : Nat} {l : List Ev} {k : Nat} {va : Nat → Value} (h : MixE w0 w base (.slice (some ⟨g, off, none⟩) l.length cap) l k va) (hk : k < l.length) {u : Value} {b : List Asg} (hu : RowA w base u b) :
    MixE w0 (w.setCell ⟨g, off + k * 5 + 4, none⟩ u) base (.slice (some ⟨g, off, none⟩) l.length cap) (l.set k { l[k]! with asg := b }) (k + 1) (updV va k u) := by
  obtain ⟨cs, h1, h2, h3, h4⟩ := h
  have hs := h1.set (k * 5 + 4) u (by omega)
  have hg : ∃ cur fr, w.heap[g]? = some (.cells cur 55 fr) := by
    rcases h1.2 with ⟨e, _⟩ | ⟨g', off', cap', cur, e, _, hgg, _⟩
    · cases e
    · simp only [Value.slice.injEq, Option.some.injEq, Addr.mk.injEq, and_true] at e
      obtain ⟨⟨rfl, _⟩, _⟩ := e
      exact ⟨_, _, hgg⟩
  obtain ⟨cur, fr, hgc⟩ := hg
  refine ⟨cs.set (k * 5 + 4) u, by rw [List.length_set]; exact hs, evC_set h2 hk u b, fun j hj hl => ?_, fun j hj hl => ?_⟩
  · rw [List.length_set] at hl
    by_cases e : j = k
    · subst e
      rw [updV_at, ev_set_at hl]
      exact hu.stO hgc (by decide) u
    · rw [updV_ne e, ev_set_ne e hl]
      exact (h3 j (by omega) hl).stO hgc (by decide) u
  · rw [List.length_set] at hl
    rw [updV_ne (by omega), ev_set_ne (by omega) hl]
    exact h4 j (by omega) hl
theorem MixE.put {w0 w : World} {base g off cap : Nat} {l : List Ev} {k : Nat} {va : Nat → Value} (h : MixE w0 w base (.slice (some ⟨g, off, none⟩) l.length cap) l k va) (hk : k < l.length) {u : Value} (hu : RowA w base u l[k]!.asg) :
    MixE w0 (w.setCell ⟨g, off + k * 5 + 4, none⟩ u) base (.slice (some ⟨g, off, none⟩) l.length cap) l (k + 1) (updV va k u) := by
  have := h.put0 hk hu
  rwa [set_self hk] at this
/-- The row of the event's own assignments grows. -/
theorem MixE.app {w0 w w' : World} {base g off cap : Nat} {l : List Ev} {k : Nat} {va : Nat → Value} (h : MixE w0 w base (.slice (some ⟨g, off, none⟩) l.length cap) l (k + 1) va) (hk : k < l.length) (hd : ∀ j, j < k → Dis (va j) (va k)) {u : Value} {b : List Asg}
    (hg : w.grownBy w' (va k).ownBlock) (hu : RowA w' base u b) :
    MixE w0 (w'.setCell ⟨g, off + k * 5 + 4, none⟩ u) base (.slice (some ⟨g, off, none⟩) l.length cap) (l.set k { l[k]! with asg := b }) (k + 1) (updV va k u) := by
  obtain ⟨cs, h1, h2, h3, h4⟩ := h
  have hk' := h3 k (by omega) hk
  have hcs := h1.grown hg (h1.apart hk' (by decide))
  have hgc : ∃ cur fr, w'.heap[g]? = some (.cells cur 55 fr) := by
    rcases hcs.2 with ⟨e, _⟩ | ⟨g', off', cap', cur, e, _, hgg, _⟩
    · cases e
    · simp only [Value.slice.injEq, Option.some.injEq, Addr.mk.injEq, and_true] at e
      obtain ⟨⟨rfl, _⟩, _⟩ := e
      exact ⟨_, _, hgg⟩
  obtain ⟨cur, fr, hgc⟩ := hgc
  have hs := hcs.set (k * 5 + 4) u (by omega)
  refine ⟨cs.set (k * 5 + 4) u, by rw [List.length_set]; exact hs, evC_set h2 hk u b, fun j hj hl => ?_, fun j hj hl => ?_⟩
  · rw [List.length_set] at hl
    by_cases e : j = k
    · subst e
      rw [updV_at, ev_set_at hl]
      exact hu.stO hgc (by decide) u
    · rw [updV_ne e, ev_set_ne e hl]
      exact ((h3 j (by omega) hl).grown hg (hd j (by omega))).stO hgc (by decide) u
  · rw [List.length_set] at hl
    rw [updV_ne (by omega), ev_set_ne (by omega) hl]
    exact h4 j (by omega) hl

/-! ### The events of a process, of which the first k have been seen -/
def mixV (nv : Nat) (lp : List Int) (l : List Ev) (k : Nat) : List Ev := (List.range l.length).map fun j => if j < k then withE nv lp j l[j]! else l[j]!
theorem mixV_len (nv : Nat) (lp : List Int) (l : List Ev) (k : Nat) : (mixV nv lp l k).length = l.length := by simp [mixV]
theorem mixV_at {nv : Nat} {lp : List Int} {l : List Ev} {k j : Nat} (h : j < l.length) : (mixV nv lp l k)[j]! = if j < k then withE nv lp j l[j]! else l[j]! := by
  rw [getElem!_pos _ j (by rw [mixV_len]; exact h)]; simp [mixV]
theorem list_ext! {α : Type} [Inhabited α] {a b : List α} (hl : a.length = b.length) (h : ∀ j, j < a.length → a[j]! = b[j]!) : a = b := by
  refine List.ext_getElem hl fun j h1 h2 => ?_
  have := h j h1
  rwa [getElem!_pos a j h1, getElem!_pos b j h2] at this
theorem mixV_zero (nv : Nat) (lp : List Int) (l : List Ev) : mixV nv lp l 0 = l := list_ext! (mixV_len _ _ _ _) fun j hj => by
  rw [mixV_len] at hj
  rw [mixV_at hj, if_neg (by omega)]
theorem mixV_same {nv : Nat} {lp : List Int} {l : List Ev} {k : Nat} (h : lp[k + 1]! = lp[k]!) : mixV nv lp l (k + 1) = mixV nv lp l k := list_ext! (by rw [mixV_len, mixV_len]) fun j hj => by
  rw [mixV_len] at hj
  rw [mixV_at hj, mixV_at hj]
  by_cases e : j = k
  · subst e
    rw [if_pos (by omega), if_neg (by omega)]
    unfold withE; rw [if_pos h]
  · by_cases e2 : j < k
    · rw [if_pos (by omega), if_pos e2]
    · rw [if_neg (by omega), if_neg e2]
theorem mixV_here {nv : Nat} {lp : List Int} {l : List Ev} {k : Nat} (h : k < l.length) : (mixV nv lp l k)[k]! = l[k]! := by rw [mixV_at h, if_neg (by omega)]
theorem mixV_new {nv : Nat} {lp : List Int} {l : List Ev} {k : Nat} (hk : k < l.length) (h : lp[k + 1]! ≠ lp[k]!) : mixV nv lp l (k + 1) = (mixV nv lp l k).set k { (mixV nv lp l k)[k]! with asg := l[k]!.asg ++ [⟨(nv : Int), lp[k + 1]!⟩] } := list_ext! (by rw [mixV_len, List.length_set, mixV_len]) fun j hj => by
  rw [mixV_len] at hj
  by_cases e : j = k
  · subst e
    rw [ev_set_at (by rw [mixV_len]; exact hj), mixV_here hj, mixV_at hj, if_pos (by omega)]
    unfold withE; rw [if_neg h]
  · rw [ev_set_ne e (by rw [mixV_len]; exact hj), mixV_at hj, mixV_at hj]
    by_cases e2 : j < k
    · rw [if_pos (by omega), if_pos e2]
    · rw [if_neg (by omega), if_neg e2]
theorem mixV_all (s : ByteArray) (lp : List Int) (x : Pr) {k : Nat} (hk : x.events.length ≤ k) : mixV x.vars.length lp x.events k = (withP s lp x).events := list_ext! (by rw [mixV_len]; simp [withP]) fun j hj => by
  rw [mixV_len] at hj
  rw [mixV_at hj, if_pos (by omega)]
  show _ = ((List.range x.events.length).map fun k => withE x.vars.length lp k x.events[k]!)[j]!
  exact (show ((List.range x.events.length).map fun k => withE x.vars.length lp k x.events[k]!)[j]! = _ from by rw [getElem!_pos ((List.range x.events.length).map fun k => withE x.vars.length lp k x.events[k]!) j (by simpa using hj), List.getElem_map, List.getElem_range]).symm

open Classical in
/-- The cells of events, and where their assignments lie. -/
theorem events_cells {w : World} {v : Value} {l : List Ev} (h : Sl REv 5 w v l) : ∃ cs ua, CellsAt w v 5 l.length cs ∧ EvC cs l ua ∧ (∀ k, k < l.length → Sl RAsg 2 w (ua k) l[k]!.asg) ∧ ∀ u ∈ cs, u.oneCell' = true := by
  obtain ⟨cs, h1, h2⟩ := h.cells
  have hch : ∀ k, k < l.length → ∃ u, (cs.drop (k * 5)).take 5 = evC l[k]! u ∧ Sl RAsg 2 w u l[k]!.asg := fun k hk => by
    obtain ⟨u, e, hs⟩ := h2 k hk
    exact ⟨u, e, hs⟩
  refine ⟨cs, fun k => if h : ∃ u, (cs.drop (k * 5)).take 5 = evC l[k]! u ∧ Sl RAsg 2 w u l[k]!.asg then h.choose else undef, h1, ⟨h1.1, fun k hk => ?_⟩, fun k hk => ?_, fun u hu => ?_⟩
  · have hx := hch k hk
    dsimp only; rw [dif_pos hx]; exact hx.choose_spec.1
  · have hx := hch k hk
    dsimp only; rw [dif_pos hx]; exact hx.choose_spec.2
  · obtain ⟨i, hi, rfl⟩ := List.getElem_of_mem hu
    have hil : i / 5 < l.length := by have := h1.1; omega
    obtain ⟨u, e, hs⟩ := hch (i / 5) hil
    have hx : (evC l[i / 5]! u)[i % 5]? = cs[i]? := by
      rw [← e, List.getElem?_take_of_lt (by omega), List.getElem?_drop]
      congr 1; omega
    rw [List.getElem?_eq_getElem hi] at hx
    have hm : cs[i] ∈ evC l[i / 5]! u := List.mem_of_getElem? hx
    obtain ⟨a, c, rfl, _⟩ := hs.sh
    simp only [evC, List.mem_cons, List.not_mem_nil, or_false] at hm
    rcases hm with h | h | h | h | h <;> rw [h] <;> rfl
theorem vars_cells {w : World} {v : Value} {l : List Vr} (h : Sl RVr 2 w v l) : CellsAt w v 2 l.length (l.flatMap vrC) := by
  obtain ⟨cs, h1, h2⟩ := h.cells
  have e : cs = l.flatMap vrC := by
    refine List.ext_getElem? fun i => ?_
    by_cases hi : i < l.length * 2
    · have hil : i / 2 < l.length := by omega
      have a : ((cs.drop (i / 2 * 2)).take 2)[i % 2]? = cs[i]? := by rw [List.getElem?_take_of_lt (by omega), List.getElem?_drop]; congr 1; omega
      have b : (((l.flatMap vrC).drop (i / 2 * 2)).take 2)[i % 2]? = (l.flatMap vrC)[i]? := by rw [List.getElem?_take_of_lt (by omega), List.getElem?_drop]; congr 1; omega
      rw [← a, ← b, flat_at vrC (fun _ => rfl) l _ hil]
      have := h2 (i / 2) hil
      rw [show (cs.drop (i / 2 * 2)).take 2 = vrC l[i / 2]! from this]
    · rw [List.getElem?_eq_none (by rw [h1.1]; omega), List.getElem?_eq_none (by rw [flat_len (k := 2) vrC (fun _ => rfl)]; omega)]
  rw [← e]; exact h1
theorem asgs_cells {w : World} {v : Value} {l : List Asg} (h : Sl RAsg 2 w v l) : CellsAt w v 2 l.length (l.flatMap asC) := by
  obtain ⟨cs, h1, h2⟩ := h.cells
  have e : cs = l.flatMap asC := by
    refine List.ext_getElem? fun i => ?_
    by_cases hi : i < l.length * 2
    · have hil : i / 2 < l.length := by omega
      have a : ((cs.drop (i / 2 * 2)).take 2)[i % 2]? = cs[i]? := by rw [List.getElem?_take_of_lt (by omega), List.getElem?_drop]; congr 1; omega
      have b : (((l.flatMap asC).drop (i / 2 * 2)).take 2)[i % 2]? = (l.flatMap asC)[i]? := by rw [List.getElem?_take_of_lt (by omega), List.getElem?_drop]; congr 1; omega
      rw [← a, ← b, flat_at asC (fun _ => rfl) l _ hil]
      have := h2 (i / 2) hil
      rw [show (cs.drop (i / 2 * 2)).take 2 = asC l[i / 2]! from this]
    · rw [List.getElem?_eq_none (by rw [h1.1]; omega), List.getElem?_eq_none (by rw [flat_len (k := 2) asC (fun _ => rfl)]; omega)]
  rw [← e]; exact h1
theorem flat_one {α : Type} {f : α → List Value} (hf : ∀ x, ∀ u ∈ f x, u.oneCell' = true) (l : List α) : ∀ u ∈ l.flatMap f, u.oneCell' = true := fun u hu => by
  obtain ⟨x, _, hx⟩ := List.mem_flatMap.1 hu
  exact hf x u hx
theorem vrC_one : ∀ x, ∀ u ∈ vrC x, u.oneCell' = true := fun x u hu => by
  simp only [vrC, List.mem_cons, List.not_mem_nil, or_false] at hu
  rcases hu with h | h <;> rw [h] <;> rfl
theorem asC_one : ∀ x, ∀ u ∈ asC x, u.oneCell' = true := fun x u hu => by
  simp only [asC, List.mem_cons, List.not_mem_nil, or_false] at hu
  rcases hu with h | h <;> rw [h] <;> rfl

end Go.Proofs.Ytfcpnggdpaeldaa

/-
  A guarded append of one element, where it is wanted. No program is named here.
-/
namespace Go.Proofs.Ytfcpnggdpaeldaa
open Go.RowKit
set_option linter.unusedVariables false

theorem wpList_append_oneG {P : Program} {w : World} {ops : Array Oper} {rest : List Oper} {o : Oper} {a : Act} {Q : Exit → Act → World → Prop} (hw : Region.wanted o (yielded ops a.tmps) = true) (s x : Operand) (t : TypeId)
    (ho : o.op = .call { callee := .builtin .append, args := #[s, x], argTypes := #[t, t] })
    (base : Nat) (e : TypeId) (i : TypeInfo) (z : Value) (size bytes : Nat) (ht : P.underlying t = some (.slice e)) (hi : P.info? e = some i) (hz : i.zero = some z)
    (hsize : i.size = size) (hby : i.bytes = bytes) (hzs : z.cells.size = size) (hsz : 0 < size)
    (v : Value) (n : Nat) (xs : List Value) (hs : a.eval s = v) (hown : Row w base e size v n xs)
    (k c : Nat) (news : List Value) (hx : a.eval x = .slice (some ⟨k, 0, none⟩) 1 c) (hl : news.length = size) (hnews : ∃ fr, w.heap[k]? = some (.cells news.toArray e fr)) (h1 : ∀ u ∈ news, u.oneCell' = true)
    (h63 : n + 1 ≤ maxLen) (hbytes : (n + 1) * bytes ≤ 140737488355328) (hbase : base ≤ w.heap.size)
    (h : ∀ v' w', Row w' base e size v' (n + 1) (xs ++ news) → w.grownBy w' v.ownBlock → (v'.ownBlock = v.ownBlock ∨ ∃ k, v'.ownBlock = some k ∧ w.heap.size ≤ k) → wpList P ops Q rest (a.put o.dst v') w') : wpList P ops Q (o :: rest) a w := by
  refine wpList_step fun K hK => ?_
  rw [if_pos hw]
  obtain ⟨v', w', hr, h2, h3, h4⟩ := run_append_row (P := P) w base t o.type e i z size bytes ht hi hz hsize hby hzs hsz v n xs hown (some ⟨k, 0, none⟩) 1 c news (by omega)
    (fun _ => ⟨_, rfl, fun j u hj => by
      obtain ⟨fr, hf⟩ := hnews
      have := (List.getElem?_eq_some_iff.1 hj)
      simp [Addr.add_lit, World.cell?, hf, hj]⟩) h1 h63 hbytes hbase
  unfold Oper.wp execOp
  simp only [ho, resolve, invoke, builtin, Sem.run_bind, Sem.run_pure, Result.andThen_ok, List.map_toArray, List.map_cons, List.map_nil, hs, hx, hr]
  exact hK _ _ (h v' w' h2 h3 h4)

end Go.Proofs.Ytfcpnggdpaeldaa

/-
  The values of a trace with a further variable: the given ones, and the old ones. No function is named here.
-/
namespace Go.Proofs.Ytfcpnggdpaeldaa
open Go.RowKit
set_option linter.unusedVariables false

variable {t : Tr} {s : ByteArray} {l : List (List Int)}
theorem wi_valid (h : wiE t s l = 0) : validT (withT s l t) = true := by
  obtain ⟨h1, _, h3⟩ := wi_with h
  exact with_valid h1 h3
theorem wi_states (h : wiE t s l = 0) {p k : Nat} (hp : p < t.length) (hk : k ≤ t[p]!.events.length) : stV (withT s l t) p k = stV t p k ++ [l[p]![k]!] := by
  obtain ⟨h1, _, h3⟩ := wi_with h
  exact with_states (validT_parts.1 h1).1 h3 hp k hk
theorem wi_idx (h : wiE t s l = 0) {p : Nat} (hp : p < t.length) : idxV (withT s l t)[p]! s = (t[p]!.vars.length : Int) := by
  obtain ⟨h1, _, h3⟩ := wi_with h
  unfold idxV
  rw [withT_vars hp]
  refine firstAt_hit (isV s) _ t[p]!.vars.length (by simp) ?_ fun j hj => ?_
  · rw [get_append_end rfl]; unfold isV; simp
  · rw [get_append_left hj]; exact h3.once p hp j hj
theorem wi_place (h : wiE t s l = 0) {p k : Nat} (hp : p < t.length) (hk : k ≤ t[p]!.events.length) : placeE (withT s l t) p k = 0 ∧ placeE t p k = 0 := by
  have h1 := (wi_with h).1
  refine ⟨?_, ?_⟩
  · unfold placeE
    rw [if_pos (wi_valid h), if_pos ⟨⟨by omega, by rw [withT_len]; omega⟩, by omega, by rw [Int.toNat_natCast, withT_events hp]; omega⟩]
  · unfold placeE
    rw [if_pos h1, if_pos ⟨⟨by omega, by omega⟩, by omega, by rw [Int.toNat_natCast]; omega⟩]
theorem wi_fault (h : wiE t s l = 0) {p k : Nat} (hp : p < t.length) (hk : k ≤ t[p]!.events.length) : faultV (withT s l t) p k s = 0 := by
  unfold faultV
  rw [(wi_place h hp hk).1, if_neg (by rw [Int.toNat_natCast, wi_idx h hp]; omega)]
theorem wi_value (h : wiE t s l = 0) {p k : Nat} (hp : p < t.length) (hk : k ≤ t[p]!.events.length) : valF (withT s l t) p (idxV (withT s l t)[p]! s).toNat k = l[p]![k]! := by
  unfold valF
  rw [wi_idx h hp, Int.toNat_natCast, wi_states h hp hk]
  exact get_append_end (stV_len t p k hk).symm

end Go.Proofs.Ytfcpnggdpaeldaa
