/-
  The copy of agents, of the program's text.
-/
import Derived.Test.YtpjnppkhhbnfoaaBase
import Derived.Test.YtpjnppkhhbnfoaaProg
import Derived.BigQuiet
import Derived.Deep.QuietTactic
import Derived.Deep.LoopGhost
import Derived.Shelf.Abstract
import Derived.Test.YtpjnppkhhbnfoaaOwnAg
import Derived.Test.YtpjnppkhhbnfoaaCopyN
import Derived.Test.YtpjnppkhhbnfoaaDrawn
import Derived.Test.YtpjnppkhhbnfoaaTail
import Derived.Test.YtpjnppkhhbnfoaaStep
import Derived.Laws.MakeOwn
import Derived.Deep.DrawnRows
import Derived.Deep.DeepCutAuto
import Derived.Deep.RegionHeld3
namespace Go.Proofs.Ytpjnppkhhbnfoaa
open Go.RowKit
set_option linter.unusedVariables false
attribute [local go_sem ↓] Go.wp_at_zero Go.wp_at_succ

theorem info_ints : (Try.prog.info? 3).map (fun i => (i.zero, i.size, i.bytes)) = some (some (.int .i64 0), 1, 8) := by kernel_rfl

set_option maxHeartbeats 400000 in
theorem clone_ints (v : Value) (n : Nat) (xs : List Value) (w : World) (hv : CellsAt w v 1 n xs) (h1 : ∀ u ∈ xs, u.oneCell' = true) (hn : n ≤ 1000000) :
    Calls Try.prog 27 #[v] w fun e w' => ∃ v', e = .returned v' ∧ Row w' w.heap.size 3 1 v' n xs ∧ Ext w w' := by
  obtain ⟨i0, hi, hz0, hz1, hz2⟩ := info_parts info_ints
  obtain ⟨hl, a, c, rfl, hlc, hv⟩ := hv
  have HLC := Lib.hid hlc; clear hlc
  cases a with
  | none =>
    have hn0 : n = 0 := by
      rcases Nat.eq_zero_or_pos n with h | h
      · exact h
      · obtain ⟨_, _, h, _⟩ := hv h; simp at h
    subst hn0
    obtain rfl : xs = [] := List.eq_nil_of_length_eq_zero (by omega)
    clear hv h1 hn hl
    have heq := fun wx => Lib.run_eql_slice_nil (P := Try.prog) wx 22 3 none 0 c 0 0 Try.underlying22
    go_enter Try.func27, Try.ntmps27
    go_wp2
    go_ret
    exact ⟨_, rfl, Row.mkNil _ _ _ _, Ext.rf _⟩
  | some ad =>
    have heq := fun wx => Lib.run_eql_slice_nil (P := Try.prog) wx 22 3 (some ad) n c 0 0 Try.underlying22
    have HV := Lib.hid hv; clear hv
    have H1 := Lib.hid h1; clear h1
    have HL := Lib.hid hl; clear hl
    have hrow : Row (w.alloc (.cells #[] 3)) w.heap.size 3 1 (.slice (some ⟨w.heap.size, 0, none⟩) 0 0) 0 [] :=
      ⟨by simp, .inr ⟨w.heap.size, 0, 0, #[], rfl, Nat.le_refl _, heap_alloc_new w _, Nat.le_refl _, Nat.zero_le _, by simp, by simp⟩⟩
    have HR := Lib.hid hrow; clear hrow
    have hcs : 0 < n → ∃ ad', some ad = some ad' ∧ ∀ j u, xs[j]? = some u → (w.alloc (.cells #[] 3)).cell? (ad'.add j) = some u := by
      intro hp
      obtain ⟨b, off, hab, hb, hc⟩ := HV.out hp
      refine ⟨ad, rfl, fun j u hj => ?_⟩
      simp only [Option.some.injEq] at hab
      subst hab
      have hjl : j < n * 1 := by have := (List.getElem?_eq_some_iff.1 hj).1; rw [HL.out] at this; exact this
      rw [Addr.add_lit]
      exact ((Ext.rf w).al _).cl ((hc j hjl).trans hj)
    have HC := Lib.hid hcs; clear hcs
    go_enter Try.func27, Try.ntmps27
    go_wp2_with ((at_builtin; refine wpList_append_row rfl _ _ 22 rfl w.heap.size 3 i0 (.int .i64 0) 1 8 Try.underlying22 hi hz0 hz1 hz2 rfl (by decide) _ 0 [] rfl HR.out _ n c xs rfl HL.out HC.out H1.out (by unfold maxLen; omega) (by omega) (by simp) ?_; intro v' w1 hown1 hgrow1 hblk))
    go_ret
    exact ⟨_, rfl, by simpa using hown1, ((Ext.rf w).al _).gr hgrow1 (fun k hk => by have e : some w.heap.size = some k := hk; simp at e; omega)⟩
theorem enters_27 : ∀ args w, (callFunc 27 args).run Try.prog w = .ok (.enter 27 args) w := enters_of Try.func27 (by kernel_rfl) rfl

theorem int_one (l : List Int) : ∀ u ∈ l.map (Value.int .i64), u.oneCell' = true := by
  intro u hu
  obtain ⟨x, _, rfl⟩ := List.mem_map.1 hu
  rfl
theorem info_ag : (Try.prog.info? 49).map (fun i => (i.zero, i.size, i.bytes)) = some (some (.agg #[.slice none 0 0, .int .i64 0, .bool false]), 3, 40) := by kernel_rfl
theorem info_rows1 : (Try.prog.info? 22).map (fun i => (i.zero, i.size, i.bytes)) = some (some (.slice none 0 0), 1, 24) := by kernel_rfl

theorem row_some {w : World} {base : Nat} {e : TypeId} {size g off n cap : Nat} {xs : List Value} (h : Row w base e size (.slice (some ⟨g, off, none⟩) n cap) n xs) (j : Nat) (hj : j < n * size) : ∃ u, w.cell? ⟨g, off + j, none⟩ = some u := by
  rw [h.cell j hj]
  have : j < xs.length := by rw [h.1]; exact hj
  exact ⟨xs[j], List.getElem?_eq_getElem this⟩
/-- What one header of many reads as. -/
theorem qhs_last {w : World} {base : Nat} {e2 e3 : TypeId} {hk : List Value} {qk : List (List (List Int))} {u : Value} {q : List (List Int)} (h : QHs w base e2 e3 (hk ++ [u]) (qk ++ [q])) : RowRows w base e2 e3 (Value.int .i64) u q := by
  have hl : hk.length = qk.length := by have := h.1; simpa using this
  have h2 := h.2.1 qk.length (by simp)
  rw [snoc_at hk u qk.length (by omega), snoc_at qk q qk.length (Nat.le_refl _), if_pos hl.symm, if_pos rfl] at h2
  exact h2
theorem qhs_len {w : World} {base : Nat} {e2 e3 : TypeId} {hk : List Value} {qk : List (List (List Int))} {u : Value} {q : List (List Int)} (h : QHs w base e2 e3 (hk ++ [u]) (qk ++ [q])) : hk.length = qk.length := by have := h.1; simpa using this
theorem set_last {α : Type} (l : List α) (x y : α) (k : Nat) (hk : l.length = k) : (l ++ [x]).set k y = l ++ [y] := by
  subst hk; simp
theorem last_at {α : Type} [Inhabited α] (l : List α) (x : α) (k : Nat) (hk : l.length = k) : (l ++ [x])[k]! = x := by
  subst hk; simp
/-- One stamp more behind the last queue. -/
theorem QHs.putLast {W w2 : World} {base : Nat} {e2 e3 : TypeId} {qk : List (List (List Int))} {q : List (List Int)} {hk vs : List Value} {u0 u v' : Value} {x : List Int} (hq : QHs W base e2 e3 (hk ++ [u0]) (qk ++ [q]))
    (h23 : e2 ≠ e3) (hv : Row W base e2 1 u0 q.length vs) (hel : ∀ i, i < q.length → Row W base e3 1 vs[i]! q[i]!.length (q[i]!.map (Value.int .i64))) (hu : Row W base e3 1 u x.length (x.map (Value.int .i64)))
    (hg : W.grownBy w2 u0.ownBlock) (hR : Row w2 base e2 1 v' (q.length + 1) (vs ++ [u])) (hb : v'.ownBlock = u0.ownBlock ∨ ∃ k, v'.ownBlock = some k ∧ W.heap.size ≤ k) :
    QHs w2 base e2 e3 (hk ++ [v']) (qk ++ [q ++ [x]]) := by
  have hl := qhs_len hq
  have e1 : (hk ++ [u0])[qk.length]! = u0 := last_at hk u0 _ hl
  have e2' : (qk ++ [q])[qk.length]! = q := last_at qk q _ rfl
  have := QHs.put (p := qk.length) (v' := v') (x := x) (u := u) (vs := vs) hq (by simp) h23 (by rw [e1, e2']; exact hv) (by rw [e2']; exact hel) hu (by rw [e1]; exact hg) (by rw [e2']; exact hR) (by rw [e1]; exact hb)
  rw [set_last hk u0 v' _ hl, e2', set_last qk q _ _ rfl] at this
  exact this

/-- Agents of the call's own, of this program's types. -/
abbrev OwnA (w : World) (base : Nat) (v : Value) (l : List Ag) : Prop := OwnAg w base 49 22 3 v l
def AgOut (w w' : World) (e : Ending) (l : List Ag) : Prop := ∃ v, e = .returned v ∧ OwnA w' w.heap.size v l ∧ Ext w w'

theorem made_ag {w : World} {n : Nat} (hn : n ≤ 1000000) {z : Array Value} (hz : z.size = n * 3) : Row (w.alloc (.cells z 49)) w.heap.size 49 3 (.slice (some ⟨w.heap.size, 0, none⟩) n n) n z.toList := by
  refine ⟨by simpa using hz, .inr ⟨w.heap.size, 0, n, z, rfl, Nat.le_refl _, heap_alloc_new _ _, Nat.le_refl _, by unfold maxLen; omega, by omega, ?_⟩⟩
  rw [List.drop_zero, List.take_of_length_le (by simp; omega)]

set_option maxHeartbeats 8000000 in
set_option maxRecDepth 100000 in
theorem copiedT_calls (v : Value) (l : List Ag) (w : World) (h : Sl RAgent 3 w v l) (hs : SmallT l) :
    Calls Try.prog 26 #[v] w fun e w' => AgOut w w' e l := by
  obtain ⟨i2, hi2, iz0, iz1, iz2⟩ := info_parts info_rows1
  obtain ⟨i3, hi3, jz0, jz1, jz2⟩ := info_parts info_ag
  have HS := Lib.hid h
  have hn := hs.1
  have HSM := Lib.hid hs.2
  obtain ⟨a, c, rfl, hlc⟩ := h.shape
  obtain ⟨cs0, hs0, hC, hA0, _, hone⟩ := agents_cells h
  have HA0 := Lib.hid hA0
  have HONE := Lib.hid (fun u (hu : u ∈ cs0) => hone u hu)
  generalize hln : l.length = n at *
  have HN := Lib.hid hln
  have HC := Lib.hid hC
  clear h hs hC hA0 hone hln
  have hmk := run_make (P := Try.prog) w 26 49 i3 _ Try.underlying26 hi3 jz0 .i64 .i64 n n (by omega) (Int.le_refl _) (by rw [jz2]; omega) (by omega)
  simp only [Int.toNat_natCast, jz1] at hmk
  have hrow0 := made_ag (w := w) hn (z := madeCells (Value.agg #[.slice none 0 0, .int .i64 0, .bool false]).cells (n * 3)) (size_madeCells _ _)
  have HE1 := Lib.hid ((Ext.rf w).al (.cells (madeCells (Value.agg #[.slice none 0 0, .int .i64 0, .bool false]).cells (n * 3)) 49))
  have hs1 : (w.alloc (.cells (madeCells (Value.agg #[.slice none 0 0, .int .i64 0, .bool false]).cells (n * 3)) 49)).heap.size = w.heap.size + 1 := by simp
  have HC1 := Lib.hid (HC.out.ext HE1.out)
  generalize hw1 : w.alloc (.cells (madeCells (Value.agg #[.slice none 0 0, .int .i64 0, .bool false]).cells (n * 3)) 49) = w1 at *
  generalize hz0 : (madeCells (Value.agg #[.slice none 0 0, .int .i64 0, .bool false]).cells (n * 3)).toList = z0 at *
  have HR0 := Lib.hid hrow0
  clear hw1 hz0 hrow0
  go_enter Try.func26, Try.ntmps26
  go_wp2_with ((refine wpList_copy_all rfl _ _ 26 26 rfl 49 3 Try.underlying26 (by rw [hi3]; simp [jz1]) w.heap.size n _ _ _ _ rfl HR0.out rfl HC1.out HONE.out ?_; intro w2 hR2 hG2; have HE2 := Lib.hid (HE1.out.gr hG2 (fun k hk => (HR0.out.lt k hk).1)); have HR2 := Lib.hid hR2; have hs2 := hG2.size; clear hR2 hG2))
  have hbz : w.heap.size < w2.heap.size := by omega
  clear HC1
  go_loopg [15] n (fun g s15 wr => ∃ (k : Nat) (cs hs : List Value), k ≤ n ∧ n - k ≤ g ∧ s15 = .int .i64 k ∧ Aside (Row wr w.heap.size 49 3 (.slice (some ⟨w.heap.size, 0, none⟩) n n) n cs) ∧ Aside (AgC cs hs l) ∧ Aside (QHs wr w.heap.size 22 3 (hs.take k) ((queuesOf l).take k)) ∧ Aside (Ext w wr))
  case atStart => exact ⟨0, cs0, hs0, Nat.zero_le _, by omega, rfl, HR2.out, HA0.out, QHs.mkNil _ _ _ _, HE2.out⟩
  case round =>
    obtain ⟨k, cs, hs, hk, hg, rfl, HR, HA, HQ, HE⟩ := hrel
    have hszr := HE.out.sz
    by_cases hlt : k < n
    · have hltz : (k : Int) < (n : Int) := by omega
      have hkz : (0 : Int) ≤ (k : Int) := by omega
      have hkq : k < l.length := by rw [HN.out]; exact hlt
      obtain ⟨B, O, C, a1, m1, c1, hue0, _, hq0, _, _, M1, hmc1, HS1⟩ := agent_at HS.out k hkq
      simp only [Value.slice.injEq] at hue0
      obtain ⟨rfl, hnn, rfl⟩ := hue0
      have hBlt : B < w.heap.size := World.block_lt_of_cell? w _ hq0
      have hBne : B ≠ w.heap.size := by omega
      have hBne2 : w.heap.size ≠ B := by omega
      have hq1 := HE.out.cl hq0
      have HM1 := Lib.hid M1
      have hm1 := (HSM.out k hlt).1
      rw [← M1] at hm1
      have HSQ := Lib.hid HS1
      have hc0 := HR.out.cell (k * 3) (by omega)
      have hf0 := HR.out.free (k * 3)
      obtain ⟨x0, hx0⟩ : ∃ x, cs[k * 3]? = some x := ⟨_, (HA.out.2.2 k hkq).1⟩
      rw [hx0, Nat.zero_add] at hc0
      clear hq0 M1 HS1 hnn hx0
      have hbc : ∃ cs1 t1 fr1, wr.heap[w.heap.size]? = some (.cells cs1 t1 fr1) ∧ t1 = 49 := HR.out.block w.heap.size rfl
      obtain ⟨cs1, t1, fr1, hG, rfl⟩ := hbc
      have hq2 := (HQ.out.pushNil).stO (o := k * 3) hG (by decide) (by decide) (.slice none 0 0)
      have hr2 := HR.out.set (k * 3) (.slice none 0 0) (by omega)
      rw [Nat.zero_add] at hr2
      have HR2 := Lib.hid hr2
      have HQ2 := Lib.hid hq2
      have HE2 := Lib.hid (HE.out.st (p := ⟨w.heap.size, k * 3, none⟩) (Nat.le_refl _) (.slice none 0 0))
      have hsz2 : (wr.setCell ⟨w.heap.size, k * 3, none⟩ (.slice none 0 0)).heap.size = wr.heap.size := size_setCell _ _ _
      have HHK : Hid ((hs.take k).length = k) := Lib.hid (by rw [List.length_take, HA.out.2.1, HN.out]; omega)
      have HQL : Hid (((queuesOf l).take k).length = k) := Lib.hid (by rw [List.length_take, queuesOf_len, HN.out]; omega)
      have HTK : Hid ((queuesOf l).take (k + 1) = (queuesOf l).take k ++ [l[k]!.queue]) := Lib.hid (by rw [take_snoc' _ _ (by rw [queuesOf_len]; exact hkq), queuesOf_at l k hkq])
      clear hG hq2 hr2
      generalize hhk : hs.take k = hk0 at *
      generalize hqk : (queuesOf l).take k = qk0 at *
      have HHKE := Lib.hid hhk
      clear hhk hqk
      go_wp2
      clear hc0 hf0 hq1
      generalize hwo : wr.setCell ⟨w.heap.size, k * 3, none⟩ (.slice none 0 0) = wo at *
      clear hwo
      go_loopg [28] m1 (fun g s28 wr => ∃ (i : Nat) (u : Value), i ≤ m1 ∧ m1 - i ≤ g ∧ s28 = .int .i64 i ∧ Aside (Row wr w.heap.size 49 3 (.slice (some ⟨w.heap.size, 0, none⟩) n n) n (cs.set (k * 3) u)) ∧ Aside (QHs wr w.heap.size 22 3 (hk0 ++ [u]) (qk0 ++ [l[k]!.queue.take i])) ∧ Aside (Ext w wr))
      case atStart => exact ⟨0, _, Nat.zero_le _, by omega, rfl, HR2.out, HQ2.out, HE2.out⟩
      case round =>
        obtain ⟨i, u, hi, hg2, rfl, HR, HQ, HE⟩ := hrel
        have hszr2 := HE.out.sz
        by_cases hlt2 : i < m1
        · have hltz2 : (i : Int) < (m1 : Int) := by omega
          have hiz : (0 : Int) ≤ (i : Int) := by omega
          have hiq : i < l[k]!.queue.length := by rw [← HM1.out]; exact hlt2
          obtain ⟨b, o, sv, rfl, hci0, hsv⟩ := stamp_at HSQ.out i hiq
          have hci := HE.out.cl hci0
          have hsl := (HSM.out k hlt).2 i hiq
          have HSV := Lib.hid hsv
          have hil : (l[k]!.queue.take i).length = i := by rw [List.length_take]; omega
          obtain ⟨ivs, hir, hie⟩ := qhs_last HQ.out
          rw [hil] at hir
          have HIL := Lib.hid hil
          obtain ⟨ia, ic, rfl, hic, hsh⟩ := hir.any
          have HV5 := Lib.hid hir
          have HIE := Lib.hid (fun j (hj : j < (l[k]!.queue.take i).length) => hie j hj)
          have HTS := Lib.hid (take_snoc' l[k]!.queue i hiq)
          have hh0 := HR.out.cell (k * 3) (by omega)
          rw [List.getElem?_set, if_pos rfl, if_pos (by have := HA.out.1; have := HN.out; omega), Nat.zero_add] at hh0
          have ff0 := HR.out.free (k * 3)
          have hPm : k * 3 < n * 3 := by omega
          have hGs5 : w.heap.size < wr.heap.size := World.block_lt_of_cell? wr _ hh0
          have HCLN := Lib.hid (fun W (hW : Ext wr W) => clone_ints sv l[k]!.queue[i]!.length (l[k]!.queue[i]!.map (Value.int .i64)) W ((HSV.out.ext (HE.out.trans' hW)).cells) (int_one _) hsl)
          have HR5 := Lib.hid HR.out
          clear hci0 hil hir hie hsh hsv
          generalize hSL : l[k]!.queue[i]!.length = SL at *
          have HSL := Lib.hid hSL
          clear hSL
          go_upto_region 10 with (fail)
          refine wp_region_tail (fun w' => w'.cell? ⟨w.heap.size, k * 3, none⟩ = some (.slice ia i ic)) 13 (by kernel_rfl) ?_ (fun hHeld => ?_)
          · exact hh0
          refine wpAnyT_take (i := 0) (d := some 32) (v := ?_) rfl rfl (by kernel_rfl) (by kernel_rfl) (by kernel_rfl) (by kernel_rfl) (fun _ _ _ h => h) (Or.inl ⟨by rfl, ?_⟩) (by assumption) ?_
          rotate_left
          · (intro w hSw; (try dsimp only at hSw); go_simp; try (with_reducible rfl))
          try simp only [Act.put]
          try simp only [List.setIfInBounds_toArray]
          try simp only [List.set_cons_zero, List.set_cons_succ]
          refine wpAnyT_take (i := 1) (d := some 33) (v := ?_) rfl rfl (by kernel_rfl) (by kernel_rfl) (by kernel_rfl) (by kernel_rfl) (fun _ _ _ h => h) (Or.inl ⟨by rfl, ?_⟩) (by assumption) ?_
          rotate_left
          · (intro w hSw; (try dsimp only at hSw); go_simp; try (with_reducible rfl))
          try simp only [Act.put]
          try simp only [List.setIfInBounds_toArray]
          try simp only [List.set_cons_zero, List.set_cons_succ]
          refine wpAnyT_take (i := 2) (d := some 34) (v := ?_) rfl rfl (by kernel_rfl) (by kernel_rfl) (by kernel_rfl) (by kernel_rfl) (fun _ _ _ h => h) (Or.inl ⟨by rfl, ?_⟩) (by assumption) ?_
          rotate_left
          · (intro w hSw; (try dsimp only at hSw); go_simp; try (with_reducible rfl))
          try simp only [Act.put]
          try simp only [List.setIfInBounds_toArray]
          try simp only [List.set_cons_zero, List.set_cons_succ]
          refine wpAnyT_take (i := 3) (d := some 35) (v := ?_) rfl rfl (by kernel_rfl) (by kernel_rfl) (by kernel_rfl) (by kernel_rfl) (fun _ _ _ h => h) (Or.inl ⟨by rfl, ?_⟩) (by assumption) ?_
          rotate_left
          · (intro w hSw; (try dsimp only at hSw); go_simp; try (with_reducible rfl))
          try simp only [Act.put]
          try simp only [List.setIfInBounds_toArray]
          try simp only [List.set_cons_zero, List.set_cons_succ]
          refine wpAnyT_take (i := 4) (d := some 36) (v := ?_) rfl rfl (by kernel_rfl) (by kernel_rfl) (by kernel_rfl) (by kernel_rfl) (fun _ _ _ h => h) (Or.inl ⟨by rfl, ?_⟩) (by assumption) ?_
          rotate_left
          · (intro w hSw; (try dsimp only at hSw); go_simp; try (with_reducible rfl))
          try simp only [Act.put]
          try simp only [List.setIfInBounds_toArray]
          try simp only [List.set_cons_zero, List.set_cons_succ]
          refine wpAnyT_take (i := 5) (d := some 37) (v := ?_) rfl rfl (by kernel_rfl) (by kernel_rfl) (by kernel_rfl) (by kernel_rfl) (fun _ _ _ h => h) (Or.inl ⟨by rfl, ?_⟩) (by assumption) ?_
          rotate_left
          · (intro w hSw; (try dsimp only at hSw); go_simp; try (with_reducible rfl))
          try simp only [Act.put]
          try simp only [List.setIfInBounds_toArray]
          try simp only [List.set_cons_zero, List.set_cons_succ]
          refine wpAnyT_take (i := 6) (d := some 38) (v := ?_) rfl rfl (by kernel_rfl) (by kernel_rfl) (by kernel_rfl) (by kernel_rfl) (fun _ _ _ h => h) (Or.inl ⟨by rfl, ?_⟩) (by assumption) ?_
          rotate_left
          · (intro w hSw; (try dsimp only at hSw); go_simp; try (with_reducible rfl))
          try simp only [Act.put]
          try simp only [List.setIfInBounds_toArray]
          try simp only [List.set_cons_zero, List.set_cons_succ]
          refine wpAnyT_take (i := 7) (d := some 39) (v := ?_) rfl rfl (by kernel_rfl) (by kernel_rfl) (by kernel_rfl) (by kernel_rfl) (fun _ _ _ h => h) (Or.inl ⟨by rfl, ?_⟩) (by assumption) ?_
          rotate_left
          · (intro w hSw; (try dsimp only at hSw); go_simp; try (with_reducible rfl))
          try simp only [Act.put]
          try simp only [List.setIfInBounds_toArray]
          try simp only [List.set_cons_zero, List.set_cons_succ]
          refine wpAnyT_step (i := 8) (by kernel_rfl) rfl (fun K hK => ?_)
          refine step_call rfl 27 _ _ rfl enters_27 [sv] (by first | rfl | kernel_rfl | go_simp) (HCLN.out _ (by repeat (first | refine Ext.st ?_ (by first | exact Nat.le_refl _ | exact Nat.le_succ _ | assumption | omega) _ | refine Ext.al ?_ _ | refine Ext.dr ?_ | refine Ext.drN ?_ _ | exact Ext.rf _))) ?_
          rintro e wC ⟨vC, rfl, hRC, hxC⟩; obtain ⟨ka, kc, rfl, hkc, hshC⟩ := hRC.any; clear hshC; have HRC := Lib.hid hRC; have HXC := Lib.hid (show Ext wr wC from Ext.trans' (by repeat (first | refine Ext.st ?_ (by first | exact Nat.le_refl _ | exact Nat.le_succ _ | assumption | omega) _ | refine Ext.al ?_ _ | refine Ext.dr ?_ | refine Ext.drN ?_ _ | exact Ext.rf _)) hxC); have nC := HXC.out.sz; have nG1 : w.heap.size < wC.heap.size := Nat.lt_of_lt_of_le hGs5 nC; have nG2 : w.heap.size ≠ wC.heap.size := Nat.ne_of_lt nG1; have nG3 : wC.heap.size ≠ w.heap.size := fun e => nG2 e.symm; have xh := HXC.out.cl hh0; have fh := (HXC.out.frozen (p := ⟨w.heap.size, k * 3, none⟩) hGs5).trans ff0; clear hRC hxC; refine ⟨_, rfl, ?_⟩
          refine hK.out _ _ ?_ (fun hHeld => ?_)
          · (try dsimp only)
            exact xh
          clear hK K
          try simp only [Act.put]
          try simp only [List.setIfInBounds_toArray]
          try simp only [List.set_cons_zero, List.set_cons_succ]
          refine wpAnyT_step (i := 9) (by kernel_rfl) rfl (fun K hK => ?_)
          go_simp
          refine hK.out _ _ ?_ (fun hHeld => ?_)
          · (try dsimp only)
            go_keep
          clear hK K
          try simp only [Act.put]
          try simp only [List.setIfInBounds_toArray]
          try simp only [List.set_cons_zero, List.set_cons_succ]
          refine wpAnyT_step (i := 10) (by kernel_rfl) rfl (fun K hK => ?_)
          refine step_append_rowN rfl _ _ 47 rfl w.heap.size 22 i2 (.slice none 0 0) 1 24 Try.underlying47 hi2 iz0 iz1 iz2 rfl (by decide) (.slice ia i ic) i ivs rfl (by first | exact (HV5.out.ext HXC.out).al _ | exact ((HV5.out.ext HXC.out).al _).drw | exact ((HV5.out.ext HXC.out).drw).al _) _ 1 [.slice ka SL kc] rfl rfl (by first | exact ⟨_, heap_new_eq rfl⟩ | exact ⟨(0, 0), heap_new_eq (by simp)⟩) (by simp [Value.oneCell']) (by unfold maxLen; omega) (by omega) (by first | (simp; omega) | omega) ?_
          intro vN wN hownN hgrowN hblkN; obtain ⟨na, nc, rfl, hnc, hshN⟩ := hownN.any; clear hshN; have hG5 : (wC.alloc (.cells #[.slice ka SL kc] 22)).grownBy wN (Value.slice ia i ic).ownBlock := hgrowN; have hrA := (HR5.out.ext HXC.out).al (.cells #[.slice ka SL kc] 22); have hvA := (HV5.out.ext HXC.out).al (.cells #[.slice ka SL kc] 22); have hrN := hrA.grown hG5 (hrA.apart hvA (by decide)); obtain ⟨uN, cN⟩ := row_some hrN (k * 3) hPm; have fN := hrN.free (k * 3)
          have cN2 : wN.cell? ⟨w.heap.size, k * 3, none⟩ = some (.slice ia i ic) := by
            have := hrN.cell (k * 3) hPm
            rw [List.getElem?_set, if_pos rfl, if_pos (by have := HA.out.1; have := HN.out; omega), Nat.zero_add] at this
            exact this
          refine hK.out _ _ ?_ (fun hHeld => ?_)
          · (try dsimp only)
            exact cN2
          clear hK K
          try simp only [Act.put]
          try simp only [List.setIfInBounds_toArray]
          try simp only [List.set_cons_zero, List.set_cons_succ]
          refine wpAnyT_take (i := 11) (d := some 43) (v := ?_) rfl rfl (by kernel_rfl) (by kernel_rfl) (by kernel_rfl) (by kernel_rfl) (fun _ _ _ h => h) (Or.inl ⟨by rfl, ?_⟩) (by assumption) ?_
          rotate_left
          · (intro w hSw; (try dsimp only at hSw); go_simp; try (with_reducible rfl))
          try simp only [Act.put]
          try simp only [List.setIfInBounds_toArray]
          try simp only [List.set_cons_zero, List.set_cons_succ]
          refine wpAnyT_take (i := 12) (d := some 44) (v := ?_) rfl rfl (by kernel_rfl) (by kernel_rfl) (by kernel_rfl) (by kernel_rfl) (fun _ _ _ h => h) (Or.inl ⟨by rfl, ?_⟩) (by assumption) ?_
          rotate_left
          · (intro w hSw; (try dsimp only at hSw); go_simp; try (with_reducible rfl))
          try simp only [Act.put]
          try simp only [List.setIfInBounds_toArray]
          try simp only [List.set_cons_zero, List.set_cons_succ]
          refine wpAnyT_last (by kernel_rfl) rfl (by kernel_rfl) (fun K hK => ?_)
          go_simp
          refine hK.out _ _ ?_
          have hrF := hrN.set (k * 3) (.slice na (i + 1) nc) hPm
          rw [Nat.zero_add, List.set_set] at hrF
          obtain ⟨cs1, t1, fr1, hG, ht1⟩ := hrN.block w.heap.size rfl
          subst ht1
          have hqF := (QHs.putLast (HQ.out.ext (HXC.out.al (.cells #[.slice ka SL kc] 22))) (by decide) (by rw [HIL.out]; exact hvA) (fun j hj => ((HIE.out j hj).ext HXC.out).al _) (by rw [HSL.out]; exact (HRC.out.mono (by first | omega | (simp; omega))).al _) hG5 (by rw [HIL.out]; exact hownN) hblkN).stO (o := k * 3) hG (by decide) (by decide) (.slice na (i + 1) nc)
          rw [← HTS.out] at hqF
          have HEF := Lib.hid ((((HE.out.trans' HXC.out).al (.cells #[.slice ka SL kc] 22)).gr hG5 (fun q hq => (HV5.out.lt q hq).1)).st (p := ⟨w.heap.size, k * 3, none⟩) (Nat.le_refl _) (.slice na (i + 1) nc))
          have HRF := Lib.hid hrF
          have HQF := Lib.hid hqF
          clear hrF hqF hrN hrA hvA hownN hgrowN hblkN hG5 hG cN2 cN fN
          go_wp2
          go_roundg (m1 - (i + 1))
          case measure => omega
          case rel => exact ⟨i + 1, _, by omega, by omega, by go_num, (show Row _ _ _ _ _ _ _ from HRF.out), (show QHs _ _ _ _ _ _ from HQF.out), (show Ext _ _ from HEF.out)⟩
        · have hltz2 : ¬ (i : Int) < (m1 : Int) := by omega
          obtain rfl : m1 = i := by omega
          have hqF := HQ.out
          rw [List.take_of_length_le (show l[k]!.queue.length ≤ m1 from by rw [← HM1.out]; omega)] at hqF
          have HQF := Lib.hid hqF
          clear hqF
          go_wp2
          go_roundg (n - (k + 1))
          case measure => omega
          case rel =>
            have hA2 := HA.out.setQ k hkq u l[k]!.queue
            have e0 : l.set k { l[k]! with queue := l[k]!.queue } = l := by
              apply List.ext_getElem?
              intro j
              rw [List.getElem?_set]
              split
              · rename_i e; subst e; rw [List.getElem?_eq_getElem hkq, getElem!_pos l k hkq]
              · rfl
            rw [e0] at hA2
            refine ⟨k + 1, _, _, by omega, by omega, by go_num, (show Row _ _ _ _ _ _ _ from HR.out), (show AgC _ _ _ from hA2), (show QHs _ _ _ _ _ _ from ?_), (show Ext _ _ from HE.out)⟩
            rw [HTK.out]
            have e1 : (hs.set k u).take (k + 1) = hk0 ++ [u] := by
              rw [take_snoc' _ _ (by rw [List.length_set, HA.out.2.1]; exact hkq), List.take_set_of_le (Nat.le_refl _), HHKE.out, set_at hs k k u (by rw [HA.out.2.1]; exact hkq), if_pos rfl]
            rw [e1]
            exact HQF.out
    · have hltz : ¬ (k : Int) < (n : Int) := by omega
      obtain rfl : n = k := by omega
      have hq := HQ.out
      rw [List.take_of_length_le (by rw [HA.out.2.1, HN.out]; omega), List.take_of_length_le (by rw [queuesOf_len, HN.out]; omega)] at hq
      have HQ2 := Lib.hid hq
      clear hq
      go_wp2
      go_ret
      exact ⟨_, rfl, ⟨cs, hs, by rw [HN.out]; exact HR.out, HA.out, HQ2.out⟩, HE.out⟩

end Go.Proofs.Ytpjnppkhhbnfoaa
