import Derived.Test.YtfagfooggcinoaaJa
import Derived.Test.YtfagfooggcinoaaProg
import Derived.Test.YtfagfooggcinoaaGi
import Derived.Test.YtfagfooggcinoaaGe
import Derived.Test.YtfagfooggcinoaaGh
import Derived.Test.YtfagfooggcinoaaGb
import Derived.BigQuiet
import Derived.Deep.QuietTactic
import Derived.Deep.LoopGhost
import Derived.Shelf.Abstract
namespace Go.Proofs.Ytfagfooggcinoaa
open Go.RowKit
set_option linter.unusedVariables false
def goesB (t : Tr) (r : List (List Int)) (i : Nat) : Bool := decide (0 ≤ firstAt (fun p => stepB t r[i]! r[i + 1]! p.toNat) (idxL t.length))
def runB (t : Tr) (r : List (List Int)) : Bool :=
 decide (0 < r.length) && ((r[0]! == List.replicate t.length 0) && ((r[r.length - 1]! == lenT t) && (List.range (r.length - 1)).all (goesB t r)))
theorem goes_some {t : Tr} {r : List (List Int)} {i : Nat} (h : goesB t r i = true) : ∃ p, p < t.length ∧ stepB t r[i]! r[i + 1]! p = true := by
 unfold goesB at h
 rw [firstAt_any, List.any_eq_true] at h
 obtain ⟨x, hx, hs⟩ := h
 unfold idxL at hx
 obtain ⟨p, hp, rfl⟩ := List.mem_map.1 hx
 exact ⟨p, List.mem_range.1 hp, by simpa using hs⟩
theorem zero_range {t : Tr} : RangeC t (List.replicate t.length 0) := by
 refine ⟨by simp, rangeB_iff.2 fun p hp => ?_⟩
 rw [List.length_replicate] at hp
 rw [getElem!_pos _ p (by simpa using hp)]
 simp
theorem step_range {t : Tr} {c d : List Int} {p : Nat} (hr : RangeC t c) (hp : p < t.length) (h : stepB t c d p = true) : RangeC t d := by
 unfold stepB at h
 rw [Bool.and_eq_true, beq_iff_eq] at h
 obtain ⟨h1, rfl⟩ := h
 unfold mayB at h1
 rw [Bool.and_eq_true, decide_eq_true_eq] at h1
 have := hr.at hp
 exact set_range hr (by omega) (by omega)
theorem run_range {t : Tr} {r : List (List Int)} (h0 : r[0]! = List.replicate t.length 0) : ∀ i, (∀ j, j < i → goesB t r j = true) → RangeC t r[i]! := by
 intro i
 induction i with
 | zero => intro _; rw [h0]; exact zero_range
 | succ i ih =>
   intro h
   obtain ⟨p, hp, hs⟩ := goes_some (h i (by omega))
   exact step_range (ih fun j hj => h j (by omega)) hp hs
theorem runB_no {t : Tr} {r : List (List Int)} {i : Nat} (hi : i + 1 < r.length) (h : goesB t r i = false) : runB t r = false := by
 unfold runB
 rw [show (List.range (r.length - 1)).all (goesB t r) = false from by rw [List.all_eq_false]; exact ⟨i, List.mem_range.2 (by omega), by rw [h]; simp⟩]
 simp
theorem runB_yes {t : Tr} {r : List (List Int)} (hl : 0 < r.length) (h0 : (r[0]! == List.replicate t.length 0) = true) (h1 : (r[r.length - 1]! == lenT t) = true) (h : ∀ i, i + 1 < r.length → goesB t r i = true) : runB t r = true := by
 unfold runB
 rw [decide_eq_true hl, h0, h1, show (List.range (r.length - 1)).all (goesB t r) = true from by rw [List.all_eq_true]; exact fun i hi => h i (by have := List.mem_range.1 hi; omega)]
 rfl
theorem rowAt {w : World} {v : Value} {r : List (List Int)} (h : Sl RInts 1 w v r) (i : Nat) (hi : i < r.length) :
  ∃ B O C a c, v = .slice (some ⟨B, O, none⟩) r.length C ∧ r.length ≤ C ∧ B < w.heap.size ∧ w.cell? ⟨B, O + i, none⟩ = some (.slice a r[i]!.length c) ∧ Ints w (.slice a r[i]!.length c) r[i]! := by
 obtain ⟨B, O, C, vs, e1, hC, hB, hvl, ⟨u, rfl, hu⟩, hcs⟩ := Sl.cellsOf h i hi
 have h0 := hcs 0 (by omega)
 simp only [List.getElem!_cons_zero, Nat.mul_one, Nat.add_zero] at h0
 obtain ⟨a, c, rfl, hc, hq⟩ := id hu
 exact ⟨B, O, C, a, c, e1, hC, hB, h0, hu⟩
set_option maxHeartbeats 8000000 in
set_option maxRecDepth 100000 in
theorem steps_calls (w0 w : World) (bs : Nat) (tv rv : Value) (t : Tr) (r : List (List Int)) (h : SpcAt w0 w bs tv t) (hv : validT t = true) (hrv : Sl RInts 1 w rv r) (hn2 : t.length ≤ 1000) (hrl : r.length ≤ 1000000) (hil : ∀ i, i < r.length → r[i]!.length ≤ 1000000) :
  Calls Try.prog 74 #[.pointer (some ⟨bs, 0, none⟩), rv] w fun e w' => ∃ v, e = .returned (.tuple #[v, .bool (runB t r)]) ∧ Ext w w' := by
 obtain ⟨ra, rc, rfl, _⟩ := id hrv
 have HB1 := heap_alloc_new w (Obj.cells #[.pointer (some ⟨bs, 0, none⟩)] 119)
 have HB2 := heap_alloc_new (w.alloc (Obj.cells #[.pointer (some ⟨bs, 0, none⟩)] 119)) (Obj.cells #[.slice ra r.length rc] 43)
 have HBS : Hid ((w.alloc (Obj.cells #[.pointer (some ⟨bs, 0, none⟩)] 119)).heap.size = w.heap.size + 1) := Lib.hid (by unfold World.alloc; exact Array.size_push _)
 rw [HBS.out] at HB2
 have HE2 := Lib.hid (((Ext.rf w).al (Obj.cells #[.pointer (some ⟨bs, 0, none⟩)] 119)).al (Obj.cells #[.slice ra r.length rc] 43))
 have hb1 := cellOf (((Ext.rf (w.alloc (Obj.cells #[.pointer (some ⟨bs, 0, none⟩)] 119))).al (Obj.cells #[.slice ra r.length rc] 43)).hp HB1) 0
 have hb2 := cellOf HB2 0
 simp only [List.getElem?_toArray, List.getElem?_cons_zero] at hb1 hb2
 by_cases hR : 0 < r.length
 case neg =>
  have hR0 : r.length = 0 := by omega
  have HA : Hid (runB t r = false) := Lib.hid (by unfold runB; rw [hR0]; rfl)
  generalize runB t r = ans at *
  generalize r.length = R at *
  subst hR0
  clear h hv hrv hil hR hrl HB1 HB2
  go_enter Try.func74, Try.ntmps74
  go_wp2
  refine wp_region_tail (fun W => W.cell? ⟨w.heap.size, 0, none⟩ = some (.pointer (some ⟨bs, 0, none⟩)) ∧ W.cell? ⟨w.heap.size + 1, 0, none⟩ = some (.slice ra 0 rc) ) 23 (by kernel_rfl) (by first | exact ⟨hb1, hb2⟩ | exact ⟨hb1, hb2, hz0, hz1⟩) (fun hHeld => ?_)
  refine tkA 0 10 (v := ?_) rfl rfl (by kernel_rfl) (fun _ _ _ h => h) ?_ (by assumption) ?_
  rotate_left
  ·(intro w hSw; (try dsimp only at hSw); go_simp; try (with_reducible rfl))
  try simp only [Act.put]
  try simp only [List.setIfInBounds_toArray]
  try simp only [List.set_cons_zero, List.set_cons_succ]
  refine tkA 1 11 (v := ?_) rfl rfl (by kernel_rfl) (fun _ _ _ h => h) ?_ (by assumption) ?_
  rotate_left
  ·(intro w hSw; (try dsimp only at hSw); go_simp; try (with_reducible rfl))
  try simp only [Act.put]
  try simp only [List.setIfInBounds_toArray]
  try simp only [List.set_cons_zero, List.set_cons_succ]
  refine tkA 2 12 (v := ?_) rfl rfl (by kernel_rfl) (fun _ _ _ h => h) ?_ (by assumption) ?_
  rotate_left
  ·(intro w hSw; (try dsimp only at hSw); go_simp; try (with_reducible rfl))
  try simp only [Act.put]
  try simp only [List.setIfInBounds_toArray]
  try simp only [List.set_cons_zero, List.set_cons_succ]
  refine tkA 3 13 (v := ?_) rfl rfl (by kernel_rfl) (fun _ _ _ h => h) ?_ (by assumption) ?_
  rotate_left
  ·(intro w hSw; (try dsimp only at hSw); go_simp; try (with_reducible rfl))
  try simp only [Act.put]
  try simp only [List.setIfInBounds_toArray]
  try simp only [List.set_cons_zero, List.set_cons_succ]
  refine tkU 4 14 rfl rfl (by kernel_rfl) (fun _ _ _ h => h) (by assumption) ?_
  try simp only [Act.put]
  try simp only [List.setIfInBounds_toArray]
  try simp only [List.set_cons_zero, List.set_cons_succ]
  refine tkU 5 15 rfl rfl (by kernel_rfl) (fun _ _ _ h => h) (by assumption) ?_
  try simp only [Act.put]
  try simp only [List.setIfInBounds_toArray]
  try simp only [List.set_cons_zero, List.set_cons_succ]
  refine tkU 6 16 rfl rfl (by kernel_rfl) (fun _ _ _ h => h) (by assumption) ?_
  try simp only [Act.put]
  try simp only [List.setIfInBounds_toArray]
  try simp only [List.set_cons_zero, List.set_cons_succ]
  refine tkU 7 17 rfl rfl (by kernel_rfl) (fun _ _ _ h => h) (by assumption) ?_
  try simp only [Act.put]
  try simp only [List.setIfInBounds_toArray]
  try simp only [List.set_cons_zero, List.set_cons_succ]
  refine tkU 8 18 rfl rfl (by kernel_rfl) (fun _ _ _ h => h) (by assumption) ?_
  try simp only [Act.put]
  try simp only [List.setIfInBounds_toArray]
  try simp only [List.set_cons_zero, List.set_cons_succ]
  refine tkU 9 19 rfl rfl (by kernel_rfl) (fun _ _ _ h => h) (by assumption) ?_
  try simp only [Act.put]
  try simp only [List.setIfInBounds_toArray]
  try simp only [List.set_cons_zero, List.set_cons_succ]
  refine tkU 10 20 rfl rfl (by kernel_rfl) (fun _ _ _ h => h) (by assumption) ?_
  try simp only [Act.put]
  try simp only [List.setIfInBounds_toArray]
  try simp only [List.set_cons_zero, List.set_cons_succ]
  refine tkA 11 21 (v := ?_) rfl rfl (by kernel_rfl) (fun _ _ _ h => h) ?_ (by assumption) ?_
  rotate_left
  ·(intro w hSw; (try dsimp only at hSw); go_simp; try (with_reducible rfl))
  try simp only [Act.put]
  try simp only [List.setIfInBounds_toArray]
  try simp only [List.set_cons_zero, List.set_cons_succ]
  refine tkA 12 22 (v := ?_) rfl rfl (by kernel_rfl) (fun _ _ _ h => h) ?_ (by assumption) ?_
  rotate_left
  ·(intro w hSw; (try dsimp only at hSw); go_simp; try (with_reducible rfl))
  try simp only [Act.put]
  try simp only [List.setIfInBounds_toArray]
  try simp only [List.set_cons_zero, List.set_cons_succ]
  refine tkU 13 23 rfl rfl (by kernel_rfl) (fun _ _ _ h => h) (by assumption) ?_
  try simp only [Act.put]
  try simp only [List.setIfInBounds_toArray]
  try simp only [List.set_cons_zero, List.set_cons_succ]
  refine tkU 14 24 rfl rfl (by kernel_rfl) (fun _ _ _ h => h) (by assumption) ?_
  try simp only [Act.put]
  try simp only [List.setIfInBounds_toArray]
  try simp only [List.set_cons_zero, List.set_cons_succ]
  refine tkU 15 25 rfl rfl (by kernel_rfl) (fun _ _ _ h => h) (by assumption) ?_
  try simp only [Act.put]
  try simp only [List.setIfInBounds_toArray]
  try simp only [List.set_cons_zero, List.set_cons_succ]
  refine tkU 16 26 rfl rfl (by kernel_rfl) (fun _ _ _ h => h) (by assumption) ?_
  try simp only [Act.put]
  try simp only [List.setIfInBounds_toArray]
  try simp only [List.set_cons_zero, List.set_cons_succ]
  refine tkU 17 27 rfl rfl (by kernel_rfl) (fun _ _ _ h => h) (by assumption) ?_
  try simp only [Act.put]
  try simp only [List.setIfInBounds_toArray]
  try simp only [List.set_cons_zero, List.set_cons_succ]
  refine tkU 18 28 rfl rfl (by kernel_rfl) (fun _ _ _ h => h) (by assumption) ?_
  try simp only [Act.put]
  try simp only [List.setIfInBounds_toArray]
  try simp only [List.set_cons_zero, List.set_cons_succ]
  refine tkU 19 29 rfl rfl (by kernel_rfl) (fun _ _ _ h => h) (by assumption) ?_
  try simp only [Act.put]
  try simp only [List.setIfInBounds_toArray]
  try simp only [List.set_cons_zero, List.set_cons_succ]
  refine tkU 20 30 rfl rfl (by kernel_rfl) (fun _ _ _ h => h) (by assumption) ?_
  try simp only [Act.put]
  try simp only [List.setIfInBounds_toArray]
  try simp only [List.set_cons_zero, List.set_cons_succ]
  refine tkU 21 31 rfl rfl (by kernel_rfl) (fun _ _ _ h => h) (by assumption) ?_
  try simp only [Act.put]
  try simp only [List.setIfInBounds_toArray]
  try simp only [List.set_cons_zero, List.set_cons_succ]
  refine tkU 22 32 rfl rfl (by kernel_rfl) (fun _ _ _ h => h) (by assumption) ?_
  try simp only [Act.put]
  try simp only [List.setIfInBounds_toArray]
  try simp only [List.set_cons_zero, List.set_cons_succ]
  refine wpAnyT_last (by kernel_rfl) rfl (by kernel_rfl) (fun K hK => ?_)
  go_simp
  refine hK.out _ _ ?_
  go_wp2
  go_ret2
  exact ⟨_, by rw [HA.out]; rfl, HE2.out.dr⟩
 case pos =>
  obtain ⟨B, O, C, a0, c0, e0, hC, hB, z0, hU0⟩ := rowAt hrv 0 hR
  obtain ⟨B', O', C', a1, c1, e1, _, _, z1, hU1⟩ := rowAt hrv (r.length - 1) (by omega)
  simp only [Value.slice.injEq, true_and] at e0 e1
  obtain ⟨rfl, rfl⟩ := e0
  simp only [Option.some.injEq, Addr.mk.injEq, and_true] at e1
  obtain ⟨⟨rfl, rfl⟩, rfl⟩ := e1
  obtain ⟨m, hm⟩ : ∃ m, r.length - 1 = m := ⟨_, rfl⟩
  have HA0 := Lib.hid (fun (h0 : (r[0]! == List.replicate t.length 0) = false) => (show runB t r = false from by unfold runB; rw [h0]; simp))
  have HA1 := Lib.hid (fun (h1 : (r[r.length - 1]! == lenT t) = false) => (show runB t r = false from by unfold runB; rw [h1]; simp))
  have HAY := Lib.hid (runB_yes (t := t) (r := r) hR)
  have HAN := Lib.hid (fun i hi => runB_no (t := t) (r := r) (i := i) hi)
  have HRG := Lib.hid (run_range (t := t) (r := r))
  have hz0 := HE2.out.cl z0
  have hz1 := HE2.out.cl z1
  have HZ := Lib.hid (fun W hW => zero_calls w0 W bs tv t ((h.ext HE2.out).ext hW) hn2)
  have HF := Lib.hid (fun W hW => full_calls w0 W bs tv t ((h.ext HE2.out).ext hW) hn2)
  have hu0 := hU0.ext HE2.out
  have hu1 := hU1.ext HE2.out
  have HQ0 := Lib.hid (fun W hW x (hx : Ints W x (List.replicate t.length 0)) => equal_int _ x r[0]! (List.replicate t.length 0) W (hu0.ext hW) hx (hil 0 hR) (by rw [List.length_replicate]; omega))
  have HQ1 := Lib.hid (fun W hW x (hx : Ints W x (lenT t)) => equal_int _ x r[r.length - 1]! (lenT t) W (hu1.ext hW) hx (hil _ (by omega)) (by rw [lenT_len]; omega))
  have HS := Lib.hid h
  have HRV := Lib.hid hrv
  have HV := Lib.hid hv
  have HIL := Lib.hid hil
  rw [hm] at HQ1 HA1 HAY hz1
  rw [Nat.add_zero] at hz0
  generalize hans : runB t r = ans at *
  generalize hzl : List.replicate t.length (0 : Int) = zl at *
  generalize hfl : lenT t = fl at *
  generalize hq0 : (r[0]! == zl) = q0 at *
  generalize hq1 : (r[m]! == fl) = q1 at *
  generalize hl0 : r[0]!.length = l0 at *
  generalize hl1 : r[m]!.length = l1 at *
  generalize hRn : r.length = R at *
  have hRz : ((R : Int) == 0) = false := by rw [beq_eq_false_iff_ne]; omega
  have hmz : (m : Int) < (R : Int) := by omega
  have hmz0 : (0 : Int) ≤ (m : Int) := by omega
  have h0z : (0 : Int) < (R : Int) := by omega
  have hmw : IntKind.i64.wrap ((R : Int) - 1) = (m : Int) := by rw [IntWalk.i64_in _ (by omega)]; omega
  clear h hrv hv hil hu0 hu1 hU0 hU1 z0 z1 HB1 HB2
  cases q0 with
  | false =>
    have HA : Hid (ans = false) := Lib.hid (HA0.out rfl)
    go_enter Try.func74, Try.ntmps74
    go_wp2
    refine wp_region_tail (fun W => W.cell? ⟨w.heap.size, 0, none⟩ = some (.pointer (some ⟨bs, 0, none⟩)) ∧ W.cell? ⟨w.heap.size + 1, 0, none⟩ = some (.slice (some ⟨B, O, none⟩) R rc) ∧ W.cell? ⟨B, O, none⟩ = some (.slice a0 l0 c0) ∧ W.cell? ⟨B, O + m, none⟩ = some (.slice a1 l1 c1)) 23 (by kernel_rfl) (by first | exact ⟨hb1, hb2⟩ | exact ⟨hb1, hb2, hz0, hz1⟩) (fun hHeld => ?_)
    refine tkA 0 10 (v := ?_) rfl rfl (by kernel_rfl) (fun _ _ _ h => h) ?_ (by assumption) ?_
    rotate_left
    ·(intro w hSw; (try dsimp only at hSw); go_simp; try (with_reducible rfl))
    try simp only [Act.put]
    try simp only [List.setIfInBounds_toArray]
    try simp only [List.set_cons_zero, List.set_cons_succ]
    refine tkA 1 11 (v := ?_) rfl rfl (by kernel_rfl) (fun _ _ _ h => h) ?_ (by assumption) ?_
    rotate_left
    ·(intro w hSw; (try dsimp only at hSw); go_simp; try (with_reducible rfl))
    try simp only [Act.put]
    try simp only [List.setIfInBounds_toArray]
    try simp only [List.set_cons_zero, List.set_cons_succ]
    refine tkA 2 12 (v := ?_) rfl rfl (by kernel_rfl) (fun _ _ _ h => h) ?_ (by assumption) ?_
    rotate_left
    ·(intro w hSw; (try dsimp only at hSw); go_simp; try (with_reducible rfl))
    try simp only [Act.put]
    try simp only [List.setIfInBounds_toArray]
    try simp only [List.set_cons_zero, List.set_cons_succ]
    refine tkA 3 13 (v := ?_) rfl rfl (by kernel_rfl) (fun _ _ _ h => h) ?_ (by assumption) ?_
    rotate_left
    ·(intro w hSw; (try dsimp only at hSw); go_simp; try (with_reducible rfl))
    try simp only [Act.put]
    try simp only [List.setIfInBounds_toArray]
    try simp only [List.set_cons_zero, List.set_cons_succ]
    refine tkA 4 14 (v := ?_) rfl rfl (by kernel_rfl) (fun _ _ _ h => h) ?_ (by assumption) ?_
    rotate_left
    ·(intro w hSw; (try dsimp only at hSw); go_simp; try (with_reducible rfl))
    try simp only [Act.put]
    try simp only [List.setIfInBounds_toArray]
    try simp only [List.set_cons_zero, List.set_cons_succ]
    refine tkA 5 15 (v := ?_) rfl rfl (by kernel_rfl) (fun _ _ _ h => h) ?_ (by assumption) ?_
    rotate_left
    ·(intro w hSw; (try dsimp only at hSw); go_simp; try (with_reducible rfl))
    try simp only [Act.put]
    try simp only [List.setIfInBounds_toArray]
    try simp only [List.set_cons_zero, List.set_cons_succ]
    refine tkA 6 16 (v := ?_) rfl rfl (by kernel_rfl) (fun _ _ _ h => h) ?_ (by assumption) ?_
    rotate_left
    ·(intro w hSw; (try dsimp only at hSw); go_simp; try (with_reducible rfl))
    try simp only [Act.put]
    try simp only [List.setIfInBounds_toArray]
    try simp only [List.set_cons_zero, List.set_cons_succ]
    refine tkA 7 17 (v := ?_) rfl rfl (by kernel_rfl) (fun _ _ _ h => h) ?_ (by assumption) ?_
    rotate_left
    ·(intro w hSw; (try dsimp only at hSw); go_simp; try (with_reducible rfl))
    try simp only [Act.put]
    try simp only [List.setIfInBounds_toArray]
    try simp only [List.set_cons_zero, List.set_cons_succ]
    refine wpAnyT_step (i := 8) (o := ⟨some 18, _, _, _, _, _⟩) (by kernel_rfl) rfl (fun K hK => ?_)
    refine step_callW (by kernel_rfl) 96 _ _ rfl enters_96 [.pointer (some ⟨bs, 0, none⟩)] (by first | rfl | kernel_rfl | go_simp) (HZ.out _ (Ext.rf _).dr) ?_
    rintro e y ⟨v3, rfl, hr3, hX3⟩
    obtain ⟨xa, xc, rfl, _⟩ := hr3.any
    refine ⟨_, rfl, ?_⟩
    have HX3 : Hid (Ext _ y) := Lib.hid ((Ext.rf _).dr.trans' hX3)
    have HI3 := Lib.hid (Row.ints hr3)
    clear hX3 hr3
    refine hK.out _ _ ?_ (fun hHeld => ?_)
    ·(try dsimp only)
     exact ⟨HX3.out.cl hb1, HX3.out.cl hb2, HX3.out.cl hz0, HX3.out.cl hz1⟩
    clear hK K
    try simp only [Act.put]
    try simp only [List.setIfInBounds_toArray]
    try simp only [List.set_cons_zero, List.set_cons_succ]
    refine wpAnyT_step (i := 9) (o := ⟨some 19, _, _, _, _, _⟩) (by kernel_rfl) rfl (fun K hK => ?_)
    refine step_callW (by kernel_rfl) 19 _ _ rfl enters_19 [.slice a0 l0 c0, .slice xa zl.length xc] (by first | rfl | kernel_rfl | go_simp) (HQ0.out _ HX3.out _ HI3.out) ?_
    rintro e u ⟨rfl, hX4⟩
    refine ⟨_, rfl, ?_⟩
    have HX4 : Hid (Ext _ u) := Lib.hid (HX3.out.trans' hX4)
    clear hX4
    refine hK.out _ _ ?_ (fun hHeld => ?_)
    ·(try dsimp only)
     exact ⟨HX4.out.cl hb1, HX4.out.cl hb2, HX4.out.cl hz0, HX4.out.cl hz1⟩
    clear hK K
    try simp only [Act.put]
    try simp only [List.setIfInBounds_toArray]
    try simp only [List.set_cons_zero, List.set_cons_succ]
    refine tkA 10 20 (v := ?_) rfl rfl (by kernel_rfl) (fun _ _ _ h => h) ?_ (by assumption) ?_
    rotate_left
    ·(intro w hSw; (try dsimp only at hSw); go_simp; try (with_reducible rfl))
    try simp only [Act.put]
    try simp only [List.setIfInBounds_toArray]
    try simp only [List.set_cons_zero, List.set_cons_succ]
    refine tkA 11 21 (v := ?_) rfl rfl (by kernel_rfl) (fun _ _ _ h => h) ?_ (by assumption) ?_
    rotate_left
    ·(intro w hSw; (try dsimp only at hSw); go_simp; try (with_reducible rfl))
    try simp only [Act.put]
    try simp only [List.setIfInBounds_toArray]
    try simp only [List.set_cons_zero, List.set_cons_succ]
    refine tkA 12 22 (v := ?_) rfl rfl (by kernel_rfl) (fun _ _ _ h => h) ?_ (by assumption) ?_
    rotate_left
    ·(intro w hSw; (try dsimp only at hSw); go_simp; try (with_reducible rfl))
    try simp only [Act.put]
    try simp only [List.setIfInBounds_toArray]
    try simp only [List.set_cons_zero, List.set_cons_succ]
    refine tkU 13 23 rfl rfl (by kernel_rfl) (fun _ _ _ h => h) (by assumption) ?_
    try simp only [Act.put]
    try simp only [List.setIfInBounds_toArray]
    try simp only [List.set_cons_zero, List.set_cons_succ]
    refine tkU 14 24 rfl rfl (by kernel_rfl) (fun _ _ _ h => h) (by assumption) ?_
    try simp only [Act.put]
    try simp only [List.setIfInBounds_toArray]
    try simp only [List.set_cons_zero, List.set_cons_succ]
    refine tkU 15 25 rfl rfl (by kernel_rfl) (fun _ _ _ h => h) (by assumption) ?_
    try simp only [Act.put]
    try simp only [List.setIfInBounds_toArray]
    try simp only [List.set_cons_zero, List.set_cons_succ]
    refine tkU 16 26 rfl rfl (by kernel_rfl) (fun _ _ _ h => h) (by assumption) ?_
    try simp only [Act.put]
    try simp only [List.setIfInBounds_toArray]
    try simp only [List.set_cons_zero, List.set_cons_succ]
    refine tkU 17 27 rfl rfl (by kernel_rfl) (fun _ _ _ h => h) (by assumption) ?_
    try simp only [Act.put]
    try simp only [List.setIfInBounds_toArray]
    try simp only [List.set_cons_zero, List.set_cons_succ]
    refine tkU 18 28 rfl rfl (by kernel_rfl) (fun _ _ _ h => h) (by assumption) ?_
    try simp only [Act.put]
    try simp only [List.setIfInBounds_toArray]
    try simp only [List.set_cons_zero, List.set_cons_succ]
    refine tkU 19 29 rfl rfl (by kernel_rfl) (fun _ _ _ h => h) (by assumption) ?_
    try simp only [Act.put]
    try simp only [List.setIfInBounds_toArray]
    try simp only [List.set_cons_zero, List.set_cons_succ]
    refine tkU 20 30 rfl rfl (by kernel_rfl) (fun _ _ _ h => h) (by assumption) ?_
    try simp only [Act.put]
    try simp only [List.setIfInBounds_toArray]
    try simp only [List.set_cons_zero, List.set_cons_succ]
    refine tkU 21 31 rfl rfl (by kernel_rfl) (fun _ _ _ h => h) (by assumption) ?_
    try simp only [Act.put]
    try simp only [List.setIfInBounds_toArray]
    try simp only [List.set_cons_zero, List.set_cons_succ]
    refine tkU 22 32 rfl rfl (by kernel_rfl) (fun _ _ _ h => h) (by assumption) ?_
    try simp only [Act.put]
    try simp only [List.setIfInBounds_toArray]
    try simp only [List.set_cons_zero, List.set_cons_succ]
    refine wpAnyT_last (by kernel_rfl) rfl (by kernel_rfl) (fun K hK => ?_)
    go_simp
    refine hK.out _ _ ?_
    go_wp2
    go_ret2
    exact ⟨_, by rw [HA.out]; rfl, HE2.out.trans' HX4.out⟩
  | true =>
    cases q1 with
    | false =>
      have HA : Hid (ans = false) := Lib.hid (HA1.out rfl)
      go_enter Try.func74, Try.ntmps74
      go_wp2
      refine wp_region_tail (fun W => W.cell? ⟨w.heap.size, 0, none⟩ = some (.pointer (some ⟨bs, 0, none⟩)) ∧ W.cell? ⟨w.heap.size + 1, 0, none⟩ = some (.slice (some ⟨B, O, none⟩) R rc) ∧ W.cell? ⟨B, O, none⟩ = some (.slice a0 l0 c0) ∧ W.cell? ⟨B, O + m, none⟩ = some (.slice a1 l1 c1)) 23 (by kernel_rfl) (by first | exact ⟨hb1, hb2⟩ | exact ⟨hb1, hb2, hz0, hz1⟩) (fun hHeld => ?_)
      refine tkA 0 10 (v := ?_) rfl rfl (by kernel_rfl) (fun _ _ _ h => h) ?_ (by assumption) ?_
      rotate_left
      ·(intro w hSw; (try dsimp only at hSw); go_simp; try (with_reducible rfl))
      try simp only [Act.put]
      try simp only [List.setIfInBounds_toArray]
      try simp only [List.set_cons_zero, List.set_cons_succ]
      refine tkA 1 11 (v := ?_) rfl rfl (by kernel_rfl) (fun _ _ _ h => h) ?_ (by assumption) ?_
      rotate_left
      ·(intro w hSw; (try dsimp only at hSw); go_simp; try (with_reducible rfl))
      try simp only [Act.put]
      try simp only [List.setIfInBounds_toArray]
      try simp only [List.set_cons_zero, List.set_cons_succ]
      refine tkA 2 12 (v := ?_) rfl rfl (by kernel_rfl) (fun _ _ _ h => h) ?_ (by assumption) ?_
      rotate_left
      ·(intro w hSw; (try dsimp only at hSw); go_simp; try (with_reducible rfl))
      try simp only [Act.put]
      try simp only [List.setIfInBounds_toArray]
      try simp only [List.set_cons_zero, List.set_cons_succ]
      refine tkA 3 13 (v := ?_) rfl rfl (by kernel_rfl) (fun _ _ _ h => h) ?_ (by assumption) ?_
      rotate_left
      ·(intro w hSw; (try dsimp only at hSw); go_simp; try (with_reducible rfl))
      try simp only [Act.put]
      try simp only [List.setIfInBounds_toArray]
      try simp only [List.set_cons_zero, List.set_cons_succ]
      refine tkA 4 14 (v := ?_) rfl rfl (by kernel_rfl) (fun _ _ _ h => h) ?_ (by assumption) ?_
      rotate_left
      ·(intro w hSw; (try dsimp only at hSw); go_simp; try (with_reducible rfl))
      try simp only [Act.put]
      try simp only [List.setIfInBounds_toArray]
      try simp only [List.set_cons_zero, List.set_cons_succ]
      refine tkA 5 15 (v := ?_) rfl rfl (by kernel_rfl) (fun _ _ _ h => h) ?_ (by assumption) ?_
      rotate_left
      ·(intro w hSw; (try dsimp only at hSw); go_simp; try (with_reducible rfl))
      try simp only [Act.put]
      try simp only [List.setIfInBounds_toArray]
      try simp only [List.set_cons_zero, List.set_cons_succ]
      refine tkA 6 16 (v := ?_) rfl rfl (by kernel_rfl) (fun _ _ _ h => h) ?_ (by assumption) ?_
      rotate_left
      ·(intro w hSw; (try dsimp only at hSw); go_simp; try (with_reducible rfl))
      try simp only [Act.put]
      try simp only [List.setIfInBounds_toArray]
      try simp only [List.set_cons_zero, List.set_cons_succ]
      refine tkA 7 17 (v := ?_) rfl rfl (by kernel_rfl) (fun _ _ _ h => h) ?_ (by assumption) ?_
      rotate_left
      ·(intro w hSw; (try dsimp only at hSw); go_simp; try (with_reducible rfl))
      try simp only [Act.put]
      try simp only [List.setIfInBounds_toArray]
      try simp only [List.set_cons_zero, List.set_cons_succ]
      refine wpAnyT_step (i := 8) (o := ⟨some 18, _, _, _, _, _⟩) (by kernel_rfl) rfl (fun K hK => ?_)
      refine step_callW (by kernel_rfl) 96 _ _ rfl enters_96 [.pointer (some ⟨bs, 0, none⟩)] (by first | rfl | kernel_rfl | go_simp) (HZ.out _ (Ext.rf _).dr) ?_
      rintro e y ⟨v3, rfl, hr3, hX3⟩
      obtain ⟨xa, xc, rfl, _⟩ := hr3.any
      refine ⟨_, rfl, ?_⟩
      have HX3 : Hid (Ext _ y) := Lib.hid ((Ext.rf _).dr.trans' hX3)
      have HI3 := Lib.hid (Row.ints hr3)
      clear hX3 hr3
      refine hK.out _ _ ?_ (fun hHeld => ?_)
      ·(try dsimp only)
       exact ⟨HX3.out.cl hb1, HX3.out.cl hb2, HX3.out.cl hz0, HX3.out.cl hz1⟩
      clear hK K
      try simp only [Act.put]
      try simp only [List.setIfInBounds_toArray]
      try simp only [List.set_cons_zero, List.set_cons_succ]
      refine wpAnyT_step (i := 9) (o := ⟨some 19, _, _, _, _, _⟩) (by kernel_rfl) rfl (fun K hK => ?_)
      refine step_callW (by kernel_rfl) 19 _ _ rfl enters_19 [.slice a0 l0 c0, .slice xa zl.length xc] (by first | rfl | kernel_rfl | go_simp) (HQ0.out _ HX3.out _ HI3.out) ?_
      rintro e u ⟨rfl, hX4⟩
      refine ⟨_, rfl, ?_⟩
      have HX4 : Hid (Ext _ u) := Lib.hid (HX3.out.trans' hX4)
      clear hX4
      refine hK.out _ _ ?_ (fun hHeld => ?_)
      ·(try dsimp only)
       exact ⟨HX4.out.cl hb1, HX4.out.cl hb2, HX4.out.cl hz0, HX4.out.cl hz1⟩
      clear hK K
      try simp only [Act.put]
      try simp only [List.setIfInBounds_toArray]
      try simp only [List.set_cons_zero, List.set_cons_succ]
      refine tkA 10 20 (v := ?_) rfl rfl (by kernel_rfl) (fun _ _ _ h => h) ?_ (by assumption) ?_
      rotate_left
      ·(intro w hSw; (try dsimp only at hSw); go_simp; try (with_reducible rfl))
      try simp only [Act.put]
      try simp only [List.setIfInBounds_toArray]
      try simp only [List.set_cons_zero, List.set_cons_succ]
      refine tkA 11 21 (v := ?_) rfl rfl (by kernel_rfl) (fun _ _ _ h => h) ?_ (by assumption) ?_
      rotate_left
      ·(intro w hSw; (try dsimp only at hSw); go_simp; try (with_reducible rfl))
      try simp only [Act.put]
      try simp only [List.setIfInBounds_toArray]
      try simp only [List.set_cons_zero, List.set_cons_succ]
      refine tkA 12 22 (v := ?_) rfl rfl (by kernel_rfl) (fun _ _ _ h => h) ?_ (by assumption) ?_
      rotate_left
      ·(intro w hSw; (try dsimp only at hSw); go_simp; try (with_reducible rfl))
      try simp only [Act.put]
      try simp only [List.setIfInBounds_toArray]
      try simp only [List.set_cons_zero, List.set_cons_succ]
      refine tkA 13 23 (v := ?_) rfl rfl (by kernel_rfl) (fun _ _ _ h => h) ?_ (by assumption) ?_
      rotate_left
      ·(intro w hSw; (try dsimp only at hSw); go_simp; try (with_reducible rfl))
      try simp only [Act.put]
      try simp only [List.setIfInBounds_toArray]
      try simp only [List.set_cons_zero, List.set_cons_succ]
      refine tkA 14 24 (v := ?_) rfl rfl (by kernel_rfl) (fun _ _ _ h => h) ?_ (by assumption) ?_
      rotate_left
      ·(intro w hSw; (try dsimp only at hSw); go_simp; try (with_reducible rfl))
      try simp only [Act.put]
      try simp only [List.setIfInBounds_toArray]
      try simp only [List.set_cons_zero, List.set_cons_succ]
      refine tkA 15 25 (v := ?_) rfl rfl (by kernel_rfl) (fun _ _ _ h => h) ?_ (by assumption) ?_
      rotate_left
      ·(intro w hSw; (try dsimp only at hSw); go_simp; try (with_reducible rfl))
      try simp only [Act.put]
      try simp only [List.setIfInBounds_toArray]
      try simp only [List.set_cons_zero, List.set_cons_succ]
      refine tkA 16 26 (v := ?_) rfl rfl (by kernel_rfl) (fun _ _ _ h => h) ?_ (by assumption) ?_
      rotate_left
      ·(intro w hSw; (try dsimp only at hSw); go_simp; try (with_reducible rfl))
      try simp only [Act.put]
      try simp only [List.setIfInBounds_toArray]
      try simp only [List.set_cons_zero, List.set_cons_succ]
      refine tkA 17 27 (v := ?_) rfl rfl (by kernel_rfl) (fun _ _ _ h => h) ?_ (by assumption) ?_
      rotate_left
      ·(intro w hSw; (try dsimp only at hSw); go_simp; try (with_reducible rfl))
      try simp only [Act.put]
      try simp only [List.setIfInBounds_toArray]
      try simp only [List.set_cons_zero, List.set_cons_succ]
      refine tkA 18 28 (v := ?_) rfl rfl (by kernel_rfl) (fun _ _ _ h => h) ?_ (by assumption) ?_
      rotate_left
      ·(intro w hSw; (try dsimp only at hSw); go_simp; try (with_reducible rfl))
      try simp only [Act.put]
      try simp only [List.setIfInBounds_toArray]
      try simp only [List.set_cons_zero, List.set_cons_succ]
      refine tkA 19 29 (v := ?_) rfl rfl (by kernel_rfl) (fun _ _ _ h => h) ?_ (by assumption) ?_
      rotate_left
      ·(intro w hSw; (try dsimp only at hSw); go_simp; try (with_reducible rfl))
      try simp only [Act.put]
      try simp only [List.setIfInBounds_toArray]
      try simp only [List.set_cons_zero, List.set_cons_succ]
      refine wpAnyT_step (i := 20) (o := ⟨some 30, _, _, _, _, _⟩) (by kernel_rfl) rfl (fun K hK => ?_)
      refine step_callW (by kernel_rfl) 97 _ _ rfl enters_97 [.pointer (some ⟨bs, 0, none⟩)] (by first | rfl | kernel_rfl | go_simp) (HF.out _ HX4.out) ?_
      rintro e y5 ⟨v5, rfl, hr5, hX5⟩
      obtain ⟨ya, yc, rfl, _⟩ := hr5.any
      refine ⟨_, rfl, ?_⟩
      have HX5 : Hid (Ext _ y5) := Lib.hid (HX4.out.trans' hX5)
      have HI5 := Lib.hid (Row.ints hr5)
      clear hX5 hr5
      refine hK.out _ _ ?_ (fun hHeld => ?_)
      ·(try dsimp only)
       exact ⟨HX5.out.cl hb1, HX5.out.cl hb2, HX5.out.cl hz0, HX5.out.cl hz1⟩
      clear hK K
      try simp only [Act.put]
      try simp only [List.setIfInBounds_toArray]
      try simp only [List.set_cons_zero, List.set_cons_succ]
      refine wpAnyT_step (i := 21) (o := ⟨some 31, _, _, _, _, _⟩) (by kernel_rfl) rfl (fun K hK => ?_)
      refine step_callW (by kernel_rfl) 19 _ _ rfl enters_19 [.slice a1 l1 c1, .slice ya fl.length yc] (by first | rfl | kernel_rfl | go_simp) (HQ1.out _ HX5.out _ HI5.out) ?_
      rintro e z6 ⟨rfl, hX6⟩
      refine ⟨_, rfl, ?_⟩
      have HX6 : Hid (Ext _ z6) := Lib.hid (HX5.out.trans' hX6)
      clear hX6
      refine hK.out _ _ ?_ (fun hHeld => ?_)
      ·(try dsimp only)
       exact ⟨HX6.out.cl hb1, HX6.out.cl hb2, HX6.out.cl hz0, HX6.out.cl hz1⟩
      clear hK K
      try simp only [Act.put]
      try simp only [List.setIfInBounds_toArray]
      try simp only [List.set_cons_zero, List.set_cons_succ]
      refine tkA 22 32 (v := ?_) rfl rfl (by kernel_rfl) (fun _ _ _ h => h) ?_ (by assumption) ?_
      rotate_left
      ·(intro w hSw; (try dsimp only at hSw); go_simp; try (with_reducible rfl))
      try simp only [Act.put]
      try simp only [List.setIfInBounds_toArray]
      try simp only [List.set_cons_zero, List.set_cons_succ]
      refine wpAnyT_last (by kernel_rfl) rfl (by kernel_rfl) (fun K hK => ?_)
      go_simp
      refine hK.out _ _ ?_
      go_wp2
      go_ret2
      exact ⟨_, by rw [HA.out]; rfl, HE2.out.trans' HX6.out⟩
    | true =>
      have HRT : Hid (∀ i, (∀ j, j < i → goesB t r j = true) → RangeC t r[i]!) := Lib.hid (HRG.out (by simpa using hq0))
      go_enter Try.func74, Try.ntmps74
      go_wp2
      refine wp_region_tail (fun W => W.cell? ⟨w.heap.size, 0, none⟩ = some (.pointer (some ⟨bs, 0, none⟩)) ∧ W.cell? ⟨w.heap.size + 1, 0, none⟩ = some (.slice (some ⟨B, O, none⟩) R rc) ∧ W.cell? ⟨B, O, none⟩ = some (.slice a0 l0 c0) ∧ W.cell? ⟨B, O + m, none⟩ = some (.slice a1 l1 c1)) 23 (by kernel_rfl) (by first | exact ⟨hb1, hb2⟩ | exact ⟨hb1, hb2, hz0, hz1⟩) (fun hHeld => ?_)
      refine tkA 0 10 (v := ?_) rfl rfl (by kernel_rfl) (fun _ _ _ h => h) ?_ (by assumption) ?_
      rotate_left
      ·(intro w hSw; (try dsimp only at hSw); go_simp; try (with_reducible rfl))
      try simp only [Act.put]
      try simp only [List.setIfInBounds_toArray]
      try simp only [List.set_cons_zero, List.set_cons_succ]
      refine tkA 1 11 (v := ?_) rfl rfl (by kernel_rfl) (fun _ _ _ h => h) ?_ (by assumption) ?_
      rotate_left
      ·(intro w hSw; (try dsimp only at hSw); go_simp; try (with_reducible rfl))
      try simp only [Act.put]
      try simp only [List.setIfInBounds_toArray]
      try simp only [List.set_cons_zero, List.set_cons_succ]
      refine tkA 2 12 (v := ?_) rfl rfl (by kernel_rfl) (fun _ _ _ h => h) ?_ (by assumption) ?_
      rotate_left
      ·(intro w hSw; (try dsimp only at hSw); go_simp; try (with_reducible rfl))
      try simp only [Act.put]
      try simp only [List.setIfInBounds_toArray]
      try simp only [List.set_cons_zero, List.set_cons_succ]
      refine tkA 3 13 (v := ?_) rfl rfl (by kernel_rfl) (fun _ _ _ h => h) ?_ (by assumption) ?_
      rotate_left
      ·(intro w hSw; (try dsimp only at hSw); go_simp; try (with_reducible rfl))
      try simp only [Act.put]
      try simp only [List.setIfInBounds_toArray]
      try simp only [List.set_cons_zero, List.set_cons_succ]
      refine tkA 4 14 (v := ?_) rfl rfl (by kernel_rfl) (fun _ _ _ h => h) ?_ (by assumption) ?_
      rotate_left
      ·(intro w hSw; (try dsimp only at hSw); go_simp; try (with_reducible rfl))
      try simp only [Act.put]
      try simp only [List.setIfInBounds_toArray]
      try simp only [List.set_cons_zero, List.set_cons_succ]
      refine tkA 5 15 (v := ?_) rfl rfl (by kernel_rfl) (fun _ _ _ h => h) ?_ (by assumption) ?_
      rotate_left
      ·(intro w hSw; (try dsimp only at hSw); go_simp; try (with_reducible rfl))
      try simp only [Act.put]
      try simp only [List.setIfInBounds_toArray]
      try simp only [List.set_cons_zero, List.set_cons_succ]
      refine tkA 6 16 (v := ?_) rfl rfl (by kernel_rfl) (fun _ _ _ h => h) ?_ (by assumption) ?_
      rotate_left
      ·(intro w hSw; (try dsimp only at hSw); go_simp; try (with_reducible rfl))
      try simp only [Act.put]
      try simp only [List.setIfInBounds_toArray]
      try simp only [List.set_cons_zero, List.set_cons_succ]
      refine tkA 7 17 (v := ?_) rfl rfl (by kernel_rfl) (fun _ _ _ h => h) ?_ (by assumption) ?_
      rotate_left
      ·(intro w hSw; (try dsimp only at hSw); go_simp; try (with_reducible rfl))
      try simp only [Act.put]
      try simp only [List.setIfInBounds_toArray]
      try simp only [List.set_cons_zero, List.set_cons_succ]
      refine wpAnyT_step (i := 8) (o := ⟨some 18, _, _, _, _, _⟩) (by kernel_rfl) rfl (fun K hK => ?_)
      refine step_callW (by kernel_rfl) 96 _ _ rfl enters_96 [.pointer (some ⟨bs, 0, none⟩)] (by first | rfl | kernel_rfl | go_simp) (HZ.out _ (Ext.rf _).dr) ?_
      rintro e y ⟨v3, rfl, hr3, hX3⟩
      obtain ⟨xa, xc, rfl, _⟩ := hr3.any
      refine ⟨_, rfl, ?_⟩
      have HX3 : Hid (Ext _ y) := Lib.hid ((Ext.rf _).dr.trans' hX3)
      have HI3 := Lib.hid (Row.ints hr3)
      clear hX3 hr3
      refine hK.out _ _ ?_ (fun hHeld => ?_)
      ·(try dsimp only)
       exact ⟨HX3.out.cl hb1, HX3.out.cl hb2, HX3.out.cl hz0, HX3.out.cl hz1⟩
      clear hK K
      try simp only [Act.put]
      try simp only [List.setIfInBounds_toArray]
      try simp only [List.set_cons_zero, List.set_cons_succ]
      refine wpAnyT_step (i := 9) (o := ⟨some 19, _, _, _, _, _⟩) (by kernel_rfl) rfl (fun K hK => ?_)
      refine step_callW (by kernel_rfl) 19 _ _ rfl enters_19 [.slice a0 l0 c0, .slice xa zl.length xc] (by first | rfl | kernel_rfl | go_simp) (HQ0.out _ HX3.out _ HI3.out) ?_
      rintro e u ⟨rfl, hX4⟩
      refine ⟨_, rfl, ?_⟩
      have HX4 : Hid (Ext _ u) := Lib.hid (HX3.out.trans' hX4)
      clear hX4
      refine hK.out _ _ ?_ (fun hHeld => ?_)
      ·(try dsimp only)
       exact ⟨HX4.out.cl hb1, HX4.out.cl hb2, HX4.out.cl hz0, HX4.out.cl hz1⟩
      clear hK K
      try simp only [Act.put]
      try simp only [List.setIfInBounds_toArray]
      try simp only [List.set_cons_zero, List.set_cons_succ]
      refine tkA 10 20 (v := ?_) rfl rfl (by kernel_rfl) (fun _ _ _ h => h) ?_ (by assumption) ?_
      rotate_left
      ·(intro w hSw; (try dsimp only at hSw); go_simp; try (with_reducible rfl))
      try simp only [Act.put]
      try simp only [List.setIfInBounds_toArray]
      try simp only [List.set_cons_zero, List.set_cons_succ]
      refine tkA 11 21 (v := ?_) rfl rfl (by kernel_rfl) (fun _ _ _ h => h) ?_ (by assumption) ?_
      rotate_left
      ·(intro w hSw; (try dsimp only at hSw); go_simp; try (with_reducible rfl))
      try simp only [Act.put]
      try simp only [List.setIfInBounds_toArray]
      try simp only [List.set_cons_zero, List.set_cons_succ]
      refine tkA 12 22 (v := ?_) rfl rfl (by kernel_rfl) (fun _ _ _ h => h) ?_ (by assumption) ?_
      rotate_left
      ·(intro w hSw; (try dsimp only at hSw); go_simp; try (with_reducible rfl))
      try simp only [Act.put]
      try simp only [List.setIfInBounds_toArray]
      try simp only [List.set_cons_zero, List.set_cons_succ]
      refine tkA 13 23 (v := ?_) rfl rfl (by kernel_rfl) (fun _ _ _ h => h) ?_ (by assumption) ?_
      rotate_left
      ·(intro w hSw; (try dsimp only at hSw); go_simp; try (with_reducible rfl))
      try simp only [Act.put]
      try simp only [List.setIfInBounds_toArray]
      try simp only [List.set_cons_zero, List.set_cons_succ]
      refine tkA 14 24 (v := ?_) rfl rfl (by kernel_rfl) (fun _ _ _ h => h) ?_ (by assumption) ?_
      rotate_left
      ·(intro w hSw; (try dsimp only at hSw); go_simp; try (with_reducible rfl))
      try simp only [Act.put]
      try simp only [List.setIfInBounds_toArray]
      try simp only [List.set_cons_zero, List.set_cons_succ]
      refine tkA 15 25 (v := ?_) rfl rfl (by kernel_rfl) (fun _ _ _ h => h) ?_ (by assumption) ?_
      rotate_left
      ·(intro w hSw; (try dsimp only at hSw); go_simp; try (with_reducible rfl))
      try simp only [Act.put]
      try simp only [List.setIfInBounds_toArray]
      try simp only [List.set_cons_zero, List.set_cons_succ]
      refine tkA 16 26 (v := ?_) rfl rfl (by kernel_rfl) (fun _ _ _ h => h) ?_ (by assumption) ?_
      rotate_left
      ·(intro w hSw; (try dsimp only at hSw); go_simp; try (with_reducible rfl))
      try simp only [Act.put]
      try simp only [List.setIfInBounds_toArray]
      try simp only [List.set_cons_zero, List.set_cons_succ]
      refine tkA 17 27 (v := ?_) rfl rfl (by kernel_rfl) (fun _ _ _ h => h) ?_ (by assumption) ?_
      rotate_left
      ·(intro w hSw; (try dsimp only at hSw); go_simp; try (with_reducible rfl))
      try simp only [Act.put]
      try simp only [List.setIfInBounds_toArray]
      try simp only [List.set_cons_zero, List.set_cons_succ]
      refine tkA 18 28 (v := ?_) rfl rfl (by kernel_rfl) (fun _ _ _ h => h) ?_ (by assumption) ?_
      rotate_left
      ·(intro w hSw; (try dsimp only at hSw); go_simp; try (with_reducible rfl))
      try simp only [Act.put]
      try simp only [List.setIfInBounds_toArray]
      try simp only [List.set_cons_zero, List.set_cons_succ]
      refine tkA 19 29 (v := ?_) rfl rfl (by kernel_rfl) (fun _ _ _ h => h) ?_ (by assumption) ?_
      rotate_left
      ·(intro w hSw; (try dsimp only at hSw); go_simp; try (with_reducible rfl))
      try simp only [Act.put]
      try simp only [List.setIfInBounds_toArray]
      try simp only [List.set_cons_zero, List.set_cons_succ]
      refine wpAnyT_step (i := 20) (o := ⟨some 30, _, _, _, _, _⟩) (by kernel_rfl) rfl (fun K hK => ?_)
      refine step_callW (by kernel_rfl) 97 _ _ rfl enters_97 [.pointer (some ⟨bs, 0, none⟩)] (by first | rfl | kernel_rfl | go_simp) (HF.out _ HX4.out) ?_
      rintro e y5 ⟨v5, rfl, hr5, hX5⟩
      obtain ⟨ya, yc, rfl, _⟩ := hr5.any
      refine ⟨_, rfl, ?_⟩
      have HX5 : Hid (Ext _ y5) := Lib.hid (HX4.out.trans' hX5)
      have HI5 := Lib.hid (Row.ints hr5)
      clear hX5 hr5
      refine hK.out _ _ ?_ (fun hHeld => ?_)
      ·(try dsimp only)
       exact ⟨HX5.out.cl hb1, HX5.out.cl hb2, HX5.out.cl hz0, HX5.out.cl hz1⟩
      clear hK K
      try simp only [Act.put]
      try simp only [List.setIfInBounds_toArray]
      try simp only [List.set_cons_zero, List.set_cons_succ]
      refine wpAnyT_step (i := 21) (o := ⟨some 31, _, _, _, _, _⟩) (by kernel_rfl) rfl (fun K hK => ?_)
      refine step_callW (by kernel_rfl) 19 _ _ rfl enters_19 [.slice a1 l1 c1, .slice ya fl.length yc] (by first | rfl | kernel_rfl | go_simp) (HQ1.out _ HX5.out _ HI5.out) ?_
      rintro e z6 ⟨rfl, hX6⟩
      refine ⟨_, rfl, ?_⟩
      have HX6 : Hid (Ext _ z6) := Lib.hid (HX5.out.trans' hX6)
      clear hX6
      refine hK.out _ _ ?_ (fun hHeld => ?_)
      ·(try dsimp only)
       exact ⟨HX6.out.cl hb1, HX6.out.cl hb2, HX6.out.cl hz0, HX6.out.cl hz1⟩
      clear hK K
      try simp only [Act.put]
      try simp only [List.setIfInBounds_toArray]
      try simp only [List.set_cons_zero, List.set_cons_succ]
      refine tkA 22 32 (v := ?_) rfl rfl (by kernel_rfl) (fun _ _ _ h => h) ?_ (by assumption) ?_
      rotate_left
      ·(intro w hSw; (try dsimp only at hSw); go_simp; try (with_reducible rfl))
      try simp only [Act.put]
      try simp only [List.setIfInBounds_toArray]
      try simp only [List.set_cons_zero, List.set_cons_succ]
      refine wpAnyT_last (by kernel_rfl) rfl (by kernel_rfl) (fun K hK => ?_)
      go_simp
      refine hK.out _ _ ?_
      have c1' := HX6.out.cl hb1
      have c2' := HX6.out.cl hb2
      have HE6 := Lib.hid (HE2.out.trans' HX6.out)
      have HC1 := Lib.hid c1'
      have HC2 := Lib.hid c2'
      clear hHeld HX3 HX4 HX5 HX6 HI3 HI5 hb1 hb2 hz0 hz1 HQ0 HQ1 HZ HF HE2
      by_cases hrc : rc = 1
      case pos =>
       have hm0 : m = 0 := by clear hm hl1 hRn HAY HAN; omega
       have HA : Hid (ans = true) := Lib.hid (HAY.out trivial trivial (fun i hi => absurd hi (by omega)))
       subst hrc
       subst hm0
       go_wp2
       go_loopg [6, 37] 0 (fun g s6 s37 wr => s37 = .int .i64 0 ∧ Aside (Ext z6 wr))
       case atStart => exact ⟨rfl, (show Ext _ _ from Ext.rf _)⟩
       case round =>
        obtain ⟨rfl, HX⟩ := hrel
        go_wp2
        go_ret2
        exact ⟨_, by rw [HA.out]; rfl, HE6.out.trans' HX.out⟩
      case neg =>
       have hrc1 : (rc == 1) = false := by rw [beq_eq_false_iff_ne]; exact hrc
       have HR6 : Hid (Row z6 z6.heap.size 3 1 (.slice none 0 0) 0 (([] : List Int).map (Value.int .i64))) := Lib.hid (Row.mkNil _ _ _ _)
       go_wp2
       go_loopg [6, 37] m (fun g s6 s37 wr => ∃ (k : Nat) (ls : List Int), k ≤ m ∧ m - k ≤ g ∧ s37 = .int .i64 k ∧ Aside (Row wr z6.heap.size 3 1 s6 k (ls.map (Value.int .i64))) ∧ Aside (Ext z6 wr) ∧ Aside (∀ i, i < k → goesB t r i = true))
       case atStart => exact ⟨0, [], Nat.zero_le _, by omega, rfl, (show Row _ _ _ _ _ _ _ from HR6.out), (show Ext _ _ from Ext.rf _), (show Aside _ from fun x hx => absurd hx (Nat.not_lt_zero _))⟩
       case round =>
        obtain ⟨k, ls, hk, hg, rfl, HR, HX, HG⟩ := hrel
        by_cases hlt : k < m
        case neg =>
         have hltz : ¬ (k : Int) < (m : Int) := by omega
         have hkm : k = m := by omega
         have HA : Hid (ans = true) := Lib.hid (HAY.out trivial trivial (fun i hi => HG.out i (show i < k by rw [hkm, ← hm]; exact Nat.lt_sub_of_add_lt hi)))
         clear hkm
         go_wp2
         go_ret2
         exact ⟨⟨_, by rw [HA.out]; rfl⟩, HE6.out.trans' HX.out⟩
        case pos =>
         have hltz : (k : Int) < (m : Int) := by omega
         have hkz : (0 : Int) ≤ (k : Int) := by omega
         obtain ⟨B2, O2, C2, ak, ck, ek, _, _, zk, hUk⟩ := rowAt HRV.out (k + 1) (by omega)
         simp only [Value.slice.injEq, Option.some.injEq, Addr.mk.injEq, and_true] at ek
         obtain ⟨⟨rfl, rfl⟩, hxx, rfl⟩ := ek
         clear hxx
         have hd1 := (HE6.out.trans' HX.out).cl zk
         rw [show O + (k + 1) = O + 1 + k from by omega] at hd1
         obtain ⟨nv, vn, h1, _, _, h4, _⟩ := HS.out
         obtain ⟨na, nc, rfl, _⟩ := h4.any
         have hbx := cellOf ((HE6.out.trans' HX.out).hp h1) 1
         simp only [List.getElem?_toArray, List.getElem?_cons_zero, List.getElem?_cons_succ] at hbx
         have HRGK := Lib.hid (HRT.out k HG.out)
         have HLK := Lib.hid (HIL.out (k + 1) (by omega))
         have HDV := Lib.hid (hUk.ext (HE6.out.trans' HX.out))
         have HGB : Hid (goesB t r k = decide (0 ≤ firstAt (fun p => stepB t r[k]! r[k + 1]! p.toNat) (idxL t.length))) := Lib.hid rfl
         generalize hlk : r[k + 1]!.length = lk at *
         have HB3 := heap_alloc_new wr (Obj.cells #[.int .i64 k] 3)
         have HB4 := heap_alloc_new (wr.alloc (Obj.cells #[.int .i64 k] 3)) (Obj.cells #[.slice ak lk ck] 25)
         have HBT : Hid ((wr.alloc (Obj.cells #[.int .i64 k] 3)).heap.size = wr.heap.size + 1) := Lib.hid (by unfold World.alloc; exact Array.size_push _)
         rw [HBT.out] at HB4
         have HXW := Lib.hid ((HX.out.al (Obj.cells #[.int .i64 k] 3)).al (Obj.cells #[.slice ak lk ck] 25))
         have HRW := Lib.hid (((Ext.rf wr).al (Obj.cells #[.int .i64 k] 3)).al (Obj.cells #[.slice ak lk ck] 25))
         have hb3 := cellOf (((Ext.rf (wr.alloc (Obj.cells #[.int .i64 k] 3))).al (Obj.cells #[.slice ak lk ck] 25)).hp HB3) 0
         have hb4 := cellOf HB4 0
         simp only [List.getElem?_toArray, List.getElem?_cons_zero] at hb3 hb4
         have hb1 := HXW.out.cl HC1.out
         have hb2 := HXW.out.cl HC2.out
         have hnx := HRW.out.cl hbx
         go_upto_region 7 with (fail)
         generalize hW2 : (wr.alloc (Obj.cells #[.int .i64 k] 3)).alloc (Obj.cells #[.slice ak lk ck] 25) = W2 at *
         have HWX := Lib.hid (HE6.out.trans' HXW.out)
         have HIC := Lib.hid (fun W => indices_calls t.length W hn2)
         have HIF := Lib.hid (fun W (hW : Ext W2 W) v (hi : Ints W v (idxL t.length)) => indexFunc_int 100 #[.pointer (some ⟨w.heap.size, 0, none⟩), .pointer (some ⟨w.heap.size + 1, 0, none⟩), .pointer (some ⟨wr.heap.size, 0, none⟩), .pointer (some ⟨wr.heap.size + 1, 0, none⟩)] enters_100 (fun p => stepB t r[k]! r[k + 1]! p.toNat) v (idxL t.length) W hi (by rw [idxL_len]; omega) (fun x hx V hV => by
          unfold idxL at hx
          obtain ⟨p, hp, rfl⟩ := List.mem_map.1 hx
          have hWV := hW.trans' hV
          exact steps1_calls w0 V bs w.heap.size (w.heap.size + 1) wr.heap.size (wr.heap.size + 1) tv (.slice (some ⟨B, O, none⟩) R rc) (.slice ak lk ck) t r k r[k + 1]! p (HS.out.ext (HWX.out.trans' hWV)) HV.out (Sl.ext rints_lasts HRV.out (HWX.out.trans' hWV)) (by omega) HRGK.out (HDV.out.ext (HRW.out.trans' hWV)) (by rw [hlk]; exact HLK.out) (List.mem_range.1 hp) (hWV.cl hb1) (hWV.cl hb2) (hWV.cl hb3) (hWV.cl hb4) (by omega)))
         generalize firstAt (fun p => stepB t r[k]! r[k + 1]! p.toNat) (idxL t.length) = fa at *
         generalize idxL t.length = il at *
         clear hb1 hb2 HB3 HB4 h1 h4 zk hUk c1' c2'
         have hb1 := HXW.out.cl HC1.out
         clear hW2
         have HHG := Lib.hid (fun (hgo : goesB t r k = true) i (hi : i < k + 1) => (show goesB t r i = true from by
          by_cases e : i = k
          ·subst e; exact hgo
          ·exact HG.out i (by omega)))
         have HHN := Lib.hid (fun (hgo : goesB t r k = false) => HAN.out k (by omega) hgo)
         generalize goesB t r k = gb at *
         go_wp2_with fail
         refine (HIC.out _).mono ?_
         rintro e y3 ⟨v3, rfl, hr3, hX3⟩
         have HI3 := Lib.hid (Row.ints hr3)
         have HX3 := Lib.hid hX3
         obtain ⟨xa3, xc3, rfl, _⟩ := hr3.any
         clear hr3 hX3 hnx
         go_wp2_with fail
         refine (HIF.out _ HX3.out _ HI3.out).mono ?_
         rintro e y4 ⟨rfl, hX4⟩
         have HX4 := Lib.hid (HXW.out.trans' (HX3.out.trans' hX4))
         have HXR4 := Lib.hid (HRW.out.trans' (HX3.out.trans' hX4))
         clear hX4
         by_cases hfa : fa < 0
         case pos =>
          have HA : Hid (ans = false) := Lib.hid (HHN.out (by rw [HGB.out, decide_eq_false_iff_not]; omega))
          go_wp2
          go_ret2
          exact ⟨_, by rw [HA.out]; rfl, HE6.out.trans' HX4.out⟩
         case neg =>
          have HGO := Lib.hid (HHG.out (by rw [HGB.out, decide_eq_true_eq]; omega))
          have HR9 := Lib.hid (Row.ext HR.out HXR4.out)
          obtain ⟨ii, hii, iz0, iz1, iz2⟩ := info_partsM info_intR
          have HA9 := Lib.hid ((Ext.rf y4).al (.cells #[.int .i64 fa] 3))
          go_wp2_with ((at_builtin; go_loud (refine wpList_append_one rfl _ _ 25 rfl z6.heap.size 3 ii (.int .i64 0) 1 8 Try.underlying25 hii iz0 iz1 iz2 rfl (by decide) _ k (ls.map (Value.int .i64)) rfl (Row.ext HR9.out HA9.out) y4.heap.size 1 [.int .i64 fa] rfl rfl ⟨_, heap_alloc_new _ _⟩ (by simp [Value.oneCell']) (by unfold maxLen; omega) (by omega) (Nat.le_trans HX4.out.sz HA9.out.sz) ?_; intro v8 w8 hown8 hgrow8 hblk8; obtain ⟨a8, c8, rfl, _⟩ := hown8.any; have HOWN := Lib.hid hown8; have HX8 := Lib.hid ((HX4.out.trans' HA9.out).gr hgrow8 (fun q hq => (HR9.out.lt q hq).1)); clear hown8 hgrow8 hblk8)))
          go_roundg (m - (k + 1))
          case measure => exact Nat.lt_of_lt_of_le (Nat.sub_lt_sub_left hlt (Nat.lt_succ_self k)) hg
          case rel =>
           refine ⟨k + 1, ls ++ [fa], hlt, Nat.le_refl _, by go_num, (show Row _ _ _ _ _ _ _ from ?_), (show Ext _ _ from HX8.out), (show Aside _ from HGO.out)⟩
           have h := HOWN.out
           rw [List.map_append]
           exact h
set_option maxHeartbeats 4000000 in
set_option maxRecDepth 100000 in
theorem runIs_calls (v rv : Value) (t : Tr) (r : List (List Int)) (w : World) (h : TrAt w v t) (hs : LooseTr t) (hrv : Sl RInts 1 w rv r) (hn2 : t.length ≤ 1000) (hrl : r.length ≤ 1000000) (hil : ∀ i, i < r.length → r[i]!.length ≤ 1000000) :
  Calls Try.prog 46 #[.agg #[v], rv] w fun e w' => e = .returned (.bool (validT t && runB t r)) ∧ Ext w w' := by
 have HV := Lib.hid (fun W (hW : Ext w W) => validP_calls v t W (h.ext hW) hs)
 have HT := Lib.hid h
 obtain ⟨ta, tc, rfl, htc⟩ := h.sh
 have HX1 := Lib.hid ((Ext.rf w).al (.cells #[.slice ta t.length tc] 24))
 have HB1 := Lib.hid (heap_alloc_new w (.cells #[.slice ta t.length tc] 24))
 cases hv : validT t with
 | false =>
   rw [hv] at HV
   have t0 := cellOf HB1.out 0
   simp only [List.getElem?_toArray, List.getElem?_cons_zero] at t0
   clear h hs hv htc hrv hn2 hrl hil
   generalize t.length = N at *
   go_enter Try.func46, Try.ntmps46
   go_wp2_with fail
   refine (HV.out _ HX1.out).mono ?_
   rintro e w2 ⟨rfl, hX2⟩
   go_wp2
   go_ret
   exact ⟨rfl, HX1.out.trans' hX2⟩
 | true =>
   have HO := Lib.hid (fun W (hW : Ext w W) => open_calls (.slice ta t.length tc) t W (HT.out.ext hW) hv)
   have HST := Lib.hid (fun w0 W bs (hW : Ext w W) (hS : SpcAt w0 W bs (.slice ta t.length tc) t) => steps_calls w0 W bs (.slice ta t.length tc) rv t r hS hv (Sl.ext rints_lasts hrv hW) hn2 hrl hil)
   rw [hv] at HV
   have t0 := cellOf HB1.out 0
   simp only [List.getElem?_toArray, List.getElem?_cons_zero] at t0
   clear h hs hv htc hrv hn2 hrl hil
   generalize runB t r = ans at *
   generalize t.length = N at *
   go_enter Try.func46, Try.ntmps46
   go_wp2_with fail
   refine (HV.out _ HX1.out).mono ?_
   rintro e w2 ⟨rfl, hX2⟩
   have HX2 := Lib.hid (HX1.out.trans' hX2)
   have t2 := hX2.cl t0
   clear hX2 t0
   go_wp2_with fail
   refine (HO.out _ HX2.out).mono ?_
   rintro e w3 ⟨bs, rfl, hS⟩
   have HS := Lib.hid hS
   obtain ⟨_, _, _, _, hX3, _⟩ := hS
   have HX3 := Lib.hid (HX2.out.trans' hX3)
   clear hX3
   go_wp2_with fail
   refine (HST.out _ _ _ HX3.out HS.out).mono ?_
   rintro e w4 ⟨v4, rfl, hX4⟩
   go_wp2
   go_ret
   exact ⟨rfl, HX3.out.trans' hX4⟩
end Go.Proofs.Ytfagfooggcinoaa
namespace Go.Proofs.Ytfagfooggcinoaa
set_option linter.unusedVariables false
theorem run_parts {t : Tr} {r : List (List Int)} (h : runB t r = true) : 0 < r.length ∧ r[0]! = List.replicate t.length 0 ∧ r[r.length - 1]! = lenT t ∧ ∀ i, i + 1 < r.length → goesB t r i = true := by
 unfold runB at h
 simp only [Bool.and_eq_true, decide_eq_true_eq, beq_iff_eq, List.all_eq_true, List.mem_range] at h
 exact ⟨h.1, h.2.1, h.2.2.1, fun i hi => h.2.2.2 i (by omega)⟩
theorem run_rangeC {t : Tr} {r : List (List Int)} (h : runB t r = true) {i : Nat} (hi : i < r.length) : RangeC t r[i]! := by
 obtain ⟨_, h0, _, hg⟩ := run_parts h
 exact run_range h0 i fun j hj => hg j (by omega)
theorem run_in {t : Tr} {r : List (List Int)} (h : runB t r = true) (hl : r.length ≤ 1000000) : RunIn t r :=
 ⟨hl, fun i hi => ⟨(run_rangeC h hi).1, fun p hp => (run_rangeC h hi).at hp⟩⟩
theorem run_step {t : Tr} {r : List (List Int)} (h : runB t r = true) {i : Nat} (hi : i + 1 < r.length) :
  ∃ p, p < t.length ∧ r[i + 1]! = r[i]!.set p (rAt r i p + 1) ∧ 0 ≤ rAt r i p ∧ rAt r i p < (t[p]!.events.length : Int) ∧ sentB t r[i]! (p, (rAt r i p).toNat) = true := by
 obtain ⟨p, hp, hs⟩ := goes_some ((run_parts h).2.2.2 i hi)
 unfold stepB at hs
 rw [Bool.and_eq_true, beq_iff_eq] at hs
 obtain ⟨h1, h2⟩ := hs
 unfold mayB at h1
 rw [Bool.and_eq_true, decide_eq_true_eq] at h1
 exact ⟨p, hp, h2, ((run_rangeC h (show i < r.length by omega)).at hp).1, h1.1, h1.2⟩
theorem run_more {t : Tr} {r : List (List Int)} {i p : Nat} (hl : r[i]!.length = t.length) (hp : p < t.length) (h : r[i + 1]! = r[i]!.set p (rAt r i p + 1)) : rAt r (i + 1) p = rAt r i p + 1 := by
 unfold rAt
 rw [h, setG_at (by rw [hl]; exact hp)]; rfl
theorem run_same {r : List (List Int)} {i p q : Nat} (h : r[i + 1]! = r[i]!.set p (rAt r i p + 1)) (hq : q ≠ p) : rAt r (i + 1) q = rAt r i q := by
 unfold rAt
 rw [h, setG_ne hq]
theorem moves_eq {t : Tr} {r : List (List Int)} {i p : Nat} (hl : r[i]!.length = t.length) (hp : p < t.length) (h : r[i + 1]! = r[i]!.set p (rAt r i p + 1)) : movesP r i = p := by
 have hm := run_more hl hp h
 have hf : (List.range r[i]!.length).find? (fun p => decide (rAt r i p < rAt r (i + 1) p)) = some p := by
  rw [List.find?_eq_some_iff_getElem]
  refine ⟨by rw [hm]; simp; omega, p, by rw [List.length_range, hl]; exact hp, by simp, fun j hj => ?_⟩
  rw [List.getElem_range, run_same h (by omega)]
  simp
 unfold movesP
 rw [hf]; rfl
theorem begL_get0 {n i : Nat} (hi : i < n) : (begL n)[i]! = mk0 n := by
 unfold begL
 rw [getElem!_pos _ i (by rw [List.length_replicate]; exact hi), List.getElem_replicate]
theorem rep_get {α : Type} [Inhabited α] {n i : Nat} {x : α} (hi : i < n) : (List.replicate n x)[i]! = x := by
 rw [getElem!_pos _ i (by rw [List.length_replicate]; exact hi), List.getElem_replicate]
theorem beg_inv (t : Tr) : InvA t ⟨begL t.length, List.replicate t.length 0⟩ 0 := by
 refine ⟨by simp [begL], by simp, fun q hq => ?_, fun q hq => ?_, fun q hq => ?_, fun p hp _ q hq => ?_, fun p hp hc => ?_, fun q hq => ?_, fun q hq f hf => ?_, fun q hq _ f hf => ?_⟩
 ·simp only [begL_get0 hq, mk0, List.length_replicate]
 ·simp only [begL_get0 hq, mk0, List.length_replicate]
 ·simp only [begL_get0 hq, mk0]; exact .inl trivial
 ·simp only [begL_get0 hq, mk0]; exact rep_get hp
 ·exact absurd (by simp only [begL_get0 hp, mk0]) hc
 ·simp only [rep_get hq]; omega
 ·simp only [begL_get0 hq, mk0, rep_get hf]; simp
 ·simp only [begL_get0 hq, mk0, rep_get hf]
theorem beg_rec {t : Tr} {r : List (List Int)} (h : RunIn t r) {p a : Nat} (hp : p < t.length) (ha : a < r.length) : InvA t (aRec r ⟨begL t.length, List.replicate t.length 0⟩ p a) 0 :=
 (beg_inv t).reco h hp ha (by simp only [begL_get0 hp, mk0])
theorem aRun_last {t : Tr} {r : List (List Int)} {d : Int} {k i : Nat} {A : Sn} (h : i + 1 = r.length) : aRun t r d (k + 1) i A = aAll' t r d i A := by
 show (let B := aAll' t r d i A; if i + 1 = r.length then B else _) = _
 simp only [if_pos h]
theorem aRun_next {t : Tr} {r : List (List Int)} {d : Int} {k i : Nat} {A : Sn} (h : i + 1 ≠ r.length) : aRun t r d (k + 1) i A = aRun t r d k (i + 1) (aEvent t r d (aAll' t r d i A) i) := by
 show (let B := aAll' t r d i A; if i + 1 = r.length then B else _) = _
 simp only [if_neg h]
theorem aEvent_recv {t : Tr} {r : List (List Int)} {d : Int} {i q : Nat} {A : Sn} (hq : movesP r i = q) (hk : (ev t (q, (rAt r i q).toNat)).kind = 3) : aEvent t r d A i = aRecv t r d A q (ev t (q, (rAt r i q).toNat)) i := by
 unfold aEvent
 simp only [hq, if_pos hk]
theorem aEvent_other {t : Tr} {r : List (List Int)} {d : Int} {i q : Nat} {A : Sn} (hq : movesP r i = q) (hk : (ev t (q, (rAt r i q).toNat)).kind ≠ 3) : aEvent t r d A i = A := by
 unfold aEvent
 simp only [hq, if_neg hk]
end Go.Proofs.Ytfagfooggcinoaa
namespace Go.Proofs.Ytfagfooggcinoaa
open Go.RowKit
set_option linter.unusedVariables false
theorem info_mrkM : (Try.prog.info? 123).map (fun i => (i.zero, i.size, i.bytes)) = some (some (.agg #[.bool false, .bool false, .int .i64 0]), 3, 16) := by kernel_rfl
theorem info_mrowM : (Try.prog.info? 89).map (fun i => (i.zero, i.size, i.bytes)) = some (some (.slice none 0 0), 1, 24) := by kernel_rfl
def clOk (t : Tr) (r : List (List Int)) (p a d : Int) : Bool := decide (0 ≤ p) && (decide (p < t.length) && (decide (0 ≤ a) && (decide (a < r.length) && (decide (0 ≤ d) && decide (d ≤ 1000)))))
noncomputable def clE (t : Tr) (r : List (List Int)) (p a d : Int) : Int := if validT t = false then 1 else if fifoB t = false then 11 else if runB t r = false then 3 else if clOk t r p a d = false then 2 else 0
noncomputable def clL (t : Tr) (r : List (List Int)) (p a d : Int) : List Mk := if clE t r p a d = 0 then chanL t r d p.toNat a.toNat else []
set_option maxHeartbeats 8000000 in
set_option maxRecDepth 100000 in
theorem chandy_calls (v rv : Value) (t : Tr) (r : List (List Int)) (p a d : Int) (w : World) (h : TrAt w v t) (hs : LooseTr t) (hrv : Sl RInts 1 w rv r) (hn2 : t.length ≤ 1000) (hrl : r.length ≤ 1000000) (hil : ∀ i, i < r.length → r[i]!.length ≤ 1000000) :
  Calls Try.prog 21 #[.agg #[v], rv, .int .i64 p, .int .i64 a, .int .i64 d] w fun e w' => ∃ v', e = .returned (.tuple #[v', .int .i64 (clE t r p a d)]) ∧ Ext w w' ∧ Sl RMk 3 w' v' (clL t r p a d) := by
 have HV := Lib.hid (fun W (hW : Ext w W) => validP_calls v t W (h.ext hW) hs)
 have HF := Lib.hid (fun W (hW : Ext w W) => fifoP_calls v t W (h.ext hW) hs)
 have HR := Lib.hid (fun W (hW : Ext w W) => runIs_calls v rv t r W (h.ext hW) hs (Sl.ext rints_lasts hrv hW) hn2 hrl hil)
 have HT := Lib.hid h
 have HRV := Lib.hid hrv
 obtain ⟨ta, tc, rfl, htc⟩ := h.sh
 obtain ⟨ra, rc, rfl, _⟩ := id hrv
 have HX1 := Lib.hid ((Ext.rf w).al (.cells #[.slice ta t.length tc] 24))
 have HB1 := Lib.hid (heap_alloc_new w (.cells #[.slice ta t.length tc] 24))
 have t0 := cellOf HB1.out 0
 simp only [List.getElem?_toArray, List.getElem?_cons_zero] at t0
 cases hv : validT t with
 | false =>
   rw [hv] at HV
   have HA : Hid (clE t r p a d = 1) := Lib.hid (by unfold clE; rw [if_pos hv])
   have HL : Hid (clL t r p a d = []) := Lib.hid (by unfold clL; rw [HA.out]; rfl)
   clear h hs hv htc hrv hn2 hrl hil
   generalize clE t r p a d = er at *
   generalize t.length = N at *
   generalize r.length = R at *
   go_enter Try.func21, Try.ntmps21
   go_wp2_with fail
   refine (HV.out _ HX1.out).mono ?_
   rintro e w2 ⟨rfl, hX2⟩
   have HXF := Lib.hid (HX1.out.trans' hX2)
   go_wp2
   go_ret2
   exact ⟨_, by rw [HA.out]; rfl, HXF.out, by rw [HL.out]; exact slNil⟩
 | true =>
   rw [hv] at HV HF HR
   cases hf : fifoB t with
   | false =>
     rw [hf] at HF
     have HA : Hid (clE t r p a d = 11) := Lib.hid (by unfold clE; rw [if_neg (by rw [hv]; simp), if_pos hf])
     have HL : Hid (clL t r p a d = []) := Lib.hid (by unfold clL; rw [HA.out]; rfl)
     clear h hs hv hf htc hrv hn2 hrl hil
     generalize clE t r p a d = er at *
     generalize t.length = N at *
     generalize r.length = R at *
     go_enter Try.func21, Try.ntmps21
     go_wp2_with fail
     refine (HV.out _ HX1.out).mono ?_
     rintro e w2 ⟨rfl, hX2⟩
     have HX2 := Lib.hid (HX1.out.trans' hX2)
     have t2 := hX2.cl t0
     clear hX2 t0
     go_wp2_with fail
     refine (HF.out _ HX2.out).mono ?_
     rintro e w3 ⟨rfl, hX3⟩
     have HX3 := Lib.hid (HX2.out.trans' hX3)
     have t3 := hX3.cl t2
     clear hX3 t2
     have HXF := HX3
     go_wp2
     go_ret2
     exact ⟨_, by rw [HA.out]; rfl, HXF.out, by rw [HL.out]; exact slNil⟩
   | true =>
     rw [hf] at HF
     cases hr : runB t r with
     | false =>
       rw [hr] at HR
       have HA : Hid (clE t r p a d = 3) := Lib.hid (by unfold clE; rw [if_neg (by rw [hv]; simp), if_neg (by rw [hf]; simp), if_pos hr])
       have HL : Hid (clL t r p a d = []) := Lib.hid (by unfold clL; rw [HA.out]; rfl)
       clear h hs hv hf hr htc hrv hn2 hrl hil
       generalize clE t r p a d = er at *
       generalize t.length = N at *
       generalize r.length = R at *
       go_enter Try.func21, Try.ntmps21
       go_wp2_with fail
       refine (HV.out _ HX1.out).mono ?_
       rintro e w2 ⟨rfl, hX2⟩
       have HX2 := Lib.hid (HX1.out.trans' hX2)
       have t2 := hX2.cl t0
       clear hX2 t0
       go_wp2_with fail
       refine (HF.out _ HX2.out).mono ?_
       rintro e w3 ⟨rfl, hX3⟩
       have HX3 := Lib.hid (HX2.out.trans' hX3)
       have t3 := hX3.cl t2
       clear hX3 t2
       go_wp2_with fail
       refine (HR.out _ HX3.out).mono ?_
       rintro e w4 ⟨rfl, hX4⟩
       have HX4 := Lib.hid (HX3.out.trans' hX4)
       have t4 := hX4.cl t3
       clear hX4 t3
       have HXF := HX4
       go_wp2
       go_ret2
       exact ⟨_, by rw [HA.out]; rfl, HXF.out, by rw [HL.out]; exact slNil⟩
     | true =>
       rw [hr] at HR
       cases hk : clOk t r p a d with
       | false =>
         have HA : Hid (clE t r p a d = 2) := Lib.hid (by unfold clE; rw [if_neg (by rw [hv]; simp), if_neg (by rw [hf]; simp), if_neg (by rw [hr]; simp), if_pos hk])
         have HL : Hid (clL t r p a d = []) := Lib.hid (by unfold clL; rw [HA.out]; rfl)
         have hD : clOk t r p a d = false := hk
         unfold clOk at hD
         clear h hs hv hf hr hk htc hrv hn2 hrl hil
         generalize clE t r p a d = er at *
         generalize t.length = N at *
         generalize r.length = R at *
         by_cases c1 : p < 0
         case pos =>
          have HD := Lib.hid hD
          clear hD
          go_enter Try.func21, Try.ntmps21
          go_wp2_with fail
          refine (HV.out _ HX1.out).mono ?_
          rintro e w2 ⟨rfl, hX2⟩
          have HX2 := Lib.hid (HX1.out.trans' hX2)
          have t2 := hX2.cl t0
          clear hX2 t0
          go_wp2_with fail
          refine (HF.out _ HX2.out).mono ?_
          rintro e w3 ⟨rfl, hX3⟩
          have HX3 := Lib.hid (HX2.out.trans' hX3)
          have t3 := hX3.cl t2
          clear hX3 t2
          go_wp2_with fail
          refine (HR.out _ HX3.out).mono ?_
          rintro e w4 ⟨rfl, hX4⟩
          have HX4 := Lib.hid (HX3.out.trans' hX4)
          have t4 := hX4.cl t3
          clear hX4 t3
          have HXF := HX4
          go_wp2
          go_ret2
          exact ⟨_, by rw [HA.out]; rfl, HXF.out, by rw [HL.out]; exact slNil⟩
         case neg =>
          by_cases c2 : p < (N : Int)
          case neg =>
           have HD := Lib.hid hD
           clear hD
           go_enter Try.func21, Try.ntmps21
           go_wp2_with fail
           refine (HV.out _ HX1.out).mono ?_
           rintro e w2 ⟨rfl, hX2⟩
           have HX2 := Lib.hid (HX1.out.trans' hX2)
           have t2 := hX2.cl t0
           clear hX2 t0
           go_wp2_with fail
           refine (HF.out _ HX2.out).mono ?_
           rintro e w3 ⟨rfl, hX3⟩
           have HX3 := Lib.hid (HX2.out.trans' hX3)
           have t3 := hX3.cl t2
           clear hX3 t2
           go_wp2_with fail
           refine (HR.out _ HX3.out).mono ?_
           rintro e w4 ⟨rfl, hX4⟩
           have HX4 := Lib.hid (HX3.out.trans' hX4)
           have t4 := hX4.cl t3
           clear hX4 t3
           have HXF := HX4
           go_wp2
           go_ret2
           exact ⟨_, by rw [HA.out]; rfl, HXF.out, by rw [HL.out]; exact slNil⟩
          case pos =>
           by_cases c3 : a < 0
           case pos =>
            have HD := Lib.hid hD
            clear hD
            go_enter Try.func21, Try.ntmps21
            go_wp2_with fail
            refine (HV.out _ HX1.out).mono ?_
            rintro e w2 ⟨rfl, hX2⟩
            have HX2 := Lib.hid (HX1.out.trans' hX2)
            have t2 := hX2.cl t0
            clear hX2 t0
            go_wp2_with fail
            refine (HF.out _ HX2.out).mono ?_
            rintro e w3 ⟨rfl, hX3⟩
            have HX3 := Lib.hid (HX2.out.trans' hX3)
            have t3 := hX3.cl t2
            clear hX3 t2
            go_wp2_with fail
            refine (HR.out _ HX3.out).mono ?_
            rintro e w4 ⟨rfl, hX4⟩
            have HX4 := Lib.hid (HX3.out.trans' hX4)
            have t4 := hX4.cl t3
            clear hX4 t3
            have HXF := HX4
            go_wp2
            go_ret2
            exact ⟨_, by rw [HA.out]; rfl, HXF.out, by rw [HL.out]; exact slNil⟩
           case neg =>
            by_cases c4 : a < (R : Int)
            case neg =>
             have HD := Lib.hid hD
             clear hD
             go_enter Try.func21, Try.ntmps21
             go_wp2_with fail
             refine (HV.out _ HX1.out).mono ?_
             rintro e w2 ⟨rfl, hX2⟩
             have HX2 := Lib.hid (HX1.out.trans' hX2)
             have t2 := hX2.cl t0
             clear hX2 t0
             go_wp2_with fail
             refine (HF.out _ HX2.out).mono ?_
             rintro e w3 ⟨rfl, hX3⟩
             have HX3 := Lib.hid (HX2.out.trans' hX3)
             have t3 := hX3.cl t2
             clear hX3 t2
             go_wp2_with fail
             refine (HR.out _ HX3.out).mono ?_
             rintro e w4 ⟨rfl, hX4⟩
             have HX4 := Lib.hid (HX3.out.trans' hX4)
             have t4 := hX4.cl t3
             clear hX4 t3
             have HXF := HX4
             go_wp2
             go_ret2
             exact ⟨_, by rw [HA.out]; rfl, HXF.out, by rw [HL.out]; exact slNil⟩
            case pos =>
             by_cases c5 : d < 0
             case pos =>
              have HD := Lib.hid hD
              clear hD
              go_enter Try.func21, Try.ntmps21
              go_wp2_with fail
              refine (HV.out _ HX1.out).mono ?_
              rintro e w2 ⟨rfl, hX2⟩
              have HX2 := Lib.hid (HX1.out.trans' hX2)
              have t2 := hX2.cl t0
              clear hX2 t0
              go_wp2_with fail
              refine (HF.out _ HX2.out).mono ?_
              rintro e w3 ⟨rfl, hX3⟩
              have HX3 := Lib.hid (HX2.out.trans' hX3)
              have t3 := hX3.cl t2
              clear hX3 t2
              go_wp2_with fail
              refine (HR.out _ HX3.out).mono ?_
              rintro e w4 ⟨rfl, hX4⟩
              have HX4 := Lib.hid (HX3.out.trans' hX4)
              have t4 := hX4.cl t3
              clear hX4 t3
              have HXF := HX4
              go_wp2
              go_ret2
              exact ⟨_, by rw [HA.out]; rfl, HXF.out, by rw [HL.out]; exact slNil⟩
             case neg =>
              by_cases c6 : 1000 < d
              case pos =>
               have HD := Lib.hid hD
               clear hD
               go_enter Try.func21, Try.ntmps21
               go_wp2_with fail
               refine (HV.out _ HX1.out).mono ?_
               rintro e w2 ⟨rfl, hX2⟩
               have HX2 := Lib.hid (HX1.out.trans' hX2)
               have t2 := hX2.cl t0
               clear hX2 t0
               go_wp2_with fail
               refine (HF.out _ HX2.out).mono ?_
               rintro e w3 ⟨rfl, hX3⟩
               have HX3 := Lib.hid (HX2.out.trans' hX3)
               have t3 := hX3.cl t2
               clear hX3 t2
               go_wp2_with fail
               refine (HR.out _ HX3.out).mono ?_
               rintro e w4 ⟨rfl, hX4⟩
               have HX4 := Lib.hid (HX3.out.trans' hX4)
               have t4 := hX4.cl t3
               clear hX4 t3
               have HXF := HX4
               go_wp2
               go_ret2
               exact ⟨_, by rw [HA.out]; rfl, HXF.out, by rw [HL.out]; exact slNil⟩
              case neg =>
               rw [decide_eq_true (show 0 ≤ p by omega), decide_eq_true c2, decide_eq_true (show 0 ≤ a by omega), decide_eq_true c4, decide_eq_true (show 0 ≤ d by omega), decide_eq_true (show d ≤ 1000 by omega)] at hD
               cases hD
       | true =>
         have HD := Lib.hid hk
         obtain ⟨hp0, hpn, ha0, har, hd0, hd1⟩ : 0 ≤ p ∧ p < t.length ∧ 0 ≤ a ∧ a < r.length ∧ 0 ≤ d ∧ d ≤ 1000 := by simpa [clOk] using hk
         have HA : Hid (clE t r p a d = 0) := Lib.hid (by unfold clE; rw [if_neg (by rw [hv]; simp), if_neg (by rw [hf]; simp), if_neg (by rw [hr]; simp), if_neg (by rw [hk]; simp)])
         have HL : Hid (clL t r p a d = chanL t r d p.toNat a.toNat) := Lib.hid (by unfold clL; rw [HA.out]; rfl)
         generalize clE t r p a d = er at *
         generalize hN : t.length = N at *
         generalize hR : r.length = R at *
         obtain ⟨P, rfl⟩ : ∃ P : Nat, p = P := ⟨p.toNat, by omega⟩
         obtain ⟨A0, rfl⟩ : ∃ A0 : Nat, a = A0 := ⟨a.toNat, by omega⟩
         simp only [Int.toNat_natCast] at HL
         have HNE := Lib.hid hN
         have HRE := Lib.hid hR
         have HVT := Lib.hid hv
         have HRB := Lib.hid hr
         have g1 : decide ((P : Int) < 0) = false := decide_eq_false (by omega)
         have g2 : decide ((N : Int) ≤ (P : Int)) = false := decide_eq_false (by omega)
         have g3 : decide ((A0 : Int) < 0) = false := decide_eq_false (by omega)
         have g4 : decide ((R : Int) ≤ (A0 : Int)) = false := decide_eq_false (by omega)
         have g5 : decide (d < 0) = false := decide_eq_false (by omega)
         have g6 : decide (1000 < d) = false := decide_eq_false (by omega)
         have g7 : decide (N ≤ P) = false := decide_eq_false (by omega)
         have g8 : decide (R ≤ A0) = false := decide_eq_false (by omega)
         clear hk h hs hrv htc hN hR HD hv hr hf hil
         go_enter Try.func21, Try.ntmps21
         go_wp2_with fail
         refine (HV.out _ HX1.out).mono ?_
         rintro e w2 ⟨rfl, hX2⟩
         have HX2 := Lib.hid (HX1.out.trans' hX2)
         have t2 := hX2.cl t0
         clear hX2 t0
         go_wp2_with fail
         refine (HF.out _ HX2.out).mono ?_
         rintro e w3 ⟨rfl, hX3⟩
         have HX3 := Lib.hid (HX2.out.trans' hX3)
         have t3 := hX3.cl t2
         clear hX3 t2
         go_wp2_with fail
         refine (HR.out _ HX3.out).mono ?_
         rintro e w4 ⟨rfl, hX4⟩
         have HX4 := Lib.hid (HX3.out.trans' hX4)
         have t4 := hX4.cl t3
         clear hX4 t3
         go_upto_region 10 with (fail)
         go_cut [13] (fun s13 wx => ∃ (b lg lo lc : Nat) (vc vh : Nat → Value) (vr : Nat → Nat → Value), s13 = .pointer (some ⟨b, 0, none⟩) ∧ Aside (SimK w4 wx b N d (.slice ta N tc) (.slice ra R rc) (.slice (some ⟨lg, lo, none⟩) N lc) (.slice none 0 0) (begL N) vc vh vr (fun _ => .slice none 0 0) 0))
         case first =>
          go_region_with ((refine (begin_calls N _ hn2).mono ?_; rintro e w7 ⟨lv, vc, vh, vr, rfl, hO, hX⟩; have t7 := hX.cl ((Ext.rf _).dr.cl t4); obtain ⟨lg, lo, lc, rfl, _⟩ := hO.row.shape (by rw [begL_len]; omega); rw [begL_len] at hO ⊢; have HO := Lib.hid hO; have HX7 := Lib.hid hX; clear hO hX))
          all_goals (go_wp2; go_meet)
          all_goals exact ⟨w7.heap.size, lg, lo, lc, vc, vh, vr, rfl, (show SimK _ _ _ _ _ _ _ _ _ _ _ _ _ _ _ from SimK.zero (Ext.rf w4).dr HX7.out HO.out)⟩
         case rest =>
          obtain ⟨b, lg, lo, lc, vc, vh, vr, rfl, HK⟩ := hcut
          obtain ⟨w5, rfl⟩ : ∃ z, z = wc := ⟨_, rfl⟩
          obtain ⟨imr, himr, jz0, jz1, jz2⟩ := info_partsM info_mrkM
          obtain ⟨irm, hirm, kz0, kz1, kz2⟩ := info_partsM info_mrowM
          have HMK := Lib.hid (fun W : World => run_make (P := Try.prog) W 89 123 imr _ Try.underlying89 himr jz0 .i64 .i64 (N : Int) (N : Int) (by omega) (by omega) (by rw [jz2]; omega) (by omega))
          rw [jz1] at HMK
          simp only [Int.toNat_natCast] at HMK
          have HT4 := Lib.hid t4
          clear t4
          go_wp2
          go_loopg [69] N (fun g s69 wr => ∃ (k : Nat) (mv : Value) (vm : Nat → Value), k ≤ N ∧ N - k ≤ g ∧ s69 = .int .i64 k ∧ Aside (SimK w4 wr b N d (.slice ta N tc) (.slice ra R rc) (.slice (some ⟨lg, lo, none⟩) N lc) mv (begL N) vc vh vr vm k))
          case atStart => exact ⟨0, _, _, Nat.zero_le _, by omega, rfl, (show SimK _ _ _ _ _ _ _ _ _ _ _ _ _ _ _ from HK.out)⟩
          case round =>
           obtain ⟨k, mv, vm, hk, hgk, rfl, HKK⟩ := hrel
           clear HK
           obtain ⟨ma, mc, rfl, hmc, _⟩ := HKK.out.mrow.any
           have HBX := Lib.hid HKK.out.box
           by_cases hlt : k < N
           case pos =>
            have hkz : (k : Int) < (N : Int) := by omega
            have b3 := cellOf HBX.out 3
            have f3 := freeOf HBX.out 3
            simp only [List.getElem?_toArray, List.getElem?_cons_zero, List.getElem?_cons_succ] at b3
            have hmk := HMK.out
            go_upto_region 13 with (fail)
            refine wp_region_tail (fun W => W.cell? ⟨b, 3, none⟩ = some (.slice ma k mc)) 11 (by kernel_rfl) b3 (fun hHeld => ?_)
            refine tkA 0 71 (v := ?_) rfl rfl (by kernel_rfl) (fun _ _ _ h => h) ?_ (by assumption) ?_
            rotate_left
            ·(intro w hSw; (try dsimp only at hSw); go_simp; try (with_reducible rfl))
            try simp only [Act.put]
            try simp only [List.setIfInBounds_toArray]
            try simp only [List.set_cons_zero, List.set_cons_succ]
            refine tkA 1 72 (v := ?_) rfl rfl (by kernel_rfl) (fun _ _ _ h => h) ?_ (by assumption) ?_
            rotate_left
            ·(intro w hSw; (try dsimp only at hSw); go_simp; try (with_reducible rfl))
            try simp only [Act.put]
            try simp only [List.setIfInBounds_toArray]
            try simp only [List.set_cons_zero, List.set_cons_succ]
            refine tkA 2 73 (v := ?_) rfl rfl (by kernel_rfl) (fun _ _ _ h => h) ?_ (by assumption) ?_
            rotate_left
            ·(intro w hSw; (try dsimp only at hSw); go_simp; try (with_reducible rfl))
            try simp only [Act.put]
            try simp only [List.setIfInBounds_toArray]
            try simp only [List.set_cons_zero, List.set_cons_succ]
            refine tkA 3 74 (v := ?_) rfl rfl (by kernel_rfl) (fun _ _ _ h => h) ?_ (by assumption) ?_
            rotate_left
            ·(intro w hSw; (try dsimp only at hSw); go_simp; try (with_reducible rfl))
            try simp only [Act.put]
            try simp only [List.setIfInBounds_toArray]
            try simp only [List.set_cons_zero, List.set_cons_succ]
            refine tkA 4 75 (v := ?_) rfl rfl (by kernel_rfl) (fun _ _ _ h => h) ?_ (by assumption) ?_
            rotate_left
            ·(intro w hSw; (try dsimp only at hSw); go_simp; try (with_reducible rfl))
            try simp only [Act.put]
            try simp only [List.setIfInBounds_toArray]
            try simp only [List.set_cons_zero, List.set_cons_succ]
            refine tkA 5 76 (v := ?_) rfl rfl (by kernel_rfl) (fun _ _ _ h => h) ?_ (by assumption) ?_
            rotate_left
            ·(intro w hSw; (try dsimp only at hSw); go_simp; try (with_reducible rfl))
            try simp only [Act.put]
            try simp only [List.setIfInBounds_toArray]
            try simp only [List.set_cons_zero, List.set_cons_succ]
            refine wpAnyT_step (i := 6) (by kernel_rfl) rfl (fun K hK => ?_)
            go_simp
            have HXA : Hid (Ext wr (wr.alloc (.cells (madeCells #[.bool false, .bool false, .int .i64 0] (N * 3)) 123)).drew) := Lib.hid ((Ext.rf wr).al _).dr
            have HNR : Hid ((wr.alloc (.cells (madeCells #[.bool false, .bool false, .int .i64 0] (N * 3)) 123)).drew.heap[wr.heap.size]? = some (.cells (madeCells #[.bool false, .bool false, .int .i64 0] (N * 3)) 123)) := Lib.hid (heap_alloc_new wr _)
            generalize (wr.alloc (.cells (madeCells #[.bool false, .bool false, .int .i64 0] (N * 3)) 123)).drew = wA at *
            refine hK.out _ _ ?_ (fun hHeld => ?_)
            ·(try dsimp only)
             exact HXA.out.cl b3
            clear hK K
            try simp only [Act.put]
            try simp only [List.setIfInBounds_toArray]
            try simp only [List.set_cons_zero, List.set_cons_succ]
            refine wpAnyT_step (i := 7) (by kernel_rfl) rfl (fun K hK => ?_)
            go_simp
            have HXB : Hid (Ext wA (wA.alloc (.cells #[.slice (some ⟨wr.heap.size, 0, none⟩) N N] 89))) := Lib.hid ((Ext.rf wA).al _)
            have HNB : Hid ((wA.alloc (.cells #[.slice (some ⟨wr.heap.size, 0, none⟩) N N] 89)).heap[wA.heap.size]? = some (.cells #[.slice (some ⟨wr.heap.size, 0, none⟩) N N] 89)) := Lib.hid (heap_alloc_new wA _)
            generalize wA.alloc (.cells #[.slice (some ⟨wr.heap.size, 0, none⟩) N N] 89) = wB at *
            have HXC := Lib.hid (HXA.out.trans' HXB.out)
            have HRB := Lib.hid (HKK.out.mrow.ext HXC.out)
            refine hK.out _ _ ?_ (fun hHeld => ?_)
            ·(try dsimp only)
             exact HXC.out.cl b3
            clear hK K
            try simp only [Act.put]
            try simp only [List.setIfInBounds_toArray]
            try simp only [List.set_cons_zero, List.set_cons_succ]
            refine wpAnyT_step (i := 8) (by kernel_rfl) rfl (fun K hK => ?_)
            refine step_append_rowN rfl _ _ 86 rfl w4.heap.size 89 irm (.slice none 0 0) 1 24 Try.underlying86 hirm kz0 kz1 kz2 rfl (by decide) (.slice ma k mc) k ((List.range k).map vm) rfl HRB.out wA.heap.size 1 [.slice (some ⟨wr.heap.size, 0, none⟩) N N] rfl rfl ⟨_, HNB.out⟩ (by simp [Value.oneCell']) (by unfold maxLen; omega) (by omega) (HKK.out.ext.trans' HXC.out).sz ?_
            intro v8 w8 hown8 hgrow8 hblk8
            obtain ⟨x8, y8, rfl, _⟩ := hown8.any
            have HOW := Lib.hid hown8
            have HGR := Lib.hid hgrow8
            have gb := grown_heap HRB.out hgrow8 (HXC.out.hp HBX.out) (by decide)
            have b8 := (cell_same (o := 3) gb).trans (HXC.out.cl b3)
            have hfrz : w8.frozen? ⟨b, 3, none⟩ = false := freeOf (gb.trans (HXC.out.hp HBX.out)) 3
            have HN := Lib.hid (HKK.out.more HXC.out ((row_made3 (by simp [Value.cells]) HNR.out (Nat.le_refl _) (by unfold maxLen; omega)).ext HXB.out) hgrow8 hown8)
            clear hown8 hgrow8 hblk8 gb
            refine hK.out _ _ ?_ (fun hHeld => ?_)
            ·(try dsimp only)
             exact b8
            clear hK K
            try simp only [Act.put]
            try simp only [List.setIfInBounds_toArray]
            try simp only [List.set_cons_zero, List.set_cons_succ]
            refine tkA 9 80 (v := ?_) rfl rfl (by kernel_rfl) (fun _ _ _ h => h) ?_ (by assumption) ?_
            rotate_left
            ·(intro w hSw; (try dsimp only at hSw); go_simp; try (with_reducible rfl))
            try simp only [Act.put]
            try simp only [List.setIfInBounds_toArray]
            try simp only [List.set_cons_zero, List.set_cons_succ]
            refine tkA 10 81 (v := ?_) rfl rfl (by kernel_rfl) (fun _ _ _ h => h) ?_ (by assumption) ?_
            rotate_left
            ·(intro w hSw; (try dsimp only at hSw); go_simp; try (with_reducible rfl))
            try simp only [Act.put]
            try simp only [List.setIfInBounds_toArray]
            try simp only [List.set_cons_zero, List.set_cons_succ]
            refine wpAnyT_last (by kernel_rfl) rfl (by kernel_rfl) (fun K hK => ?_)
            go_simp
            refine hK.out _ _ ?_
            go_wp2
            go_roundg (N - (k + 1))
            case measure => omega
            case rel => exact ⟨k + 1, _, _, by omega, by omega, by go_num, (show SimK _ _ _ _ _ _ _ _ _ _ _ _ _ _ _ from HN.out)⟩
           case neg =>
            have hkz : ¬ (k : Int) < (N : Int) := by omega
            obtain rfl : N = k := by omega
            obtain ⟨mg, mo, mcap, hmv, _⟩ := HKK.out.mrow.shape (by omega)
            simp only [Value.slice.injEq] at hmv
            obtain ⟨rfl, _, rfl⟩ := hmv
            have HS := Lib.hid HKK.out.all
            have HRI := Lib.hid (run_in HRB.out (by rw [HRE.out]; exact hrl))
            have HG : Hid (SimG w4 ⟨b, lg, lo, lc, mg, mo, mc, N, d, .slice ta N tc, .slice ra R rc, vc, vh, vm⟩ t r) := Lib.hid ⟨HT.out.ext HX4.out, Sl.ext rints_lasts HRV.out HX4.out, HVT.out, HRI.out, HNE.out, hn2, ⟨hd0, by show d ≤ 1000000; omega⟩⟩
            have HRC := Lib.hid (srec_calls w4 wr ⟨b, lg, lo, lc, mg, mo, mc, N, d, .slice ta N tc, .slice ra R rc, vc, vh, vm⟩ r (begL N) (mOf N d ⟨begL N, List.replicate N 0⟩) vr P A0 HS.out HG.out.rn (show P < N by omega) (show A0 < r.length by rw [HRE.out]; omega) ((HRI.out.2 A0 (by rw [HRE.out]; omega)).1.trans HNE.out) (by rw [HRE.out]; exact hrl) ⟨hd0, by show d ≤ 1000000; omega⟩ hn2)
            have HMO : Hid (sendM N P (A0 + d) (mOf N d ⟨begL N, List.replicate N 0⟩) = mOf N d (aRec r ⟨begL N, List.replicate N 0⟩ P A0)) := Lib.hid (by
             have h := mOf_rec (t := t) (r := r) (d := d) (b := 0) (A := ⟨begL t.length, List.replicate t.length 0⟩) (beg_inv t) (q := P) (i := A0) (by rw [HNE.out]; omega) (by simp only [begL_get0 (show P < t.length by rw [HNE.out]; omega), mk0]) (by have := (HRI.out.2 A0 (by rw [HRE.out]; omega)).2 P (by rw [HNE.out]; omega); omega)
             rwa [HNE.out] at h)
            have HIB : Hid (InvA t (aRec r ⟨begL N, List.replicate N 0⟩ P A0) 0) := Lib.hid (by
             have h := beg_rec HRI.out (p := P) (a := A0) (by rw [HNE.out]; omega) (by rw [HRE.out]; omega)
             rwa [HNE.out] at h)
            clear HBX HMK HKK HS
            go_wp2_with fail
            refine HRC.out.mono ?_
            rintro e w6 ⟨rfl, hs6, hk6⟩
            have HS6 : Hid (SimS w4 w6 ⟨b, lg, lo, lc, mg, mo, mc, N, d, .slice ta N tc, .slice ra R rc, vc, vh, vm⟩ t (aRec r ⟨begL N, List.replicate N 0⟩ P A0) 0 vr) := Lib.hid ⟨by
             have h : SimAt w4 w6 ⟨b, lg, lo, lc, mg, mo, mc, N, d, .slice ta N tc, .slice ra R rc, vc, vh, vm⟩ (recL (begL N) P (rAt r A0 P)) (sendM N P (A0 + d) (mOf N d ⟨begL N, List.replicate N 0⟩)) vr := hs6
             rw [HMO.out] at h
             exact h, HIB.out⟩
            clear hs6 hk6 HRC HMO HIB
            generalize hAS : aRec r ⟨begL N, List.replicate N 0⟩ P A0 = AS at *
            have HAS := Lib.hid hAS
            clear hAS
            go_wp2
            go_loopg [14, 15, 16] R (fun g s14 s15 s16 wr => ∃ (i : Nat) (A : Sn) (vr : Nat → Nat → Value), A0 ≤ i ∧ i < R ∧ R - i ≤ g ∧ s14 = .int .i64 i ∧ Aside (SimS w4 wr ⟨b, lg, lo, lc, mg, mo, mc, N, d, .slice ta N tc, .slice ra R rc, vc, vh, vm⟩ t A i vr) ∧ Aside (aRun t r d (R - i) i A = aRun t r d (R - A0) A0 AS))
            case atStart => exact ⟨A0, AS, vr, Nat.le_refl _, by omega, by omega, rfl, (show SimS _ _ _ _ _ _ _ from ⟨HS6.out.at_, HS6.out.inv.more (by omega)⟩), (show aRun _ _ _ _ _ _ = _ from rfl)⟩
            case round =>
             obtain ⟨i, A, vr, hai, hiR, hgi, rfl, HSA, HRU⟩ := hrel
             clear HS6
             have hiz : (i : Int) < (R : Int) := by omega
             have hiz0 : (0 : Int) ≤ (i : Int) := by omega
             have HIR := Lib.hid (show i < r.length by rw [HRE.out]; exact hiR)
             have HAL := Lib.hid (arriveAll_calls w4 wr ⟨b, lg, lo, lc, mg, mo, mc, N, d, .slice ta N tc, .slice ra R rc, vc, vh, vm⟩ t r A i vr i HG.out HSA.out HIR.out)
             go_wp2_with fail
             refine HAL.out.mono ?_
             rintro e w7 ⟨rfl, hs7, _⟩
             have HS7 := Lib.hid hs7
             clear hs7 HAL HSA
             generalize hB : aAll' t r d i A = B at *
             have HB := Lib.hid hB
             clear hB
             have hw : IntKind.i64.wrap ((i : Int) + 1) = ((i + 1 : Nat) : Int) := by rw [IntWalk.i64_in _ (by omega)]; rfl
             by_cases hlast : i + 1 = R
             case pos =>
              have hq : ((i : Int) + 1 == (R : Int)) = true := by rw [beq_iff_eq]; omega
              have hq2 : ((((i + 1 : Nat) : Int)) == (R : Int)) = true := by rw [beq_iff_eq]; omega
              have HFI := Lib.hid (finish_calls w4 w7 ⟨b, lg, lo, lc, mg, mo, mc, N, d, .slice ta N tc, .slice ra R rc, vc, vh, vm⟩ t r B (mOf N d B) i vr HG.out HS7.out.at_ HS7.out.inv (by rw [HRE.out]; omega) (by omega))
              have HRE2 : Hid (aRun t r d (R - A0) A0 AS = B) := Lib.hid (by
               rw [← HRU.out, show R - i = 0 + 1 by omega, aRun_last (by rw [HRE.out]; exact hlast), HB.out])
              clear hlast
              go_wp2_with fail
              refine HFI.out.mono ?_
              rintro e w8 ⟨rfl, ⟨vr8, hs8⟩, _⟩
              have HS8 := Lib.hid hs8
              clear hs8 HFI
              have b2 := cellOf HS8.out.box 2
              simp only [List.getElem?_toArray, List.getElem?_cons_zero, List.getElem?_cons_succ, SV.lv, SV.mv] at b2
              go_wp2
              go_ret2
              refine ⟨_, by rw [HA.out]; rfl, HX4.out.trans' HS8.out.ext, ?_⟩
              rw [HL.out]
              unfold chanL
              rw [HRE.out, HNE.out, HAS.out, HRE2.out]
              exact HS8.out.mks.sl2 HS8.out.ll
             case neg =>
              have hq : ((i : Int) + 1 == (R : Int)) = false := by rw [beq_eq_false_iff_ne]; omega
              have hq2 : ((((i + 1 : Nat) : Int)) == (R : Int)) = false := by rw [beq_eq_false_iff_ne]; omega
              have hi1 : i + 1 < R := by omega
              have HI1 := Lib.hid (show i + 1 < r.length by rw [HRE.out]; exact hi1)
              obtain ⟨Q, hQ, hset, hge, hlt2, hsent⟩ := run_step HRB.out HI1.out
              have hrl2 := (HRI.out.2 i HIR.out).1
              have HMV := Lib.hid (moves_eq hrl2 hQ hset)
              have hQN : Q < N := by have := HNE.out; omega
              have HNX := Lib.hid (next_calls w4 w7 ⟨b, lg, lo, lc, mg, mo, mc, N, d, .slice ta N tc, .slice ra R rc, vc, vh, vm⟩ t r B.l (mOf N d B) vr i Q HG.out HS7.out.at_ HI1.out hQN (by rw [run_more hrl2 hQ hset]; omega) (fun p hp => by rw [run_same hset (by omega)]; exact Int.le_refl _))
              obtain ⟨J, hJ⟩ : ∃ J : Nat, rAt r i Q = (J : Int) := ⟨(rAt r i Q).toNat, by omega⟩
              rw [hJ] at hlt2
              have hJE : J < t[Q]!.events.length := by omega
              have HIN : Hid (Inn t (Q, J)) := Lib.hid ⟨hQ, hJE⟩
              have HRN : Hid (aRun t r d (R - i) i A = aRun t r d (R - (i + 1)) (i + 1) (aEvent t r d B i)) := Lib.hid (by
               rw [show R - i = (R - (i + 1)) + 1 by omega, aRun_next (by rw [HRE.out]; omega), HB.out])
              have HER := Lib.hid (fun hk => aEvent_recv (t := t) (r := r) (d := d) (A := B) (i := i) HMV.out hk)
              have HEO := Lib.hid (fun hk => aEvent_other (t := t) (r := r) (d := d) (A := B) (i := i) HMV.out hk)
              rw [hJ, Int.toNat_natCast] at HER HEO
              obtain ⟨tB, tO, tC, vv, ve, hve, hlC, htB, hn0, hv0, he0, hV, hE0⟩ := proc_at HT.out Q hQ
              simp only [Value.slice.injEq] at hve
              obtain ⟨rfl, hzz1, rfl⟩ := hve
              obtain ⟨EB, EO, EC, va, hee, hlE, hEB, k0, k1, k2, k3, k4, ha⟩ := event_at hE0 J hJE
              subst hee
              obtain ⟨va1, va2, rfl, _⟩ := ha.sh
              obtain ⟨rB, rO, rC, uB, uO, uC, hre, hrC, hrB, hr0, huC, huB, hu0⟩ := runAt HRV.out (i := i) (p := Q) HIR.out (by rw [hrl2]; exact hQ)
              rw [hJ] at hu0
              rw [hrl2, HNE.out] at hr0 huC
              simp only [Value.slice.injEq] at hre
              obtain ⟨rfl, hzz2, rfl⟩ := hre
              clear hzz1 hzz2
              have HX7 := Lib.hid (HX4.out.trans' HS7.out.at_.ext)
              have t7 := HS7.out.at_.ext.cl HT4.out
              have m0 := HX7.out.cl k0
              have m1 := HX7.out.cl k1
              have m2 := HX7.out.cl k2
              have m3 := HX7.out.cl k3
              have m4 := HX7.out.cl k4
              have e0 := HX7.out.cl he0
              have r0 := HX7.out.cl hr0
              have u0 := HX7.out.cl hu0
              have HEVE : Hid (ev t (Q, J) = t[Q]!.events[J]!) := Lib.hid rfl
              generalize t[Q]!.events[J]! = y at *
              generalize y.asg.length = nb at *
              generalize t[Q]!.events.length = ne at *
              have hz1 : (J : Int) < (ne : Int) := by omega
              have hz2 : (0 : Int) ≤ (J : Int) := by omega
              have hz3 : (Q : Int) < (N : Int) := by omega
              have hz4 : (0 : Int) ≤ (Q : Int) := by omega
              have l1 := World.block_lt_of_cell? w7 _ t7
              have l2 := World.block_lt_of_cell? w7 _ m0
              have l3 := World.block_lt_of_cell? w7 _ e0
              have l4 := World.block_lt_of_cell? w7 _ r0
              have l5 := World.block_lt_of_cell? w7 _ u0
              simp only at l1 l2 l3 l4 l5
              have n1 : w.heap.size ≠ w7.heap.size := Nat.ne_of_lt l1
              have n2 : EB ≠ w7.heap.size := Nat.ne_of_lt l2
              have n3 : tB ≠ w7.heap.size := Nat.ne_of_lt l3
              have n4 : rB ≠ w7.heap.size := Nat.ne_of_lt l4
              have n5 : uB ≠ w7.heap.size := Nat.ne_of_lt l5
              clear hlast hrl2 hset hge hsent hJ hlt2 hn0 hv0 hV he0 hE0 k0 k1 k2 k3 k4 ha hr0 hu0 hJE hQ htB hEB hrB huB
              go_wp2_with fail
              refine HNX.out.mono ?_
              rintro e w8 ⟨rfl, rfl⟩
              clear HNX hw
              go_upto_region 22 with (fail)
              go_region
              have HB9 := Lib.hid ((Ext.rf _).dr.hp (heap_alloc_new w8 (e5 (.int .i64 y.kind) (.int .i64 y.peer) (.int .i64 y.msg) (.int .i64 y.time) (.slice va1 nb va2))))
              have HX9 := Lib.hid (((Ext.rf w8).al (e5 (.int .i64 y.kind) (.int .i64 y.peer) (.int .i64 y.msg) (.int .i64 y.time) (.slice va1 nb va2))).dr)
              clear t7 m0 m1 m2 m3 m4 e0 r0 u0 n1 n2 n3 n4 n5 l1 l2 l3 l4 l5
              have y0 := cellOf HB9.out 0
              have y1 := cellOf HB9.out 1
              have y2 := cellOf HB9.out 2
              have y3 := cellOf HB9.out 3
              have y4 := cellOf HB9.out 4
              simp only [List.getElem?_toArray, List.getElem?_cons_zero, List.getElem?_cons_succ, e5] at y0 y1 y2 y3 y4
              unfold e5 at HX9
              generalize hbx : w8.heap.size = bx at *
              generalize (w8.alloc (Obj.cells #[.int .i64 y.kind, .int .i64 y.peer, .int .i64 y.msg, .int .i64 y.time, .slice va1 nb va2] 56)).drew = w9 at *
              have HS9 := Lib.hid (HS7.out.grow HX9.out)
              by_cases hk3 : y.kind = 3
              case neg =>
               have hkq : (y.kind == 3) = false := by rw [beq_eq_false_iff_ne]; exact hk3
               have HEQ := Lib.hid (HEO.out (by rw [HEVE.out]; exact hk3))
               clear hk3
               have hw : IntKind.i64.wrap ((i : Int) + 1) = ((i + 1 : Nat) : Int) := by rw [IntWalk.i64_in _ (by omega)]; rfl
               go_wp2
               go_roundg (R - (i + 1))
               case measure => omega
               case rel => exact ⟨i + 1, B, vr, by omega, by omega, Nat.le_refl _, by first | rfl | go_num, (show SimS _ _ _ _ _ _ _ from ⟨HS9.out.at_, HS9.out.inv.more (by omega)⟩), (show aRun _ _ _ _ _ _ = _ from by rw [← HRU.out, HRN.out, HEQ.out])⟩
              case pos =>
               have hkq : (y.kind == 3) = true := by rw [beq_iff_eq]; exact hk3
               have HEQ := Lib.hid (HER.out (by rw [HEVE.out]; exact hk3))
               obtain ⟨sx, hs1, hs2, _, hs3, hs4⟩ := send_peer HVT.out HIN.out (by rw [HEVE.out]; exact hk3)
               rw [HEVE.out] at hs1 hs2
               have HRC := Lib.hid (receive_calls w4 w9 ⟨b, lg, lo, lc, mg, mo, mc, N, d, .slice (some ⟨tB, tO, none⟩) N tc, .slice (some ⟨rB, rO, none⟩) R rc, vc, vh, vm⟩ t r B i vr Q i sx.1 y (.slice va1 nb va2) sx HG.out HS9.out HIR.out hQN (show sx.1 < N by rw [← HNE.out]; exact hs3.1) hs4 hs2 hs1 (by omega) ⟨_, _, _, rfl⟩)
               rw [HEVE.out] at HEQ
               clear hk3 hs1 hs2 hs3 hs4
               have hw : IntKind.i64.wrap ((i : Int) + 1) = ((i + 1 : Nat) : Int) := by rw [IntWalk.i64_in _ (by omega)]; rfl
               go_wp2_with fail
               refine HRC.out.mono ?_
               rintro e w10 ⟨rfl, ⟨vr10, hs10⟩, _⟩
               have HS10 := Lib.hid hs10
               clear hs10 HRC
               go_wp2
               go_roundg (R - (i + 1))
               case measure => omega
               case rel => exact ⟨i + 1, _, vr10, by omega, by omega, Nat.le_refl _, by first | rfl | go_num, (show SimS _ _ _ _ _ _ _ from HS10.out), (show aRun _ _ _ _ _ _ = _ from by rw [← HRU.out, HRN.out, HEQ.out])⟩
end Go.Proofs.Ytfagfooggcinoaa
namespace Go.Proofs.Ytfagfooggcinoaa
set_option linter.unusedVariables false
def chanS (l : List Mk) (q f : Nat) (x : List Int) : List Mk := l.set q { l[q]! with chan := l[q]!.chan.set f x }
def lyM (n : Nat) (c : List Int) (F : Nat → Nat → List Int) (q k : Nat) : Mk := ⟨c[q]!, (List.range n).map fun f => decide (f < k) || decide (f = q), (List.range n).map fun f => if f < k then F f q else []⟩
def lyL (n : Nat) (c : List Int) (F : Nat → Nat → List Int) (q k : Nat) (s : Bool) : List Mk := (List.range n).map fun i => if i < q then lyM n c F i n else if (s && decide (i = q)) = true then lyM n c F q k else mk0 n
def cutL (n : Nat) (c : List Int) (F : Nat → Nat → List Int) : List Mk := (List.range n).map fun q => ⟨c[q]!, List.replicate n true, (List.range n).map fun f => F f q⟩
section
variable {n : Nat} {c : List Int} {F : Nat → Nat → List Int}
theorem lyL_len {q k : Nat} {s : Bool} : (lyL n c F q k s).length = n := by simp [lyL]
theorem lyL_at {q k : Nat} {s : Bool} {i : Nat} (hi : i < n) : (lyL n c F q k s)[i]! = if i < q then lyM n c F i n else if (s && decide (i = q)) = true then lyM n c F q k else mk0 n := by
 rw [getElem!_pos _ i (by rw [lyL_len]; exact hi)]; simp [lyL]
theorem cutL_len : (cutL n c F).length = n := by simp [cutL]
theorem cutL_at {i : Nat} (hi : i < n) : (cutL n c F)[i]! = ⟨c[i]!, List.replicate n true, (List.range n).map fun f => F f i⟩ := by
 rw [getElem!_pos _ i (by rw [cutL_len]; exact hi)]; simp [cutL]
theorem mapR_at {α : Type} [Inhabited α] (g : Nat → α) {i : Nat} (hi : i < n) : ((List.range n).map g)[i]! = g i := by
 rw [getElem!_pos _ i (by simpa using hi)]; simp
theorem mapR_set {α : Type} [Inhabited α] {g h : Nat → α} {k : Nat} {x : α} (hx : k < n → h k = x) (hn : ∀ i, i < n → i ≠ k → h i = g i) : ((List.range n).map g).set k x = (List.range n).map h :=
 listG_ext (by simp) fun j hj => by
  replace hj : j < n := by simpa using hj
  by_cases e : j = k
  ·subst e; rw [setG_at (by simpa using hj), mapR_at h hj, hx hj]
  ·rw [setG_ne e, mapR_at g hj, mapR_at h hj, hn j hj e]
theorem lyL_zero : lyL n c F 0 0 false = begL n :=
 listG_ext (by simp [lyL, begL]) fun i hi => by
  rw [lyL_len] at hi
  rw [lyL_at hi, if_neg (by omega), if_neg (by simp)]
  unfold begL; rw [getElem!_pos _ i (by simpa using hi)]; simp
theorem lyL_rec {q : Nat} (hq : q < n) : recL (lyL n c F q 0 false) q c[q]! = lyL n c F q 0 true := by
 refine listG_ext (by simp [recL, lyL]) fun i hi => ?_
 replace hi : i < n := by simpa [recL, lyL] using hi
 unfold recL
 by_cases e : i = q
 ·subst e
  rw [setG_at (by rw [lyL_len]; exact hi), lyL_at hi, lyL_at hi, if_neg (by omega), if_neg (by simp), if_neg (by omega), if_pos (by simp)]
  unfold mk0 lyM
  congr 1
  ·rw [show List.replicate n false = (List.range n).map (fun _ => false) from by simp [List.map_const']]
   exact mapR_set (fun _ => by simp) fun j _ hj => by simp [hj]
  ·simp [List.map_const']
 ·rw [setG_ne e, lyL_at hi, lyL_at hi]
  by_cases h1 : i < q
  ·rw [if_pos h1, if_pos h1]
  ·rw [if_neg h1, if_neg h1, if_neg (by simp), if_neg (by simp [e])]
theorem lyL_step {q f : Nat} (hq : q < n) (hf : f < n) : chanS (closeK (lyL n c F q f true) q f) q f (F f q) = lyL n c F q (f + 1) true := by
 refine listG_ext (by simp [chanS, closeK, lyL]) fun i hi => ?_
 replace hi : i < n := by simpa [chanS, closeK, lyL] using hi
 unfold chanS closeK
 by_cases e : i = q
 ·subst e
  rw [setG_at (by rw [List.length_set, lyL_len]; exact hi), setG_at (by rw [lyL_len]; exact hi), lyL_at hi, lyL_at hi, if_neg (by omega), if_pos (by simp), if_neg (by omega), if_pos (by simp)]
  show (⟨c[i]!, ((List.range n).map fun g => decide (g < f) || decide (g = i)).set f true, ((List.range n).map fun g => if g < f then F g i else []).set f (F f i)⟩ : Mk) = ⟨c[i]!, (List.range n).map fun g => decide (g < f + 1) || decide (g = i), (List.range n).map fun g => if g < f + 1 then F g i else []⟩
  congr 1
  ·exact mapR_set (fun _ => by simp) fun j _ hj => by
    have : (j < f + 1) = (j < f) := by rw [eq_iff_iff]; omega
    simp only [this]
  ·exact mapR_set (fun _ => by rw [if_pos (by omega)]) fun j _ hj => by
    have : (j < f + 1) = (j < f) := by rw [eq_iff_iff]; omega
    simp only [this]
 ·rw [setG_ne e, setG_ne e, lyL_at hi, lyL_at hi]
  by_cases h1 : i < q
  ·rw [if_pos h1, if_pos h1]
  ·rw [if_neg h1, if_neg h1, if_neg (by simp [e]), if_neg (by simp [e])]
theorem lyL_next {q : Nat} (hq : q < n) : lyL n c F q n true = lyL n c F (q + 1) 0 false := by
 refine listG_ext (by simp [lyL]) fun i hi => ?_
 replace hi : i < n := by simpa [lyL] using hi
 rw [lyL_at hi, lyL_at hi]
 by_cases h1 : i < q
 ·rw [if_pos h1, if_pos (by omega)]
 ·rw [if_neg h1]
  by_cases e : i = q
  ·subst e; rw [if_pos (by simp), if_pos (by omega)]
  ·rw [if_neg (by simp [e]), if_neg (by omega), if_neg (by simp)]
theorem lyL_all : lyL n c F n 0 false = cutL n c F := by
 refine listG_ext (by simp [lyL, cutL]) fun i hi => ?_
 replace hi : i < n := by simpa [lyL] using hi
 rw [lyL_at hi, cutL_at hi, if_pos hi]
 unfold lyM
 congr 1
 ·refine listG_ext (by simp) fun j hj => ?_
  replace hj : j < n := by simpa using hj
  rw [mapR_at _ hj, getElem!_pos _ j (by simpa using hj)]; simp [hj]
 ·exact List.map_congr_left fun f hf => if_pos (List.mem_range.1 hf)
end
def redK (t : Tr) (red : List Int) (k : Nat) : List Int := (List.range red.length).map fun p => if p < k ∧ red[p]! = -1 then (t[p]!.events.length : Int) else red[p]!
def redC (t : Tr) (red : List Int) : List Int := (List.range red.length).map fun p => if red[p]! = -1 then (t[p]!.events.length : Int) else red[p]!
theorem redK_len (t : Tr) (red : List Int) (k : Nat) : (redK t red k).length = red.length := by simp [redK]
theorem redC_len (t : Tr) (red : List Int) : (redC t red).length = red.length := by simp [redC]
theorem redK_zero (t : Tr) (red : List Int) : redK t red 0 = red :=
 listG_ext (redK_len ..) fun j hj => by rw [redK_len] at hj; unfold redK; rw [mapR_at _ hj, if_neg (by omega)]
theorem redK_all (t : Tr) (red : List Int) : redK t red red.length = redC t red :=
 List.map_congr_left fun p hp => by
  have := List.mem_range.1 hp
  by_cases e : red[p]! = -1
  ·rw [if_pos ⟨this, e⟩, if_pos e]
  ·rw [if_neg (fun h => e h.2), if_neg e]
theorem redK_yes {t : Tr} {red : List Int} {k : Nat} (hk : k < red.length) (h : red[k]! = -1) : (redK t red k).set k (t[k]!.events.length : Int) = redK t red (k + 1) :=
 mapR_set (fun _ => by rw [if_pos ⟨by omega, h⟩]) fun i _ hi => by
  have : (i < k + 1) = (i < k) := by rw [eq_iff_iff]; omega
  simp only [this]
theorem redK_no {t : Tr} {red : List Int} {k : Nat} (h : red[k]! ≠ -1) : redK t red (k + 1) = redK t red k :=
 List.map_congr_left fun i _ => by
  by_cases e : i = k
  ·subst e; rw [if_neg (fun hh => h hh.2), if_neg (fun hh => h hh.2)]
  ·have : (i < k + 1) = (i < k) := by rw [eq_iff_iff]; omega
   simp only [this]
end Go.Proofs.Ytfagfooggcinoaa
