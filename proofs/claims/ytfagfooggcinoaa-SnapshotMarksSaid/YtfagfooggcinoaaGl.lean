import Derived.Test.YtfagfooggcinoaaJa
import Derived.Test.YtfagfooggcinoaaProg
import Derived.Test.YtfagfooggcinoaaGk
import Derived.Test.YtfagfooggcinoaaGe
import Derived.Test.YtfagfooggcinoaaGb
import Derived.Test.YtfagfooggcinoaaGd
import Derived.Test.YtfagfooggcinoaaGf
import Derived.Test.YtfagfooggcinoaaGi
import Derived.Test.YtfagfooggcinoaaGh
import Derived.Test.YtfagfooggcinoaaGg
import Derived.Test.YtfagfooggcinoaaGc
import Derived.Test.YtfagfooggcinoaaGa
import Derived.BigQuiet
import Derived.Deep.QuietTactic
import Derived.Deep.LoopGhost
import Derived.Shelf.Abstract
import Derived.Deep.DeepCutAuto
/-
  The law's test of marks: not too many, and with short lists.
-/
namespace Go.Proofs.Ytfagfooggcinoaa
open Go.RowKit
set_option linter.unusedVariables false

def bigR (x : List Int) : Bool := decide (220 < x.length)
def bigM (m : Mk) : Bool := decide (12 < m.closed.length) || (decide (12 < m.chan.length) || m.chan.any bigR)
def lightB (l : List Mk) : Bool := decide (l.length ≤ 12) && !(l.any bigM)
theorem lightB_ok {l : List Mk} (h : lightB l = true) : LightM l ∧ l.length ≤ 12 ∧ ∀ i, i < l.length → l[i]!.closed.length ≤ 12 ∧ l[i]!.chan.length ≤ 12 ∧ ∀ j, j < l[i]!.chan.length → (l[i]!.chan[j]!).length ≤ 220 := by
  unfold lightB at h
  rw [Bool.and_eq_true, decide_eq_true_eq, Bool.not_eq_true'] at h
  have h2 : ∀ i, i < l.length → l[i]!.closed.length ≤ 12 ∧ l[i]!.chan.length ≤ 12 ∧ ∀ j, j < l[i]!.chan.length → (l[i]!.chan[j]!).length ≤ 220 := fun i hi => by
    have h3 := List.any_eq_false.1 h.2 l[i]! (by rw [getElem!_pos l i hi]; exact List.getElem_mem hi)
    unfold bigM at h3
    simp only [Bool.or_eq_true, decide_eq_true_eq, not_or] at h3
    refine ⟨by omega, by omega, fun j hj => ?_⟩
    have h4 := List.any_eq_false.1 (by simpa using h3.2.2 : l[i]!.chan.any bigR = false) (l[i]!.chan[j]!) (by rw [getElem!_pos l[i]!.chan j hj]; exact List.getElem_mem hj)
    unfold bigR at h4
    rw [decide_eq_true_eq] at h4
    omega
  refine ⟨⟨by omega, fun i hi => ?_⟩, h.1, h2⟩
  obtain ⟨a, b, c⟩ := h2 i hi
  exact ⟨by omega, by omega, fun j hj => by have := c j hj; omega⟩

set_option maxHeartbeats 400000 in
theorem indexFunc_mks {α : Type} [Inhabited α] (R : World → List Value → α → Prop) (hLasts : Lasts R) (g : Nat) (cb : Array Value) (eg : ∀ args w, (callFunc g args).run Try.prog w = .ok (.enter g args) w) (p : α → Bool) (v : Value) (l : List α) (w : World)
    (hv : Sl R 3 w v l) (hn : l.length ≤ 1000000) (hp : SaysOf Try.prog R encAgg g cb p l w) :
    Calls Try.prog 68 #[v, .func (.func g) #[] cb] w fun e w' => e = .returned (.int .i64 (firstAt p l)) ∧ Ext w w' := by
  obtain ⟨a, c, rfl, hlc, hv⟩ := hv
  have HLC := Lib.hid hlc; clear hlc
  have HV := Lib.hid hv; clear hv
  have HP := Lib.hid hp; clear hp
  have HT := Lib.hid hLasts; clear hLasts
  generalize hln : l.length = n at hn
  have HL := Lib.hid hln; clear hln
  go_enter Try.func68, Try.ntmps68
  go_wp2
  go_loopg [5, 8] n (fun m _ s8 wr => ∃ k : Nat, k ≤ n ∧ n - k ≤ m ∧ s8 = .int .i64 k ∧ Ext w wr ∧ Aside (∀ j, j < k → p l[j]! = false))
  case atStart => exact ⟨0, Nat.zero_le _, by omega, rfl, Below.refl _ _, (fun j hj => absurd hj (Nat.not_lt_zero _))⟩
  case round =>
    obtain ⟨k, hk, hm, rfl, he, A⟩ := hrel
    have HE := Lib.hid he; clear he
    by_cases hlt : k < n
    · obtain ⟨b, off, rfl, hb, hc⟩ := HV.out (by intro e; have := HL.out; simp [e] at this; omega)
      obtain ⟨vs, hvs, hR, hcell⟩ := hc k (by rw [HL.out]; exact hlt)
      obtain ⟨c0, c1, c2, rfl⟩ : ∃ c0 c1 c2, vs = [c0, c1, c2] := by match vs, hvs with | [c0, c1, c2], _ => exact ⟨c0, c1, c2, rfl⟩
      have d0 : wr.cell? ⟨b, off + k * 3, none⟩ = some c0 := (HE.out.cell hb).trans (hcell 0 (by omega))
      have d1 : wr.cell? ⟨b, off + k * 3 + 1, none⟩ = some c1 := (HE.out.cell hb).trans (hcell 1 (by omega))
      have d2 : wr.cell? ⟨b, off + k * 3 + 2, none⟩ = some c2 := (HE.out.cell hb).trans (hcell 2 (by omega))
      have hltz : (k : Int) < (n : Int) := by omega
      clear hc hcell
      have hcall := HP.out _ (mem_at l k (by rw [HL.out]; exact hlt)) wr _ HE.out (HT.out _ _ _ _ hR HE.out)
      unfold encAgg at hcall
      generalize hy : l[k]! = y at hcall hR
      have B := Lib.hid hy
      clear hy hR hvs HV HT HP
      cases hq : p y with
      | true =>
        rw [hq] at hcall
        have HQ := Lib.hid hq; clear hq
        go_wp2_with (go_at_fn g; refine hcall.mono ?_; rintro e w' ⟨rfl, he'⟩)
        go_ret
        exact ⟨by rw [firstAt_hit p l k (by rw [HL.out]; omega) (by rw [B.out]; exact HQ.out) A.out]; rfl, HE.out.trans' he'⟩
      | false =>
        rw [hq] at hcall
        have HQ := Lib.hid hq; clear hq
        go_wp2_with (go_at_fn g; refine hcall.mono ?_; rintro e w' ⟨rfl, he'⟩)
        go_roundg (n - (k + 1))
        case measure => omega
        case rel =>
          refine ⟨k + 1, by omega, by omega, by go_num, HE.out.trans' he', (show Aside _ from fun j hj => ?_)⟩
          by_cases e : j = k
          · subst e
            rw [B.out]; exact HQ.out
          · exact A.out j (by omega)
    · have hltz : ¬ (k : Int) < (n : Int) := by omega
      go_wp2
      go_ret
      exact ⟨by rw [firstAt_miss p l (fun j hj => A.out j (by rw [HL.out] at hj; omega))]; rfl, HE.out⟩

theorem enters_68 : ∀ args w, (callFunc 68 args).run Try.prog w = .ok (.enter 68 args) w := enters_of Try.func68 (by kernel_rfl) rfl

set_option maxHeartbeats 400000 in
theorem containsFunc_mks {α : Type} [Inhabited α] (R : World → List Value → α → Prop) (hLasts : Lasts R) (g : Nat) (cb : Array Value) (eg : ∀ args w, (callFunc g args).run Try.prog w = .ok (.enter g args) w) (p : α → Bool) (v : Value) (l : List α) (w : World)
    (hv : Sl R 3 w v l) (hn : l.length ≤ 1000000) (hp : SaysOf Try.prog R encAgg g cb p l w) :
    Calls Try.prog 39 #[v, .func (.func g) #[] cb] w fun e w' => e = .returned (.bool (l.any p)) ∧ Ext w w' := by
  have HI := Lib.hid (indexFunc_mks R hLasts g cb eg p v l w hv hn hp)
  clear hv hp eg hLasts
  rw [← firstAt_any]
  go_enter Try.func39, Try.ntmps39
  go_wp2_with (go_at_call 68; refine HI.out.mono ?_; rintro e w' ⟨rfl, he'⟩)
  go_ret
  exact ⟨rfl, he'⟩

theorem enters_40 : ∀ args w, (callFunc 40 args).run Try.prog w = .ok (.enter 40 args) w := enters_of Try.func40 (by kernel_rfl) rfl
theorem enters_42 : ∀ args w, (callFunc 42 args).run Try.prog w = .ok (.enter 42 args) w := enters_of Try.func42 (by kernel_rfl) rfl
set_option maxHeartbeats 1000000 in
theorem light11_calls (vs : List Value) (x : List Int) (w : World) (hv : RInts w vs x) : Calls Try.prog 42 #[encOne vs] w fun e w' => e = .returned (.bool (bigR x)) ∧ Ext w w' := by
  obtain ⟨u, rfl, a, c, rfl, hz⟩ := hv
  clear hz
  obtain ⟨r, hr⟩ : ∃ r, decide (220 < (x.length : Int)) = r := ⟨_, rfl⟩
  have HR : Hid (bigR x = r) := Lib.hid (by unfold bigR; rw [← hr]; simp; omega)
  rw [HR.out]
  show Calls Try.prog 42 #[.slice a x.length c] w _
  generalize x.length = n at *
  go_enter Try.func42, Try.ntmps42
  go_wp2
  go_ret
  exact ⟨rfl, Ext.rf _⟩
set_option maxHeartbeats 2000000 in
theorem light1_calls (vs : List Value) (m : Mk) (w : World) (hv : RMk w vs m) : Calls Try.prog 40 #[encAgg vs] w fun e w' => e = .returned (.bool (bigM m)) ∧ Ext w w' := by
  obtain ⟨u, y, rfl, hb, hs⟩ := hv
  obtain ⟨_, ua, uc, rfl, hz⟩ := id hb
  clear hz
  have HS := Lib.hid hs
  obtain ⟨ya, yc, rfl, _⟩ := hs.sh
  have HBM : Hid (bigM m = (decide (12 < m.closed.length) || (decide (12 < m.chan.length) || m.chan.any bigR))) := Lib.hid rfl
  show Calls Try.prog 40 #[.agg #[.int .i64 m.cnt, .slice ua m.closed.length uc, .slice ya m.chan.length yc]] w _
  have HX1 := Lib.hid ((Ext.rf w).al (.cells #[.int .i64 m.cnt, .slice ua m.closed.length uc, .slice ya m.chan.length yc] 48))
  have HB1 := Lib.hid (heap_alloc_new w (.cells #[.int .i64 m.cnt, .slice ua m.closed.length uc, .slice ya m.chan.length yc] 48))
  have HC := Lib.hid (fun W (hW : Ext w W) (hn : m.chan.length ≤ 12) => containsFunc_rows RInts rints_lasts 42 #[] enters_42 bigR (.slice ya m.chan.length yc) m.chan W (Sl.ext rints_lasts HS.out hW) (by omega) (fun x _ W vs _ hR => light11_calls vs x W hR))
  generalize bigM m = ans at *
  generalize m.chan.any bigR = ab at *
  generalize m.cnt = cn at *
  generalize hk1 : m.closed.length = k1 at *
  generalize hk2 : m.chan.length = k2 at *
  clear hk1 hk2 hb hs
  by_cases h1 : 12 < k1
  · have d1 : decide (12 < (k1 : Int)) = true := decide_eq_true (by omega)
    have d1n : decide (12 < k1) = true := decide_eq_true h1
    have HA : Hid (ans = true) := Lib.hid (by rw [HBM.out, d1n]; rfl)
    clear h1
    go_enter Try.func40, Try.ntmps40
    go_wp2
    go_ret
    exact ⟨by rw [HA.out]; rfl, HX1.out⟩
  · have d1 : decide (12 < (k1 : Int)) = false := decide_eq_false (by omega)
    have d1n : decide (12 < k1) = false := decide_eq_false h1
    by_cases h2 : 12 < k2
    · have d2 : decide (12 < (k2 : Int)) = true := decide_eq_true (by omega)
      have d2n : decide (12 < k2) = true := decide_eq_true h2
      have HA : Hid (ans = true) := Lib.hid (by rw [HBM.out, d1n, d2n]; rfl)
      clear h1 h2
      go_enter Try.func40, Try.ntmps40
      go_wp2
      go_ret
      exact ⟨by rw [HA.out]; rfl, HX1.out⟩
    · have d2 : decide (12 < (k2 : Int)) = false := decide_eq_false (by omega)
      have d2n : decide (12 < k2) = false := decide_eq_false h2
      have HA : Hid (ans = ab) := Lib.hid (by rw [HBM.out, d1n, d2n]; rfl)
      have HC2 := Lib.hid (HC.out _ HX1.out (by omega))
      clear h1 h2 HC
      go_enter Try.func40, Try.ntmps40
      go_wp2_with fail
      refine HC2.out.mono ?_
      rintro e w2 ⟨rfl, hX⟩
      go_wp2
      go_ret
      exact ⟨by rw [HA.out]; rfl, HX1.out.trans' hX⟩
theorem enters_12 : ∀ args w, (callFunc 12 args).run Try.prog w = .ok (.enter 12 args) w := enters_of Try.func12 (by kernel_rfl) rfl
set_option maxHeartbeats 2000000 in
theorem light_calls (v : Value) (l : List Mk) (w : World) (h : Sl RMk 3 w v l) :
    Calls Try.prog 12 #[v] w fun e w' => e = .returned (.bool (lightB l)) ∧ Ext w w' := by
  have HC := Lib.hid (fun (hn : l.length ≤ 12) => containsFunc_mks RMk rmk_lasts 40 #[] enters_40 bigM v l w h (by omega) (fun x _ W vs _ hR => light1_calls vs x W hR))
  obtain ⟨va, vcap, rfl, hvc⟩ := h.sh
  have HBM : Hid (lightB l = (decide (l.length ≤ 12) && !(l.any bigM))) := Lib.hid rfl
  generalize lightB l = ans at *
  generalize l.any bigM = ab at *
  generalize l.length = n at *
  clear h
  by_cases h1 : n ≤ 12
  · have d1 : decide ((n : Int) ≤ 12) = true := decide_eq_true (by omega)
    have d1n : decide (n ≤ 12) = true := decide_eq_true h1
    have HA : Hid (ans = !ab) := Lib.hid (by rw [HBM.out, d1n]; rfl)
    have HC2 := Lib.hid (HC.out h1)
    clear h1 HC
    go_enter Try.func12, Try.ntmps12
    go_wp2_with fail
    refine HC2.out.mono ?_
    rintro e w2 ⟨rfl, hX⟩
    go_wp2
    go_ret
    exact ⟨by rw [HA.out]; rfl, hX⟩
  · have d1 : decide ((n : Int) ≤ 12) = false := decide_eq_false (by omega)
    have d1n : decide (n ≤ 12) = false := decide_eq_false h1
    have HA : Hid (ans = false) := Lib.hid (by rw [HBM.out, d1n]; rfl)
    clear h1 HC
    go_enter Try.func12, Try.ntmps12
    go_wp2
    go_ret
    exact ⟨by rw [HA.out]; rfl, Ext.rf _⟩

end Go.Proofs.Ytfagfooggcinoaa

/-
  Valid marks in plain words: the messages that were seen. No function is named here.
-/
namespace Go.Proofs.Ytfagfooggcinoaa
set_option linter.unusedVariables false

theorem nodup_leV {α : Type} [DecidableEq α] : ∀ {l m : List α}, l.Nodup → (∀ x ∈ l, x ∈ m) → l.length ≤ m.length := by
  intro l
  induction l with
  | nil => intro m _ _; exact Nat.zero_le _
  | cons a l ih =>
    intro m hn hs
    rw [List.nodup_cons] at hn
    have ha := hs a (by simp)
    have := ih (m := m.erase a) hn.2 fun x hx => (List.mem_erase_of_ne (by rintro rfl; exact hn.1 hx)).2 (hs x (by simp [hx]))
    rw [List.length_erase_of_mem ha] at this
    have hp := List.length_pos_of_mem ha
    rw [List.length_cons]; omega
/-- The messages ahead of number x of channel j of mark i. -/
def msX (l : List Mk) (i j x : Nat) : List Int := (l.take i).flatMap (fun m => m.chan.flatten) ++ ((l[i]!.chan.take j).flatten ++ (l[i]!.chan[j]!).take x)
section
variable {l : List Mk} {i j x : Nat}
theorem take_succ_get {α : Type} [Inhabited α] {l : List α} {k : Nat} (hk : k < l.length) : l.take (k + 1) = l.take k ++ [l[k]!] := by
  rw [List.take_add_one, List.getElem?_eq_getElem hk, getElem!_pos l k hk]; rfl
theorem drop_get {α : Type} [Inhabited α] {l : List α} {k : Nat} (hk : k < l.length) : l.drop k = l[k]! :: l.drop (k + 1) := by
  rw [List.drop_eq_getElem_cons hk, getElem!_pos l k hk]
theorem msX_zero : msX l 0 0 0 = [] := by simp [msX]
theorem msX_step (hx : x < (l[i]!.chan[j]!).length) : msX l i j (x + 1) = msX l i j x ++ [(l[i]!.chan[j]!)[x]!] := by
  unfold msX
  rw [take_succ_get hx, ← List.append_assoc, ← List.append_assoc, ← List.append_assoc]
theorem msX_nextJ (hj : j < l[i]!.chan.length) : msX l i j (l[i]!.chan[j]!).length = msX l i (j + 1) 0 := by
  unfold msX
  rw [take_succ_get hj, List.take_length, List.flatten_append]; simp
theorem msX_nextI (hi : i < l.length) : msX l i l[i]!.chan.length 0 = msX l (i + 1) 0 0 := by
  unfold msX
  rw [take_succ_get hi, List.take_length]; simp
theorem msX_all : msX l l.length 0 0 = allMsgs l := by
  unfold msX allMsgs
  rw [List.take_length]; simp
theorem msX_pre (hi : i < l.length) (hj : j < l[i]!.chan.length) : ∃ r, allMsgs l = msX l i j x ++ r := by
  have h1 : allMsgs l = (l.take i).flatMap (fun m => m.chan.flatten) ++ (l[i]!.chan.flatten ++ (l.drop (i + 1)).flatMap (fun m => m.chan.flatten)) := by
    conv => lhs; unfold allMsgs; rw [← List.take_append_drop i l, drop_get hi]
    rw [List.flatMap_append, List.flatMap_cons]
  have h2 : l[i]!.chan.flatten = (l[i]!.chan.take j).flatten ++ (l[i]!.chan[j]! ++ (l[i]!.chan.drop (j + 1)).flatten) := by
    conv => lhs; rw [← List.take_append_drop j l[i]!.chan, drop_get hj]
    rw [List.flatten_append, List.flatten_cons]
  have h3 : l[i]!.chan[j]! = (l[i]!.chan[j]!).take x ++ (l[i]!.chan[j]!).drop x := (List.take_append_drop _ _).symm
  refine ⟨(l[i]!.chan[j]!).drop x ++ (l[i]!.chan.drop (j + 1)).flatten ++ (l.drop (i + 1)).flatMap (fun m => m.chan.flatten), ?_⟩
  unfold msX
  rw [h1, h2]
  conv => lhs; rw [h3]
  simp only [List.append_assoc]
def OkMs (ms : List Int) : Prop := ms.Nodup ∧ ∀ y ∈ ms, 0 ≤ y ∧ y ≤ 199
theorem OkMs.nil : OkMs [] := ⟨List.nodup_nil, fun y hy => by cases hy⟩
theorem OkMs.snoc {ms : List Int} {y : Int} (h : OkMs ms) (h0 : 0 ≤ y) (h1 : y ≤ 199) (hn : y ∉ ms) : OkMs (ms ++ [y]) := by
  refine ⟨?_, fun z hz => ?_⟩
  · rw [List.nodup_append]
    refine ⟨h.1, by simp, fun a ha b hb => ?_⟩
    rw [List.mem_singleton] at hb
    subst hb
    rintro rfl
    exact hn ha
  · rcases List.mem_append.1 hz with hz | hz
    · exact h.2 z hz
    · rw [List.mem_singleton] at hz; subst hz; exact ⟨h0, h1⟩
theorem OkMs.len {ms : List Int} (h : OkMs ms) : ms.length ≤ 200 := by
  have h2 := nodup_leV (l := ms) (m := (List.range 200).map fun (k : Nat) => (k : Int)) h.1 fun y hy => by
    have := h.2 y hy
    exact List.mem_map.2 ⟨y.toNat, List.mem_range.2 (by omega), by omega⟩
  simpa using h2
theorem validK_mark (hi : i < l.length) (h : markB l.length i l[i]! = false) : validK l = false := by
  unfold validK
  have : (List.range l.length).all (fun i => markB l.length i l[i]!) = false := by
    rw [List.all_eq_false]
    exact ⟨i, List.mem_range.2 hi, by rw [h]; simp⟩
  rw [this]; simp
theorem validK_len (h : ¬ (1 ≤ l.length ∧ l.length ≤ 8)) : validK l = false := by
  unfold validK
  by_cases h1 : 1 ≤ l.length
  · rw [decide_eq_false (show ¬ l.length ≤ 8 by omega)]; simp
  · rw [decide_eq_false h1]; simp
theorem validK_out {r : List Int} {ms : List Int} {y : Int} (h : allMsgs l = ms ++ [y] ++ r) (hy : ¬ (0 ≤ y ∧ y ≤ 199)) : validK l = false := by
  unfold validK
  have : ((allMsgs l).all fun x => decide (0 ≤ x) && decide (x ≤ 199)) = false := by
    rw [List.all_eq_false]
    refine ⟨y, by rw [h]; simp, ?_⟩
    simp only [Bool.and_eq_true, decide_eq_true_eq]; exact hy
  rw [this]; simp
theorem validK_twice {r : List Int} {ms : List Int} {y : Int} (h : allMsgs l = ms ++ [y] ++ r) (hy : y ∈ ms) : validK l = false := by
  unfold validK
  have : ¬ (allMsgs l).Nodup := by
    rw [h]
    intro hn
    have := (List.nodup_append.1 hn).1
    have := (List.nodup_append.1 this).2.2 y hy y (by simp)
    exact this rfl
  rw [decide_eq_false this]; simp
theorem validK_yes (h1 : 1 ≤ l.length) (h2 : l.length ≤ 8) (h : ∀ i, i < l.length → markB l.length i l[i]! = true) (hm : OkMs (allMsgs l)) : validK l = true := by
  unfold validK
  rw [decide_eq_true h1, decide_eq_true h2, decide_eq_true hm.1, show (List.range l.length).all (fun i => markB l.length i l[i]!) = true from by rw [List.all_eq_true]; exact fun i hi => h i (List.mem_range.1 hi),
    show ((allMsgs l).all fun x => decide (0 ≤ x) && decide (x ≤ 199)) = true from by rw [List.all_eq_true]; exact fun y hy => by have := hm.2 y hy; simp; exact this]
  rfl

/-! ### What was seen, as a list of yes and no -/
def seenF (ms : List Int) : List Bool := (List.range 200).map fun (y : Nat) => decide ((y : Int) ∈ ms)
theorem seenF_len (ms : List Int) : (seenF ms).length = 200 := by simp [seenF]
theorem seenF_at {ms : List Int} {k : Nat} (hk : k < 200) : (seenF ms)[k]! = decide ((k : Int) ∈ ms) := by
  rw [getElem!_pos _ k (by rw [seenF_len]; exact hk)]; simp [seenF]
theorem seenF_nil {k : Nat} (hk : k < 200) : (seenF [])[k]! = false := by rw [seenF_at hk]; simp
theorem seenF_snoc {ms : List Int} {y : Int} (h0 : 0 ≤ y) (h1 : y ≤ 199) : (seenF ms).set y.toNat true = seenF (ms ++ [y]) :=
  listG_ext (by simp [seenF]) fun k hk => by
    have hk2 : k < 200 := by simpa [seenF] using hk
    by_cases e : k = y.toNat
    · subst e
      rw [setG_at (by rw [seenF_len]; exact hk2), seenF_at hk2, show ((y.toNat : Nat) : Int) = y by omega]; simp
    · rw [setG_ne e, seenF_at hk2, seenF_at hk2]
      have : ((k : Int) ∈ ms ++ [y]) = ((k : Int) ∈ ms) := by
        rw [eq_iff_iff, List.mem_append, List.mem_singleton]
        exact ⟨fun h => h.resolve_right (by omega), .inl⟩
      simp only [this]
end

end Go.Proofs.Ytfagfooggcinoaa

/-
  Snapshots: the program's Valid.
-/
namespace Go.Proofs.Ytfagfooggcinoaa
open Go.RowKit
set_option linter.unusedVariables false

theorem zero_boolV : ∀ w, (zeroValue 4).run Try.prog w = .ok (.bool false) w := fun w => by kernel_rfl
set_option maxHeartbeats 400000 in
theorem indexYes_calls (v : Value) (l : List Bool) (w : World) (hv : Bools w v l) (hn : l.length ≤ 1000000) :
    Calls Try.prog 71 #[v, .bool true] w fun e w' => e = .returned (.int .i64 (firstAt (fun y => y) l)) ∧ w = w' := by
  have HV := Lib.hid hv
  obtain ⟨_, a, c, rfl, hlc, hz⟩ := hv
  clear hz
  generalize hln : l.length = n at *
  have HL := Lib.hid hln; clear hln
  go_enter Try.func71, Try.ntmps71
  go_wp2
  go_loopg [5, 8] n (fun m _ s8 wr => ∃ k : Nat, k ≤ n ∧ n - k ≤ m ∧ s8 = .int .i64 k ∧ wr = w ∧ Aside (∀ j, j < k → (fun y => y) l[j]! = false))
  case atStart => exact ⟨0, Nat.zero_le _, by omega, rfl, rfl, (fun j hj => absurd hj (Nat.not_lt_zero _))⟩
  case round =>
    obtain ⟨k, hk, hm, rfl, rfl, A⟩ := hrel
    by_cases hlt : k < n
    · obtain ⟨b, off, rfl, _, _, hcell⟩ := bool_at HV.out k (by rw [HL.out]; exact hlt)
      have hltz : (k : Int) < (n : Int) := by omega
      generalize hy : l[k]! = y at hcell
      have B := Lib.hid hy
      clear hy
      cases y with
      | true =>
        go_wp2
        go_ret
        exact ⟨by rw [firstAt_hit (fun y => y) l k (by rw [HL.out]; omega) (by rw [B.out]) A.out]; rfl, rfl⟩
      | false =>
        go_wp2
        go_roundg (n - (k + 1))
        case measure => omega
        case rel =>
          refine ⟨k + 1, by omega, by omega, by go_num, rfl, (show Aside _ from fun j hj => ?_)⟩
          by_cases e : j = k
          · subst e
            rw [B.out]
          · exact A.out j (by omega)
    · have hltz : ¬ (k : Int) < (n : Int) := by omega
      go_wp2
      go_ret
      exact ⟨by rw [firstAt_miss (fun y => y) l (fun j hj => A.out j (by rw [HL.out] at hj; omega))]; rfl, rfl⟩
theorem enters_71 : ∀ args w, (callFunc 71 args).run Try.prog w = .ok (.enter 71 args) w := enters_of Try.func71 (by kernel_rfl) rfl
set_option maxHeartbeats 400000 in
theorem containsYes_calls (v : Value) (l : List Bool) (w : World) (hv : Bools w v l) (hn : l.length ≤ 1000000) :
    Calls Try.prog 44 #[v, .bool true] w fun e w' => e = .returned (.bool (l.any fun y => y)) ∧ w' = w := by
  have HI := Lib.hid (indexYes_calls v l w hv hn)
  obtain ⟨_, a, c, rfl, hlc, hz⟩ := hv
  clear hz
  rw [← firstAt_any]
  go_enter Try.func44, Try.ntmps44
  go_wp2_with (go_at_call 71; refine HI.out.mono ?_; rintro e w' ⟨rfl, rfl⟩)
  go_ret
  exact ⟨rfl, rfl⟩

theorem markB_cnt {n i : Nat} {m : Mk} (h : ¬ (-1 ≤ m.cnt ∧ m.cnt ≤ 64 ∧ m.closed.length = n ∧ m.chan.length = n)) : markB n i m = false := by
  unfold markB
  by_cases h1 : -1 ≤ m.cnt
  · by_cases h2 : m.cnt ≤ 64
    · by_cases h3 : m.closed.length = n
      · rw [decide_eq_false (show ¬ m.chan.length = n from fun h4 => h ⟨h1, h2, h3, h4⟩)]; simp
      · rw [decide_eq_false h3]; simp
    · rw [decide_eq_false h2]; simp
  · rw [decide_eq_false h1]; simp
theorem markB_eq {n i : Nat} {m : Mk} (h1 : -1 ≤ m.cnt) (h2 : m.cnt ≤ 64) (h3 : m.closed.length = n) (h4 : m.chan.length = n) :
    markB n i m = if m.cnt = -1 then !(m.closed.any fun y => y) && m.chan.all (fun c => c.isEmpty) else m.closed[i]! && m.chan[i]!.isEmpty := by
  unfold markB
  rw [decide_eq_true h1, decide_eq_true h2, decide_eq_true h3, decide_eq_true h4]
  simp only [Bool.true_and]
  have : m.closed.all (fun b => !b) = !(m.closed.any fun y => y) := by simp [List.not_any_eq_all_not]
  rw [this]
theorem chan_full {m : Mk} {j x : Nat} (hj : j < m.chan.length) (hx : x < (m.chan[j]!).length) : m.chan.all (fun c => c.isEmpty) = false := by
  rw [List.all_eq_false]
  refine ⟨m.chan[j]!, ?_, ?_⟩
  · rw [getElem!_pos m.chan j hj]; exact List.getElem_mem hj
  · intro h
    rw [List.isEmpty_iff] at h
    rw [h] at hx
    exact absurd hx (Nat.not_lt_zero _)
theorem chan_none {m : Mk} (h : ∀ j, j < m.chan.length → (m.chan[j]!).length = 0) : m.chan.all (fun c => c.isEmpty) = true := by
  rw [List.all_eq_true]
  intro c hc
  obtain ⟨j, hj, rfl⟩ := List.getElem_of_mem hc
  have := h j hj
  rw [getElem!_pos m.chan j hj] at this
  rw [List.isEmpty_iff]; exact List.eq_nil_of_length_eq_zero this

def VkI (w wr : World) (mb : Nat) (ms : List Int) : Prop := Ext w wr ∧ (∃ mm, mm ≤ ms.length ∧ BMap wr Try.prog 3 4 mb mm 200 (seenF ms)) ∧ OkMs ms
theorem VkI.al {w wr : World} {mb : Nat} {ms : List Int} (h : VkI w wr mb ms) (o : Obj) : VkI w (wr.alloc o) mb ms := by
  obtain ⟨h1, ⟨mm, h2, h3⟩, h4⟩ := h
  exact ⟨h1.al o, ⟨mm, h2, h3.ext ((Ext.rf wr).al o)⟩, h4⟩
theorem enters_16 : ∀ args w, (callFunc 16 args).run Try.prog w = .ok (.enter 16 args) w := enters_of Try.func16 (by kernel_rfl) rfl
set_option maxHeartbeats 8000000 in
set_option maxRecDepth 100000 in
theorem snapValid_calls (v : Value) (l : List Mk) (w : World) (h : Sl RMk 3 w v l) (hl : LightM l) :
    Calls Try.prog 16 #[v] w fun e w' => e = .returned (.bool (validK l)) ∧ Ext w w' := by
  have hmm := @run_makeMap Try.prog
  have HS := Lib.hid h
  have HLI := Lib.hid hl
  have hl1 := hl.1
  obtain ⟨va, vcap, rfl, hvc⟩ := h.sh
  clear h hl
  by_cases hn8 : 1 ≤ l.length ∧ l.length ≤ 8
  case neg =>
    have HA := Lib.hid (validK_len hn8)
    by_cases hn1 : 1 ≤ l.length
    · have d1 : decide ((l.length : Int) < 1) = false := decide_eq_false (by omega)
      have d2 : decide (8 < (l.length : Int)) = true := decide_eq_true (by omega)
      have d3 : decide (8 < l.length) = true := decide_eq_true (by omega)
      generalize l.length = n at *
      clear hn8 hn1
      go_enter Try.func16, Try.ntmps16
      go_wp2
      go_ret
      exact ⟨by rw [HA.out]; rfl, Ext.rf _⟩
    · have hz : l.length = 0 := by omega
      rw [hz]
      clear hn8 hn1 hz hvc hl1
      go_enter Try.func16, Try.ntmps16
      go_wp2
      go_ret
      exact ⟨by rw [HA.out]; rfl, Ext.rf _⟩
  case pos =>
    have HMB := Lib.hid (fun i hi => validK_mark (l := l) (i := i) hi)
    obtain ⟨n, hn⟩ : ∃ n, l.length = n := ⟨_, rfl⟩
    have HN := Lib.hid hn
    have h1 : 1 ≤ n := by omega
    have h8 : n ≤ 8 := by omega
    have d1 : decide ((n : Int) < 1) = false := decide_eq_false (by omega)
    have d2 : decide (8 < (n : Int)) = false := decide_eq_false (by omega)
    have d3 : decide (8 < n) = false := decide_eq_false (by omega)
    have d4 : decide (n = 0) = false := decide_eq_false (by omega)
    rw [hn] at hl1 hvc ⊢
    clear hn8 hn
    go_enter Try.func16, Try.ntmps16
    go_wp2
    have HI0 : Hid (VkI w (w.alloc (.map #[] 0)) w.heap.size (msX l 0 0 0)) := Lib.hid ⟨(Ext.rf w).al _, ⟨0, Nat.zero_le _, BMap.made w (fun i hi => by rw [msX_zero]; exact seenF_nil hi)⟩, by rw [msX_zero]; exact OkMs.nil⟩
    generalize hmb : w.heap.size = mb at *
    have HMBE := Lib.hid hmb
    clear hmb hmm
    go_loopg [5, 6, 8, 10, 22] n (fun g s5 s6 s8 s10 s22 wr => ∃ i : Nat, i ≤ n ∧ n - i ≤ g ∧ s22 = .int .i64 i ∧ Aside (VkI w wr mb (msX l i 0 0)) ∧ Aside (∀ a, a < i → markB n a l[a]! = true))
    case atStart => exact ⟨0, Nat.zero_le _, by omega, rfl, (show VkI _ _ _ _ from HI0.out), (fun a ha => absurd ha (Nat.not_lt_zero _))⟩
    case round =>
      obtain ⟨i, hi, hgi, rfl, HI, HM⟩ := hrel
      clear HI0
      by_cases hlt : i < n
      case neg =>
        have hiz : ¬ (i : Int) < (n : Int) := by omega
        have HA : Hid (validK l = true) := Lib.hid (validK_yes (by rw [HN.out]; exact h1) (by rw [HN.out]; exact h8) (fun a ha => by rw [HN.out] at ha ⊢; exact HM.out a (by omega)) (by
          have h := HI.out.2.2
          rwa [show i = l.length by rw [HN.out]; omega, msX_all] at h))
        go_wp2
        go_ret
        exact ⟨by rw [HA.out]; rfl, HI.out.1⟩
      case pos =>
        have hiz : (i : Int) < (n : Int) := by omega
        have hiz0 : (0 : Int) ≤ (i : Int) := by omega
        have HIL := Lib.hid (show i < l.length by rw [HN.out]; exact hlt)
        have HB := Lib.hid (fun h => HMB.out i HIL.out (by rw [HN.out]; exact h))
        obtain ⟨B, O, C, ua, uc, y, hve, hlC, hBw, p0, p1, p2, hb, hs⟩ := mark_at HS.out i HIL.out
        simp only [Value.slice.injEq] at hve
        obtain ⟨rfl, hz1, rfl⟩ := hve
        obtain ⟨ya, yc, rfl, _⟩ := hs.sh
        have P0 := HI.out.1.cl p0
        have P1 := HI.out.1.cl p1
        have P2 := HI.out.1.cl p2
        have HBL := Lib.hid hb
        have HCH := Lib.hid hs
        obtain ⟨hli1, hli2, hli3⟩ := HLI.out.2 i HIL.out
        have HLI3 := Lib.hid hli3
        have HMC := Lib.hid (markB_cnt (n := n) (i := i) (m := l[i]!))
        have HME := Lib.hid (markB_eq (n := n) (i := i) (m := l[i]!))
        have HB6 := Lib.hid (heap_alloc_new wr (.cells #[.int .i64 l[i]!.cnt, .slice ua l[i]!.closed.length uc, .slice ya l[i]!.chan.length yc] 48))
        have HIB := Lib.hid (HI.out.al (.cells #[.int .i64 l[i]!.cnt, .slice ua l[i]!.closed.length uc, .slice ya l[i]!.chan.length yc] 48))
        have x0 := cellOf HB6.out 0
        have x1 := cellOf HB6.out 1
        have x2 := cellOf HB6.out 2
        simp only [List.getElem?_toArray, List.getElem?_cons_zero, List.getElem?_cons_succ] at x0 x1 x2
        obtain ⟨cn, hcn⟩ : ∃ x, l[i]!.cnt = x := ⟨_, rfl⟩
        obtain ⟨cl, hcl⟩ : ∃ x, l[i]!.closed.length = x := ⟨_, rfl⟩
        obtain ⟨ch, hch⟩ : ∃ x, l[i]!.chan.length = x := ⟨_, rfl⟩
        have HCN := Lib.hid hcn
        have HCL := Lib.hid hcl
        have HCHL := Lib.hid hch
        rw [hcn] at P0 HMC HME HB6 HIB x0 x1 x2
        rw [hcl] at P1 HMC HME HB6 HIB x0 x1 x2 HBL hli1
        rw [hch] at P2 HMC HME HB6 HIB x0 x1 x2 HCH hli2
        have HLT : Hid (mb < wr.heap.size) := Lib.hid (by obtain ⟨mm, _, hbm⟩ := HI.out.2.1; exact hbm.lt)
        clear p0 p1 p2 hb hs hli3 hcn hcl hch hz1 HI
        by_cases e1 : -1 ≤ cn
        case neg =>
          have g1 : decide (cn < -1) = true := decide_eq_true (by omega)
          have HF := Lib.hid (HB.out (HMC.out (fun h => e1 h.1)))
          clear e1
          go_wp2
          go_ret
          exact ⟨by rw [HF.out]; rfl, HIB.out.1⟩
        case pos =>
        have g1 : decide (cn < -1) = false := decide_eq_false (by omega)
        by_cases e2 : cn ≤ 64
        case neg =>
          have g2 : decide (64 < cn) = true := decide_eq_true (by omega)
          have HF := Lib.hid (HB.out (HMC.out (fun h => e2 h.2.1)))
          clear e1 e2
          go_wp2
          go_ret
          exact ⟨by rw [HF.out]; rfl, HIB.out.1⟩
        case pos =>
        have g2 : decide (64 < cn) = false := decide_eq_false (by omega)
        by_cases e3 : cl = n
        case neg =>
          have g3 : ((cl : Int) != (n : Int)) = true := by rw [bne_iff_ne]; omega
          have HF := Lib.hid (HB.out (HMC.out (fun h => e3 h.2.2.1)))
          clear e1 e2 e3
          go_wp2
          go_ret
          exact ⟨by rw [HF.out]; rfl, HIB.out.1⟩
        case pos =>
        have g3 : ((cl : Int) != (n : Int)) = false := by rw [bne_eq_false_iff_eq]; omega
        by_cases e4 : ch = n
        case neg =>
          have g4 : ((ch : Int) != (n : Int)) = true := by rw [bne_iff_ne]; omega
          have HF := Lib.hid (HB.out (HMC.out (fun h => e4 h.2.2.2)))
          clear e1 e2 e3 e4
          go_wp2
          go_ret
          exact ⟨by rw [HF.out]; rfl, HIB.out.1⟩
        case pos =>
        have g4 : ((ch : Int) != (n : Int)) = false := by rw [bne_eq_false_iff_eq]; omega
        have HME2 := Lib.hid (HME.out e1 e2 e3 e4)
        clear e1 e2
        obtain rfl : n = cl := e3.symm
        obtain rfl : n = ch := e4.symm
        go_upto_region 10 with (fail)
        generalize hb6 : wr.heap.size = b6 at *
        generalize wr.alloc (.cells #[.int .i64 cn, .slice ua n uc, .slice ya n yc] 48) = w6 at *
        clear hb6 P0 P1 P2
        obtain ⟨hd, hhd⟩ : ∃ x, (if cn = -1 then l[i]!.closed.any fun y => y else !(l[i]!.closed[i]! && l[i]!.chan[i]!.isEmpty)) = x := ⟨_, rfl⟩
        have HHD := Lib.hid hhd
        have HCY := Lib.hid (containsYes_calls (.slice ua n uc) l[i]!.closed w6 (HBL.out.ext HIB.out.1) (by rw [HCL.out]; exact hli1))
        clear hhd
        go_cut [78] (fun s78 wx => s78 = .bool hd ∧ wx = w6)
        case first =>
          by_cases hc : cn = -1
          case pos =>
            have HE : Hid ((l[i]!.closed.any fun y => y) = hd) := Lib.hid (by rw [← HHD.out, if_pos hc])
            rw [HE.out] at HCY
            subst hc
            cases hd with
            | true =>
              go_wp2_with fail
              refine HCY.out.mono ?_
              rintro e w7 ⟨rfl, rfl⟩
              go_wp2
              go_meet
              exact ⟨rfl, rfl⟩
            | false =>
              go_wp2_with fail
              refine HCY.out.mono ?_
              rintro e w7 ⟨rfl, rfl⟩
              go_wp2
              go_meet
              exact ⟨rfl, rfl⟩
          case neg =>
            have HE : Hid ((!(l[i]!.closed[i]! && l[i]!.chan[i]!.isEmpty)) = hd) := Lib.hid (by rw [← HHD.out, if_neg hc])
            have g5 : (cn == -1) = false := by rw [beq_eq_false_iff_ne]; exact hc
            have g6 : (cn != -1) = true := by rw [bne_iff_ne]; exact hc
            obtain ⟨b1, o1, rfl, _, _, hbc⟩ := bool_at HBL.out i (by rw [HCL.out]; exact hlt)
            have q0 := HIB.out.1.cl hbc
            obtain ⟨b2, o2, c2, u2, he2, hl2, hb2, hc2, x9, hx9, hI2⟩ := HCH.out.at1 i (by rw [HCHL.out]; exact hlt)
            simp only [Value.slice.injEq] at he2
            obtain ⟨rfl, hy2, rfl⟩ := he2
            obtain rfl : u2 = x9 := by simpa using hx9
            obtain ⟨z1, z2, rfl, _⟩ := hI2
            have q1 := HIB.out.1.cl hc2
            have HEM : Hid (l[i]!.chan[i]!.isEmpty = decide ((l[i]!.chan[i]!).length = 0)) := Lib.hid (by
              rw [Bool.eq_iff_iff, List.isEmpty_iff, decide_eq_true_iff, List.length_eq_zero_iff])
            rw [HEM.out] at HE
            obtain ⟨k9, hk9⟩ : ∃ x, (l[i]!.chan[i]!).length = x := ⟨_, rfl⟩
            rw [hk9] at HE q1
            generalize l[i]!.closed[i]! = bb at *
            clear hc hbc hc2 hx9 hk9 hy2 hl2 hb2
            cases bb with
            | false =>
              have HZ : Hid (hd = true) := Lib.hid (by rw [← HE.out]; rfl)
              go_wp2
              go_meet
              exact ⟨by rw [HZ.out], rfl⟩
            | true =>
              by_cases hk0 : k9 = 0
              · subst hk0
                have HZ : Hid (hd = false) := Lib.hid (by rw [← HE.out]; rfl)
                go_wp2
                go_meet
                exact ⟨by rw [HZ.out], rfl⟩
              · have HZ : Hid (hd = true) := Lib.hid (by rw [← HE.out, decide_eq_false hk0]; rfl)
                have g7 : decide ((0 : Int) < (k9 : Int)) = true := decide_eq_true (by omega)
                have g8 : decide (0 < k9) = true := decide_eq_true (by omega)
                clear hk0
                go_wp2
                go_meet
                exact ⟨by rw [HZ.out], rfl⟩
        case rest =>
          obtain ⟨rfl, rfl⟩ := hcut
          obtain ⟨w6, rfl⟩ : ∃ z, z = wc := ⟨_, rfl⟩
          cases hd with
          | true =>
            have HF : Hid (validK l = false) := Lib.hid (HB.out (by
              rw [HME2.out]
              have h := HHD.out
              by_cases hc : cn = -1
              · rw [if_pos hc] at h ⊢; rw [h]; rfl
              · rw [if_neg hc] at h ⊢
                revert h
                cases (l[i]!.closed[i]! && l[i]!.chan[i]!.isEmpty) <;> simp))
            go_wp2
            go_ret
            exact ⟨by rw [HF.out]; rfl, HIB.out.1⟩
          | false =>
            have HOK : Hid ((cn ≠ -1 → markB n i l[i]! = true) ∧ (cn = -1 → (∀ j, j < n → (l[i]!.chan[j]!).length = 0) → markB n i l[i]! = true)) := Lib.hid ⟨fun hc => by
              rw [HME2.out, if_neg hc]
              have h := HHD.out
              rw [if_neg hc] at h
              revert h
              cases (l[i]!.closed[i]! && l[i]!.chan[i]!.isEmpty) <;> simp, fun hc hall => by
              rw [HME2.out, if_pos hc]
              have h := HHD.out
              rw [if_pos hc] at h
              rw [h, chan_none (fun j hj => hall j (by rw [HCHL.out] at hj; exact hj))]; rfl⟩
            have HFU : Hid (∀ j x, cn = -1 → j < n → x < (l[i]!.chan[j]!).length → validK l = false) := Lib.hid (fun j x hc hj hx => HB.out (by
              rw [HME2.out, if_pos hc, chan_full (by rw [HCHL.out]; exact hj) hx]; simp))
            have HI0 : Hid (VkI w w6 mb (msX l i 0 0)) := HIB
            have HNB : Hid (b6 ≠ mb) := Lib.hid (by have := HLT.out; omega)
            clear HCY HHD HME HME2 HMC x0 x1
            go_wp2
            clear x2
            go_loopg [8, 10, 82] n (fun g s8 s10 s82 wr => ∃ j : Nat, j ≤ n ∧ n - j ≤ g ∧ s82 = .int .i64 j ∧ Aside (VkI w wr mb (msX l i j 0)) ∧ Aside (wr.heap[b6]? = some (.cells #[.int .i64 cn, .slice ua n uc, .slice ya n yc] 48)) ∧ Aside (cn = -1 → ∀ a, a < j → (l[i]!.chan[a]!).length = 0))
            case atStart => exact ⟨0, Nat.zero_le _, by omega, rfl, (show VkI _ _ _ _ from HI0.out), (show _ = _ from HB6.out), (fun _ a ha => absurd ha (Nat.not_lt_zero _))⟩
            case round =>
              obtain ⟨j, hj, hgj, rfl, HJ, HBJ, HZJ⟩ := hrel
              clear HI0 HIB HB6
              by_cases hjn : j < n
              case neg =>
                have hjz : ¬ (j : Int) < (n : Int) := by omega
                have HMK : Hid (markB n i l[i]! = true) := Lib.hid (by
                  by_cases hc : cn = -1
                  · exact HOK.out.2 hc (fun a ha => HZJ.out hc a (by omega))
                  · exact HOK.out.1 hc)
                have HN2 : Hid (VkI w wr mb (msX l (i + 1) 0 0)) := Lib.hid (by
                  have h := HJ.out
                  rwa [show j = l[i]!.chan.length by rw [HCHL.out]; omega, msX_nextI HIL.out] at h)
                go_wp2
                go_roundg (n - (i + 1))
                case measure => omega
                case rel => exact ⟨i + 1, by omega, by omega, by go_num, (show VkI _ _ _ _ from HN2.out), (show Aside _ from fun a ha => by
                  by_cases e : a = i
                  · subst e; exact HMK.out
                  · exact HM.out a (by omega))⟩
              case pos =>
                have hjz : (j : Int) < (n : Int) := by omega
                have hjz0 : (0 : Int) ≤ (j : Int) := by omega
                have HJL := Lib.hid (show j < l[i]!.chan.length by rw [HCHL.out]; exact hjn)
                obtain ⟨b2, o2, c2, u2, he2, hl2, hb2, hc2, x9, hx9, hI2⟩ := HCH.out.at1 j HJL.out
                simp only [Value.slice.injEq] at he2
                obtain ⟨rfl, hy2, rfl⟩ := he2
                obtain rfl : u2 = x9 := by simpa using hx9
                have HI2 := Lib.hid hI2
                obtain ⟨z1, z2, rfl, hz3⟩ := hI2
                have q1 := HJ.out.1.cl hc2
                obtain ⟨L, hL⟩ : ∃ x, (l[i]!.chan[j]!).length = x := ⟨_, rfl⟩
                have HLL := Lib.hid hL
                have hL2 := HLI3.out j HJL.out
                rw [hL] at q1 HI2 hL2
                have HJ0 : Hid (VkI w wr mb (msX l i j 0)) := HJ
                have HBJ0 := HBJ
                clear hc2 hx9 hy2 hl2 hb2 hz3 hL
                go_wp2
                clear q1
                go_loopg [10, 88] L (fun g s10 s88 wr => ∃ x : Nat, x ≤ L ∧ L - x ≤ g ∧ s88 = .int .i64 x ∧ Aside (VkI w wr mb (msX l i j x)) ∧ Aside (wr.heap[b6]? = some (.cells #[.int .i64 cn, .slice ua n uc, .slice (some ⟨b2, o2, none⟩) n yc] 48)) ∧ Aside (cn = -1 → x = 0))
                case atStart => exact ⟨0, Nat.zero_le _, by omega, rfl, (show VkI _ _ _ _ from HJ0.out), (show _ = _ from HBJ0.out), (fun _ => rfl)⟩
                case round =>
                  obtain ⟨x, hx, hgx, rfl, HX, HBX, HZX⟩ := hrel
                  clear HJ0 HJ HBJ0 HBJ
                  by_cases hxL : x < L
                  case neg =>
                    have hxz : ¬ (x : Int) < (L : Int) := by omega
                    have HN2 : Hid (VkI w wr mb (msX l i (j + 1) 0)) := Lib.hid (by
                      have h := HX.out
                      rwa [show x = (l[i]!.chan[j]!).length by rw [HLL.out]; omega, msX_nextJ HJL.out] at h)
                    have HZ2 : Hid (cn = -1 → ∀ a, a < j + 1 → (l[i]!.chan[a]!).length = 0) := Lib.hid (fun hc a ha => by
                      by_cases e : a = j
                      · subst e; have := HZX.out hc; rw [HLL.out]; omega
                      · exact HZJ.out hc a (by omega))
                    go_wp2
                    go_roundg (n - (j + 1))
                    case measure => omega
                    case rel => exact ⟨j + 1, by omega, by omega, by go_num, (show VkI _ _ _ _ from HN2.out), (show _ = _ from HBX.out), (show Aside _ from HZ2.out)⟩
                  case pos =>
                    have hxz : (x : Int) < (L : Int) := by omega
                    have hxz0 : (0 : Int) ≤ (x : Int) := by omega
                    obtain ⟨yb, yo, rfl, _, hyc⟩ := ints_at HI2.out x (by rw [HLL.out]; exact hxL)
                    have y0 := HX.out.1.cl hyc
                    have c0 := cellOf HBX.out 0
                    simp only [List.getElem?_toArray, List.getElem?_cons_zero] at c0
                    obtain ⟨y, hy⟩ : ∃ y, (l[i]!.chan[j]!)[x]! = y := ⟨_, rfl⟩
                    have HST : Hid (msX l i j (x + 1) = msX l i j x ++ [y]) := Lib.hid (by rw [msX_step (by rw [HLL.out]; exact hxL), hy])
                    obtain ⟨r, hr⟩ := msX_pre (l := l) (i := i) (j := j) (x := x + 1) HIL.out HJL.out
                    rw [HST.out] at hr
                    have HPR := Lib.hid hr
                    rw [hy] at y0
                    clear hyc hr hy
                    by_cases hc : cn = -1
                    case pos =>
                      have HF := Lib.hid (HFU.out j x hc hjn (by rw [HLL.out]; exact hxL))
                      subst hc
                      go_wp2
                      go_ret
                      exact ⟨by rw [HF.out]; rfl, HX.out.1⟩
                    case neg =>
                    have g5 : (cn == -1) = false := by rw [beq_eq_false_iff_ne]; exact hc
                    have HCNE := Lib.hid hc
                    clear hc
                    by_cases hy0 : 0 ≤ y
                    case neg =>
                      have g6 : decide (y < 0) = true := decide_eq_true (by omega)
                      have HF := Lib.hid (validK_out HPR.out (fun h => hy0 h.1))
                      clear hy0
                      go_wp2
                      go_ret
                      exact ⟨by rw [HF.out]; rfl, HX.out.1⟩
                    case pos =>
                    have g6 : decide (y < 0) = false := decide_eq_false (by omega)
                    by_cases hy9 : y ≤ 199
                    case neg =>
                      have g7 : decide (199 < y) = true := decide_eq_true (by omega)
                      have HF := Lib.hid (validK_out HPR.out (fun h => hy9 h.2))
                      clear hy9 hy0
                      go_wp2
                      go_ret
                      exact ⟨by rw [HF.out]; rfl, HX.out.1⟩
                    case pos =>
                    have g7 : decide (199 < y) = false := decide_eq_false (by omega)
                    obtain ⟨mm, hmm, hbm⟩ := HX.out.2.1
                    have hm2 := HX.out.2.2.len
                    have HBM := Lib.hid hbm
                    have hlk := hbm.look Try.underlying3 Try.underlying82 Try.underlying4 zero_boolV y hy0 (by omega) (by omega)
                    have HSN : Hid ((seenF (msX l i j x))[y.toNat]! = decide (y ∈ msX l i j x)) := Lib.hid (by
                      rw [seenF_at (by omega), show ((y.toNat : Nat) : Int) = y by omega])
                    rw [HSN.out] at hlk
                    clear hbm
                    by_cases hin : y ∈ msX l i j x
                    case pos =>
                      have HF := Lib.hid (validK_twice HPR.out hin)
                      rw [decide_eq_true hin] at hlk
                      clear hin
                      go_wp2
                      go_ret
                      exact ⟨by rw [HF.out]; rfl, HX.out.1⟩
                    case neg =>
                      have HMS := Lib.hid (HX.out.2.2.snoc hy0 hy9 hin)
                      have HSS := Lib.hid (seenF_snoc (ms := msX l i j x) hy0 hy9)
                      rw [decide_eq_false hin] at hlk
                      clear hin
                      go_wp2_with (first | (at_mapUpdate; go_loud (refine wpList_put_b rfl _ _ _ _ rfl 3 4 mb mm 200 (seenF (msX l i j x)) HBM.out (by unfold maxLen; omega) (seenF_len _) Try.underlying3 Try.underlying82 Try.underlying4 y hy0 (by omega) (by omega) rfl rfl rfl ?_); intro w8 hb8 hg8; have HB8 := Lib.hid hb8; have HG8 := Lib.hid hg8; clear hb8 hg8) | go_in)
                      have HN2 : Hid (VkI w w8 mb (msX l i j (x + 1))) := Lib.hid ⟨HX.out.1.gr HG8.out (fun kk hkk => by simp only [Option.some.injEq] at hkk; have := HMBE.out; omega), ⟨mm + 1, by rw [HST.out, List.length_append]; simp; omega, by rw [HST.out, ← HSS.out]; exact HB8.out⟩, by rw [HST.out]; exact HMS.out⟩
                      have HBX8 : Hid (w8.heap[b6]? = some (.cells #[.int .i64 cn, .slice ua n uc, .slice (some ⟨b2, o2, none⟩) n yc] 48)) := Lib.hid ((HG8.out.block b6 (Array.getElem?_eq_some_iff.1 HBX.out).1 (fun e => HNB.out (by simpa using e))).trans HBX.out)
                      go_roundg (L - (x + 1))
                      case measure => omega
                      case rel => exact ⟨x + 1, by omega, by omega, by go_num, (show VkI _ _ _ _ from HN2.out), (show _ = _ from HBX8.out), (show Aside _ from fun hc => absurd hc HCNE.out)⟩

end Go.Proofs.Ytfagfooggcinoaa

/-
  The library's Index and Contains on slices of numbers.
-/
namespace Go.Proofs.Ytfagfooggcinoaa
open Go.RowKit
set_option linter.unusedVariables false

set_option maxHeartbeats 400000 in
theorem index_int (x : Int) (v : Value) (l : List Int) (w : World) (hv : Ints w v l) (hn : l.length ≤ 1000000) :
    Calls Try.prog 93 #[v, .int .i64 x] w fun e w' => e = .returned (.int .i64 (firstAt (fun y => x == y) l)) ∧ w = w' := by
  obtain ⟨a, c, rfl, hlc, hv⟩ := hv
  have HLC := Lib.hid hlc; clear hlc
  have HV := Lib.hid hv; clear hv
  generalize hln : l.length = n at hn
  have HL := Lib.hid hln; clear hln
  go_enter Try.func93, Try.ntmps93
  go_wp2
  go_loopg [5, 8] n (fun m _ s8 wr => ∃ k : Nat, k ≤ n ∧ n - k ≤ m ∧ s8 = .int .i64 k ∧ wr = w ∧ Aside (∀ j, j < k → (fun y => x == y) l[j]! = false))
  case atStart => exact ⟨0, Nat.zero_le _, by omega, rfl, rfl, (fun j hj => absurd hj (Nat.not_lt_zero _))⟩
  case round =>
    obtain ⟨k, hk, hm, rfl, rfl, A⟩ := hrel
    by_cases hlt : k < n
    · obtain ⟨b, off, rfl, hb, hc⟩ := HV.out (by intro e; have := HL.out; simp [e] at this; omega)
      have hcell : wr.cell? ⟨b, off + k, none⟩ = some (.int .i64 l[k]!) := hc k (by rw [HL.out]; exact hlt)
      have hltz : (k : Int) < (n : Int) := by omega
      clear hc HV
      generalize hy : l[k]! = y at hcell
      have B := Lib.hid hy
      clear hy
      cases hq : (x == y) with
      | true =>
        go_wp2
        go_ret
        exact ⟨by rw [firstAt_hit (fun y => x == y) l k (by rw [HL.out]; omega) (by rw [B.out]; exact hq) A.out]; rfl, rfl⟩
      | false =>
        go_wp2
        go_roundg (n - (k + 1))
        case measure => omega
        case rel =>
          refine ⟨k + 1, by omega, by omega, by go_num, rfl, (show Aside _ from fun j hj => ?_)⟩
          by_cases e : j = k
          · subst e
            rw [B.out]; exact hq
          · exact A.out j (by omega)
    · have hltz : ¬ (k : Int) < (n : Int) := by omega
      go_wp2
      go_ret
      exact ⟨by rw [firstAt_miss (fun y => x == y) l (fun j hj => A.out j (by rw [HL.out] at hj; omega))]; rfl, rfl⟩

theorem enters_93 : ∀ args w, (callFunc 93 args).run Try.prog w = .ok (.enter 93 args) w := enters_of Try.func93 (by kernel_rfl) rfl

set_option maxHeartbeats 400000 in
theorem contains_int (x : Int) (v : Value) (l : List Int) (w : World) (hv : Ints w v l) (hn : l.length ≤ 1000000) :
    Calls Try.prog 70 #[v, .int .i64 x] w fun e w' => e = .returned (.bool (l.contains x)) ∧ w = w' := by
  have HI := Lib.hid (index_int x v l w hv hn)
  clear hv
  rw [show l.contains x = l.any (fun y => x == y) from by rw [List.contains_eq_any_beq], ← firstAt_any]
  go_enter Try.func70, Try.ntmps70
  go_wp2_with (go_at_call 93; refine HI.out.mono ?_; rintro e w' ⟨rfl, rfl⟩)
  go_ret
  exact ⟨rfl, rfl⟩

end Go.Proofs.Ytfagfooggcinoaa

/-
  Snapshots: the program's counts and Cut.
-/
namespace Go.Proofs.Ytfagfooggcinoaa
open Go.RowKit
set_option linter.unusedVariables false

theorem cnts_len (l : List Mk) : (cntsL l).length = l.length := by simp [cntsL]
theorem cnts_at {l : List Mk} {i : Nat} (hi : i < l.length) : (cntsL l)[i]! = l[i]!.cnt := by
  rw [getElem!_pos _ i (by rw [cnts_len]; exact hi), getElem!_pos l i hi]; simp [cntsL]
/-- All have recorded. -/
def recoB (l : List Mk) : Bool := !(cntsL l).contains (-1)
theorem recoB_iff {l : List Mk} (h : ∀ i, i < l.length → -1 ≤ l[i]!.cnt) : recoB l = recordedB l := by
  unfold recoB recordedB
  rw [Bool.eq_iff_iff]
  simp only [Bool.not_eq_true', List.all_eq_true, decide_eq_true_eq]
  constructor
  · intro hc m hm
    obtain ⟨i, hi, rfl⟩ := List.getElem_of_mem hm
    have h1 := h i hi
    rw [getElem!_pos l i hi] at h1
    by_cases e : l[i].cnt = -1
    · have : (cntsL l).contains (-1) = true := by
        rw [List.contains_iff_mem]
        exact List.mem_map.2 ⟨l[i], hm, e⟩
      rw [this] at hc; cases hc
    · omega
  · intro ha
    rw [← Bool.not_eq_true, List.contains_iff_mem]
    intro hm
    obtain ⟨m, hm, e⟩ := List.mem_map.1 hm
    have := ha m hm
    omega
theorem valid_cnt {l : List Mk} (h : validK l = true) : ∀ i, i < l.length → -1 ≤ l[i]!.cnt ∧ l[i]!.cnt ≤ 64 ∧ l[i]!.closed.length = l.length ∧ l[i]!.chan.length = l.length := by
  intro i hi
  by_cases hm : markB l.length i l[i]! = true
  · by_cases hk : -1 ≤ l[i]!.cnt ∧ l[i]!.cnt ≤ 64 ∧ l[i]!.closed.length = l.length ∧ l[i]!.chan.length = l.length
    · exact hk
    · rw [markB_cnt hk] at hm; cases hm
  · rw [validK_mark hi (by simpa using hm)] at h; cases h

def CntOut (l : List Mk) (w w' : World) (e : Ending) : Prop := ∃ v, e = .returned (.tuple #[v, .bool (recoB l)]) ∧ Row w' w.heap.size 3 1 v l.length ((cntsL l).map (Value.int .i64)) ∧ Ext w w'
theorem enters_43 : ∀ args w, (callFunc 43 args).run Try.prog w = .ok (.enter 43 args) w := enters_of Try.func43 (by kernel_rfl) rfl
set_option maxHeartbeats 4000000 in
set_option maxRecDepth 100000 in
theorem counts_calls (v : Value) (l : List Mk) (w : World) (h : Sl RMk 3 w v l) (hl : LightM l) :
    Calls Try.prog 43 #[v] w fun e w' => CntOut l w w' e := by
  obtain ⟨ii, hii, iz0, iz1, iz2⟩ := info_partsM info_intG
  have HS := Lib.hid h
  have hl1 := hl.1
  obtain ⟨va, vcap, rfl, hvc⟩ := h.sh
  have HCI := Lib.hid (fun W u (hu : Ints W u (cntsL l)) => contains_int (-1) u (cntsL l) W hu (by rw [cnts_len]; exact hl1))
  have HRE : Hid (recoB l = !(cntsL l).contains (-1)) := Lib.hid rfl
  unfold CntOut
  generalize recoB l = rb at *
  generalize (cntsL l).contains (-1) = cb at *
  obtain ⟨n, hn⟩ : ∃ n, l.length = n := ⟨_, rfl⟩
  have HN := Lib.hid hn
  rw [hn] at hl1 hvc ⊢
  clear h hl hn
  go_enter Try.func43, Try.ntmps43
  go_wp2
  go_loopg [4, 6, 9] n (fun g s4 s6 s9 wr => ∃ k : Nat, k ≤ n ∧ n - k ≤ g ∧ s9 = .int .i64 k ∧ Aside (Row wr w.heap.size 3 1 s4 k (((cntsL l).take k).map (Value.int .i64))) ∧ Aside (Ext w wr))
  case atStart => exact ⟨0, Nat.zero_le _, by omega, rfl, (show Row _ _ _ _ _ _ _ from Row.mkNil _ _ _ _), (show Ext _ _ from Ext.rf _)⟩
  case round =>
    obtain ⟨k, hk, hgk, rfl, HR, HE⟩ := hrel
    obtain ⟨xa, xc, hxe, hxz⟩ := HR.out.any
    subst hxe
    clear hxz
    by_cases hlt : k < n
    case neg =>
      have hkz : ¬ (k : Int) < (n : Int) := by omega
      obtain rfl : n = k := by omega
      have HT : Hid ((cntsL l).take n = cntsL l) := Lib.hid (List.take_of_length_le (by rw [cnts_len, HN.out]; omega))
      have HR2 := HR.out
      rw [HT.out] at HR2
      have HR3 := Lib.hid HR2
      clear HR2
      go_wp2_with fail
      have HIN := HR3.out
      have HL2 : n = (cntsL l).length := by rw [cnts_len, HN.out]
      refine (HCI.out _ _ (by
        have h := HR3.out
        have h2 : Row wr w.heap.size 3 1 (.slice xa n xc) (cntsL l).length ((cntsL l).map (Value.int .i64)) := by rw [← HL2]; exact h
        exact h2.ints)).mono ?_
      rintro e w2 ⟨rfl, rfl⟩
      clear HIN HL2
      go_wp2
      go_ret2
      exact ⟨_, by rw [HRE.out]; rfl, HR3.out, HE.out⟩
    case pos =>
      have hkz : (k : Int) < (n : Int) := by omega
      have hkz0 : (0 : Int) ≤ (k : Int) := by omega
      obtain ⟨B, O, C, ua, uc, y, hve, hlC, hBw, p0, p1, p2, hb, hs⟩ := mark_at HS.out k (by rw [HN.out]; exact hlt)
      simp only [Value.slice.injEq] at hve
      obtain ⟨rfl, hz1, rfl⟩ := hve
      have P0 := HE.out.cl p0
      have P1 := HE.out.cl p1
      have P2 := HE.out.cl p2
      have HTK : Hid ((cntsL l).take (k + 1) = (cntsL l).take k ++ [l[k]!.cnt]) := Lib.hid (by rw [take_succ_get (by rw [cnts_len, HN.out]; exact hlt), cnts_at (by rw [HN.out]; exact hlt)])
      obtain ⟨ya, yc, rfl, _⟩ := hs.sh
      generalize l[k]!.cnt = cn at *
      generalize l[k]!.closed.length = c1 at *
      generalize l[k]!.chan.length = c2 at *
      have HX6 := Lib.hid ((Ext.rf wr).al (.cells #[.int .i64 cn, .slice ua c1 uc, .slice ya c2 yc] 48))
      clear p0 p1 p2 hz1 hb hs
      have HB6 := Lib.hid (heap_alloc_new wr (.cells #[.int .i64 cn, .slice ua c1 uc, .slice ya c2 yc] 48))
      go_upto_region 5 with (fail)
      generalize hb6 : wr.heap.size = b6 at *
      generalize wr.alloc (.cells #[.int .i64 cn, .slice ua c1 uc, .slice ya c2 yc] 48) = wA at *
      have HRA := Lib.hid (HR.out.ext HX6.out)
      have HEA := Lib.hid (HE.out.trans' HX6.out)
      have hszA := HEA.out.sz
      have y2 := cellOf HB6.out 0
      simp only [List.getElem?_toArray, List.getElem?_cons_zero, List.getElem?_cons_succ] at y2
      clear P0 P1 P2 hb6
      go_wp2_with ((at_builtin; go_loud (refine wpList_append_one rfl _ _ 25 rfl w.heap.size 3 ii (.int .i64 0) 1 8 Try.underlying25 hii iz0 iz1 iz2 rfl (by decide) _ k _ rfl (HRA.out.al _) wA.heap.size 1 [.int .i64 cn] rfl rfl ⟨_, heap_alloc_new _ _⟩ (by simp [Value.oneCell']) (by unfold maxLen; omega) (by omega) (by simp; omega) ?_; intro v8 w8 hown8 hgrow8 hblk8; have HOWN := Lib.hid hown8; have HX9 := Lib.hid ((HEA.out.al _).gr hgrow8 (fun z hz => (HRA.out.lt z hz).1)); clear hown8 hgrow8 hblk8)))
      go_roundg (n - (k + 1))
      case measure => omega
      case rel => exact ⟨k + 1, by omega, by omega, by go_num, (show Row _ _ _ _ _ _ _ from by rw [HTK.out, List.map_append]; exact HOWN.out), (show Ext _ _ from HX9.out)⟩

/-- The error of Cut. -/
def cutE (l : List Mk) : Int := if validK l = false then 1 else if recordedB l = false then 6 else 0
set_option maxHeartbeats 4000000 in
theorem snapCut_calls (v : Value) (l : List Mk) (w : World) (h : Sl RMk 3 w v l) (hl : LightM l) :
    Calls Try.prog 14 #[v] w fun e w' => IntsRes w w' e (cutE l) (if cutE l = 0 then cntsL l else []) := by
  have HV := Lib.hid (snapValid_calls v l w h hl)
  have HC := Lib.hid (fun W (hW : Ext w W) => counts_calls v l W (Sl.ext rmk_lasts h hW) hl)
  obtain ⟨va, vcap, rfl, hvc⟩ := h.sh
  cases hv : validK l with
  | false =>
    have HE : Hid (cutE l = 1) := Lib.hid (by unfold cutE; rw [if_pos hv])
    rw [HE.out]
    rw [hv] at HV
    generalize l.length = n at *
    clear h hl hv
    go_enter Try.func14, Try.ntmps14
    go_wp2_with fail
    refine HV.out.mono ?_
    rintro e w2 ⟨rfl, hX⟩
    go_wp2
    go_ret2
    exact IntsRes.none hX
  | true =>
    rw [hv] at HV
    have HRB := Lib.hid (recoB_iff (fun i hi => (valid_cnt hv i hi).1))
    unfold CntOut at HC
    rw [HRB.out] at HC
    cases hr : recordedB l with
    | false =>
      have HE : Hid (cutE l = 6) := Lib.hid (by unfold cutE; rw [if_neg (by rw [hv]; simp), if_pos hr])
      rw [HE.out]
      rw [hr] at HC
      generalize l.length = n at *
      clear h hl hv hr
      go_enter Try.func14, Try.ntmps14
      go_wp2_with fail
      refine HV.out.mono ?_
      rintro e w2 ⟨rfl, hX⟩
      have HX := Lib.hid hX
      clear hX
      go_wp2_with fail
      refine (HC.out _ HX.out).mono ?_
      rintro e w3 ⟨v3, rfl, hR, hX3⟩
      obtain ⟨xa, xc, rfl, _⟩ := hR.any
      have HX3 := Lib.hid (HX.out.trans' hX3)
      clear hX3 hR
      go_wp2
      go_ret2
      exact IntsRes.none HX3.out
    | true =>
      have HE : Hid (cutE l = 0) := Lib.hid (by unfold cutE; rw [if_neg (by rw [hv]; simp), if_neg (by rw [hr]; simp)])
      have HLN := Lib.hid (cnts_len l)
      rw [HE.out, if_pos rfl]
      rw [hr] at HC
      generalize l.length = n at *
      clear h hl hv hr
      go_enter Try.func14, Try.ntmps14
      go_wp2_with fail
      refine HV.out.mono ?_
      rintro e w2 ⟨rfl, hX⟩
      have HX := Lib.hid hX
      clear hX
      go_wp2_with fail
      refine (HC.out _ HX.out).mono ?_
      rintro e w3 ⟨v3, rfl, hR, hX3⟩
      obtain ⟨xa, xc, rfl, _⟩ := hR.any
      have HX3 := Lib.hid (HX.out.trans' hX3)
      have HR := Lib.hid (hR.mono HX.out.sz)
      clear hX3 hR
      go_wp2
      go_ret2
      exact ⟨_, rfl, by rw [HLN.out]; exact HR.out, HX3.out⟩

end Go.Proofs.Ytfagfooggcinoaa

/-
  Snapshots: the program's Begin.
-/
namespace Go.Proofs.Ytfagfooggcinoaa
open Go.RowKit
set_option linter.unusedVariables false

def okB (n p c : Int) : Bool := decide (1 ≤ n) && (decide (n ≤ 8) && (decide (0 ≤ p) && (decide (p < n) && (decide (0 ≤ c) && decide (c ≤ 64)))))
theorem okB_iff {n p c : Int} : okB n p c = true ↔ 1 ≤ n ∧ n ≤ 8 ∧ 0 ≤ p ∧ p < n ∧ 0 ≤ c ∧ c ≤ 64 := by
  unfold okB; simp only [Bool.and_eq_true, decide_eq_true_eq]
def begE (n p c : Int) : Int := if okB n p c = true then 0 else 2
def begM (n p c : Int) : List Mk := if okB n p c = true then recL (begL n.toNat) p.toNat c else []
theorem begM_light {n p c : Int} : LightM (begM n p c) := by
  unfold begM
  split
  · rename_i h
    obtain ⟨h1, h2, h3, h4, _, _⟩ := okB_iff.1 h
    refine ⟨by rw [recL_len]; simp [begL]; omega, fun i hi => ?_⟩
    rw [recL_len] at hi
    have hi2 : i < n.toNat := by simpa [begL] using hi
    have hb : (begL n.toNat)[i]! = mk0 n.toNat := begL_get hi2
    by_cases e : i = p.toNat
    · subst e
      rw [recL_at hi, hb]
      refine ⟨by simp [mk0]; omega, by simp [mk0]; omega, fun j hj => ?_⟩
      simp only [mk0, List.length_replicate] at hj
      simp only [mk0]
      rw [getElem!_pos _ j (by simpa using hj)]; simp
    · rw [recL_ne e, hb]
      refine ⟨by simp [mk0]; omega, by simp [mk0]; omega, fun j hj => ?_⟩
      simp only [mk0, List.length_replicate] at hj
      simp only [mk0]
      rw [getElem!_pos _ j (by simpa using hj)]; simp
  · exact ⟨by simp, fun i hi => absurd hi (Nat.not_lt_zero _)⟩
theorem mk0_msgs (n : Nat) : (mk0 n).chan.flatten = [] := by
  unfold mk0
  simp only
  induction n with
  | zero => rfl
  | succ n ih => rw [List.replicate_succ, List.flatten_cons, ih]; rfl
theorem beg_valid {n p : Nat} {c : Int} (h1 : 1 ≤ n) (h8 : n ≤ 8) (hp : p < n) (h0 : 0 ≤ c) (h64 : c ≤ 64) : validK (recL (begL n) p c) = true := by
  have hl : (recL (begL n) p c).length = n := by rw [recL_len]; simp [begL]
  have hpl : p < (begL n).length := by simp [begL]; exact hp
  have hm : allMsgs (recL (begL n) p c) = [] := by
    unfold allMsgs
    rw [List.flatMap_eq_nil_iff]
    intro m hm
    obtain ⟨i, hi, rfl⟩ := List.getElem_of_mem hm
    have hi2 : i < n := by rw [hl] at hi; exact hi
    rw [← getElem!_pos _ i hi]
    by_cases e : i = p
    · subst e; rw [recL_at hpl, begL_get hi2]; exact mk0_msgs n
    · rw [recL_ne e, begL_get hi2]; exact mk0_msgs n
  refine validK_yes (by rw [hl]; exact h1) (by rw [hl]; exact h8) (fun i hi => ?_) (by rw [hm]; exact OkMs.nil)
  rw [hl] at hi ⊢
  by_cases e : i = p
  · subst e
    rw [recL_at hpl, begL_get hi, markB_eq (by simp only; omega) (by simp only; omega) (by simp [mk0]) (by simp [mk0]), if_neg (by simp only; omega)]
    simp only [mk0]
    rw [setG_at (by simpa using hi), getElem!_pos _ i (by simpa using hi)]; simp
  · rw [recL_ne e, begL_get hi, markB_eq (by simp [mk0]) (by simp [mk0]) (by simp [mk0]) (by simp [mk0]), if_pos (by simp [mk0])]
    simp [mk0]

theorem enters_13 : ∀ args w, (callFunc 13 args).run Try.prog w = .ok (.enter 13 args) w := enters_of Try.func13 (by kernel_rfl) rfl
set_option maxHeartbeats 4000000 in
set_option maxRecDepth 100000 in
theorem beginP_calls (n p c : Int) (w : World) :
    Calls Try.prog 13 #[.int .i64 n, .int .i64 p, .int .i64 c] w fun e w' => ∃ v, e = .returned (.tuple #[v, .int .i64 (begE n p c)]) ∧ Ext w w' ∧ Sl RMk 3 w' v (begM n p c) := by
  cases hok : okB n p c with
  | false =>
    by_cases e1 : n < 1
    · have d1 : decide (n < 1) = true := decide_eq_true e1
      have HA : Hid (begE n p c = 2) := Lib.hid (by unfold begE; rw [hok]; rfl)
      have HL : Hid (begM n p c = []) := Lib.hid (by unfold begM; rw [hok]; rfl)
      rw [HA.out, HL.out]
      clear hok
      go_enter Try.func13, Try.ntmps13
      go_wp2
      go_ret2
      exact ⟨_, rfl, Ext.rf _, slNil⟩
    · have d1 : decide (n < 1) = false := decide_eq_false e1
      by_cases e2 : 8 < n
      · have d2 : decide (8 < n) = true := decide_eq_true e2
        have HA : Hid (begE n p c = 2) := Lib.hid (by unfold begE; rw [hok]; rfl)
        have HL : Hid (begM n p c = []) := Lib.hid (by unfold begM; rw [hok]; rfl)
        rw [HA.out, HL.out]
        clear hok
        go_enter Try.func13, Try.ntmps13
        go_wp2
        go_ret2
        exact ⟨_, rfl, Ext.rf _, slNil⟩
      · have d2 : decide (8 < n) = false := decide_eq_false e2
        by_cases e3 : p < 0
        · have d3 : decide (p < 0) = true := decide_eq_true e3
          have HA : Hid (begE n p c = 2) := Lib.hid (by unfold begE; rw [hok]; rfl)
          have HL : Hid (begM n p c = []) := Lib.hid (by unfold begM; rw [hok]; rfl)
          rw [HA.out, HL.out]
          clear hok
          go_enter Try.func13, Try.ntmps13
          go_wp2
          go_ret2
          exact ⟨_, rfl, Ext.rf _, slNil⟩
        · have d3 : decide (p < 0) = false := decide_eq_false e3
          by_cases e4 : n ≤ p
          · have d4 : decide (n ≤ p) = true := decide_eq_true e4
            have HA : Hid (begE n p c = 2) := Lib.hid (by unfold begE; rw [hok]; rfl)
            have HL : Hid (begM n p c = []) := Lib.hid (by unfold begM; rw [hok]; rfl)
            rw [HA.out, HL.out]
            clear hok
            go_enter Try.func13, Try.ntmps13
            go_wp2
            go_ret2
            exact ⟨_, rfl, Ext.rf _, slNil⟩
          · have d4 : decide (n ≤ p) = false := decide_eq_false e4
            by_cases e5 : c < 0
            · have d5 : decide (c < 0) = true := decide_eq_true e5
              have HA : Hid (begE n p c = 2) := Lib.hid (by unfold begE; rw [hok]; rfl)
              have HL : Hid (begM n p c = []) := Lib.hid (by unfold begM; rw [hok]; rfl)
              rw [HA.out, HL.out]
              clear hok
              go_enter Try.func13, Try.ntmps13
              go_wp2
              go_ret2
              exact ⟨_, rfl, Ext.rf _, slNil⟩
            · have d5 : decide (c < 0) = false := decide_eq_false e5
              by_cases e6 : 64 < c
              · have d6 : decide (64 < c) = true := decide_eq_true e6
                have HA : Hid (begE n p c = 2) := Lib.hid (by unfold begE; rw [hok]; rfl)
                have HL : Hid (begM n p c = []) := Lib.hid (by unfold begM; rw [hok]; rfl)
                rw [HA.out, HL.out]
                clear hok
                go_enter Try.func13, Try.ntmps13
                go_wp2
                go_ret2
                exact ⟨_, rfl, Ext.rf _, slNil⟩
              · rw [okB_iff.2 ⟨by omega, by omega, by omega, by omega, by omega, by omega⟩] at hok
                cases hok
  | true =>
    obtain ⟨h1, h2, h3, h4, h5, h6⟩ := okB_iff.1 hok
    have HA : Hid (begE n p c = 0) := Lib.hid (by unfold begE; rw [if_pos hok])
    have HL : Hid (begM n p c = recL (begL n.toNat) p.toNat c) := Lib.hid (by unfold begM; rw [if_pos hok])
    rw [HA.out, HL.out]
    obtain ⟨N, rfl⟩ : ∃ N : Nat, n = (N : Int) := ⟨n.toNat, by omega⟩
    obtain ⟨P, rfl⟩ : ∃ P : Nat, p = (P : Int) := ⟨p.toNat, by omega⟩
    rw [Int.toNat_natCast, Int.toNat_natCast]
    have d1 : decide ((N : Int) < 1) = false := decide_eq_false (by omega)
    have d2 : decide (8 < (N : Int)) = false := decide_eq_false (by omega)
    have d2n : decide (8 < N) = false := decide_eq_false (by omega)
    have d1n : decide (N = 0) = false := decide_eq_false (by omega)
    have d3 : decide ((P : Int) < 0) = false := decide_eq_false (by omega)
    have d4 : decide ((N : Int) ≤ (P : Int)) = false := decide_eq_false (by omega)
    have d4n : decide (N ≤ P) = false := decide_eq_false (by omega)
    have d5 : decide (c < 0) = false := decide_eq_false (by omega)
    have d6 : decide (64 < c) = false := decide_eq_false (by omega)
    have hPN : P < N := by omega
    have hN8 : N ≤ 1000 := by omega
    clear hok HA HL h1 h2 h3 h4 h5 h6
    go_enter Try.func13, Try.ntmps13
    go_wp2_with fail
    refine (begin_calls N _ hN8).mono ?_
    rintro e w5 ⟨lv, vc, vh, vr, rfl, hO, hX5⟩
    rw [begL_len] at hO
    obtain ⟨g, o, cp, rfl, hg, hgw, hcp⟩ := hO.shape (by rw [begL_len]; omega)
    rw [begL_len] at hO hcp ⊢
    have HX5 := Lib.hid hX5
    have HRC := Lib.hid (record_calls g o cp N w.heap.size (begL N) vc vh vr w5 P c hPN (begL_len N) hO)
    have HST := Lib.hid (fun g2 o2 c2 (hv : vc P = .slice (some ⟨g2, o2, none⟩) N c2) => hO.reco hPN hPN c hv)
    clear hO hX5
    go_wp2_with fail
    refine HRC.out.mono ?_
    rintro e w6 ⟨rfl, g2, o2, c2, hv2, hb2, hb3, rfl⟩
    have HO6 := Lib.hid (HST.out g2 o2 c2 hv2)
    have HE6 := Lib.hid ((HX5.out.st (p := ⟨g, o + P * 3, none⟩) hb3 (.int .i64 c)).st (p := ⟨g2, o2 + P, none⟩) hb2 (.bool true))
    generalize (w5.setCell ⟨g, o + P * 3, none⟩ (.int .i64 c)).setCell ⟨g2, o2 + P, none⟩ (.bool true) = w6 at *
    clear hv2 hb2 hb3 HRC HST
    go_wp2
    go_ret2
    exact ⟨_, rfl, HE6.out, HO6.out.sl2 (by rw [recL_len, begL_len])⟩

end Go.Proofs.Ytfagfooggcinoaa

/-
  Snapshots: the reference's Begin.
-/
namespace Go.Proofs.Ytfagfooggcinoaa
open Go.RowKit
set_option linter.unusedVariables false

/-- A mark more. -/
theorem OwnM.snoc {w wa w8 : World} {base n k : Nat} {v v8 u y : Value} {l : List Mk} {vc vh : Nat → Value} {vr : Nat → Nat → Value} (h : OwnM w base v n k l vc vh vr) (hk : l.length = k) (hx : Ext w wa) (hb : base ≤ w.heap.size)
    (hu : Row wa w.heap.size 4 1 u n (List.replicate n (.bool false))) (hy : Row wa w.heap.size 25 1 y n (List.replicate n (.slice none 0 0))) (hg : wa.grownBy w8 v.ownBlock)
    (ho : Row w8 base 48 3 v8 (k + 1) (mkCells l vc vh ++ [.int .i64 (-1), u, y])) :
    OwnM w8 base v8 n (k + 1) (l ++ [mk0 n]) (putF vc k u) (putF vh k y) (fun i j => if i = k then .slice none 0 0 else vr i j) := by
  have hrow := h.row.ext hx
  have hgk : ∀ {b : Nat} {e : TypeId} {s : Nat} {x : Value} {m : Nat} {xs : List Value}, Row w b e s x m xs → 48 ≠ e → Row w8 b e s x m xs := fun hr hne => (hr.ext hx).grown hg ((hr.ext hx).apart hrow (Ne.symm hne))
  have hla : ∀ i, i < k → (l ++ [mk0 n])[i]! = l[i]! := fun i hi => by
    rw [getElem!_pos _ i (by simp; omega), getElem!_pos l i (by omega), List.getElem_append_left]
  have hlk : (l ++ [mk0 n])[k]! = mk0 n := by
    rw [getElem!_pos _ k (by simp; omega)]
    simp [← hk]
  refine ⟨?_, by simp; omega, fun i hi => ?_, fun i hi => ?_, fun i hi => ?_, fun i hi j hj => ?_, fun i j hi hj hij => ?_, fun i j hi hj hij => ?_, fun i j a c hi hj ha hc hn => ?_⟩
  · have e := mkCells_snoc (l := l) (vc := vc) (vh := vh) (mk0 n) u y
    rw [hk] at e
    rw [e, show (l ++ [mk0 n]).length = k + 1 by simp [hk]]
    exact ho
  · by_cases e : i = k
    · subst e; rw [hlk]; simp [mk0]
    · rw [hla i (by omega)]; exact h.shp i (by omega)
  · by_cases e : i = k
    · subst e
      rw [putF_same, hlk, show (mk0 n).closed.map Value.bool = List.replicate n (.bool false) by simp [mk0]]
      exact (hu.grown hg (hu.apart hrow (by decide))).mono hb
    · rw [putF_ne e, hla i (by omega)]; exact hgk (h.clo i (by omega)) (by decide)
  · by_cases e : i = k
    · subst e
      rw [putF_same, show ((List.range n).map fun j => if i = i then Value.slice none 0 0 else vr i j) = List.replicate n (.slice none 0 0) from by
        refine List.ext_getElem (by simp) fun j h1 h2 => by simp]
      exact (hy.grown hg (hy.apart hrow (by decide))).mono hb
    · rw [putF_ne e, show ((List.range n).map fun j => if i = k then Value.slice none 0 0 else vr i j) = (List.range n).map (vr i) from List.map_congr_left fun j _ => if_neg e]
      exact hgk (h.hdr i (by omega)) (by decide)
  · by_cases e : i = k
    · subst e
      rw [if_pos rfl, hlk]
      have : (mk0 n).chan[j]! = [] := by
        have hj' : j < (mk0 n).chan.length := by simpa [mk0] using hj
        rw [getElem!_pos _ j hj']; simp [mk0]
      rw [this]; exact Row.mkNil _ _ _ _
    · rw [if_neg e, hla i (by omega)]; exact hgk (h.cha i (by omega) j hj) (by decide)
  · by_cases e1 : i = k
    · subst e1
      rw [putF_same, putF_ne (Ne.symm hij)]
      exact (dis_new (h.clo j (by omega)) hu (Nat.le_refl _)).symm
    · by_cases e2 : j = k
      · subst e2
        rw [putF_same, putF_ne e1]
        exact dis_new (h.clo i (by omega)) hu (Nat.le_refl _)
      · rw [putF_ne e1, putF_ne e2]; exact h.dc i j (by omega) (by omega) hij
  · by_cases e1 : i = k
    · subst e1
      rw [putF_same, putF_ne (Ne.symm hij)]
      exact (dis_new (h.hdr j (by omega)) hy (Nat.le_refl _)).symm
    · by_cases e2 : j = k
      · subst e2
        rw [putF_same, putF_ne e1]
        exact dis_new (h.hdr i (by omega)) hy (Nat.le_refl _)
      · rw [putF_ne e1, putF_ne e2]; exact h.dh i j (by omega) (by omega) hij
  · by_cases e1 : i = k
    · rw [if_pos e1]; exact Dis.nilL
    · by_cases e2 : a = k
      · rw [if_pos e2]; exact Dis.nilR
      · rw [if_neg e1, if_neg e2]; exact h.dr i j a c (by omega) hj (by omega) hc hn
theorem OwnM.none (w : World) (base n : Nat) : OwnM w base (.slice none 0 0) n 0 [] (fun _ => .slice none 0 0) (fun _ => .slice none 0 0) (fun _ _ => .slice none 0 0) :=
  ⟨Row.mkNil _ _ _ _, Nat.le_refl _, fun i hi => absurd hi (Nat.not_lt_zero _), fun i hi => absurd hi (Nat.not_lt_zero _), fun i hi => absurd hi (Nat.not_lt_zero _), fun i hi => absurd hi (Nat.not_lt_zero _), fun i j hi => absurd hi (Nat.not_lt_zero _), fun i j hi => absurd hi (Nat.not_lt_zero _), fun i j a c hi => absurd hi (Nat.not_lt_zero _)⟩

theorem enters_15 : ∀ args w, (callFunc 15 args).run Try.prog w = .ok (.enter 15 args) w := enters_of Try.func15 (by kernel_rfl) rfl
set_option maxHeartbeats 8000000 in
set_option maxRecDepth 100000 in
theorem beginR_calls (n p : Nat) (c : Int) (w : World) (hn : n ≤ 1000) (hp : p < n) :
    Calls Try.prog 15 #[.int .i64 n, .int .i64 p, .int .i64 c] w fun e w' => MkOut n (recL (begL n) p c) w w' e := by
  obtain ⟨im, him, mz0, mz1, mz2⟩ := info_partsM info_markM
  obtain ⟨ib, hib, bz0, bz1, bz2⟩ := info_partsM info_boolM
  obtain ⟨ir, hir, rz0, rz1, rz2⟩ := info_partsM info_rowsM
  have HMB := Lib.hid (fun W : World => run_make (P := Try.prog) W 46 4 ib (.bool false) Try.underlying46 hib bz0 .i64 .i64 (n : Int) (n : Int) (by omega) (by omega) (by rw [bz2]; omega) (by omega))
  have HMR := Lib.hid (fun W : World => run_make (P := Try.prog) W 43 25 ir (.slice none 0 0) Try.underlying43 hir rz0 .i64 .i64 (n : Int) (n : Int) (by omega) (by omega) (by rw [rz2]; omega) (by omega))
  rw [bz1] at HMB
  rw [rz1] at HMR
  simp only [Int.toNat_natCast, Nat.mul_one] at HMB HMR
  have hpz : (p : Int) < (n : Int) := by omega
  have hpz0 : (0 : Int) ≤ (p : Int) := by omega
  go_enter Try.func15, Try.ntmps15
  go_wp2
  go_loopg [7, 8] n (fun g s7 s8 wr => ∃ (k : Nat) (vc vh : Nat → Value) (vr : Nat → Nat → Value), k ≤ n ∧ n - k ≤ g ∧ s8 = .int .i64 k ∧ Aside (OwnM wr w.heap.size s7 n k (List.replicate k (mk0 n)) vc vh vr) ∧ Aside (Ext w wr))
  case atStart => exact ⟨0, _, _, _, Nat.zero_le _, by omega, rfl, (show OwnM _ _ _ _ _ _ _ _ _ from OwnM.none _ _ _), (show Ext _ _ from Ext.rf _)⟩
  case round =>
    obtain ⟨k, vc, vh, vr, hk, hgk, rfl, HO, HE⟩ := hrel
    obtain ⟨xa, xc, hxe, hxz⟩ := HO.out.row.any
    rw [List.length_replicate] at hxe hxz
    subst hxe
    clear hxz
    by_cases hlt : k < n
    case pos =>
      have hkz : (k : Int) < (n : Int) := by omega
      have hmb := HMB.out
      have hmr := HMR.out
      have HRW : Hid (Row wr w.heap.size 48 3 (.slice xa k xc) k (mkCells (List.replicate k (mk0 n)) vc vh)) := Lib.hid (by have h := HO.out.row; rwa [List.length_replicate] at h)
      have hsz := HE.out.sz
      go_upto_region 5 with (fail)
      refine wp_region_tail (fun W => True) 8 (by kernel_rfl) trivial (fun hHeld => ?_)
      refine wpAnyT_take (i := 0) (d := some 14) (v := ?_) rfl rfl (by kernel_rfl) (by kernel_rfl) (by kernel_rfl) (by kernel_rfl) (fun _ _ _ h => h) (Or.inl ⟨by rfl, ?_⟩) (by assumption) ?_
      rotate_left
      · (intro w hSw; (try dsimp only at hSw); go_simp; try (with_reducible rfl))
      try simp only [Act.put]
      try simp only [List.setIfInBounds_toArray]
      try simp only [List.set_cons_zero, List.set_cons_succ]
      refine wpAnyT_take (i := 1) (d := some 15) (v := ?_) rfl rfl (by kernel_rfl) (by kernel_rfl) (by kernel_rfl) (by kernel_rfl) (fun _ _ _ h => h) (Or.inl ⟨by rfl, ?_⟩) (by assumption) ?_
      rotate_left
      · (intro w hSw; (try dsimp only at hSw); go_simp; try (with_reducible rfl))
      try simp only [Act.put]
      try simp only [List.setIfInBounds_toArray]
      try simp only [List.set_cons_zero, List.set_cons_succ]
      refine wpAnyT_take (i := 3) (d := some 17) (v := ?_) rfl rfl (by kernel_rfl) (by kernel_rfl) (by kernel_rfl) (by kernel_rfl) (fun _ _ _ h => h) (Or.inl ⟨by rfl, ?_⟩) (by assumption) ?_
      rotate_left
      · (intro w hSw; (try dsimp only at hSw); go_simp; try (with_reducible rfl))
      try simp only [Act.put]
      try simp only [List.setIfInBounds_toArray]
      try simp only [List.set_cons_zero, List.set_cons_succ]
      refine wpAnyT_ready (rs := [2, 4]) (by kernel_rfl) (by simp) ?_
      refine AllT.cons (i := 2) rfl (fun K hK => ?_) ?_
      · go_simp
        refine hK.out _ _ ?_ (fun hHeld => ?_)
        · (try dsimp only)
          (first | done | trivial)
        clear hK K
        try simp only [Act.put]
        try simp only [List.setIfInBounds_toArray]
        try simp only [List.set_cons_zero, List.set_cons_succ]
        refine wpAnyT_step (i := 4) (by kernel_rfl) rfl (fun K hK => ?_)
        go_simp
        have HXA : Hid (Ext wr ((wr.alloc (.cells (madeCells #[.bool false] n) 4)).alloc (.cells (madeCells #[.slice none 0 0] n) 25)).drew) := Lib.hid (((Ext.rf wr).al _).al _).dr
        have H1 : Hid (((wr.alloc (.cells (madeCells #[.bool false] n) 4)).alloc (.cells (madeCells #[.slice none 0 0] n) 25)).drew.heap[wr.heap.size]? = some (.cells (madeCells #[.bool false] n) 4)) := Lib.hid ((((Ext.rf _).al _).dr).hp (heap_alloc_new wr _))
        have H2 : Hid (((wr.alloc (.cells (madeCells #[.bool false] n) 4)).alloc (.cells (madeCells #[.slice none 0 0] n) 25)).drew.heap[wr.heap.size + 1]? = some (.cells (madeCells #[.slice none 0 0] n) 25)) := Lib.hid ((Ext.rf _).dr.hp (heap_new_eq (by simp)))
        generalize ((wr.alloc (.cells (madeCells #[.bool false] n) 4)).alloc (.cells (madeCells #[.slice none 0 0] n) 25)).drew = wA at *
        have HU := H1
        have HY := H2
        have HRA := Lib.hid (HRW.out.ext HXA.out)
        have HEA := Lib.hid (HE.out.trans' HXA.out)
        refine hK.out _ _ ?_ (fun hHeld => ?_)
        · (try dsimp only)
          (first | done | trivial)
        clear hK K
        try simp only [Act.put]
        try simp only [List.setIfInBounds_toArray]
        try simp only [List.set_cons_zero, List.set_cons_succ]
        refine wpAnyT_take (i := 5) (d := some 19) (v := ?_) rfl rfl (by kernel_rfl) (by kernel_rfl) (by kernel_rfl) (by kernel_rfl) (fun _ _ _ h => h) (Or.inl ⟨by rfl, ?_⟩) (by assumption) ?_
        rotate_left
        · (intro w hSw; (try dsimp only at hSw); go_simp; try (with_reducible rfl))
        try simp only [Act.put]
        try simp only [List.setIfInBounds_toArray]
        try simp only [List.set_cons_zero, List.set_cons_succ]
        refine wpAnyT_step (i := 6) (by kernel_rfl) rfl (fun K hK => ?_)
        go_simp
        have HXB : Hid (Ext wA (wA.alloc (.cells #[.int .i64 (-1), .slice (some ⟨wr.heap.size, 0, none⟩) n n, .slice (some ⟨wr.heap.size + 1, 0, none⟩) n n] 48))) := Lib.hid ((Ext.rf wA).al _)
        have HNB : Hid ((wA.alloc (.cells #[.int .i64 (-1), .slice (some ⟨wr.heap.size, 0, none⟩) n n, .slice (some ⟨wr.heap.size + 1, 0, none⟩) n n] 48)).heap[wA.heap.size]? = some (.cells #[.int .i64 (-1), .slice (some ⟨wr.heap.size, 0, none⟩) n n, .slice (some ⟨wr.heap.size + 1, 0, none⟩) n n] 48)) := Lib.hid (heap_alloc_new wA _)
        generalize wA.alloc (.cells #[.int .i64 (-1), .slice (some ⟨wr.heap.size, 0, none⟩) n n, .slice (some ⟨wr.heap.size + 1, 0, none⟩) n n] 48) = wB at *
        have HXC := Lib.hid (HXA.out.trans' HXB.out)
        refine hK.out _ _ ?_ (fun hHeld => ?_)
        · (try dsimp only)
          (first | done | trivial)
        clear hK K
        try simp only [Act.put]
        try simp only [List.setIfInBounds_toArray]
        try simp only [List.set_cons_zero, List.set_cons_succ]
        refine wpAnyT_step (i := 7) (by kernel_rfl) rfl (fun K hK => ?_)
        refine step_append_rowN rfl _ _ 28 rfl w.heap.size 48 im (.agg #[.int .i64 0, .slice none 0 0, .slice none 0 0]) 3 56 Try.underlying28 him mz0 mz1 mz2 rfl (by decide) (.slice xa k xc) k (mkCells (List.replicate k (mk0 n)) vc vh) rfl (HRA.out.ext HXB.out) wA.heap.size 1 [.int .i64 (-1), .slice (some ⟨wr.heap.size, 0, none⟩) n n, .slice (some ⟨wr.heap.size + 1, 0, none⟩) n n] rfl rfl ⟨_, HNB.out⟩ (by simp [Value.oneCell']) (by unfold maxLen; omega) (by omega) (HEA.out.trans' HXB.out).sz ?_
        intro v8 w8 hown8 hgrow8 hblk8
        obtain ⟨x8, y8, rfl, _⟩ := hown8.any
        have HN := Lib.hid (HO.out.snoc (by rw [List.length_replicate]) HXC.out HE.out.sz ((row_made HU.out (by omega) (by unfold maxLen; omega)).ext HXB.out) ((row_made HY.out (by omega) (by unfold maxLen; omega)).ext HXB.out) hgrow8 hown8)
        have HX8 := Lib.hid ((HE.out.trans' HXC.out).gr hgrow8 (fun z hz => ((HRA.out.ext HXB.out).lt z hz).1))
        clear hown8 hgrow8 hblk8
        refine hK.out _ _ ?_ (fun hHeld => ?_)
        · (try dsimp only)
          (first | done | trivial)
        clear hK K
        try simp only [Act.put]
        try simp only [List.setIfInBounds_toArray]
        try simp only [List.set_cons_zero, List.set_cons_succ]
        refine wpAnyT_last (by kernel_rfl) rfl (by kernel_rfl) (fun K hK => ?_)
        go_simp
        refine hK.out _ _ ?_
        go_wp2
        go_roundg (n - (k + 1))
        case measure => omega
        case rel => exact ⟨k + 1, _, _, _, by omega, by omega, by go_num, (show OwnM _ _ _ _ _ (List.replicate (k + 1) (mk0 n)) _ _ _ from by rw [List.replicate_succ']; exact HN.out), (show Ext _ _ from HX8.out)⟩
      refine AllT.cons (i := 4) rfl (fun K hK => ?_) AllT.nil
      go_simp
      refine hK.out _ _ ?_ (fun hHeld => ?_)
      · (try dsimp only)
        (first | done | trivial)
      clear hK K
      try simp only [Act.put]
      try simp only [List.setIfInBounds_toArray]
      try simp only [List.set_cons_zero, List.set_cons_succ]
      refine wpAnyT_step (i := 2) (by kernel_rfl) rfl (fun K hK => ?_)
      go_simp
      have HXA : Hid (Ext wr ((wr.alloc (.cells (madeCells #[.slice none 0 0] n) 25)).alloc (.cells (madeCells #[.bool false] n) 4)).drew) := Lib.hid (((Ext.rf wr).al _).al _).dr
      have H1 : Hid (((wr.alloc (.cells (madeCells #[.slice none 0 0] n) 25)).alloc (.cells (madeCells #[.bool false] n) 4)).drew.heap[wr.heap.size]? = some (.cells (madeCells #[.slice none 0 0] n) 25)) := Lib.hid ((((Ext.rf _).al _).dr).hp (heap_alloc_new wr _))
      have H2 : Hid (((wr.alloc (.cells (madeCells #[.slice none 0 0] n) 25)).alloc (.cells (madeCells #[.bool false] n) 4)).drew.heap[wr.heap.size + 1]? = some (.cells (madeCells #[.bool false] n) 4)) := Lib.hid ((Ext.rf _).dr.hp (heap_new_eq (by simp)))
      generalize ((wr.alloc (.cells (madeCells #[.slice none 0 0] n) 25)).alloc (.cells (madeCells #[.bool false] n) 4)).drew = wA at *
      have HU := H2
      have HY := H1
      have HRA := Lib.hid (HRW.out.ext HXA.out)
      have HEA := Lib.hid (HE.out.trans' HXA.out)
      refine hK.out _ _ ?_ (fun hHeld => ?_)
      · (try dsimp only)
        (first | done | trivial)
      clear hK K
      try simp only [Act.put]
      try simp only [List.setIfInBounds_toArray]
      try simp only [List.set_cons_zero, List.set_cons_succ]
      refine wpAnyT_take (i := 5) (d := some 19) (v := ?_) rfl rfl (by kernel_rfl) (by kernel_rfl) (by kernel_rfl) (by kernel_rfl) (fun _ _ _ h => h) (Or.inl ⟨by rfl, ?_⟩) (by assumption) ?_
      rotate_left
      · (intro w hSw; (try dsimp only at hSw); go_simp; try (with_reducible rfl))
      try simp only [Act.put]
      try simp only [List.setIfInBounds_toArray]
      try simp only [List.set_cons_zero, List.set_cons_succ]
      refine wpAnyT_step (i := 6) (by kernel_rfl) rfl (fun K hK => ?_)
      go_simp
      have HXB : Hid (Ext wA (wA.alloc (.cells #[.int .i64 (-1), .slice (some ⟨wr.heap.size + 1, 0, none⟩) n n, .slice (some ⟨wr.heap.size, 0, none⟩) n n] 48))) := Lib.hid ((Ext.rf wA).al _)
      have HNB : Hid ((wA.alloc (.cells #[.int .i64 (-1), .slice (some ⟨wr.heap.size + 1, 0, none⟩) n n, .slice (some ⟨wr.heap.size, 0, none⟩) n n] 48)).heap[wA.heap.size]? = some (.cells #[.int .i64 (-1), .slice (some ⟨wr.heap.size + 1, 0, none⟩) n n, .slice (some ⟨wr.heap.size, 0, none⟩) n n] 48)) := Lib.hid (heap_alloc_new wA _)
      generalize wA.alloc (.cells #[.int .i64 (-1), .slice (some ⟨wr.heap.size + 1, 0, none⟩) n n, .slice (some ⟨wr.heap.size, 0, none⟩) n n] 48) = wB at *
      have HXC := Lib.hid (HXA.out.trans' HXB.out)
      refine hK.out _ _ ?_ (fun hHeld => ?_)
      · (try dsimp only)
        (first | done | trivial)
      clear hK K
      try simp only [Act.put]
      try simp only [List.setIfInBounds_toArray]
      try simp only [List.set_cons_zero, List.set_cons_succ]
      refine wpAnyT_step (i := 7) (by kernel_rfl) rfl (fun K hK => ?_)
      refine step_append_rowN rfl _ _ 28 rfl w.heap.size 48 im (.agg #[.int .i64 0, .slice none 0 0, .slice none 0 0]) 3 56 Try.underlying28 him mz0 mz1 mz2 rfl (by decide) (.slice xa k xc) k (mkCells (List.replicate k (mk0 n)) vc vh) rfl (HRA.out.ext HXB.out) wA.heap.size 1 [.int .i64 (-1), .slice (some ⟨wr.heap.size + 1, 0, none⟩) n n, .slice (some ⟨wr.heap.size, 0, none⟩) n n] rfl rfl ⟨_, HNB.out⟩ (by simp [Value.oneCell']) (by unfold maxLen; omega) (by omega) (HEA.out.trans' HXB.out).sz ?_
      intro v8 w8 hown8 hgrow8 hblk8
      obtain ⟨x8, y8, rfl, _⟩ := hown8.any
      have HN := Lib.hid (HO.out.snoc (by rw [List.length_replicate]) HXC.out HE.out.sz ((row_made HU.out (by omega) (by unfold maxLen; omega)).ext HXB.out) ((row_made HY.out (by omega) (by unfold maxLen; omega)).ext HXB.out) hgrow8 hown8)
      have HX8 := Lib.hid ((HE.out.trans' HXC.out).gr hgrow8 (fun z hz => ((HRA.out.ext HXB.out).lt z hz).1))
      clear hown8 hgrow8 hblk8
      refine hK.out _ _ ?_ (fun hHeld => ?_)
      · (try dsimp only)
        (first | done | trivial)
      clear hK K
      try simp only [Act.put]
      try simp only [List.setIfInBounds_toArray]
      try simp only [List.set_cons_zero, List.set_cons_succ]
      refine wpAnyT_last (by kernel_rfl) rfl (by kernel_rfl) (fun K hK => ?_)
      go_simp
      refine hK.out _ _ ?_
      go_wp2
      go_roundg (n - (k + 1))
      case measure => omega
      case rel => exact ⟨k + 1, _, _, _, by omega, by omega, by go_num, (show OwnM _ _ _ _ _ (List.replicate (k + 1) (mk0 n)) _ _ _ from by rw [List.replicate_succ']; exact HN.out), (show Ext _ _ from HX8.out)⟩
    case neg =>
      have hkz : ¬ (k : Int) < (n : Int) := by omega
      obtain rfl : n = k := by omega
      have HOB : Hid (OwnM wr w.heap.size (.slice xa n xc) n n (begL n) vc vh vr) := HO
      obtain ⟨g, o, cap, hve, hg, hgw, hcap⟩ := HOB.out.shape (by rw [begL_len]; omega)
      rw [begL_len] at hve hcap
      simp only [Value.slice.injEq] at hve
      obtain ⟨rfl, _, rfl⟩ := hve
      obtain ⟨c0, c1, _, hf⟩ := HOB.out.cellsAt (i := p) (by rw [begL_len]; exact hp)
      obtain ⟨g2, o2, cc2, hv, hb, hg2, hnc, hbc, hf2⟩ := HOB.out.boolAt hp hp
      have hne : g ≠ g2 := by
        have h1 := HOB.out.clo p hp
        rw [hv] at h1
        obtain ⟨cs1, fr1, e1⟩ := row_hp HOB.out.row
        obtain ⟨cs2, fr2, e2⟩ := row_hp h1
        rintro rfl
        rw [e1] at e2
        simp at e2
      have f0 := hf (o + p * 3)
      have f2 := hf2 (o2 + p)
      rw [hv] at c1
      have HRC := Lib.hid (HOB.out.reco hp hp c hv)
      have HEX := Lib.hid ((HE.out.st (p := ⟨g, o + p * 3, none⟩) hg (.int .i64 c)).st (p := ⟨g2, o2 + p, none⟩) hb (.bool true))
      generalize (begL n)[p]!.cnt = z0 at *
      generalize (begL n)[p]!.closed[p]! = z1 at *
      clear hf hf2 hv HO HOB
      go_wp2
      go_ret
      exact ⟨_, vc, vh, vr, rfl, by rw [recL_len, begL_len]; exact HRC.out, HEX.out⟩

end Go.Proofs.Ytfagfooggcinoaa

/-
  Snapshots: the reference's Valid.
-/
namespace Go.Proofs.Ytfagfooggcinoaa
open Go.RowKit
set_option linter.unusedVariables false

def VkJ (w wr : World) (sb : Nat) (ms : List Int) : Prop := Ext w wr ∧ Row wr w.heap.size 4 1 (.slice (some ⟨sb, 0, none⟩) 200 200) 200 ((seenF ms).map Value.bool) ∧ OkMs ms
theorem VkJ.al {w wr : World} {sb : Nat} {ms : List Int} (h : VkJ w wr sb ms) (o : Obj) : VkJ w (wr.alloc o) sb ms := ⟨h.1.al o, h.2.1.al o, h.2.2⟩
theorem closed_any {m : Mk} {j : Nat} (hj : j < m.closed.length) (h : m.closed[j]! = true) : (m.closed.any fun y => y) = true := by
  rw [List.any_eq_true]
  exact ⟨m.closed[j]!, by rw [getElem!_pos _ j hj]; exact List.getElem_mem hj, h⟩
theorem closed_none {m : Mk} (h : ∀ j, j < m.closed.length → m.closed[j]! = false) : (m.closed.any fun y => y) = false := by
  rw [List.any_eq_false]
  intro c hc
  obtain ⟨j, hj, rfl⟩ := List.getElem_of_mem hc
  have := h j hj
  rw [getElem!_pos _ j hj] at this
  rw [this]; simp
theorem enters_17 : ∀ args w, (callFunc 17 args).run Try.prog w = .ok (.enter 17 args) w := enters_of Try.func17 (by kernel_rfl) rfl
set_option maxHeartbeats 8000000 in
set_option maxRecDepth 100000 in
theorem validMR_calls (v : Value) (l : List Mk) (w : World) (h : Sl RMk 3 w v l) (hl : LightM l) :
    Calls Try.prog 17 #[v] w fun e w' => e = .returned (.bool (validK l)) ∧ Ext w w' := by
  obtain ⟨ib, hib, bz0, bz1, bz2⟩ := info_partsM info_boolM
  have HS := Lib.hid h
  have HLI := Lib.hid hl
  have hl1 := hl.1
  obtain ⟨va, vcap, rfl, hvc⟩ := h.sh
  clear h hl
  by_cases hn8 : 1 ≤ l.length ∧ l.length ≤ 8
  case neg =>
    have HA := Lib.hid (validK_len hn8)
    by_cases hn1 : 1 ≤ l.length
    · have d1 : decide ((l.length : Int) < 1) = false := decide_eq_false (by omega)
      have d2 : decide (8 < (l.length : Int)) = true := decide_eq_true (by omega)
      have d3 : decide (8 < l.length) = true := decide_eq_true (by omega)
      generalize l.length = n at *
      clear hn8 hn1
      go_enter Try.func17, Try.ntmps17
      go_wp2
      go_ret
      exact ⟨by rw [HA.out]; rfl, Ext.rf _⟩
    · have hz : l.length = 0 := by omega
      rw [hz]
      clear hn8 hn1 hz hvc hl1
      go_enter Try.func17, Try.ntmps17
      go_wp2
      go_ret
      exact ⟨by rw [HA.out]; rfl, Ext.rf _⟩
  case pos =>
    have HMB := Lib.hid (fun i hi => validK_mark (l := l) (i := i) hi)
    obtain ⟨n, hn⟩ : ∃ n, l.length = n := ⟨_, rfl⟩
    have HN := Lib.hid hn
    have h1 : 1 ≤ n := by omega
    have h8 : n ≤ 8 := by omega
    have d1 : decide ((n : Int) < 1) = false := decide_eq_false (by omega)
    have d2 : decide (8 < (n : Int)) = false := decide_eq_false (by omega)
    have d3 : decide (8 < n) = false := decide_eq_false (by omega)
    have d4 : decide (n = 0) = false := decide_eq_false (by omega)
    rw [hn] at hl1 hvc ⊢
    clear hn8 hn
    go_enter Try.func17, Try.ntmps17
    go_wp2_with ((at_make; refine wpList_make_full _ rfl _ _ 46 rfl w.heap.size 4 ib (.bool false) 1 Try.underlying46 hib bz0 bz1 .i64 .i64 _ _ 200 rfl rfl rfl rfl (by rw [bz2]; omega) (by unfold maxLen; omega) (Nat.le_refl _) ?_; intro w3 hown3 hgrow3))
    have HI0 : Hid (VkJ w w3 w.heap.size (msX l 0 0 0)) := Lib.hid ⟨(Ext.rf w).gr hgrow3 (by simp), by
      have h := Row.ofOwns hown3
      rw [msX_zero, show seenF [] = List.replicate 200 false from by decide +kernel, List.map_replicate]
      have e : (madeCells (Value.bool false).cells (200 * 1)).toList = List.replicate 200 (.bool false) := made_one _ _
      rw [e] at h
      exact h, by rw [msX_zero]; exact OkMs.nil⟩
    generalize hmb : w.heap.size = mb at *
    have HMBE := Lib.hid hmb
    clear hmb hown3 hgrow3
    go_wp2
    go_loopg [5, 6, 7, 8, 9] n (fun g s5 s6 s7 s8 s9 wr => ∃ i : Nat, i ≤ n ∧ n - i ≤ g ∧ s5 = .int .i64 i ∧ Aside (VkJ w wr mb (msX l i 0 0)) ∧ Aside (∀ a, a < i → markB n a l[a]! = true))
    case atStart => exact ⟨0, Nat.zero_le _, by omega, rfl, (show VkJ _ _ _ _ from HI0.out), (fun a ha => absurd ha (Nat.not_lt_zero _))⟩
    case round =>
      obtain ⟨i, hi, hgi, rfl, HI, HM⟩ := hrel
      clear HI0
      by_cases hlt : i < n
      case neg =>
        have hiz : ¬ (i : Int) < (n : Int) := by omega
        have HA : Hid (validK l = true) := Lib.hid (validK_yes (by rw [HN.out]; exact h1) (by rw [HN.out]; exact h8) (fun a ha => by rw [HN.out] at ha ⊢; exact HM.out a (by omega)) (by
          have h := HI.out.2.2
          rwa [show i = l.length by rw [HN.out]; omega, msX_all] at h))
        go_wp2
        go_ret
        exact ⟨by rw [HA.out]; rfl, HI.out.1⟩
      case pos =>
        have hiz : (i : Int) < (n : Int) := by omega
        have hiz0 : (0 : Int) ≤ (i : Int) := by omega
        have HIL := Lib.hid (show i < l.length by rw [HN.out]; exact hlt)
        have HB := Lib.hid (fun h => HMB.out i HIL.out (by rw [HN.out]; exact h))
        obtain ⟨B, O, C, ua, uc, y, hve, hlC, hBw, p0, p1, p2, hb, hs⟩ := mark_at HS.out i HIL.out
        simp only [Value.slice.injEq] at hve
        obtain ⟨rfl, hz1, rfl⟩ := hve
        obtain ⟨ya, yc, rfl, _⟩ := hs.sh
        have P0 := HI.out.1.cl p0
        have P1 := HI.out.1.cl p1
        have P2 := HI.out.1.cl p2
        have HBL := Lib.hid hb
        have HCH := Lib.hid hs
        obtain ⟨hli1, hli2, hli3⟩ := HLI.out.2 i HIL.out
        have HLI3 := Lib.hid hli3
        have HMC := Lib.hid (markB_cnt (n := n) (i := i) (m := l[i]!))
        have HME := Lib.hid (markB_eq (n := n) (i := i) (m := l[i]!))
        have HB6 := Lib.hid (heap_alloc_new wr (.cells #[.int .i64 l[i]!.cnt, .slice ua l[i]!.closed.length uc, .slice ya l[i]!.chan.length yc] 48))
        have HIB := Lib.hid (HI.out.al (.cells #[.int .i64 l[i]!.cnt, .slice ua l[i]!.closed.length uc, .slice ya l[i]!.chan.length yc] 48))
        have x0 := cellOf HB6.out 0
        have x1 := cellOf HB6.out 1
        have x2 := cellOf HB6.out 2
        simp only [List.getElem?_toArray, List.getElem?_cons_zero, List.getElem?_cons_succ] at x0 x1 x2
        obtain ⟨cn, hcn⟩ : ∃ x, l[i]!.cnt = x := ⟨_, rfl⟩
        obtain ⟨cl, hcl⟩ : ∃ x, l[i]!.closed.length = x := ⟨_, rfl⟩
        obtain ⟨ch, hch⟩ : ∃ x, l[i]!.chan.length = x := ⟨_, rfl⟩
        have HCN := Lib.hid hcn
        have HCL := Lib.hid hcl
        have HCHL := Lib.hid hch
        rw [hcn] at P0 HMC HME HB6 HIB x0 x1 x2
        rw [hcl] at P1 HMC HME HB6 HIB x0 x1 x2 HBL hli1
        rw [hch] at P2 HMC HME HB6 HIB x0 x1 x2 HCH hli2
        have HLT : Hid (mb < wr.heap.size) := Lib.hid (HI.out.2.1.lt mb rfl).2
        clear p0 p1 p2 hb hs hli3 hcn hcl hch hz1 HI
        by_cases e1 : -1 ≤ cn
        case neg =>
          have g1 : decide (cn < -1) = true := decide_eq_true (by omega)
          have HF := Lib.hid (HB.out (HMC.out (fun h => e1 h.1)))
          clear e1
          go_wp2
          go_ret
          exact ⟨by rw [HF.out]; rfl, HIB.out.1⟩
        case pos =>
        have g1 : decide (cn < -1) = false := decide_eq_false (by omega)
        by_cases e2 : cn ≤ 64
        case neg =>
          have g2 : decide (64 < cn) = true := decide_eq_true (by omega)
          have HF := Lib.hid (HB.out (HMC.out (fun h => e2 h.2.1)))
          clear e1 e2
          go_wp2
          go_ret
          exact ⟨by rw [HF.out]; rfl, HIB.out.1⟩
        case pos =>
        have g2 : decide (64 < cn) = false := decide_eq_false (by omega)
        by_cases e3 : cl = n
        case neg =>
          have g3 : ((cl : Int) != (n : Int)) = true := by rw [bne_iff_ne]; omega
          have HF := Lib.hid (HB.out (HMC.out (fun h => e3 h.2.2.1)))
          clear e1 e2 e3
          go_wp2
          go_ret
          exact ⟨by rw [HF.out]; rfl, HIB.out.1⟩
        case pos =>
        have g3 : ((cl : Int) != (n : Int)) = false := by rw [bne_eq_false_iff_eq]; omega
        by_cases e4 : ch = n
        case neg =>
          have g4 : ((ch : Int) != (n : Int)) = true := by rw [bne_iff_ne]; omega
          have HF := Lib.hid (HB.out (HMC.out (fun h => e4 h.2.2.2)))
          clear e1 e2 e3 e4
          go_wp2
          go_ret
          exact ⟨by rw [HF.out]; rfl, HIB.out.1⟩
        case pos =>
        have g4 : ((ch : Int) != (n : Int)) = false := by rw [bne_eq_false_iff_eq]; omega
        have HME2 := Lib.hid (HME.out e1 e2 e3 e4)
        have HNEG : Hid (cn = -1 ↔ cn < 0) := Lib.hid (by omega)
        clear e1 e2
        obtain rfl : n = cl := e3.symm
        obtain rfl : n = ch := e4.symm
        go_upto_region 11 with (fail)
        generalize hb6 : wr.heap.size = b6 at *
        generalize wr.alloc (.cells #[.int .i64 cn, .slice ua n uc, .slice ya n yc] 48) = w6 at *
        clear hb6 P0 P1 P2 g1 g2 g3 g4
        have HNB : Hid (b6 ≠ mb) := Lib.hid (by have := HLT.out; omega)
        have HFA : Hid (∀ j, j < n → cn = -1 → (l[i]!.closed[j]! = true ∨ (l[i]!.chan[j]!).length ≠ 0) → validK l = false) := Lib.hid (fun j hj hc h => HB.out (by
          rw [HME2.out, if_pos hc]
          rcases h with h | h
          · rw [closed_any (by rw [HCL.out]; exact hj) h]; rfl
          · rw [chan_full (x := 0) (by rw [HCHL.out]; exact hj) (by omega)]; simp))
        have HBX0 := HB6
        have HI0 : Hid (VkJ w w6 mb (msX l i 0 0)) := HIB
        clear x0 x1 x2 HME HMC
        go_wp2
        go_loopg [7, 8, 9] n (fun g s7 s8 s9 wr => ∃ j : Nat, j ≤ n ∧ n - j ≤ g ∧ s7 = .int .i64 j ∧ Aside (VkJ w wr mb (msX l i j 0)) ∧ Aside (wr.heap[b6]? = some (.cells #[.int .i64 cn, .slice ua n uc, .slice ya n yc] 48)) ∧ Aside (cn = -1 → ∀ a, a < j → l[i]!.closed[a]! = false ∧ (l[i]!.chan[a]!).length = 0))
        case atStart => exact ⟨0, Nat.zero_le _, by omega, rfl, (show VkJ _ _ _ _ from HI0.out), (show _ = _ from HBX0.out), (fun _ a ha => absurd ha (Nat.not_lt_zero _))⟩
        case round =>
          obtain ⟨j, hj, hgj, rfl, HJ, HBJ, HZJ⟩ := hrel
          clear HI0 HIB HB6 HBX0
          have x0 := cellOf HBJ.out 0
          have x1 := cellOf HBJ.out 1
          have x2 := cellOf HBJ.out 2
          simp only [List.getElem?_toArray, List.getElem?_cons_zero, List.getElem?_cons_succ] at x0 x1 x2
          by_cases hjn : j < n
          case neg =>
            have hjz : ¬ (j : Int) < (n : Int) := by omega
            have HN2 : Hid (VkJ w wr mb (msX l (i + 1) 0 0)) := Lib.hid (by
              have h := HJ.out
              rwa [show j = l[i]!.chan.length by rw [HCHL.out]; omega, msX_nextI HIL.out] at h)
            by_cases hc : cn < 0
            case pos =>
              have g5 : decide (0 ≤ cn) = false := decide_eq_false (by omega)
              have HMK : Hid (markB n i l[i]! = true) := Lib.hid (by
                have hc1 := HNEG.out.2 hc
                have h := HZJ.out hc1
                rw [HME2.out, if_pos hc1, closed_none (fun a ha => (h a (by rw [HCL.out] at ha; omega)).1), chan_none (fun a ha => (h a (by rw [HCHL.out] at ha; omega)).2)]; rfl)
              clear hc
              go_wp2
              go_roundg (n - (i + 1))
              case measure => omega
              case rel => exact ⟨i + 1, by omega, by omega, by go_num, (show VkJ _ _ _ _ from HN2.out), (show Aside _ from fun a ha => by
                by_cases e : a = i
                · subst e; exact HMK.out
                · exact HM.out a (by omega))⟩
            case neg =>
              have g5 : decide (0 ≤ cn) = true := decide_eq_true (by omega)
              have hc1 : cn ≠ -1 := by omega
              have HME3 := Lib.hid (HME2.out.trans (if_neg hc1))
              obtain ⟨b1, o1, rfl, _, _, hbc⟩ := bool_at HBL.out i (by rw [HCL.out]; exact hlt)
              have q0 := HJ.out.1.cl hbc
              obtain ⟨b2, o2, c2, u2, he2, hl2, hb2, hc2, x9, hx9, hI2⟩ := HCH.out.at1 i (by rw [HCHL.out]; exact hlt)
              simp only [Value.slice.injEq] at he2
              obtain ⟨rfl, hy2, rfl⟩ := he2
              obtain rfl : u2 = x9 := by simpa using hx9
              obtain ⟨z1, z2, rfl, hz9⟩ := hI2
              have q1 := HJ.out.1.cl hc2
              have HEM : Hid (l[i]!.chan[i]!.isEmpty = decide ((l[i]!.chan[i]!).length = 0)) := Lib.hid (by
                rw [Bool.eq_iff_iff, List.isEmpty_iff, decide_eq_true_iff, List.length_eq_zero_iff])
              rw [HEM.out] at HME3
              obtain ⟨k9, hk9⟩ : ∃ x, (l[i]!.chan[i]!).length = x := ⟨_, rfl⟩
              rw [hk9] at HME3 q1
              generalize l[i]!.closed[i]! = bb at *
              clear hc hc1 hbc hc2 hx9 hk9 hy2 hl2 hb2 hz9
              cases bb with
              | false =>
                have HF := Lib.hid (HB.out (by rw [HME3.out]; rfl))
                go_wp2
                go_ret
                exact ⟨by rw [HF.out]; rfl, HJ.out.1⟩
              | true =>
                by_cases hk0 : k9 = 0
                · subst hk0
                  have HMK : Hid (markB n i l[i]! = true) := Lib.hid (by rw [HME3.out]; rfl)
                  go_wp2
                  go_roundg (n - (i + 1))
                  case measure => omega
                  case rel => exact ⟨i + 1, by omega, by omega, by go_num, (show VkJ _ _ _ _ from HN2.out), (show Aside _ from fun a ha => by
                    by_cases e : a = i
                    · subst e; exact HMK.out
                    · exact HM.out a (by omega))⟩
                · have HF := Lib.hid (HB.out (by rw [HME3.out, decide_eq_false hk0]; rfl))
                  have g7 : decide ((0 : Int) < (k9 : Int)) = true := decide_eq_true (by omega)
                  have g8 : decide (0 < k9) = true := decide_eq_true (by omega)
                  clear hk0
                  go_wp2
                  go_ret
                  exact ⟨by rw [HF.out]; rfl, HJ.out.1⟩
          case pos =>
            have hjz : (j : Int) < (n : Int) := by omega
            have hjz0 : (0 : Int) ≤ (j : Int) := by omega
            have HJL := Lib.hid (show j < l[i]!.chan.length by rw [HCHL.out]; exact hjn)
            obtain ⟨b2, o2, c2, u2, he2, hl2, hb2, hc2, x9, hx9, hI2⟩ := HCH.out.at1 j HJL.out
            simp only [Value.slice.injEq] at he2
            obtain ⟨rfl, hy2, rfl⟩ := he2
            obtain rfl : u2 = x9 := by simpa using hx9
            have HI2 := Lib.hid hI2
            obtain ⟨z1, z2, rfl, hz3⟩ := hI2
            have HC2 := Lib.hid hc2
            have q1 := HJ.out.1.cl hc2
            obtain ⟨b1, o1, rfl, _, _, hbc⟩ := bool_at HBL.out j (by rw [HCL.out]; exact hjn)
            have q0 := HJ.out.1.cl hbc
            obtain ⟨L, hL⟩ : ∃ x, (l[i]!.chan[j]!).length = x := ⟨_, rfl⟩
            have HLL := Lib.hid hL
            have hL2 := HLI3.out j HJL.out
            have HFJ := Lib.hid (HFA.out j hjn)
            rw [hL] at q1 HI2 hL2 HFJ HC2
            have HCJ : Hid (l[i]!.closed[j]! = l[i]!.closed[j]!) := Lib.hid rfl
            obtain ⟨bb, hbb⟩ : ∃ x, l[i]!.closed[j]! = x := ⟨_, rfl⟩
            have HBB := Lib.hid hbb
            rw [hbb] at q0 HFJ
            clear hc2 hbc hx9 hy2 hl2 hb2 hz3 hL hbb HCJ
            -- a mark that has not recorded
            obtain ⟨bd, hbd⟩ : ∃ b, (decide (cn < 0) && (bb || decide (0 < L))) = b := ⟨_, rfl⟩
            have HBD := Lib.hid hbd
            clear hbd
            go_upto_region 14 with (fail)
            go_cut [73] (fun s73 wx => s73 = .bool bd ∧ wx = wr)
            case first =>
              by_cases hc : cn < 0
              case neg =>
                have g5 : decide (cn < 0) = false := decide_eq_false hc
                have HE : Hid (bd = false) := Lib.hid (by rw [← HBD.out, g5]; rfl)
                clear hc
                go_wp2
                go_meet
                exact ⟨by rw [HE.out], rfl⟩
              case pos =>
                have g5 : decide (cn < 0) = true := decide_eq_true hc
                cases bb with
                | true =>
                  have HE : Hid (bd = true) := Lib.hid (by rw [← HBD.out, g5]; rfl)
                  clear hc
                  go_wp2
                  go_meet
                  exact ⟨by rw [HE.out], rfl⟩
                | false =>
                  by_cases hL0 : L = 0
                  · subst hL0
                    have HE : Hid (bd = false) := Lib.hid (by rw [← HBD.out, g5]; rfl)
                    clear hc
                    go_wp2
                    go_meet
                    exact ⟨by rw [HE.out], rfl⟩
                  · have g7 : decide ((0 : Int) < (L : Int)) = true := decide_eq_true (by omega)
                    have g8 : decide (0 < L) = true := decide_eq_true (by omega)
                    have HE : Hid (bd = true) := Lib.hid (by rw [← HBD.out, g5, g8]; rfl)
                    clear hc hL0
                    go_wp2
                    go_meet
                    exact ⟨by rw [HE.out], rfl⟩
            case rest =>
              obtain ⟨rfl, rfl⟩ := hcut
              obtain ⟨wo, rfl⟩ : ∃ z, z = wc := ⟨_, rfl⟩
              cases bd with
              | true =>
                have HF : Hid (validK l = false) := Lib.hid (by
                  have h := HBD.out
                  simp only [Bool.and_eq_true, Bool.or_eq_true, decide_eq_true_eq] at h
                  refine HFJ.out (HNEG.out.2 h.1) ?_
                  rcases h.2 with h2 | h2
                  · exact .inl h2
                  · exact .inr (by omega))
                go_wp2
                go_ret
                exact ⟨by rw [HF.out]; rfl, HJ.out.1⟩
              | false =>
                have HZ0 : Hid (cn = -1 → l[i]!.closed[j]! = false ∧ L = 0) := Lib.hid (fun hc => by
                  have h := HBD.out
                  have hc2 := HNEG.out.1 hc
                  rw [decide_eq_true hc2, Bool.true_and, Bool.or_eq_false_iff, decide_eq_false_iff_not] at h
                  exact ⟨by rw [HBB.out]; exact h.1, by omega⟩)
                have HJ0 : Hid (VkJ w wo mb (msX l i j 0)) := HJ
                have HBJ0 := HBJ
                clear x0 x1 x2 q0 q1
                go_wp2
                go_loopg [8, 9] L (fun g s8 s9 wr => ∃ x : Nat, x ≤ L ∧ L - x ≤ g ∧ s8 = .int .i64 x ∧ Aside (VkJ w wr mb (msX l i j x)) ∧ Aside (wr.heap[b6]? = some (.cells #[.int .i64 cn, .slice (some ⟨b1, o1, none⟩) n uc, .slice (some ⟨b2, o2, none⟩) n yc] 48)))
                case atStart => exact ⟨0, Nat.zero_le _, by omega, rfl, (show VkJ _ _ _ _ from HJ0.out), (show _ = _ from HBJ0.out)⟩
                case round =>
                  obtain ⟨x, hx, hgx, rfl, HX, HBX⟩ := hrel
                  clear HJ0 HJ HBJ0 HBJ
                  have c2 := cellOf HBX.out 2
                  simp only [List.getElem?_toArray, List.getElem?_cons_zero, List.getElem?_cons_succ] at c2
                  have q1 := HX.out.1.cl HC2.out
                  by_cases hxL : x < L
                  case neg =>
                    have hxz : ¬ (x : Int) < (L : Int) := by omega
                    have HN2 : Hid (VkJ w wr mb (msX l i (j + 1) 0)) := Lib.hid (by
                      have h := HX.out
                      rwa [show x = (l[i]!.chan[j]!).length by rw [HLL.out]; omega, msX_nextJ HJL.out] at h)
                    have HZ2 : Hid (cn = -1 → ∀ a, a < j + 1 → l[i]!.closed[a]! = false ∧ (l[i]!.chan[a]!).length = 0) := Lib.hid (fun hc a ha => by
                      by_cases e : a = j
                      · subst e; have := HZ0.out hc; exact ⟨this.1, by rw [HLL.out]; exact this.2⟩
                      · exact HZJ.out hc a (by omega))
                    go_wp2
                    go_roundg (n - (j + 1))
                    case measure => omega
                    case rel => exact ⟨j + 1, by omega, by omega, by go_num, (show VkJ _ _ _ _ from HN2.out), (show _ = _ from HBX.out), (show Aside _ from HZ2.out)⟩
                  case pos =>
                    have hxz : (x : Int) < (L : Int) := by omega
                    have hxz0 : (0 : Int) ≤ (x : Int) := by omega
                    obtain ⟨yb, yo, rfl, _, hyc⟩ := ints_at HI2.out x (by rw [HLL.out]; exact hxL)
                    have y0 := HX.out.1.cl hyc
                    obtain ⟨y, hy⟩ : ∃ y, (l[i]!.chan[j]!)[x]! = y := ⟨_, rfl⟩
                    have HST : Hid (msX l i j (x + 1) = msX l i j x ++ [y]) := Lib.hid (by rw [msX_step (by rw [HLL.out]; exact hxL), hy])
                    obtain ⟨r, hr⟩ := msX_pre (l := l) (i := i) (j := j) (x := x + 1) HIL.out HJL.out
                    rw [HST.out] at hr
                    have HPR := Lib.hid hr
                    rw [hy] at y0
                    clear hyc hr hy
                    by_cases hy0 : 0 ≤ y
                    case neg =>
                      have g6 : decide (y < 0) = true := decide_eq_true (by omega)
                      have HF := Lib.hid (validK_out HPR.out (fun h => hy0 h.1))
                      clear hy0
                      go_wp2
                      go_ret
                      exact ⟨by rw [HF.out]; rfl, HX.out.1⟩
                    case pos =>
                    by_cases hy9 : y ≤ 199
                    case neg =>
                      have g6 : decide (y < 0) = false := decide_eq_false (by omega)
                      have g7 : decide (199 < y) = true := decide_eq_true (by omega)
                      have HF := Lib.hid (validK_out HPR.out (fun h => hy9 h.2))
                      clear hy9 hy0
                      go_wp2
                      go_ret
                      exact ⟨by rw [HF.out]; rfl, HX.out.1⟩
                    case pos =>
                    obtain ⟨Y, rfl⟩ : ∃ Y : Nat, y = (Y : Int) := ⟨y.toNat, by omega⟩
                    have hYz : (Y : Int) < (200 : Int) := by omega
                    have hYn : Y < 200 := by omega
                    have hYz0 : (0 : Int) ≤ (Y : Int) := by omega
                    have g7 : decide ((199 : Int) < (Y : Int)) = false := decide_eq_false (by omega)
                    have g8 : decide (199 < Y) = false := decide_eq_false (by omega)
                    have HSN : Hid (((seenF (msX l i j x)).map Value.bool)[Y]? = some (.bool (decide ((Y : Int) ∈ msX l i j x)))) := Lib.hid (by
                      rw [List.getElem?_map, List.getElem?_eq_getElem (by rw [seenF_len]; exact hYn), ← getElem!_pos (seenF (msX l i j x)) Y (by rw [seenF_len]; exact hYn), seenF_at hYn]; rfl)
                    have s0 := HX.out.2.1.cell Y (by omega)
                    rw [HSN.out, Nat.zero_add] at s0
                    have hfz := HX.out.2.1.free (0 + Y)
                    rw [Nat.zero_add] at hfz
                    by_cases hin : (Y : Int) ∈ msX l i j x
                    case pos =>
                      have HF := Lib.hid (validK_twice HPR.out hin)
                      rw [decide_eq_true hin] at s0
                      clear hin
                      go_wp2
                      go_ret
                      exact ⟨by rw [HF.out]; rfl, HX.out.1⟩
                    case neg =>
                      have HMS := Lib.hid (HX.out.2.2.snoc hy0 hy9 hin)
                      have HSS := Lib.hid (seenF_snoc (ms := msX l i j x) hy0 hy9)
                      rw [decide_eq_false hin] at s0
                      clear hin
                      have HRS := Lib.hid (HX.out.2.1.set Y (.bool true) (by omega))
                      rw [← List.map_set, Nat.zero_add] at HRS
                      have HEX := Lib.hid (HX.out.1.st (p := ⟨mb, Y, none⟩) (by rw [HMBE.out]; exact Nat.le_refl _) (.bool true))
                      have HBX8 : Hid ((wr.setCell ⟨mb, Y, none⟩ (.bool true)).heap[b6]? = some (.cells #[.int .i64 cn, .slice (some ⟨b1, o1, none⟩) n uc, .slice (some ⟨b2, o2, none⟩) n yc] 48)) := Lib.hid ((Below.heap_setCell wr ⟨mb, Y, none⟩ (.bool true) b6 HNB.out).trans HBX.out)
                      have HN2 : Hid (VkJ w (wr.setCell ⟨mb, Y, none⟩ (.bool true)) mb (msX l i j (x + 1))) := Lib.hid ⟨HEX.out, by
                        rw [HST.out, ← HSS.out, Int.toNat_natCast]; exact HRS.out, by rw [HST.out]; exact HMS.out⟩
                      go_wp2
                      go_roundg (L - (x + 1))
                      case measure => omega
                      case rel => exact ⟨x + 1, by omega, by omega, by go_num, (show VkJ _ _ _ _ from HN2.out), (show _ = _ from HBX8.out)⟩

end Go.Proofs.Ytfagfooggcinoaa

/-
  Snapshots: the reference's Recorded and Cut.
-/
namespace Go.Proofs.Ytfagfooggcinoaa
open Go.RowKit
set_option linter.unusedVariables false

theorem reco_no {l : List Mk} {k : Nat} (hk : k < l.length) (h : ¬ 0 ≤ l[k]!.cnt) : recordedB l = false := by
  unfold recordedB
  rw [List.all_eq_false]
  refine ⟨l[k]!, by rw [getElem!_pos l k hk]; exact List.getElem_mem hk, ?_⟩
  simp only [decide_eq_true_eq]; exact h
theorem reco_yes {l : List Mk} (h : ∀ k, k < l.length → 0 ≤ l[k]!.cnt) : recordedB l = true := by
  unfold recordedB
  rw [List.all_eq_true]
  intro m hm
  obtain ⟨k, hk, rfl⟩ := List.getElem_of_mem hm
  have := h k hk
  rw [getElem!_pos l k hk] at this
  exact decide_eq_true this
theorem enters_18 : ∀ args w, (callFunc 18 args).run Try.prog w = .ok (.enter 18 args) w := enters_of Try.func18 (by kernel_rfl) rfl
set_option maxHeartbeats 2000000 in
theorem recordedR_calls (v : Value) (l : List Mk) (w : World) (h : Sl RMk 3 w v l) (hl : LightM l) :
    Calls Try.prog 18 #[v] w fun e w' => e = .returned (.bool (recordedB l)) ∧ Drawn w w' := by
  have HS := Lib.hid h
  have hl1 := hl.1
  obtain ⟨va, vcap, rfl, hvc⟩ := h.sh
  have HNO := Lib.hid (fun k => reco_no (l := l) (k := k))
  have HYE := Lib.hid (reco_yes (l := l))
  generalize recordedB l = ans at *
  obtain ⟨n, hn⟩ : ∃ n, l.length = n := ⟨_, rfl⟩
  have HN := Lib.hid hn
  rw [hn] at hl1 hvc HNO HYE ⊢
  clear h hl hn
  go_enter Try.func18, Try.ntmps18
  go_wp2
  go_loopg [3] n (fun g s3 wr => ∃ k : Nat, k ≤ n ∧ n - k ≤ g ∧ s3 = .int .i64 k ∧ Aside (Drawn w wr) ∧ Aside (∀ j, j < k → 0 ≤ l[j]!.cnt))
  case atStart => exact ⟨0, Nat.zero_le _, by omega, rfl, (show Drawn _ _ from Drawn.rf _), (fun j hj => absurd hj (Nat.not_lt_zero _))⟩
  case round =>
    obtain ⟨k, hk, hgk, rfl, HE, A⟩ := hrel
    by_cases hlt : k < n
    case neg =>
      have hkz : ¬ (k : Int) < (n : Int) := by omega
      have HA := Lib.hid (HYE.out (fun j hj => A.out j (by omega)))
      go_wp2
      go_ret
      exact ⟨by rw [HA.out]; rfl, HE.out⟩
    case pos =>
      have hkz : (k : Int) < (n : Int) := by omega
      have hkz0 : (0 : Int) ≤ (k : Int) := by omega
      obtain ⟨B, O, C, ua, uc, y, hve, hlC, hBw, p0, p1, p2, hb, hs⟩ := mark_at HS.out k (by rw [HN.out]; exact hlt)
      simp only [Value.slice.injEq] at hve
      obtain ⟨rfl, hz1, rfl⟩ := hve
      have P0 := HE.out.ext.cl p0
      have HNK := Lib.hid (HNO.out k hlt)
      have HST : Hid (0 ≤ l[k]!.cnt → ∀ j, j < k + 1 → 0 ≤ l[j]!.cnt) := Lib.hid (fun h j hj => by
        by_cases e : j = k
        · subst e; exact h
        · exact A.out j (by omega))
      generalize l[k]!.cnt = cn at *
      clear p0 p1 p2 hz1 hb hs
      by_cases hc : 0 ≤ cn
      case neg =>
        have g1 : decide (cn < 0) = true := decide_eq_true (by omega)
        have HA := Lib.hid (HNK.out (by omega))
        clear hc
        go_wp2
        go_ret
        exact ⟨by rw [HA.out]; rfl, HE.out⟩
      case pos =>
        have g1 : decide (cn < 0) = false := decide_eq_false (by omega)
        have HS2 := Lib.hid (HST.out hc)
        clear hc
        go_wp2
        go_roundg (n - (k + 1))
        case measure => omega
        case rel => exact ⟨k + 1, by omega, by omega, by go_num, (show Drawn _ _ from HE.out), (show Aside _ from HS2.out)⟩

theorem enters_20 : ∀ args w, (callFunc 20 args).run Try.prog w = .ok (.enter 20 args) w := enters_of Try.func20 (by kernel_rfl) rfl
set_option maxHeartbeats 4000000 in
set_option maxRecDepth 100000 in
theorem cutR50_calls (v : Value) (l : List Mk) (w : World) (h : Sl RMk 3 w v l) (hl : LightM l) :
    Calls Try.prog 20 #[v] w fun e w' => IntsOut w w' e (cntsL l) := by
  obtain ⟨ii, hii, iz0, iz1, iz2⟩ := info_partsM info_intG
  have HS := Lib.hid h
  have hl1 := hl.1
  obtain ⟨va, vcap, rfl, hvc⟩ := h.sh
  obtain ⟨n, hn⟩ : ∃ n, l.length = n := ⟨_, rfl⟩
  have HN := Lib.hid hn
  rw [hn] at hl1 hvc ⊢
  clear h hl hn
  go_enter Try.func20, Try.ntmps20
  go_wp2
  go_loopg [3, 4] n (fun g s3 s4 wr => ∃ k : Nat, k ≤ n ∧ n - k ≤ g ∧ s4 = .int .i64 k ∧ Aside (Row wr w.heap.size 3 1 s3 k (((cntsL l).take k).map (Value.int .i64))) ∧ Aside (Ext w wr))
  case atStart => exact ⟨0, Nat.zero_le _, by omega, rfl, (show Row _ _ _ _ _ _ _ from Row.mkNil _ _ _ _), (show Ext _ _ from Ext.rf _)⟩
  case round =>
    obtain ⟨k, hk, hgk, rfl, HR, HE⟩ := hrel
    obtain ⟨xa, xc, hxe, hxz⟩ := HR.out.any
    subst hxe
    clear hxz
    by_cases hlt : k < n
    case neg =>
      have hkz : ¬ (k : Int) < (n : Int) := by omega
      obtain rfl : n = k := by omega
      have HT : Hid ((cntsL l).take n = cntsL l) := Lib.hid (List.take_of_length_le (by rw [cnts_len, HN.out]; omega))
      go_wp2
      go_ret
      refine ⟨_, rfl, ?_, HE.out⟩
      rw [cnts_len, HN.out]
      have h := HR.out
      rwa [HT.out] at h
    case pos =>
      have hkz : (k : Int) < (n : Int) := by omega
      have hkz0 : (0 : Int) ≤ (k : Int) := by omega
      obtain ⟨B, O, C, ua, uc, y, hve, hlC, hBw, p0, p1, p2, hb, hs⟩ := mark_at HS.out k (by rw [HN.out]; exact hlt)
      simp only [Value.slice.injEq] at hve
      obtain ⟨rfl, hz1, rfl⟩ := hve
      have P0 := HE.out.cl p0
      have HTK : Hid ((cntsL l).take (k + 1) = (cntsL l).take k ++ [l[k]!.cnt]) := Lib.hid (by rw [take_succ_get (by rw [cnts_len, HN.out]; exact hlt), cnts_at (by rw [HN.out]; exact hlt)])
      generalize l[k]!.cnt = cn at *
      have hszA := HE.out.sz
      clear p0 p1 p2 hz1 hb hs
      go_wp2_with ((at_builtin; go_loud (refine wpList_append_one rfl _ _ 25 rfl w.heap.size 3 ii (.int .i64 0) 1 8 Try.underlying25 hii iz0 iz1 iz2 rfl (by decide) _ k _ rfl (HR.out.al _) wr.heap.size 1 [.int .i64 cn] rfl rfl ⟨_, heap_alloc_new _ _⟩ (by simp [Value.oneCell']) (by unfold maxLen; omega) (by omega) (by simp; omega) ?_; intro v8 w8 hown8 hgrow8 hblk8; have HOWN := Lib.hid hown8; have HX9 := Lib.hid ((HE.out.al _).gr hgrow8 (fun z hz => (HR.out.lt z hz).1)); clear hown8 hgrow8 hblk8)))
      go_roundg (n - (k + 1))
      case measure => omega
      case rel => exact ⟨k + 1, by omega, by omega, by go_num, (show Row _ _ _ _ _ _ _ from by rw [HTK.out, List.map_append]; exact HOWN.out), (show Ext _ _ from HX9.out)⟩

end Go.Proofs.Ytfagfooggcinoaa
