/-
  The law's own test of agents.
-/
import Derived.Test.YtpjnppkhhbnfoaaBase
import Derived.Test.YtpjnppkhhbnfoaaProg
import Derived.BigQuiet
import Derived.Deep.QuietTactic
import Derived.Deep.LoopGhost
import Derived.Shelf.Abstract
import Derived.Test.YtpjnppkhhbnfoaaRq
import Derived.Test.YtpjnppkhhbnfoaaBoxG
import Derived.Test.YtpjnppkhhbnfoaaRowRows
namespace Go.Proofs.Ytpjnppkhhbnfoaa
open Go.RowKit
set_option linter.unusedVariables false

set_option maxHeartbeats 400000 in
theorem indexFunc_rows {α : Type} [Inhabited α] (R : World → List Value → α → Prop) (hLasts : Lasts R) (g : Nat) (cb : Array Value) (eg : ∀ args w, (callFunc g args).run Try.prog w = .ok (.enter g args) w) (p : α → Bool) (v : Value) (l : List α) (w : World)
    (hv : Sl R 1 w v l) (hn : l.length ≤ 1000000) (hp : SaysOf Try.prog R encOne g cb p l w) :
    Calls Try.prog 36 #[v, .func (.func g) #[] cb] w fun e w' => e = .returned (.int .i64 (firstAt p l)) ∧ Ext w w' := by
  obtain ⟨a, c, rfl, hlc, hv⟩ := hv
  have HLC := Lib.hid hlc; clear hlc
  have HV := Lib.hid hv; clear hv
  have HP := Lib.hid hp; clear hp
  have HT := Lib.hid hLasts; clear hLasts
  generalize hln : l.length = n at hn
  have HL := Lib.hid hln; clear hln
  go_enter Try.func36, Try.ntmps36
  go_wp2
  go_loopg [5, 8] n (fun m _ s8 wr => ∃ k : Nat, k ≤ n ∧ n - k ≤ m ∧ s8 = .int .i64 k ∧ Ext w wr ∧ Aside (∀ j, j < k → p l[j]! = false))
  case atStart => exact ⟨0, Nat.zero_le _, by omega, rfl, Below.refl _ _, (fun j hj => absurd hj (Nat.not_lt_zero _))⟩
  case round =>
    obtain ⟨k, hk, hm, rfl, he, A⟩ := hrel
    have HE := Lib.hid he; clear he
    by_cases hlt : k < n
    · obtain ⟨b, off, rfl, hb, hc⟩ := HV.out (by intro e; have := HL.out; simp [e] at this; omega)
      obtain ⟨vs, hvs, hR, hcell⟩ := hc k (by rw [HL.out]; exact hlt)
      obtain ⟨c0, rfl⟩ : ∃ c0, vs = [c0] := by match vs, hvs with | [c0], _ => exact ⟨c0, rfl⟩
      have d0 : wr.cell? ⟨b, off + k * 1, none⟩ = some c0 := (HE.out.cell hb).trans (hcell 0 (by omega))
      rw [Nat.mul_one] at d0
      have hltz : (k : Int) < (n : Int) := by omega
      clear hc hcell
      have hcall := HP.out _ (mem_at l k (by rw [HL.out]; exact hlt)) wr _ HE.out (HT.out _ _ _ _ hR HE.out)
      unfold encOne at hcall
      generalize hy : l[k]! = y at hcall hR
      have B := Lib.hid hy
      clear hy hR hvs HV HT HP
      cases hq : p y with
      | true =>
        rw [hq] at hcall
        have HQ := Lib.hid hq; clear hq
        go_wp2_with (go_at_fn g; refine hcall.mono ?_; rintro e w' ⟨rfl, he'⟩)
        go_ret
        exact ⟨by rw [firstAt_hit p l k (by rw [HL.out]; omega) (by rw [B.out]; exact HQ.out) A.out]; rfl, HE.out.trans' he'⟩
      | false =>
        rw [hq] at hcall
        have HQ := Lib.hid hq; clear hq
        go_wp2_with (go_at_fn g; refine hcall.mono ?_; rintro e w' ⟨rfl, he'⟩)
        go_roundg (n - (k + 1))
        case measure => omega
        case rel =>
          refine ⟨k + 1, by omega, by omega, by go_num, HE.out.trans' he', (show Aside _ from fun j hj => ?_)⟩
          by_cases e : j = k
          · subst e
            rw [B.out]; exact HQ.out
          · exact A.out j (by omega)
    · have hltz : ¬ (k : Int) < (n : Int) := by omega
      go_wp2
      go_ret
      exact ⟨by rw [firstAt_miss p l (fun j hj => A.out j (by rw [HL.out] at hj; omega))]; rfl, HE.out⟩

theorem enters_36 : ∀ args w, (callFunc 36 args).run Try.prog w = .ok (.enter 36 args) w := enters_of Try.func36 (by kernel_rfl) rfl

set_option maxHeartbeats 400000 in
theorem containsFunc_rows {α : Type} [Inhabited α] (R : World → List Value → α → Prop) (hLasts : Lasts R) (g : Nat) (cb : Array Value) (eg : ∀ args w, (callFunc g args).run Try.prog w = .ok (.enter g args) w) (p : α → Bool) (v : Value) (l : List α) (w : World)
    (hv : Sl R 1 w v l) (hn : l.length ≤ 1000000) (hp : SaysOf Try.prog R encOne g cb p l w) :
    Calls Try.prog 20 #[v, .func (.func g) #[] cb] w fun e w' => e = .returned (.bool (l.any p)) ∧ Ext w w' := by
  have HI := Lib.hid (indexFunc_rows R hLasts g cb eg p v l w hv hn hp)
  clear hv hp eg hLasts
  rw [← firstAt_any]
  go_enter Try.func20, Try.ntmps20
  go_wp2_with (go_at_call 36; refine HI.out.mono ?_; rintro e w' ⟨rfl, he'⟩)
  go_ret
  exact ⟨rfl, he'⟩

set_option maxHeartbeats 400000 in
theorem indexFunc_agents {α : Type} [Inhabited α] (R : World → List Value → α → Prop) (hLasts : Lasts R) (g : Nat) (cb : Array Value) (eg : ∀ args w, (callFunc g args).run Try.prog w = .ok (.enter g args) w) (p : α → Bool) (v : Value) (l : List α) (w : World)
    (hv : Sl R 3 w v l) (hn : l.length ≤ 1000000) (hp : SaysOf Try.prog R encAgg g cb p l w) :
    Calls Try.prog 35 #[v, .func (.func g) #[] cb] w fun e w' => e = .returned (.int .i64 (firstAt p l)) ∧ Ext w w' := by
  obtain ⟨a, c, rfl, hlc, hv⟩ := hv
  have HLC := Lib.hid hlc; clear hlc
  have HV := Lib.hid hv; clear hv
  have HP := Lib.hid hp; clear hp
  have HT := Lib.hid hLasts; clear hLasts
  generalize hln : l.length = n at hn
  have HL := Lib.hid hln; clear hln
  go_enter Try.func35, Try.ntmps35
  go_wp2
  go_loopg [5, 8] n (fun m _ s8 wr => ∃ k : Nat, k ≤ n ∧ n - k ≤ m ∧ s8 = .int .i64 k ∧ Ext w wr ∧ Aside (∀ j, j < k → p l[j]! = false))
  case atStart => exact ⟨0, Nat.zero_le _, by omega, rfl, Below.refl _ _, (fun j hj => absurd hj (Nat.not_lt_zero _))⟩
  case round =>
    obtain ⟨k, hk, hm, rfl, he, A⟩ := hrel
    have HE := Lib.hid he; clear he
    by_cases hlt : k < n
    · obtain ⟨b, off, rfl, hb, hc⟩ := HV.out (by intro e; have := HL.out; simp [e] at this; omega)
      obtain ⟨vs, hvs, hR, hcell⟩ := hc k (by rw [HL.out]; exact hlt)
      obtain ⟨c0, c1, c2, rfl⟩ : ∃ c0 c1 c2, vs = [c0, c1, c2] := by match vs, hvs with | [c0, c1, c2], _ => exact ⟨c0, c1, c2, rfl⟩
      have d0 : wr.cell? ⟨b, off + k * 3, none⟩ = some c0 := (HE.out.cell hb).trans (hcell 0 (by omega))
      have d1 : wr.cell? ⟨b, off + k * 3 + 1, none⟩ = some c1 := (HE.out.cell hb).trans (hcell 1 (by omega))
      have d2 : wr.cell? ⟨b, off + k * 3 + 2, none⟩ = some c2 := (HE.out.cell hb).trans (hcell 2 (by omega))
      have hltz : (k : Int) < (n : Int) := by omega
      clear hc hcell
      have hcall := HP.out _ (mem_at l k (by rw [HL.out]; exact hlt)) wr _ HE.out (HT.out _ _ _ _ hR HE.out)
      unfold encAgg at hcall
      generalize hy : l[k]! = y at hcall hR
      have B := Lib.hid hy
      clear hy hR hvs HV HT HP
      cases hq : p y with
      | true =>
        rw [hq] at hcall
        have HQ := Lib.hid hq; clear hq
        go_wp2_with (go_at_fn g; refine hcall.mono ?_; rintro e w' ⟨rfl, he'⟩)
        go_ret
        exact ⟨by rw [firstAt_hit p l k (by rw [HL.out]; omega) (by rw [B.out]; exact HQ.out) A.out]; rfl, HE.out.trans' he'⟩
      | false =>
        rw [hq] at hcall
        have HQ := Lib.hid hq; clear hq
        go_wp2_with (go_at_fn g; refine hcall.mono ?_; rintro e w' ⟨rfl, he'⟩)
        go_roundg (n - (k + 1))
        case measure => omega
        case rel =>
          refine ⟨k + 1, by omega, by omega, by go_num, HE.out.trans' he', (show Aside _ from fun j hj => ?_)⟩
          by_cases e : j = k
          · subst e
            rw [B.out]; exact HQ.out
          · exact A.out j (by omega)
    · have hltz : ¬ (k : Int) < (n : Int) := by omega
      go_wp2
      go_ret
      exact ⟨by rw [firstAt_miss p l (fun j hj => A.out j (by rw [HL.out] at hj; omega))]; rfl, HE.out⟩

theorem enters_35 : ∀ args w, (callFunc 35 args).run Try.prog w = .ok (.enter 35 args) w := enters_of Try.func35 (by kernel_rfl) rfl

set_option maxHeartbeats 400000 in
theorem containsFunc_agents {α : Type} [Inhabited α] (R : World → List Value → α → Prop) (hLasts : Lasts R) (g : Nat) (cb : Array Value) (eg : ∀ args w, (callFunc g args).run Try.prog w = .ok (.enter g args) w) (p : α → Bool) (v : Value) (l : List α) (w : World)
    (hv : Sl R 3 w v l) (hn : l.length ≤ 1000000) (hp : SaysOf Try.prog R encAgg g cb p l w) :
    Calls Try.prog 18 #[v, .func (.func g) #[] cb] w fun e w' => e = .returned (.bool (l.any p)) ∧ Ext w w' := by
  have HI := Lib.hid (indexFunc_agents R hLasts g cb eg p v l w hv hn hp)
  clear hv hp eg hLasts
  rw [← firstAt_any]
  go_enter Try.func18, Try.ntmps18
  go_wp2_with (go_at_call 35; refine HI.out.mono ?_; rintro e w' ⟨rfl, he'⟩)
  go_ret
  exact ⟨rfl, he'⟩

def muchV (v : List Int) : Bool := decide (12 < v.length)
def muchA (a : Ag) : Bool := decide (70 < a.queue.length) || a.queue.any muchV
def fewB (l : List Ag) : Bool := decide (l.length ≤ 12) && !l.any muchA
theorem few_small {l : List Ag} (h : fewB l = true) : SmallT l ∧ l.length ≤ 12 := by
  simp only [fewB, Bool.and_eq_true, decide_eq_true_eq, Bool.not_eq_true'] at h
  obtain ⟨h1, h2⟩ := h
  refine ⟨⟨by omega, fun p hp => ?_⟩, h1⟩
  have h3 := List.any_eq_false.1 h2 _ (mem_at l p hp)
  simp only [muchA, Bool.or_eq_true, decide_eq_true_eq, not_or] at h3
  refine ⟨by omega, fun i hi => ?_⟩
  have h5 := h3.2
  rw [Bool.not_eq_true] at h5
  have := List.any_eq_false.1 h5 _ (mem_at l[p]!.queue i hi)
  simp only [muchV, decide_eq_true_eq] at this
  omega

theorem enters_19 : ∀ args w, (callFunc 19 args).run Try.prog w = .ok (.enter 19 args) w := enters_of Try.func19 (by kernel_rfl) rfl
theorem enters_21 : ∀ args w, (callFunc 21 args).run Try.prog w = .ok (.enter 21 args) w := enters_of Try.func21 (by kernel_rfl) rfl

set_option maxHeartbeats 400000 in
theorem few11_calls (v : Value) (l : List Int) (w : World) (hv : Ints w v l) : Calls Try.prog 21 #[v] w fun e w' => e = .returned (.bool (muchV l)) ∧ Ext w w' := by
  obtain ⟨a, c, rfl, _, _⟩ := hv
  go_enter Try.func21, Try.ntmps21
  go_wp2
  go_ret
  exact ⟨by simp [muchV]; omega, Ext.rf _⟩

set_option maxHeartbeats 2000000 in
theorem few1_calls (vs : List Value) (x : Ag) (w : World) (hv : RAgent w vs x) : Calls Try.prog 19 #[.agg vs.toArray] w fun e w' => e = .returned (.bool (muchA x)) ∧ Ext w w' := by
  obtain ⟨q, rfl, hq⟩ := hv
  have HQ := Lib.hid hq
  obtain ⟨a, c, rfl, hlc⟩ := hq.shape
  clear hq
  generalize hb : muchA x = b
  have HB := Lib.hid hb
  clear hb
  generalize hn : x.queue.length = n at *
  have HN := Lib.hid hn
  clear hn
  have HBX := Lib.hid (heap_alloc_new w (.cells #[.slice a n c, .int .i64 x.dropped, .bool x.ended] 49))
  have x0 := cellOf HBX.out 0
  simp only [List.getElem?_toArray, List.getElem?_cons_zero] at x0
  by_cases h70 : 70 < n
  · have b1 : decide (70 < (n : Int)) = true := by simp; omega
    have b1n : decide (70 < n) = true := by simp; omega
    go_enter Try.func19, Try.ntmps19
    go_wp2
    go_ret
    exact ⟨by rw [← HB.out, muchA, HN.out, decide_eq_true h70]; rfl, (by repeat (first | refine Ext.st ?_ (by first | exact Nat.le_refl _ | exact Nat.le_succ _ | assumption | omega) _ | refine Ext.al ?_ _ | refine Ext.dr ?_ | refine Ext.drN ?_ _ | exact Ext.rf _))⟩
  · have b1 : decide (70 < (n : Int)) = false := by simp; omega
    have b1n : decide (70 < n) = false := by simp; omega
    have HCF := Lib.hid (fun W (hW : Ext w W) => containsFunc_rows RInts rints_lasts 21 #[] enters_21 muchV (.slice a n c) x.queue W (HQ.out.ext rints_lasts hW) (by rw [HN.out]; omega) (fun x hx W vs hW hR => by obtain ⟨u, rfl, hu⟩ := hR; exact few11_calls u x W hu))
    go_enter Try.func19, Try.ntmps19
    go_wp2_with fail
    refine (HCF.out _ (by repeat (first | refine Ext.st ?_ (by first | exact Nat.le_refl _ | exact Nat.le_succ _ | assumption | omega) _ | refine Ext.al ?_ _ | refine Ext.dr ?_ | refine Ext.drN ?_ _ | exact Ext.rf _))).mono ?_
    rintro e w2 ⟨rfl, hE⟩
    have HE := Lib.hid (show Ext w w2 from Ext.trans' (by repeat (first | refine Ext.st ?_ (by first | exact Nat.le_refl _ | exact Nat.le_succ _ | assumption | omega) _ | refine Ext.al ?_ _ | refine Ext.dr ?_ | refine Ext.drN ?_ _ | exact Ext.rf _)) hE)
    clear hE x0
    generalize hab : x.queue.any muchV = ab
    have HAB := Lib.hid hab
    clear hab
    go_wp2
    go_ret
    exact ⟨by rw [← HB.out, muchA, HN.out, decide_eq_false h70, HAB.out]; rfl, HE.out⟩

set_option maxHeartbeats 2000000 in
theorem few_calls (v : Value) (l : List Ag) (w : World) (h : Sl RAgent 3 w v l) :
    Calls Try.prog 5 #[v] w fun e w' => e = .returned (.bool (fewB l)) ∧ Ext w w' := by
  have HQ := Lib.hid h
  obtain ⟨a, c, rfl, hlc⟩ := h.shape
  clear h
  generalize hb : fewB l = b
  have HB := Lib.hid hb
  clear hb
  generalize hn : l.length = n at *
  have HN := Lib.hid hn
  clear hn
  by_cases h12 : n ≤ 12
  · have b1 : decide ((n : Int) ≤ 12) = true := by simp; omega
    have b1n : decide (n ≤ 12) = true := by simp; omega
    have HCF := Lib.hid (containsFunc_agents RAgent ragent_lasts 19 #[] enters_19 muchA (.slice a n c) l w HQ.out (by rw [HN.out]; omega) (fun x hx W vs hW hR => few1_calls vs x W hR))
    go_enter Try.func5, Try.ntmps5
    go_wp2_with fail
    refine HCF.out.mono ?_
    rintro e w2 ⟨rfl, hE⟩
    have HE := Lib.hid hE
    clear hE
    generalize hab : l.any muchA = ab
    have HAB := Lib.hid hab
    clear hab
    go_wp2
    go_ret
    exact ⟨by rw [← HB.out, fewB, HN.out, decide_eq_true h12, HAB.out]; rfl, HE.out⟩
  · have b1 : decide ((n : Int) ≤ 12) = false := by simp; omega
    have b1n : decide (n ≤ 12) = false := by simp; omega
    go_enter Try.func5, Try.ntmps5
    go_wp2
    go_ret
    exact ⟨by rw [← HB.out, fewB, HN.out, decide_eq_false h12]; rfl, Ext.rf _⟩

end Go.Proofs.Ytpjnppkhhbnfoaa
