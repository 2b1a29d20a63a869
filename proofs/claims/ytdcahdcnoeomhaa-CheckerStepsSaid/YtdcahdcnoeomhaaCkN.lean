/-
  The law's own test of a checker, and small contracts of both texts.
-/
import Derived.Test.YtdcahdcnoeomhaaBase
import Derived.Test.YtdcahdcnoeomhaaProg
import Derived.BigQuiet
import Derived.Deep.QuietTactic
import Derived.Deep.LoopGhost
import Derived.Shelf.Abstract
import Derived.Test.YtdcahdcnoeomhaaCkE
import Derived.Test.YtdcahdcnoeomhaaRowRows
import Derived.Test.YtdcahdcnoeomhaaCkF
namespace Go.Proofs.Ytdcahdcnoeomhaa
open Go.RowKit
set_option linter.unusedVariables false

set_option maxHeartbeats 400000 in
theorem indexFunc_rows {α : Type} [Inhabited α] (R : World → List Value → α → Prop) (hLasts : Lasts R) (g : Nat) (cb : Array Value) (eg : ∀ args w, (callFunc g args).run Try.prog w = .ok (.enter g args) w) (p : α → Bool) (v : Value) (l : List α) (w : World)
    (hv : Sl R 1 w v l) (hn : l.length ≤ 1000000) (hp : SaysOf Try.prog R encOne g cb p l w) :
    Calls Try.prog 42 #[v, .func (.func g) #[] cb] w fun e w' => e = .returned (.int .i64 (firstAt p l)) ∧ Ext w w' := by
  obtain ⟨a, c, rfl, hlc, hv⟩ := hv
  have HLC := Lib.hid hlc; clear hlc
  have HV := Lib.hid hv; clear hv
  have HP := Lib.hid hp; clear hp
  have HT := Lib.hid hLasts; clear hLasts
  generalize hln : l.length = n at hn
  have HL := Lib.hid hln; clear hln
  go_enter Try.func42, Try.ntmps42
  go_wp2
  go_loopg [5, 8] n (fun m _ s8 wr => ∃ k : Nat, k ≤ n ∧ n - k ≤ m ∧ s8 = .int .i64 k ∧ Ext w wr ∧ Aside (∀ j, j < k → p l[j]! = false))
  case atStart => exact ⟨0, Nat.zero_le _, by omega, rfl, Below.refl _ _, (fun j hj => absurd hj (Nat.not_lt_zero _))⟩
  case round =>
    obtain ⟨k, hk, hm, rfl, he, A⟩ := hrel
    have HE := Lib.hid he; clear he
    by_cases hlt : k < n
    · obtain ⟨b, off, rfl, hb, hc⟩ := HV.out (by intro e; have := HL.out; simp [e] at this; omega)
      obtain ⟨vs, hvs, hR, hcell⟩ := hc k (by rw [HL.out]; exact hlt)
      obtain ⟨c0, rfl⟩ : ∃ c0, vs = [c0] := by match vs, hvs with | [c0], _ => exact ⟨c0, rfl⟩
      have d0 : wr.cell? ⟨b, off + k * 1, none⟩ = some c0 := (HE.out.cell hb).trans (hcell 0 (by omega))
      rw [Nat.mul_one] at d0
      have hltz : (k : Int) < (n : Int) := by omega
      clear hc hcell
      have hcall := HP.out _ (mem_at l k (by rw [HL.out]; exact hlt)) wr _ HE.out (HT.out _ _ _ _ hR HE.out)
      unfold encOne at hcall
      generalize hy : l[k]! = y at hcall hR
      have B := Lib.hid hy
      clear hy hR hvs HV HT HP
      cases hq : p y with
      | true =>
        rw [hq] at hcall
        have HQ := Lib.hid hq; clear hq
        go_wp2_with (go_at_fn g; refine hcall.mono ?_; rintro e w' ⟨rfl, he'⟩)
        go_ret
        exact ⟨by rw [firstAt_hit p l k (by rw [HL.out]; omega) (by rw [B.out]; exact HQ.out) A.out]; rfl, HE.out.trans' he'⟩
      | false =>
        rw [hq] at hcall
        have HQ := Lib.hid hq; clear hq
        go_wp2_with (go_at_fn g; refine hcall.mono ?_; rintro e w' ⟨rfl, he'⟩)
        go_roundg (n - (k + 1))
        case measure => omega
        case rel =>
          refine ⟨k + 1, by omega, by omega, by go_num, HE.out.trans' he', (show Aside _ from fun j hj => ?_)⟩
          by_cases e : j = k
          · subst e
            rw [B.out]; exact HQ.out
          · exact A.out j (by omega)
    · have hltz : ¬ (k : Int) < (n : Int) := by omega
      go_wp2
      go_ret
      exact ⟨by rw [firstAt_miss p l (fun j hj => A.out j (by rw [HL.out] at hj; omega))]; rfl, HE.out⟩

theorem enters_42 : ∀ args w, (callFunc 42 args).run Try.prog w = .ok (.enter 42 args) w := enters_of Try.func42 (by kernel_rfl) rfl

set_option maxHeartbeats 400000 in
theorem containsFunc_rows {α : Type} [Inhabited α] (R : World → List Value → α → Prop) (hLasts : Lasts R) (g : Nat) (cb : Array Value) (eg : ∀ args w, (callFunc g args).run Try.prog w = .ok (.enter g args) w) (p : α → Bool) (v : Value) (l : List α) (w : World)
    (hv : Sl R 1 w v l) (hn : l.length ≤ 1000000) (hp : SaysOf Try.prog R encOne g cb p l w) :
    Calls Try.prog 24 #[v, .func (.func g) #[] cb] w fun e w' => e = .returned (.bool (l.any p)) ∧ Ext w w' := by
  have HI := Lib.hid (indexFunc_rows R hLasts g cb eg p v l w hv hn hp)
  clear hv hp eg hLasts
  rw [← firstAt_any]
  go_enter Try.func24, Try.ntmps24
  go_wp2_with (go_at_call 42; refine HI.out.mono ?_; rintro e w' ⟨rfl, he'⟩)
  go_ret
  exact ⟨rfl, he'⟩

set_option maxHeartbeats 400000 in
theorem indexFunc_queues {α : Type} [Inhabited α] (R : World → List Value → α → Prop) (hLasts : Lasts R) (g : Nat) (cb : Array Value) (eg : ∀ args w, (callFunc g args).run Try.prog w = .ok (.enter g args) w) (p : α → Bool) (v : Value) (l : List α) (w : World)
    (hv : Sl R 1 w v l) (hn : l.length ≤ 1000000) (hp : SaysOf Try.prog R encOne g cb p l w) :
    Calls Try.prog 41 #[v, .func (.func g) #[] cb] w fun e w' => e = .returned (.int .i64 (firstAt p l)) ∧ Ext w w' := by
  obtain ⟨a, c, rfl, hlc, hv⟩ := hv
  have HLC := Lib.hid hlc; clear hlc
  have HV := Lib.hid hv; clear hv
  have HP := Lib.hid hp; clear hp
  have HT := Lib.hid hLasts; clear hLasts
  generalize hln : l.length = n at hn
  have HL := Lib.hid hln; clear hln
  go_enter Try.func41, Try.ntmps41
  go_wp2
  go_loopg [5, 8] n (fun m _ s8 wr => ∃ k : Nat, k ≤ n ∧ n - k ≤ m ∧ s8 = .int .i64 k ∧ Ext w wr ∧ Aside (∀ j, j < k → p l[j]! = false))
  case atStart => exact ⟨0, Nat.zero_le _, by omega, rfl, Below.refl _ _, (fun j hj => absurd hj (Nat.not_lt_zero _))⟩
  case round =>
    obtain ⟨k, hk, hm, rfl, he, A⟩ := hrel
    have HE := Lib.hid he; clear he
    by_cases hlt : k < n
    · obtain ⟨b, off, rfl, hb, hc⟩ := HV.out (by intro e; have := HL.out; simp [e] at this; omega)
      obtain ⟨vs, hvs, hR, hcell⟩ := hc k (by rw [HL.out]; exact hlt)
      obtain ⟨c0, rfl⟩ : ∃ c0, vs = [c0] := by match vs, hvs with | [c0], _ => exact ⟨c0, rfl⟩
      have d0 : wr.cell? ⟨b, off + k * 1, none⟩ = some c0 := (HE.out.cell hb).trans (hcell 0 (by omega))
      rw [Nat.mul_one] at d0
      have hltz : (k : Int) < (n : Int) := by omega
      clear hc hcell
      have hcall := HP.out _ (mem_at l k (by rw [HL.out]; exact hlt)) wr _ HE.out (HT.out _ _ _ _ hR HE.out)
      unfold encOne at hcall
      generalize hy : l[k]! = y at hcall hR
      have B := Lib.hid hy
      clear hy hR hvs HV HT HP
      cases hq : p y with
      | true =>
        rw [hq] at hcall
        have HQ := Lib.hid hq; clear hq
        go_wp2_with (go_at_fn g; refine hcall.mono ?_; rintro e w' ⟨rfl, he'⟩)
        go_ret
        exact ⟨by rw [firstAt_hit p l k (by rw [HL.out]; omega) (by rw [B.out]; exact HQ.out) A.out]; rfl, HE.out.trans' he'⟩
      | false =>
        rw [hq] at hcall
        have HQ := Lib.hid hq; clear hq
        go_wp2_with (go_at_fn g; refine hcall.mono ?_; rintro e w' ⟨rfl, he'⟩)
        go_roundg (n - (k + 1))
        case measure => omega
        case rel =>
          refine ⟨k + 1, by omega, by omega, by go_num, HE.out.trans' he', (show Aside _ from fun j hj => ?_)⟩
          by_cases e : j = k
          · subst e
            rw [B.out]; exact HQ.out
          · exact A.out j (by omega)
    · have hltz : ¬ (k : Int) < (n : Int) := by omega
      go_wp2
      go_ret
      exact ⟨by rw [firstAt_miss p l (fun j hj => A.out j (by rw [HL.out] at hj; omega))]; rfl, HE.out⟩

theorem enters_41 : ∀ args w, (callFunc 41 args).run Try.prog w = .ok (.enter 41 args) w := enters_of Try.func41 (by kernel_rfl) rfl

set_option maxHeartbeats 400000 in
theorem containsFunc_queues {α : Type} [Inhabited α] (R : World → List Value → α → Prop) (hLasts : Lasts R) (g : Nat) (cb : Array Value) (eg : ∀ args w, (callFunc g args).run Try.prog w = .ok (.enter g args) w) (p : α → Bool) (v : Value) (l : List α) (w : World)
    (hv : Sl R 1 w v l) (hn : l.length ≤ 1000000) (hp : SaysOf Try.prog R encOne g cb p l w) :
    Calls Try.prog 22 #[v, .func (.func g) #[] cb] w fun e w' => e = .returned (.bool (l.any p)) ∧ Ext w w' := by
  have HI := Lib.hid (indexFunc_queues R hLasts g cb eg p v l w hv hn hp)
  clear hv hp eg hLasts
  rw [← firstAt_any]
  go_enter Try.func22, Try.ntmps22
  go_wp2_with (go_at_call 41; refine HI.out.mono ?_; rintro e w' ⟨rfl, he'⟩)
  go_ret
  exact ⟨rfl, he'⟩

def greatV (v : List Int) : Bool := decide (20 < v.length)
def greatQ (q : List (List Int)) : Bool := decide (70 < q.length) || q.any greatV
def greatB (s : Ck) : Bool := decide (10 < s.qs.length) || (decide (20 < s.ended.length) || (decide (20 < s.cut.length) || s.qs.any greatQ))
theorem great_small {s : Ck} (h : greatB s = false) : SmallC s ∧ s.qs.length ≤ 10 ∧ s.ended.length ≤ 20 ∧ s.cut.length ≤ 20 ∧ ∀ p, p < s.qs.length → s.qs[p]!.length ≤ 70 := by
  simp only [greatB, Bool.or_eq_false_iff, decide_eq_false_iff_not] at h
  obtain ⟨h1, h2, h3, h4⟩ := h
  have hq : ∀ p, p < s.qs.length → s.qs[p]!.length ≤ 70 ∧ ∀ i, i < s.qs[p]!.length → s.qs[p]![i]!.length ≤ 20 := by
    intro p hp
    have := List.any_eq_false.1 h4 _ (mem_at s.qs p hp)
    simp only [greatQ, Bool.or_eq_true, decide_eq_true_eq, not_or] at this
    refine ⟨by omega, fun i hi => ?_⟩
    have h5 := this.2
    rw [Bool.not_eq_true] at h5
    have := List.any_eq_false.1 h5 _ (mem_at s.qs[p]! i hi)
    simp only [greatV, decide_eq_true_eq] at this
    omega
  exact ⟨⟨by omega, by omega, by omega, fun p hp => ⟨by have := (hq p hp).1; omega, fun i hi => by have := (hq p hp).2 i hi; omega⟩⟩, by omega, by omega, by omega, fun p hp => (hq p hp).1⟩

theorem enters_23 : ∀ args w, (callFunc 23 args).run Try.prog w = .ok (.enter 23 args) w := enters_of Try.func23 (by kernel_rfl) rfl
theorem enters_25 : ∀ args w, (callFunc 25 args).run Try.prog w = .ok (.enter 25 args) w := enters_of Try.func25 (by kernel_rfl) rfl

set_option maxHeartbeats 400000 in
theorem great11_calls (v : Value) (l : List Int) (w : World) (hv : Ints w v l) : Calls Try.prog 25 #[v] w fun e w' => e = .returned (.bool (greatV l)) ∧ Ext w w' := by
  obtain ⟨a, c, rfl, _, _⟩ := hv
  go_enter Try.func25, Try.ntmps25
  go_wp2
  go_ret
  exact ⟨by simp [greatV]; omega, Ext.rf _⟩

set_option maxHeartbeats 1000000 in
theorem great1_calls (v : Value) (q : List (List Int)) (w : World) (hv : Sl RInts 1 w v q) : Calls Try.prog 23 #[v] w fun e w' => e = .returned (.bool (greatQ q)) ∧ Ext w w' := by
  have HQ := Lib.hid hv
  obtain ⟨a, c, rfl, hlc⟩ := hv.shape
  clear hv
  generalize hb : greatQ q = b
  have HB := Lib.hid hb
  clear hb
  generalize hn : q.length = n at *
  have HN := Lib.hid hn
  clear hn
  by_cases h70 : 70 < n
  · have b1 : decide (70 < (n : Int)) = true := by simp; omega
    have b1n : decide (70 < n) = true := by simp; omega
    go_enter Try.func23, Try.ntmps23
    go_wp2
    go_ret
    exact ⟨by rw [← HB.out, greatQ, HN.out, decide_eq_true h70]; rfl, Ext.rf _⟩
  · have b1 : decide (70 < (n : Int)) = false := by simp; omega
    have b1n : decide (70 < n) = false := by simp; omega
    have HCF := Lib.hid (containsFunc_rows RInts rints_lasts 25 #[] enters_25 greatV (.slice a n c) q w HQ.out (by rw [HN.out]; omega) (fun x hx W vs hW hR => by obtain ⟨u, rfl, hu⟩ := hR; exact great11_calls u x W hu))
    go_enter Try.func23, Try.ntmps23
    go_wp2_with fail
    refine HCF.out.mono ?_
    rintro e w2 ⟨rfl, hE⟩
    have HE := Lib.hid hE
    clear hE
    generalize hab : q.any greatV = ab
    have HAB := Lib.hid hab
    clear hab
    go_wp2
    go_ret
    exact ⟨by rw [← HB.out, greatQ, HN.out, decide_eq_false h70, HAB.out]; rfl, HE.out⟩

set_option maxHeartbeats 2000000 in
theorem great_calls (uq ue uc : Value) (s : Ck) (w : World) (h : CkAt w uq ue uc s) :
    Calls Try.prog 6 #[.agg #[uq, ue, .bool s.done, uc]] w fun e w' => e = .returned (.bool (greatB s)) ∧ Ext w w' := by
  have HQ := Lib.hid h.1
  have HS := Lib.hid h
  obtain ⟨a, c, rfl, hlc⟩ := h.1.shape
  obtain ⟨ea, ec, rfl, hec⟩ := h.2.1.shape
  obtain ⟨ca, cc, hce, hcc, _⟩ := h.2.2
  subst hce
  clear h
  generalize hb : greatB s = b
  have HB := Lib.hid hb
  clear hb
  generalize hd : s.done = d at *
  have HD := Lib.hid hd
  clear hd
  generalize hn : s.qs.length = n at *
  generalize hl : s.ended.length = l at *
  generalize hcl : s.cut.length = cl at *
  have HN := Lib.hid hn
  have HL := Lib.hid hl
  have HCL := Lib.hid hcl
  clear hn hl hcl
  by_cases h1 : 10 < n
  · have b1 : decide (10 < (n : Int)) = true := by simp; omega
    have b1n : decide (10 < n) = true := by simp; omega
    go_enter Try.func6, Try.ntmps6
    go_wp2
    go_ret
    exact ⟨by rw [← HB.out, greatB, HN.out, decide_eq_true h1]; rfl, (by repeat (first | refine Ext.st ?_ (by first | exact Nat.le_refl _ | exact Nat.le_succ _ | assumption | omega) _ | refine Ext.al ?_ _ | refine Ext.dr ?_ | refine Ext.drN ?_ _ | exact Ext.rf _))⟩
  have b1 : decide (10 < (n : Int)) = false := by simp; omega
  have b1n : decide (10 < n) = false := by simp; omega
  by_cases h2 : 20 < l
  · have b2 : decide (20 < (l : Int)) = true := by simp; omega
    have b2n : decide (20 < l) = true := by simp; omega
    go_enter Try.func6, Try.ntmps6
    go_wp2
    go_ret
    exact ⟨by rw [← HB.out, greatB, HN.out, HL.out, decide_eq_false h1, decide_eq_true h2]; rfl, (by repeat (first | refine Ext.st ?_ (by first | exact Nat.le_refl _ | exact Nat.le_succ _ | assumption | omega) _ | refine Ext.al ?_ _ | refine Ext.dr ?_ | refine Ext.drN ?_ _ | exact Ext.rf _))⟩
  have b2 : decide (20 < (l : Int)) = false := by simp; omega
  have b2n : decide (20 < l) = false := by simp; omega
  by_cases h3 : 20 < cl
  · have b3 : decide (20 < (cl : Int)) = true := by simp; omega
    have b3n : decide (20 < cl) = true := by simp; omega
    go_enter Try.func6, Try.ntmps6
    go_wp2
    go_ret
    exact ⟨by rw [← HB.out, greatB, HN.out, HL.out, HCL.out, decide_eq_false h1, decide_eq_false h2, decide_eq_true h3]; rfl, (by repeat (first | refine Ext.st ?_ (by first | exact Nat.le_refl _ | exact Nat.le_succ _ | assumption | omega) _ | refine Ext.al ?_ _ | refine Ext.dr ?_ | refine Ext.drN ?_ _ | exact Ext.rf _))⟩
  have b3 : decide (20 < (cl : Int)) = false := by simp; omega
  have b3n : decide (20 < cl) = false := by simp; omega
  have HCF := Lib.hid (fun W (hW : Ext w W) => containsFunc_queues RQueue rqueue_lasts 23 #[] enters_23 greatQ (.slice a n c) s.qs W (HQ.out.ext rqueue_lasts hW) (by rw [HN.out]; omega) (fun x hx W vs hW hR => by obtain ⟨u, rfl, hu⟩ := hR; exact great1_calls u x W hu))
  go_enter Try.func6, Try.ntmps6
  go_wp2_with fail
  refine (HCF.out _ (by repeat (first | refine Ext.st ?_ (by first | exact Nat.le_refl _ | exact Nat.le_succ _ | assumption | omega) _ | refine Ext.al ?_ _ | refine Ext.dr ?_ | refine Ext.drN ?_ _ | exact Ext.rf _))).mono ?_
  rintro e w2 ⟨rfl, hE⟩
  have HE := Lib.hid (show Ext w w2 from Ext.trans' (by repeat (first | refine Ext.st ?_ (by first | exact Nat.le_refl _ | exact Nat.le_succ _ | assumption | omega) _ | refine Ext.al ?_ _ | refine Ext.dr ?_ | refine Ext.drN ?_ _ | exact Ext.rf _)) hE)
  clear hE
  generalize hab : s.qs.any greatQ = ab
  have HAB := Lib.hid hab
  clear hab
  go_wp2
  go_ret
  exact ⟨by rw [← HB.out, greatB, HN.out, HL.out, HCL.out, decide_eq_false h1, decide_eq_false h2, decide_eq_false h3, HAB.out]; rfl, HE.out⟩

end Go.Proofs.Ytdcahdcnoeomhaa
