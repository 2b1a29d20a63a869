import Derived.Test.YtfagfooggcinoaaGreatGj
import Derived.Test.YtfagfooggcinoaaGreatGh
import Derived.Test.YtfagfooggcinoaaGreatGl
import Derived.Test.YtfagfooggcinoaaGreatJa
import Derived.Test.YtfagfooggcinoaaGreatProg
import Derived.Test.YtfagfooggcinoaaGreatGa
import Derived.Test.YtfagfooggcinoaaGreatGg
import Derived.Test.YtfagfooggcinoaaGreatGf
import Derived.Test.YtfagfooggcinoaaGreatGk
import Derived.Test.YtfagfooggcinoaaGreatGd
import Derived.Test.YtfagfooggcinoaaGreatGi
import Derived.BigQuiet
import Derived.Deep.QuietTactic
import Derived.Deep.LoopGhost
import Derived.Shelf.Abstract
import Derived.Deep.DeepCutAuto
import Derived.RegionTactic
import Derived.BigRegion
namespace Go.Proofs.YtfagfooggcinoaaGreat
open Go.RowKit
set_option linter.unusedVariables false
def snd (t : Tr) (f q j : Nat) : Prop := (ev t (f, j)).kind = 2 ∧ (ev t (f, j)).peer = (q : Int)
theorem snd_find {t : Tr} (hv : validT t = true) {f q j : Nat} (hin : Inn t (f, j)) (h : snd t f q j) : findE t 2 (ev t (f, j)).msg = some (f, j) := by
 have := (pairB_at (validT_parts2.1 hv).2.1 hin (by rw [h.1]; decide)).1
 rwa [h.1] at this
theorem rcv_at {t : Tr} (hv : validT t = true) {f q j : Nat} (hin : Inn t (f, j)) (h : snd t f q j) {r : Eid} (hr : findE t 3 (ev t (f, j)).msg = some r) : r.1 = q ∧ Inn t r ∧ (ev t r).kind = 3 ∧ (ev t r).msg = (ev t (f, j)).msg := by
 obtain ⟨h1, h2, h3⟩ := findE_some hr
 obtain ⟨s, s1, s2, s3, s4, s5⟩ := send_peer hv h1 h2
 rw [h3, snd_find hv hin h] at s1
 obtain rfl := Option.some.inj s1
 have := h.2
 refine ⟨?_, h1, h2, h3⟩
 have h5 : (ev t (f, j)).peer = (r.1 : Int) := s3
 rw [this] at h5
 omega
theorem rcv_send {t : Tr} (hv : validT t = true) {q a : Nat} (hin : Inn t (q, a)) (hk : (ev t (q, a)).kind = 3) : ∃ f j : Nat, (ev t (q, a)).peer = (f : Int) ∧ f ≠ q ∧ Inn t (f, j) ∧ snd t f q j ∧ (ev t (f, j)).msg = (ev t (q, a)).msg ∧ findE t 2 (ev t (q, a)).msg = some (f, j) ∧ findE t 3 (ev t (f, j)).msg = some (q, a) := by
 obtain ⟨s, s1, s2, s3, s4, s5⟩ := send_peer hv hin hk
 obtain ⟨_, k1, k2⟩ := findE_some s1
 have e := (pairB_at (validT_parts2.1 hv).2.1 hin (by rw [hk]; decide)).1
 rw [hk] at e
 exact ⟨s.1, s.2, s2, s5, s4, ⟨k1, s3⟩, k2, s1, by rw [show (ev t (s.1, s.2)).msg = (ev t (q, a)).msg from k2]; exact e⟩
theorem fif_inv {t : Tr} {p q : Nat} : ∀ k s, fifS t p q k = some s → 0 ≤ s.1 ∧ (∀ j, j < k → snd t p q j → ∀ r, findE t 3 (ev t (p, j)).msg = some r → (r.2 : Int) + 1 ≤ s.1) ∧ (s.2 = false → ∀ j, j < k → snd t p q j → findE t 3 (ev t (p, j)).msg ≠ none) := by
 intro k
 induction k with
 | zero =>
   intro s h
   simp only [fifS, Option.some.injEq] at h
   subst h
   exact ⟨Int.le_refl _, fun j hj => absurd hj (Nat.not_lt_zero _), fun _ j hj => absurd hj (Nat.not_lt_zero _)⟩
 | succ k ih =>
   intro s h
   cases hk : fifS t p q k with
   | none => rw [fifS, hk] at h; cases h
   | some s0 =>
     obtain ⟨i0, i1, i2⟩ := ih s0 hk
     by_cases hs : snd t p q k
     ·cases hf : findE t 3 (ev t (p, k)).msg with
      | none =>
        have h2 := fif_miss hk hs (by rw [hf]; rfl)
        rw [h] at h2
        obtain rfl := Option.some.inj h2
        refine ⟨i0, fun j hj hsj r hr => ?_, fun hh => by cases hh⟩
        by_cases e : j = k
        ·subst e; rw [hf] at hr; cases hr
        ·exact i1 j (by omega) hsj r hr
      | some r0 =>
        have hne : eidB (findE t 3 (ev t (p, k)).msg) ≠ 0 := by rw [hf]; show (r0.2 : Int) + 1 ≠ 0; omega
        by_cases hb : s0.2 = true ∨ eidB (findE t 3 (ev t (p, k)).msg) < s0.1
        ·have h2 := fif_bad hk hs hne hb
         rw [h] at h2; cases h2
        ·have h2 := fif_ok hk hs hne hb
         rw [h] at h2
         obtain rfl := Option.some.inj h2
         have hge : s0.1 ≤ (r0.2 : Int) + 1 := by
          have : ¬ eidB (findE t 3 (ev t (p, k)).msg) < s0.1 := fun hh => hb (.inr hh)
          rw [hf] at this
          have e : eidB (some r0) = (r0.2 : Int) + 1 := rfl
          omega
         have e1 : eidB (findE t 3 (ev t (p, k)).msg) = (r0.2 : Int) + 1 := by rw [hf]; rfl
         refine ⟨by simp only; rw [e1]; omega, fun j hj hsj r hr => ?_, fun hh j hj hsj => ?_⟩
         ·simp only; rw [e1]
          by_cases e : j = k
          ·subst e; rw [hf] at hr; obtain rfl := Option.some.inj hr; omega
          ·have := i1 j (by omega) hsj r hr; omega
         ·by_cases e : j = k
          ·subst e; rw [hf]; simp
          ·exact i2 hh j (by omega) hsj
     ·have h2 := fif_skip hk hs
      rw [h] at h2
      obtain rfl := Option.some.inj h2
      refine ⟨i0, fun j hj hsj r hr => ?_, fun hh j hj hsj => ?_⟩
      ·by_cases e : j = k
       ·subst e; exact absurd hsj hs
       ·exact i1 j (by omega) hsj r hr
      ·by_cases e : j = k
       ·subst e; exact absurd hsj hs
       ·exact i2 hh j (by omega) hsj
theorem fifo_order {t : Tr} (hv : validT t = true) (hf : fifoB t = true) {f q j j' : Nat} (hq : q < t.length) (hin : Inn t (f, j')) (hjj : j < j') (h : snd t f q j) (h' : snd t f q j') {r' : Eid} (hr' : findE t 3 (ev t (f, j')).msg = some r') :
  ∃ r, findE t 3 (ev t (f, j)).msg = some r ∧ r.2 < r'.2 := by
 have hfl : f < t.length := hin.1
 have hin2 : j' < t[f]!.events.length := hin.2
 have hinj : Inn t (f, j) := ⟨hfl, by show j < t[f]!.events.length; omega⟩
 unfold fifoB at hf
 simp only [List.all_eq_true, List.mem_range] at hf
 have hall := hf f hfl q hq
 cases hs1 : fifS t f q (j' + 1) with
 | none => rw [fifS_none hs1 _ (by omega)] at hall; cases hall
 | some s1 =>
   cases hs0 : fifS t f q j' with
   | none => rw [fifS, hs0] at hs1; cases hs1
   | some s0 =>
     obtain ⟨i0, i1, i2⟩ := fif_inv _ _ hs0
     have hne : eidB (findE t 3 (ev t (f, j')).msg) ≠ 0 := by rw [hr']; show (r'.2 : Int) + 1 ≠ 0; omega
     have hb : ¬ (s0.2 = true ∨ eidB (findE t 3 (ev t (f, j')).msg) < s0.1) := fun hb => by rw [fif_bad hs0 h' hne hb] at hs1; cases hs1
     have hm : s0.2 = false := by cases h2 : s0.2 with
      | false => rfl
      | true => exact absurd (.inl h2) hb
     cases hr : findE t 3 (ev t (f, j)).msg with
     | none => exact absurd hr (i2 hm j hjj h)
     | some r =>
       refine ⟨r, rfl, ?_⟩
       have h1 := i1 j hjj h r hr
       have h2 : ¬ eidB (findE t 3 (ev t (f, j')).msg) < s0.1 := fun hh => hb (.inr hh)
       rw [hr'] at h2
       have e : eidB (some r') = (r'.2 : Int) + 1 := rfl
       obtain ⟨a1, _, _, a2⟩ := rcv_at hv hinj h hr
       obtain ⟨b1, _, _, b2⟩ := rcv_at hv hin h' hr'
       by_cases e2 : r.2 = r'.2
       ·have e3 : r = r' := by
         obtain ⟨x, y⟩ := r
         obtain ⟨x', y'⟩ := r'
         simp only at a1 b1 e2
         subst a1 e2
         rw [b1]
        subst e3
        have e4 := snd_find hv hinj h
        rw [← a2, b2, snd_find hv hin h'] at e4
        simp only [Option.some.injEq, Prod.mk.injEq, true_and] at e4
        omega
       ·omega
def rB (t : Tr) (f q : Nat) (lo hi : Int) (j : Nat) : Bool :=
 decide ((ev t (f, j)).kind = 2) && (decide ((ev t (f, j)).peer = (q : Int)) && (match findE t 3 (ev t (f, j)).msg with | none => false | some r => decide (lo ≤ (r.2 : Int)) && decide ((r.2 : Int) < hi)))
def RL (t : Tr) (f q : Nat) (lo hi : Int) (K : Nat) : List Int := ((List.range K).filter (rB t f q lo hi)).map fun (j : Nat) => (ev t (f, j)).msg
end Go.Proofs.YtfagfooggcinoaaGreat
namespace Go.Proofs.YtfagfooggcinoaaGreat
open Go.RowKit
set_option linter.unusedVariables false
def OkC (t : Tr) (c : List Int) : Prop := RangeC t c ∧ ∀ f q j a : Nat, Inn t (f, j) → snd t f q j → findE t 3 (ev t (f, j)).msg = some (q, a) → (a : Int) < c[q]! → (j : Int) < c[f]!
theorem run_ok {t : Tr} {r : List (List Int)} (hv : validT t = true) (h : runB t r = true) : ∀ i, i < r.length → OkC t r[i]! := by
 intro i
 induction i with
 | zero =>
   intro hi
   refine ⟨run_rangeC h hi, fun f q j a _ _ hr ha => ?_⟩
   have hq := (findE_some hr).1.1
   rw [(run_parts h).2.1, rep_get hq] at ha
   omega
 | succ i ih =>
   intro hi
   obtain ⟨_, hok⟩ := ih (by omega)
   refine ⟨run_rangeC h hi, fun f q j a hin hs hr ha => ?_⟩
   obtain ⟨P, hP, hset, h0, hlt, hsent⟩ := run_step h (i := i) hi
   have hl := (run_rangeC h (show i < r.length by omega)).1
   have hmono : (r[i]!)[f]! ≤ (r[i + 1]!)[f]! := by
    by_cases e : f = P
    ·subst e; have := run_more hl hP hset; unfold rAt at this; omega
    ·have := run_same hset e; unfold rAt at this; omega
   by_cases e : q = P
   ·subst e
    have h2 := run_more hl hP hset
    unfold rAt at h2 h0 hlt hsent
    by_cases e2 : (a : Int) < (r[i]!)[q]!
    ·have := hok f q j a hin hs hr e2; omega
    ·have e3 : (a : Int) = (r[i]!)[q]! := by omega
     obtain ⟨k1, k2, k3⟩ := findE_some hr
     have hf2 : findE t 2 (ev t (q, a)).msg = some (f, j) := by rw [k3]; exact snd_find hv hin hs
     rw [show ((r[i]!)[q]!).toNat = a by omega, sentB_recv k2 hf2] at hsent
     simp only [decide_eq_true_eq] at hsent
     omega
   ·have h2 := run_same hset e
    unfold rAt at h2
    rw [h2] at ha
    have := hok f q j a hin hs hr ha; omega
theorem OkC.cons {t : Tr} {c : List Int} (hv : validT t = true) (h : OkC t c) : ConsC t c := by
 refine ⟨h.1, missE_none.2 fun x hx => ?_⟩
 have hin := h.1.inn hx
 obtain ⟨q, a⟩ := x
 by_cases hk : (ev t (q, a)).kind = 3
 ·obtain ⟨f, j, _, _, hi, hs, hm, hf, hr⟩ := rcv_send hv hin hk
  rw [sentB_recv hk hf, decide_eq_true_eq]
  have := h.2 f q j a hi hs hr hx.2
  simp only; omega
 ·exact sentB_other hk
structure Inv3 (t : Tr) (c base : List Int) (p : Nat) (cn : Nat → Int) (cd : Nat → Nat → Bool) (ch : Nat → Nat → List Int) : Prop where
 le : ∀ q, q < t.length → cn q ≠ -1 → 0 ≤ cn q ∧ cn q ≤ c[q]!
 ge : ∀ q, q < t.length → cn q ≠ -1 → base[q]! ≤ cn q
 ini : cn p = base[p]!
 un : ∀ f q, f < t.length → q < t.length → cn f = -1 → cd q f = false
 non : ∀ q f, q < t.length → f < t.length → cn q = -1 → ch q f = []
 slf : ∀ q, q < t.length → ch q q = []
 op : ∀ f q, f < t.length → q < t.length → f ≠ q → cn f ≠ -1 → cd q f = false → ∀ j, j < t[f]!.events.length → cn f ≤ (j : Int) → snd t f q j → ∀ r, findE t 3 (ev t (f, j)).msg = some r → c[q]! ≤ (r.2 : Int)
 cl : ∀ f q, f < t.length → q < t.length → f ≠ q → cd q f = true → cn q ≠ -1 ∧ ∀ j : Nat, (j : Int) < cn f → snd t f q j → ∃ r, findE t 3 (ev t (f, j)).msg = some r ∧ (r.2 : Int) < c[q]!
 co : ∀ f q, f < t.length → q < t.length → f ≠ q → cn q ≠ -1 → cd q f = false → ch q f = RL t f q (cn q) c[q]! t[f]!.events.length
 cc : ∀ f q, f < t.length → q < t.length → f ≠ q → cd q f = true → ch q f = RL t f q (cn q) (t[q]!.events.length : Int) (cn f).toNat
 cons : ∀ q, q < t.length → cn q ≠ -1 → ∀ f j a : Nat, f < t.length → f ≠ q → Inn t (f, j) → snd t f q j → findE t 3 (ev t (f, j)).msg = some (q, a) → (a : Int) < cn q → (cn f ≠ -1 → (j : Int) < cn f) ∧ (cn f = -1 → (j : Int) < c[f]!)
section
variable {t : Tr} {c base : List Int} {p : Nat} {cn cn' : Nat → Int} {cd cd' : Nat → Nat → Bool} {ch ch' : Nat → Nat → List Int}
end
end Go.Proofs.YtfagfooggcinoaaGreat
namespace Go.Proofs.YtfagfooggcinoaaGreat
open Go.RowKit
set_option linter.unusedVariables false
theorem send_someC {t : Tr} (hp : pairB t = true) {x : Eid} (hx : Inn t x) (h3 : (ev t x).kind = 3) : ∃ s, findE t 2 (ev t x).msg = some s := by
 have hs := (pairB_at hp hx (by rw [h3]; decide)).2 h3
 unfold sendsB at hs
 rw [List.any_eq_true] at hs
 obtain ⟨s, hs1, hs2⟩ := hs
 obtain ⟨j, hj, rfl⟩ := List.getElem_of_mem hs1
 simp only [Bool.and_eq_true, decide_eq_true_eq] at hs2
 have hlt : (ev t x).peer.toNat < t.length := by
  rcases Nat.lt_or_ge (ev t x).peer.toNat t.length with h | h
  ·exact h
  ·rw [getElem!_neg t _ (by omega)] at hj; exact absurd hj (Nat.not_lt_zero _)
 have he : ev t ((ev t x).peer.toNat, j) = t[(ev t x).peer.toNat]!.events[j] := by unfold ev; simp only; rw [getElem!_pos _ j hj]
 have hpa := (pairB_at hp (x := ((ev t x).peer.toNat, j)) ⟨hlt, hj⟩ (by rw [he, hs2.1]; decide)).1
 rw [he, hs2.1, hs2.2.1] at hpa
 exact ⟨_, hpa⟩
set_option maxHeartbeats 4000000 in
set_option maxRecDepth 100000 in
theorem cutR_calls (v vc : Value) (t : Tr) (c : List Int) (w : World) (h : TrAt w v t) (hs : SmallTr t) (hc : Ints w vc c) :
  Calls Tryz.prog 95 #[.agg #[v], vc] w fun e w' => e = .returned (.bool (fitsB t c && rangeB t c)) ∧ Ext w w' := by
 have HT := Lib.hid h
 have HC := Lib.hid hc
 have HS := Lib.hid hs
 obtain ⟨ta, tc, rfl, htc⟩ := h.sh
 obtain ⟨ca, cc, rfl, hlc, _⟩ := hc
 have hn1 := hs.1
 obtain ⟨rb, hrb⟩ : ∃ b, rangeB t c = b := ⟨_, rfl⟩
 have HRB := Lib.hid hrb
 obtain ⟨R, hR⟩ : ∃ R, (fitsB t c && rangeB t c) = R := ⟨_, rfl⟩
 rw [hR]
 have HR : Hid (R = (decide (c.length = t.length) && rb)) := Lib.hid (by rw [← hR, hrb]; rfl)
 generalize hln : t.length = n at *
 generalize hlm : c.length = m at *
 have HL := Lib.hid hln
 have HM := Lib.hid hlm
 have HX0 := Lib.hid (heap_alloc_new w (.cells #[.slice ta n tc] 24))
 have HE1 := Lib.hid ((Ext.rf w).al (.cells #[.slice ta n tc] 24))
 clear h hs hln hlm hrb hR
 by_cases hmn : m = n
 case neg =>
  have d0 : ((m : Int) != (n : Int)) = true := by simp; omega
  obtain rfl : R = false := by rw [HR.out, decide_eq_false hmn]; rfl
  clear hmn
  go_enter Tryz.func95, Tryz.ntmps95
  go_wp2
  go_ret
  exact ⟨rfl, HE1.out⟩
 case pos =>
 subst hmn
 have d0 : ((m : Int) != (m : Int)) = false := by simp
 have HRR : Hid (R = rb) := Lib.hid (by rw [HR.out, decide_eq_true rfl]; rfl)
 go_enter Tryz.func95, Tryz.ntmps95
 go_wp2
 generalize hw2 : w.alloc (.cells #[.slice ta m tc] 24) = w2 at *
 clear hw2
 go_loopg [5] m (fun g s5 wr => ∃ p : Nat, p ≤ m ∧ m - p ≤ g ∧ s5 = .int .i64 p ∧ Aside (∀ q, q < p → 0 ≤ c[q]! ∧ c[q]! ≤ (t[q]!.events.length : Int)) ∧ Aside (Ext w2 wr))
 case atStart => exact ⟨0, Nat.zero_le _, by omega, rfl, (fun j hj => absurd hj (Nat.not_lt_zero _)), Ext.rf _⟩
 case round =>
  obtain ⟨p, hp, hg, rfl, A, HEK⟩ := hrel
  have HEW := Lib.hid (HE1.out.trans' HEK.out)
  have HY0 := Lib.hid (HEK.out.hp HX0.out)
  have t0 := cellOf HY0.out 0
  simp only [List.getElem?_toArray, List.getElem?_cons_zero] at t0
  by_cases hlt : p < m
  ·have hltz : (p : Int) < (m : Int) := by omega
   have hpz : (0 : Int) ≤ (p : Int) := by omega
   obtain ⟨B, O, C, vv, ve, hve, hlC, hB, hn0, hv0, he0, hV, hE0⟩ := proc_at HT.out p (by rw [HL.out]; exact hlt)
   simp only [Value.slice.injEq] at hve
   obtain ⟨rfl, hzz, rfl⟩ := hve
   obtain ⟨ea, ec, rfl, hec⟩ := hE0.sh
   obtain ⟨cb, co, rfl, hcb, hcp⟩ := ints_at HC.out p (by rw [HM.out]; exact hlt)
   have he1 := HEW.out.cl he0
   have hc1 := HEW.out.cl hcp
   have hen := (HS.out.2 p (by rw [HL.out]; exact hlt)).2.1
   generalize hne : t[p]!.events.length = ne at *
   have HNE := Lib.hid hne
   generalize hk : c[p]! = k at *
   have HK := Lib.hid hk
   clear hn0 hv0 hV hE0 hzz hne he0 hk hcp
   have HNO : Hid (¬ (0 ≤ k ∧ k ≤ (ne : Int)) → rb = false) := Lib.hid (fun hno => by
    rw [← HRB.out, Bool.eq_false_iff]
    intro hr
    have := rangeB_iff.1 hr p (by rw [HM.out]; exact hlt)
    rw [HNE.out, HK.out] at this
    exact hno this)
   by_cases h1 : k < 0
   ·have d1 : decide (k < 0) = true := decide_eq_true h1
    have HF := Lib.hid (HNO.out (by omega))
    obtain rfl : R = false := HRR.out.trans HF.out
    clear h1
    go_wp2
    go_quiet (fail)
    go_wp2
    go_ret
    exact ⟨rfl, HEW.out.drN _⟩
   ·have d1 : decide (k < 0) = false := decide_eq_false h1
    by_cases h2 : (ne : Int) < k
    ·have d2 : decide ((ne : Int) < k) = true := decide_eq_true h2
     have HF := Lib.hid (HNO.out (by omega))
     obtain rfl : R = false := HRR.out.trans HF.out
     clear h1 h2
     go_wp2
     go_quiet (fail)
     go_wp2
     go_ret
     exact ⟨rfl, HEW.out.drN _⟩
    ·have d2 : decide ((ne : Int) < k) = false := decide_eq_false h2
     have HOK := Lib.hid (show 0 ≤ k ∧ k ≤ (ne : Int) by omega)
     clear h1 h2
     go_wp2
     go_quiet (fail)
     go_wp2
     go_roundg (m - (p + 1))
     case measure => omega
     case rel =>
      refine ⟨p + 1, by omega, by omega, by go_num, (show Aside _ from fun j hj => ?_), (show Ext _ _ from HEK.out.drN _)⟩
      by_cases e : j = p
      ·subst e; rw [HNE.out, HK.out]; exact HOK.out
      ·exact A.out j (by omega)
  ·have hltz : ¬ (p : Int) < (m : Int) := by omega
   obtain rfl : m = p := by omega
   have e : rangeB t c = true := rangeB_iff.2 (fun q hq => A.out q (by rw [HM.out] at hq; exact hq))
   obtain rfl : R = true := by rw [HRR.out, ← HRB.out, e]
   clear e
   go_wp2
   go_ret
   exact ⟨rfl, HEW.out⟩
set_option maxHeartbeats 8000000 in
set_option maxRecDepth 100000 in
theorem consR_calls (v vc : Value) (t : Tr) (c : List Int) (w : World) (h : TrAt w v t) (hv : validT t = true) (hc : Ints w vc c) (hr : RangeC t c) :
  Calls Tryz.prog 96 #[.agg #[v], vc] w fun e w' => e = .returned (.bool (missE t c).isNone) ∧ Ext w w' := by
 have HT := Lib.hid h
 have HC := Lib.hid hc
 have hs := valid_small hv
 have HS := Lib.hid hs
 have HRC := Lib.hid hr
 have HPB := Lib.hid (validT_parts.1 hv).2.1
 have HFI := Lib.hid (fun W (hW : Ext w W) m => findR_calls v t 2 m W (h.ext hW) hs)
 obtain ⟨ta, tc, rfl, htc⟩ := h.sh
 obtain ⟨ca, cc, rfl, hlc, _⟩ := hc
 have hn1 := hs.1
 obtain ⟨R, hR⟩ : ∃ R, (missE t c).isNone = R := ⟨_, rfl⟩
 rw [hR]
 have HR := Lib.hid hR
 have HM0 : Hid (missE t c = missTo t c c.length 0) := Lib.hid rfl
 have hcl := hr.1
 rw [hcl] at hlc ⊢
 generalize hln : t.length = n at *
 have HL := Lib.hid hln
 have HCL := Lib.hid hcl
 have HX0 := Lib.hid (heap_alloc_new w (.cells #[.slice ta n tc] 24))
 have HE1 := Lib.hid ((Ext.rf w).al (.cells #[.slice ta n tc] 24))
 clear h hs hln hR hv hr hcl
 go_enter Tryz.func96, Tryz.ntmps96
 go_wp2
 generalize hw2 : w.alloc (.cells #[.slice ta n tc] 24) = w2 at *
 clear hw2
 go_loopg [5] n (fun g s5 wr => ∃ p : Nat, p ≤ n ∧ n - p ≤ g ∧ s5 = .int .i64 p ∧ Aside (missTo t c p 0 = none) ∧ Aside (Ext w2 wr))
 case atStart => exact ⟨0, Nat.zero_le _, by omega, rfl, (show Aside _ from by unfold missTo; rw [idsCTo_zero]; rfl), Ext.rf _⟩
 case round =>
  obtain ⟨p, hp, hg, rfl, HMI, HEK⟩ := hrel
  have HEW := Lib.hid (HE1.out.trans' HEK.out)
  by_cases hlt : p < n
  ·have hltz : (p : Int) < (n : Int) := by omega
   have hpz : (0 : Int) ≤ (p : Int) := by omega
   have HQ := Lib.hid (show p < t.length from by rw [HL.out]; exact hlt)
   obtain ⟨B, O, C, vv, ve, hve, hlC, hB, hn0, hv0, he0, hV, hE0⟩ := proc_at HT.out p HQ.out
   simp only [Value.slice.injEq] at hve
   obtain ⟨rfl, hzz, rfl⟩ := hve
   have HEE := Lib.hid hE0
   obtain ⟨ea, ec, rfl, hec⟩ := hE0.sh
   obtain ⟨cb, co, rfl, hcb, hcp⟩ := ints_at HC.out p (by rw [HCL.out]; exact hlt)
   have HE0 := Lib.hid he0
   have HCP := Lib.hid hcp
   have hkr := HRC.out.at HQ.out
   obtain ⟨k, hk⟩ : ∃ k : Nat, c[p]! = (k : Int) := ⟨c[p]!.toNat, by omega⟩
   have HK := Lib.hid hk
   rw [hk] at HCP hkr
   have hkn : k ≤ t[p]!.events.length := by omega
   have hel := (HS.out.2 p HQ.out).2.1
   generalize hnee : t[p]!.events.length = ne at *
   have HNE := Lib.hid hnee
   clear hn0 hv0 he0 hV hE0 hzz hcp hnee hk hkr
   go_wp2
   obtain ⟨wo, rfl⟩ : ∃ x, x = wr := ⟨_, rfl⟩
   go_loopg [6] k (fun g s6 wr => ∃ i : Nat, i ≤ k ∧ k - i ≤ g ∧ s6 = .int .i64 i ∧ Aside (missTo t c p i = none) ∧ Aside (Ext w2 wr))
   case atStart => exact ⟨0, Nat.zero_le _, by omega, rfl, (show Aside _ from HMI.out), (show Ext _ _ from HEK.out)⟩
   case round =>
    obtain ⟨i, hi, hg2, rfl, HMJ, HEJ⟩ := hrel
    have HEV := Lib.hid (HE1.out.trans' HEJ.out)
    have HY1 := Lib.hid (HEJ.out.hp HX0.out)
    have t0 := cellOf HY1.out 0
    simp only [List.getElem?_toArray, List.getElem?_cons_zero] at t0
    have e1 := HEV.out.cl HE0.out
    have c1 := HEV.out.cl HCP.out
    by_cases hlti : i < k
    ·have hltzi : (i : Int) < (k : Int) := by omega
     have hiz : (0 : Int) ≤ (i : Int) := by omega
     have hine : (i : Int) < (ne : Int) := by omega
     obtain ⟨EB, EO, EC, va, hee, hlE, hEB, k0, k1, k2, k3, k4, hA⟩ := event_at HEE.out i (by rw [HNE.out]; omega)
     simp only [Value.slice.injEq] at hee
     obtain ⟨rfl, hzz, rfl⟩ := hee
     obtain ⟨ua, uc, rfl, huc⟩ := hA.sh
     have m0 := HEV.out.cl k0
     have m1 := HEV.out.cl k1
     have m2 := HEV.out.cl k2
     have m3 := HEV.out.cl k3
     have m4 := HEV.out.cl k4
     have HEVI : Hid (ev t (p, i) = t[p]!.events[i]!) := Lib.hid rfl
     generalize hev : t[p]!.events[i]! = y at *
     generalize y.asg.length = na at *
     have hsz := HEJ.out.sz
     clear k0 k1 k2 k3 k4 hA hzz hev
     by_cases hk3 : y.kind = 3
     ·have d1 : (y.kind == 3) = true := by simp [hk3]
      have HK3 := Lib.hid (show (ev t (p, i)).kind = 3 from by rw [HEVI.out]; exact hk3)
      have HMS : Hid ((ev t (p, i)).msg = y.msg) := Lib.hid (by rw [HEVI.out])
      obtain ⟨sd, hsd⟩ := send_someC HPB.out (x := (p, i)) ⟨HQ.out, by show i < t[p]!.events.length; rw [HNE.out]; omega⟩ HK3.out
      have hin := (findE_some hsd).1
      have HSB := Lib.hid (sentB_recv (c := c) HK3.out hsd)
      rw [HMS.out] at hsd
      have HFC := Lib.hid (HFI.out _ (HEV.out.al (evO y.kind y.peer y.msg y.time (.slice ua na uc))) y.msg)
      rw [hsd] at HFC
      simp only [eidA, eidB] at HFC
      obtain ⟨sp, si⟩ := sd
      simp only at HFC HSB hin
      have hspn : sp < n := by have := hin.1; rw [HL.out] at this; exact this
      have hsil : si + 1 ≤ 1000000 := by
       have h1 := (HS.out.2 sp hin.1).2.1
       have h2 := hin.2
       simp only at h2; omega
      obtain ⟨cb2, co2, hcc, hcb2, hcp2⟩ := ints_at HC.out sp (by rw [HCL.out]; exact hspn)
      simp only [Option.some.injEq, Addr.mk.injEq, and_true] at hcc
      obtain ⟨rfl, rfl⟩ := hcc
      have c2 := HEV.out.cl hcp2
      generalize hks : c[sp]! = ks at *
      have hspz : (0 : Int) ≤ (sp : Int) := by omega
      have hspi : (sp : Int) < (n : Int) := by omega
      have HEB2 := Lib.hid (heap_alloc_new wr (evO y.kind y.peer y.msg y.time (.slice ua na uc)))
      have HEA := Lib.hid ((Ext.rf wr).al (evO y.kind y.peer y.msg y.time (.slice ua na uc)))
      have HSO := Lib.hid (@missTo_succ t c p i HMJ.out)
      have HHT := Lib.hid (fun h => missTo_hit (t := t) (c := c) (p := p) (i := i) HMJ.out h (by rw [HCL.out]; exact hlt) (by rw [HK.out]; exact hltzi))
      have hw0 : w.heap.size < wr.heap.size := (Array.getElem?_eq_some_iff.1 HY1.out).1
      have hw1 : w.heap.size ≠ wr.heap.size := by omega
      clear hin hsd hcp2 hks hk3
      go_wp2_with fail
      refine HFC.out.mono ?_
      rintro e w5 ⟨rfl, hX5⟩
      have HX5 := Lib.hid (HEA.out.trans' hX5)
      have c5 := HX5.out.cl c2
      have hs5 := HX5.out.sz
      have hcw : cb < w5.heap.size := by have := HEV.out.sz; omega
      have hcn : cb ≠ w5.heap.size := by omega
      clear hX5 t0 e1 c1 m0 m1 m2 m3 m4 c2
      by_cases hcmp : ks < (si : Int) + 1
      ·have d2 : decide (ks < (si : Int) + 1) = true := decide_eq_true hcmp
       have HF := Lib.hid (HHT.out (by rw [HSB.out, decide_eq_false (by omega)]))
       obtain rfl : R = false := by rw [← HR.out, HF.out]; rfl
       clear hcmp
       go_wp2
       go_quiet (fail)
       go_wp2
       go_ret
       exact ⟨rfl, ((HEV.out.trans' HX5.out).al _).drN _⟩
      ·have d2 : decide (ks < (si : Int) + 1) = false := decide_eq_false hcmp
       have HF := Lib.hid (HSO.out (by rw [HSB.out, decide_eq_true (by omega)]))
       clear hcmp
       go_wp2
       go_quiet (fail)
       go_wp2
       go_roundg (k - (i + 1))
       case measure => omega
       case rel => exact ⟨i + 1, by omega, by omega, by go_num, (show Aside _ from HF.out), (show Ext _ _ from ((HEJ.out.trans' HX5.out).al _).drN _)⟩
     ·have d1 : (y.kind == 3) = false := by simp [hk3]
      have HS1 := Lib.hid (missTo_succ HMJ.out (sentB_other (t := t) (c := c) (x := (p, i)) (by rw [HEVI.out]; exact hk3)))
      clear hk3
      go_wp2
      go_roundg (k - (i + 1))
      case measure => omega
      case rel => exact ⟨i + 1, by omega, by omega, by go_num, (show Aside _ from HS1.out), (show Ext _ _ from HEJ.out.al _)⟩
    ·have hltzi : ¬ (i : Int) < (k : Int) := by omega
     obtain rfl : i = k := by omega
     have HMN : Hid (missTo t c (p + 1) 0 = none) := Lib.hid (by
      have := HMJ.out
      unfold missTo at this ⊢
      rw [← idsCTo_next, HK.out, Int.toNat_natCast]
      exact this)
     go_wp2
     go_roundg (n - (p + 1))
     case measure => omega
     case rel => exact ⟨p + 1, by omega, by omega, by go_num, (show Aside _ from HMN.out), (show Ext _ _ from HEJ.out)⟩
  ·have hltz : ¬ (p : Int) < (n : Int) := by omega
   obtain rfl : n = p := by omega
   have HF := Lib.hid (show missE t c = none from by rw [HM0.out, HCL.out]; exact HMI.out)
   obtain rfl : R = true := by rw [← HR.out, HF.out]; rfl
   go_wp2
   go_ret
   exact ⟨rfl, HEW.out⟩
end Go.Proofs.YtfagfooggcinoaaGreat
namespace Go.Proofs.YtfagfooggcinoaaGreat
open Go.RowKit
set_option linter.unusedVariables false
set_option maxHeartbeats 8000000 in
set_option maxRecDepth 100000 in
theorem lengthsQ_calls (v : Value) (t : Tr) (w : World) (h : TrAt w v t) (hs : SmallTr t) :
  Calls Tryz.prog 55 #[.agg #[v]] w fun e w' => IntsOut w w' e (lensC t) := by
 have HT := Lib.hid h
 have HS := Lib.hid hs
 obtain ⟨ii, hii, iz0, iz1, iz2⟩ := info_parts info_int3
 obtain ⟨ta, tc, rfl, htc⟩ := h.sh
 have hn1 := hs.1
 have HO : Hid (lensC t = lensTo t t.length) := Lib.hid rfl
 rw [HO.out]
 generalize hln : t.length = n at *
 have HL := Lib.hid hln
 have HX0 := Lib.hid (heap_alloc_new w (.cells #[.slice ta n tc] 24))
 have HE1 := Lib.hid ((Ext.rf w).al (.cells #[.slice ta n tc] 24))
 clear h hs hln
 go_enter Tryz.func55, Tryz.ntmps55
 go_wp2
 generalize hw2 : w.alloc (.cells #[.slice ta n tc] 24) = w2 at *
 clear hw2
 go_loopg [3, 4] n (fun g s3 s4 wr => ∃ p : Nat, p ≤ n ∧ n - p ≤ g ∧ s4 = .int .i64 p ∧ Aside (Row wr w2.heap.size 3 1 s3 p ((lensTo t p).map (Value.int .i64))) ∧ Aside (Ext w2 wr))
 case atStart => exact ⟨0, Nat.zero_le _, by omega, rfl, (show Row _ _ _ _ _ _ _ from Row.mkNil _ _ _ _), Ext.rf _⟩
 case round =>
  obtain ⟨p, hp, hg, rfl, HR, HEK⟩ := hrel
  have HEW := Lib.hid (HE1.out.trans' HEK.out)
  have HY0 := Lib.hid (HEK.out.hp HX0.out)
  have t0 := cellOf HY0.out 0
  simp only [List.getElem?_toArray, List.getElem?_cons_zero] at t0
  by_cases hlt : p < n
  ·have hltz : (p : Int) < (n : Int) := by omega
   have hpz : (0 : Int) ≤ (p : Int) := by omega
   obtain ⟨B, O, C, vv, ve, hve, hlC, hB, hn0, hv0, he0, hV, hE0⟩ := proc_at HT.out p (by rw [HL.out]; exact hlt)
   simp only [Value.slice.injEq] at hve
   obtain ⟨rfl, hzz, rfl⟩ := hve
   obtain ⟨ea, ec, rfl, hec⟩ := hE0.sh
   have he1 := HEW.out.cl he0
   have hen := (HS.out.2 p (by rw [HL.out]; exact hlt)).2.1
   have HLS := Lib.hid (lensTo_succ t p)
   generalize hne : t[p]!.events.length = ne at *
   have hsz := HEK.out.sz
   clear hn0 hv0 hV hE0 hzz hne he0
   go_wp2_with ((at_builtin; go_loud (refine wpList_append_one rfl _ _ 39 rfl w2.heap.size 3 ii (.int .i64 0) 1 8 Tryz.underlying39 hii iz0 iz1 iz2 rfl (by decide) _ p _ rfl (HR.out.al _) wr.heap.size 1 [.int .i64 (ne : Int)] rfl rfl ⟨_, heap_alloc_new _ _⟩ (by simp [Value.oneCell']) (by unfold maxLen; omega) (by omega) (by simp; omega) ?_; intro v8 w8 hown8 hgrow8 hblk8; have HOWN := Lib.hid hown8; have HX8 := Lib.hid ((HEK.out.al _).gr hgrow8 (fun q hq => (HR.out.lt q hq).1)); clear hown8 hgrow8 hblk8)))
   go_roundg (n - (p + 1))
   case measure => omega
   case rel => exact ⟨p + 1, by omega, by omega, by go_num, (show Row _ _ _ _ _ _ _ from by rw [HLS.out, List.map_append]; exact HOWN.out), (show Ext _ _ from HX8.out)⟩
  ·have hltz : ¬ (p : Int) < (n : Int) := by omega
   obtain rfl : n = p := by omega
   go_wp2
   go_ret
   exact ⟨_, rfl, by rw [lensTo_len]; exact HR.out.mono HE1.out.sz, HEW.out⟩
end Go.Proofs.YtfagfooggcinoaaGreat
namespace Go.Proofs.YtfagfooggcinoaaGreat
open Go.RowKit
set_option linter.unusedVariables false
def stK (a b : List Int) : Nat → Option Int
 | 0 => some (-1)
 | k + 1 => match stK a b k with
   | none => none
   | some p => if a[k]! = b[k]! then some p else if 0 ≤ p ∨ b[k]! ≠ a[k]! + 1 then none else some (k : Int)
def stepO (a b : List Int) : Int := if a.length = b.length then (stK a b a.length).getD (-1) else -1
theorem stK_skip {a b : List Int} {k : Nat} {p : Int} (h : stK a b k = some p) (he : a[k]! = b[k]!) : stK a b (k + 1) = some p := by
 simp only [stK, h, if_pos he]
theorem stK_bad {a b : List Int} {k : Nat} {p : Int} (h : stK a b k = some p) (he : a[k]! ≠ b[k]!) (hb : 0 ≤ p ∨ b[k]! ≠ a[k]! + 1) : stK a b (k + 1) = none := by
 simp only [stK, h, if_neg he, if_pos hb]
theorem stK_one {a b : List Int} {k : Nat} {p : Int} (h : stK a b k = some p) (he : a[k]! ≠ b[k]!) (hb : ¬ (0 ≤ p ∨ b[k]! ≠ a[k]! + 1)) : stK a b (k + 1) = some (k : Int) := by
 simp only [stK, h, if_neg he, if_neg hb]
theorem stK_none {a b : List Int} {k : Nat} (h : stK a b k = none) : ∀ j, k ≤ j → stK a b j = none := by
 intro j
 induction j with
 | zero => intro hk; obtain rfl : k = 0 := by omega
           exact h
 | succ j ih =>
   intro hk
   by_cases e : k = j + 1
   ·subst e; exact h
   ·simp only [stK, ih (by omega)]
theorem stK_says {a b : List Int} : ∀ k p, stK a b k = some p → (p = -1 ∧ ∀ j, j < k → a[j]! = b[j]!) ∨ (∃ q : Nat, p = (q : Int) ∧ q < k ∧ b[q]! = a[q]! + 1 ∧ ∀ j, j < k → j ≠ q → a[j]! = b[j]!) := by
 intro k
 induction k with
 | zero => intro p h; simp only [stK, Option.some.injEq] at h; exact .inl ⟨h.symm, fun j hj => absurd hj (Nat.not_lt_zero _)⟩
 | succ k ih =>
   intro p h
   cases hk : stK a b k with
   | none => rw [stK_none hk (k + 1) (by omega)] at h; cases h
   | some p0 =>
     by_cases he : a[k]! = b[k]!
     ·rw [stK_skip hk he] at h
      obtain rfl := Option.some.inj h
      rcases ih _ hk with ⟨h1, h2⟩ | ⟨q, h1, h2, h3, h4⟩
      ·exact .inl ⟨h1, fun j hj => by
        by_cases e : j = k
        ·subst e; exact he
        ·exact h2 j (by omega)⟩
      ·exact .inr ⟨q, h1, by omega, h3, fun j hj hne => by
        by_cases e : j = k
        ·subst e; exact he
        ·exact h4 j (by omega) hne⟩
     ·by_cases hb : 0 ≤ p0 ∨ b[k]! ≠ a[k]! + 1
      ·rw [stK_bad hk he hb] at h; cases h
      ·rw [stK_one hk he hb] at h
       obtain rfl := Option.some.inj h
       rcases ih _ hk with ⟨h1, h2⟩ | ⟨q, h1, h2, h3, h4⟩
       ·exact .inr ⟨k, rfl, by omega, Classical.byContradiction fun hh => hb (.inr hh), fun j hj hne => h2 j (by omega)⟩
       ·exact absurd (.inl (by omega)) hb
theorem stK_set {a : List Int} {q : Nat} (hq : q < a.length) : ∀ k, k ≤ a.length → stK a (a.set q (a[q]! + 1)) k = some (if q < k then (q : Int) else -1) := by
 intro k
 induction k with
 | zero => intro _; simp [stK]
 | succ k ih =>
   intro hk
   have ih := ih (by omega)
   by_cases e : k = q
   ·subst e
    rw [if_neg (by omega)] at ih
    have hs : (a.set k (a[k]! + 1))[k]! = a[k]! + 1 := setG_at hq _
    rw [stK_one ih (by rw [hs]; omega) (by rw [hs]; omega), if_pos (by omega)]
   ·rw [stK_skip ih (by rw [setG_ne e])]
    have : (q < k + 1) = (q < k) := by rw [eq_iff_iff]; omega
    simp only [this]
theorem step_iff {a b : List Int} : 0 ≤ stepO a b ↔ ∃ p : Nat, p < a.length ∧ b = a.set p (a[p]! + 1) := by
 unfold stepO
 constructor
 ·intro h
  by_cases hl : a.length = b.length
  ·rw [if_pos hl] at h
   cases hk : stK a b a.length with
   | none => rw [hk] at h; simp at h
   | some p =>
     rw [hk] at h
     simp only [Option.getD_some] at h
     rcases stK_says _ _ hk with ⟨h1, _⟩ | ⟨q, h1, h2, h3, h4⟩
     ·omega
     ·refine ⟨q, h2, listG_ext (by rw [List.length_set]; omega) fun j hj => ?_⟩
      by_cases e : j = q
      ·subst e; rw [setG_at h2]; exact h3
      ·rw [setG_ne e]; exact (h4 j (by omega) e).symm
  ·rw [if_neg hl] at h; omega
 ·rintro ⟨p, hp, rfl⟩
  rw [if_pos (by rw [List.length_set]), stK_set hp _ (Nat.le_refl _), if_pos hp]
  simp only [Option.getD_some]; omega
noncomputable def is23 (t : Tr) (c : List Int) : Bool := (fitsB t c && rangeB t c) && (missE t c).isNone
theorem is23_iff {t : Tr} {c : List Int} : is23 t c = true ↔ ConsC t c := by
 unfold is23 ConsC RangeC fitsB
 simp only [Bool.and_eq_true, decide_eq_true_eq, Option.isNone_iff_eq_none]
noncomputable def isAt (t : Tr) (r : List (List Int)) (i : Nat) : Bool := is23 t r[i]! && (decide (i = 0) || decide (0 ≤ stepO r[i - 1]! r[i]!))
noncomputable def isR (t : Tr) (r : List (List Int)) : Bool := decide (0 < r.length) && ((r[0]! == List.replicate t.length 0) && ((r[r.length - 1]! == lensC t) && (List.range r.length).all (isAt t r)))
theorem isR_eq {t : Tr} {r : List (List Int)} (hv : validT t = true) : isR t r = runB t r := by
 have hlt : lensC t = lenT t := rfl
 rw [Bool.eq_iff_iff]
 constructor
 ·intro h
  unfold isR at h
  simp only [Bool.and_eq_true, decide_eq_true_eq, List.all_eq_true, List.mem_range] at h
  obtain ⟨h1, h2, h3, h4⟩ := h
  refine runB_yes h1 h2 (by rw [← hlt]; exact h3) fun i hi => ?_
  have hi0 := h4 i (by omega)
  have hi1 := h4 (i + 1) hi
  unfold isAt at hi0 hi1
  rw [Bool.and_eq_true] at hi0 hi1
  have c0 := is23_iff.1 hi0.1
  have c1 := is23_iff.1 hi1.1
  have hst := hi1.2
  rw [decide_eq_false (by omega), Bool.false_or, decide_eq_true_eq, Nat.add_sub_cancel] at hst
  obtain ⟨p, hp, hset⟩ := step_iff.1 hst
  have hpt : p < t.length := by rw [c0.1.1] at hp; exact hp
  have hr1 := c1.1.at hpt
  rw [hset, setG_at hp] at hr1
  have hr0 := c0.1.at hpt
  unfold goesB
  rw [firstAt_any, List.any_eq_true]
  refine ⟨(p : Int), List.mem_map.2 ⟨p, List.mem_range.2 hpt, rfl⟩, ?_⟩
  rw [Int.toNat_natCast]
  unfold stepB mayB
  rw [Bool.and_eq_true, Bool.and_eq_true, decide_eq_true_eq, beq_iff_eq]
  refine ⟨⟨by omega, ?_⟩, hset⟩
  have hin : InC r[i + 1]! (p, (r[i]!)[p]!.toNat) := by
   refine ⟨by show p < (r[i + 1]!).length; rw [hset, List.length_set]; exact hp, ?_⟩
   show (((r[i]!)[p]!.toNat : Nat) : Int) < (r[i + 1]!)[p]!
   rw [hset, setG_at hp]; omega
  have hse := missE_none.1 c1.2 _ hin
  have hinn : Inn t (p, (r[i]!)[p]!.toNat) := c1.1.inn hin
  by_cases hk : (ev t (p, (r[i]!)[p]!.toNat)).kind = 3
  ·obtain ⟨f, j, _, hne, _, _, _, hf, _⟩ := rcv_send hv hinn hk
   rw [sentB_recv hk hf] at hse ⊢
   simp only [decide_eq_true_eq] at hse ⊢
   rw [hset, setG_ne hne] at hse
   exact hse
  ·exact sentB_other hk
 ·intro h
  obtain ⟨h1, h2, h3, h4⟩ := run_parts h
  unfold isR
  rw [decide_eq_true h1, h2, h3, hlt, beq_self_eq_true, beq_self_eq_true, Bool.true_and, Bool.true_and, Bool.true_and, List.all_eq_true]
  intro i hi
  have hi := List.mem_range.1 hi
  unfold isAt
  rw [is23_iff.2 ((run_ok hv h i hi).cons hv), Bool.true_and]
  cases i with
  | zero => rfl
  | succ i =>
    obtain ⟨p, hp, hset, _⟩ := run_step h hi
    have hl := (run_rangeC h (show i < r.length by omega)).1
    rw [Nat.add_sub_cancel, decide_eq_true (step_iff.2 ⟨p, by rw [hl]; exact hp, hset⟩), Bool.or_true]
end Go.Proofs.YtfagfooggcinoaaGreat
namespace Go.Proofs.YtfagfooggcinoaaGreat
open Go.RowKit
set_option linter.unusedVariables false
theorem enters_54 : ∀ args w, (callFunc 54 args).run Tryz.prog w = .ok (.enter 54 args) w := enters_of Tryz.func54 (by kernel_rfl) rfl
set_option maxHeartbeats 1000000 in
theorem same24 (u v : Value) (l m : List Int) (w : World) (hu : Ints w u l) (hv : Ints w v m) (hn : l.length ≤ 1000000) (hm : m.length ≤ 1000000) :
  Calls Tryz.prog 54 #[u, v] w fun e w' => e = .returned (.bool (l == m)) ∧ Drawn w w' := by
 obtain ⟨a, c, rfl, hz1, hu⟩ := hu
 obtain ⟨a2, c2, rfl, hz2, hv⟩ := hv
 clear hz1 hz2
 have HU := Lib.hid hu; clear hu
 have HV := Lib.hid hv; clear hv
 generalize hln : l.length = n at hn
 generalize hlm : m.length = n2 at hm
 have HL := Lib.hid hln; clear hln
 have HM := Lib.hid hlm; clear hlm
 by_cases hne : n = n2
 ·subst hne
  have b1 : ((n : Int) != (n : Int)) = false := by simp
  go_enter Tryz.func54, Tryz.ntmps54
  go_wp2
  go_loopg [5] n (fun g s5 wr => ∃ k : Nat, k ≤ n ∧ n - k ≤ g ∧ s5 = .int .i64 k ∧ Aside (Drawn w wr) ∧ Aside (∀ j, j < k → l[j]! = m[j]!))
  case atStart => exact ⟨0, Nat.zero_le _, by omega, rfl, Drawn.rf _, (fun j hj => absurd hj (Nat.not_lt_zero _))⟩
  case round =>
   obtain ⟨k, hk, hg, rfl, HD, A⟩ := hrel
   by_cases hlt : k < n
   ·obtain ⟨b, off, rfl, hb, hc⟩ := HU.out (by intro e; have := HL.out; simp [e] at this; omega)
    obtain ⟨b2, off2, rfl, hb2, hc2⟩ := HV.out (by intro e; have := HM.out; simp [e] at this; omega)
    have hcell : wr.cell? ⟨b, off + k, none⟩ = some (.int .i64 l[k]!) := HD.out.ext.cl (hc k (by rw [HL.out]; exact hlt))
    have hcell2 : wr.cell? ⟨b2, off2 + k, none⟩ = some (.int .i64 m[k]!) := HD.out.ext.cl (hc2 k (by rw [HM.out]; exact hlt))
    have hltz : (k : Int) < (n : Int) := by omega
    have hkz : (0 : Int) ≤ (k : Int) := by omega
    clear hc HV hc2 HU
    generalize hy : l[k]! = y at hcell
    generalize hz : m[k]! = z at hcell2
    have B := Lib.hid hy
    have C := Lib.hid hz
    clear hy hz
    cases hq : (y != z) with
    | true =>
      have HQ := Lib.hid hq
      go_wp2
      go_quiet (fail)
      go_wp2
      go_ret
      exact ⟨by rw [beq_at l m (by rw [HL.out, HM.out]) ⟨k, by rw [HL.out]; exact hlt, by rw [B.out, C.out]; simpa using HQ.out⟩]; rfl, HD.out.drN _⟩
    | false =>
      have HQ := Lib.hid hq
      go_wp2
      go_quiet (fail)
      go_wp2
      go_roundg (n - (k + 1))
      case measure => omega
      case rel =>
       refine ⟨k + 1, by omega, by omega, by go_num, HD.out.drN _, (show Aside _ from fun j hj => ?_)⟩
       by_cases e : j = k
       ·subst e
        rw [B.out, C.out]; simpa using HQ.out
       ·exact A.out j (by omega)
   ·have hltz : ¬ (k : Int) < (n : Int) := by omega
    go_wp2
    go_ret
    exact ⟨by rw [beq_all l m (by rw [HL.out, HM.out]) (fun j hj => A.out j (by rw [HL.out] at hj; omega))]; rfl, HD.out⟩
 ·have b1 : ((n : Int) != (n2 : Int)) = true := by simp; omega
  have HN := Lib.hid hne; clear hne
  go_enter Tryz.func54, Tryz.ntmps54
  go_wp2
  go_ret
  exact ⟨by rw [beq_len l m (by rw [HL.out, HM.out]; exact HN.out)]; rfl, Drawn.rf _⟩
theorem enters_57 : ∀ args w, (callFunc 57 args).run Tryz.prog w = .ok (.enter 57 args) w := enters_of Tryz.func57 (by kernel_rfl) rfl
set_option maxHeartbeats 4000000 in
set_option maxRecDepth 100000 in
theorem step24_calls (u v : Value) (a b : List Int) (w : World) (hu : Ints w u a) (hv : Ints w v b) (hn : a.length ≤ 1000000) (hm : b.length ≤ 1000000) (hb : ∀ i, i < a.length → -1000000 ≤ a[i]! ∧ a[i]! ≤ 1000000) :
  Calls Tryz.prog 57 #[u, v] w fun e w' => e = .returned (.int .i64 (stepO a b)) ∧ Drawn w w' := by
 have HU := Lib.hid hu
 have HV := Lib.hid hv
 obtain ⟨ua, uc, rfl, hz1, hz2⟩ := hu
 obtain ⟨va, vc, rfl, hz3, hz4⟩ := hv
 clear hz1 hz2 hz3 hz4
 have HBD := Lib.hid hb
 have HST : Hid (stepO a b = if a.length = b.length then (stK a b a.length).getD (-1) else -1) := Lib.hid rfl
 generalize stepO a b = ans at *
 obtain ⟨n, hnl⟩ : ∃ n, a.length = n := ⟨_, rfl⟩
 obtain ⟨m, hml⟩ : ∃ n, b.length = n := ⟨_, rfl⟩
 have HN := Lib.hid hnl
 have HM := Lib.hid hml
 rw [hnl] at hn HU HBD HST ⊢
 rw [hml] at hm HV HST ⊢
 clear hb hnl hml
 by_cases hne : n = m
 case neg =>
  have b1 : ((n : Int) != (m : Int)) = true := by rw [bne_iff_ne]; omega
  have HA := Lib.hid (HST.out.trans (if_neg hne))
  clear hne
  go_enter Tryz.func57, Tryz.ntmps57
  go_wp2
  go_ret
  exact ⟨by rw [HA.out]; rfl, Drawn.rf _⟩
 case pos =>
  subst hne
  have b1 : ((n : Int) != (n : Int)) = false := by simp
  have HA := Lib.hid (HST.out.trans (if_pos rfl))
  go_enter Tryz.func57, Tryz.ntmps57
  go_wp2
  go_loopg [5, 6] n (fun g s5 s6 wr => ∃ (k : Nat) (p : Int), k ≤ n ∧ n - k ≤ g ∧ s5 = .int .i64 p ∧ s6 = .int .i64 k ∧ Aside (stK a b k = some p) ∧ Aside (Drawn w wr))
  case atStart => exact ⟨0, -1, Nat.zero_le _, by omega, rfl, rfl, (show _ = _ from rfl), (show Drawn _ _ from Drawn.rf _)⟩
  case round =>
   obtain ⟨k, p, hk, hg, rfl, rfl, HP, HD⟩ := hrel
   by_cases hlt : k < n
   case neg =>
    have hkz : ¬ (k : Int) < (n : Int) := by omega
    obtain rfl : n = k := by omega
    go_wp2
    go_ret
    exact ⟨by rw [HA.out, HP.out]; rfl, HD.out⟩
   case pos =>
    have hkz : (k : Int) < (n : Int) := by omega
    have hkz0 : (0 : Int) ≤ (k : Int) := by omega
    obtain ⟨b2, o2, rfl, _, hc2⟩ := ints_at HU.out k (by rw [HN.out]; exact hlt)
    obtain ⟨b3, o3, rfl, _, hc3⟩ := ints_at HV.out k (by rw [HM.out]; exact hlt)
    have c2 := HD.out.ext.cl hc2
    have c3 := HD.out.ext.cl hc3
    have hbk := HBD.out k hlt
    have HSK := Lib.hid (fun he => stK_skip (a := a) (b := b) HP.out he)
    have HSB := Lib.hid (fun he hb => stK_bad (a := a) (b := b) HP.out he hb)
    have HSO := Lib.hid (fun he hb => stK_one (a := a) (b := b) HP.out he hb)
    have HSN := Lib.hid (fun h => stK_none (a := a) (b := b) (k := k + 1) h n (by omega))
    generalize a[k]! = x at *
    generalize b[k]! = y at *
    have hw : IntKind.i64.wrap (x + 1) = x + 1 := IntWalk.i64_in _ (by omega)
    clear hc2 hc3
    by_cases hxy : x = y
    case pos =>
     subst hxy
     have g1 : (x == x) = true := by simp
     have HN2 := Lib.hid (HSK.out rfl)
     go_wp2
     go_quiet (fail)
     clear hw
     go_wp2
     go_roundg (n - (k + 1))
     case measure => omega
     case rel => exact ⟨k + 1, p, by omega, by omega, rfl, by go_num, (show _ = _ from HN2.out), (show Drawn _ _ from HD.out.drN _)⟩
    case neg =>
     have g1 : (x == y) = false := by rw [beq_eq_false_iff_ne]; exact hxy
     by_cases hp0 : 0 ≤ p
     case pos =>
      have g2 : decide (0 ≤ p) = true := decide_eq_true hp0
      have HF := Lib.hid (HSN.out (HSB.out hxy (.inl hp0)))
      clear hp0 hxy
      go_wp2
      go_quiet (fail)
      go_wp2
      go_quiet (fail)
      clear hw
      go_wp2
      go_ret
      exact ⟨by rw [HA.out, HF.out]; rfl, (HD.out.drN _).drN _⟩
     case neg =>
      have g2 : decide (0 ≤ p) = false := decide_eq_false hp0
      by_cases hy1 : y = x + 1
      case neg =>
       have g3 : (y != x + 1) = true := by rw [bne_iff_ne]; exact hy1
       have HF := Lib.hid (HSN.out (HSB.out hxy (.inr hy1)))
       clear hp0 hxy hy1
       go_wp2
       go_quiet (fail)
       go_wp2
       go_quiet (fail)
       clear hw
       go_wp2
       go_ret
       exact ⟨by rw [HA.out, HF.out]; rfl, (HD.out.drN _).drN _⟩
      case pos =>
       have g3 : (y != x + 1) = false := by rw [bne_eq_false_iff_eq]; exact hy1
       have HN2 := Lib.hid (HSO.out hxy (by rintro (h | h); exact hp0 h; exact h hy1))
       clear hp0 hxy hy1
       go_wp2
       go_quiet (fail)
       go_wp2
       go_quiet (fail)
       clear hw
       go_wp2
       go_roundg (n - (k + 1))
       case measure => omega
       case rel => exact ⟨k + 1, (k : Int), by omega, by omega, rfl, by go_num, (show _ = _ from HN2.out), (show Drawn _ _ from HD.out.drN _)⟩
theorem enters_56 : ∀ args w, (callFunc 56 args).run Tryz.prog w = .ok (.enter 56 args) w := enters_of Tryz.func56 (by kernel_rfl) rfl
set_option maxHeartbeats 2000000 in
theorem is23_calls (v vc : Value) (t : Tr) (c : List Int) (w : World) (h : TrAt w v t) (hv : validT t = true) (hc : Ints w vc c) :
  Calls Tryz.prog 56 #[.agg #[v], vc] w fun e w' => e = .returned (.bool (is23 t c)) ∧ Ext w w' := by
 have HC1 := Lib.hid (fun W (hW : Ext w W) => cutR_calls v vc t c W (h.ext hW) (valid_small hv) (hc.ext hW))
 have HC2 := Lib.hid (fun W (hW : Ext w W) (hr : RangeC t c) => consR_calls v vc t c W (h.ext hW) hv (hc.ext hW) hr)
 have HIS : Hid (is23 t c = ((fitsB t c && rangeB t c) && (missE t c).isNone)) := Lib.hid rfl
 obtain ⟨ta, tc, rfl, htc⟩ := h.sh
 obtain ⟨ca, cc, rfl, hz1, hz2⟩ := hc
 have HX1 := Lib.hid ((Ext.rf w).al (.cells #[.slice ta t.length tc] 24))
 have HB1 := Lib.hid (heap_alloc_new w (.cells #[.slice ta t.length tc] 24))
 have t0 := cellOf HB1.out 0
 simp only [List.getElem?_toArray, List.getElem?_cons_zero] at t0
 obtain ⟨cb, hcb⟩ : ∃ x, (fitsB t c && rangeB t c) = x := ⟨_, rfl⟩
 have HCB := Lib.hid hcb
 rw [hcb] at HC1 HIS
 generalize is23 t c = ans at *
 generalize (missE t c).isNone = mb at *
 generalize t.length = N at *
 generalize c.length = n at *
 clear h hv hz1 hz2 hcb
 cases cb with
 | false =>
   have HA : Hid (ans = false) := Lib.hid HIS.out
   go_enter Tryz.func56, Tryz.ntmps56
   go_wp2_with fail
   refine (HC1.out _ HX1.out).mono ?_
   rintro e w2 ⟨rfl, hX2⟩
   go_wp2
   go_ret
   exact ⟨by rw [HA.out]; rfl, HX1.out.trans' hX2⟩
 | true =>
   have HA : Hid (ans = mb) := Lib.hid HIS.out
   have HC3 := Lib.hid (fun W (hW : Ext w W) => HC2.out W hW (by
    have h := HCB.out
    rw [Bool.and_eq_true] at h
    exact ⟨of_decide_eq_true h.1, h.2⟩))
   clear HC2
   go_enter Tryz.func56, Tryz.ntmps56
   go_wp2_with fail
   refine (HC1.out _ HX1.out).mono ?_
   rintro e w2 ⟨rfl, hX2⟩
   have HX2 := Lib.hid (HX1.out.trans' hX2)
   have t2 := hX2.cl t0
   clear t0 hX2
   go_wp2_with fail
   refine (HC3.out _ HX2.out).mono ?_
   rintro e w3 ⟨rfl, hX3⟩
   go_wp2
   go_ret
   exact ⟨by rw [HA.out]; rfl, HX2.out.trans' hX3⟩
end Go.Proofs.YtfagfooggcinoaaGreat
namespace Go.Proofs.YtfagfooggcinoaaGreat
open Go.RowKit
set_option linter.unusedVariables false
theorem enters_13 : ∀ args w, (callFunc 13 args).run Tryz.prog w = .ok (.enter 13 args) w := enters_of Tryz.func13 (by kernel_rfl) rfl
theorem enters_55 : ∀ args w, (callFunc 55 args).run Tryz.prog w = .ok (.enter 55 args) w := enters_of Tryz.func55 (by kernel_rfl) rfl
theorem isR_none {t : Tr} {r : List (List Int)} (h : r.length = 0) : isR t r = false := by
 unfold isR; rw [decide_eq_false (by omega)]; rfl
theorem isR_first {t : Tr} {r : List (List Int)} (h : (r[0]! == List.replicate t.length 0) = false) : isR t r = false := by
 unfold isR; rw [h]; simp
theorem isR_last {t : Tr} {r : List (List Int)} (h : (r[r.length - 1]! == lensC t) = false) : isR t r = false := by
 unfold isR; rw [h]; simp
theorem isR_bad {t : Tr} {r : List (List Int)} {i : Nat} (hi : i < r.length) (h : isAt t r i = false) : isR t r = false := by
 unfold isR
 rw [show (List.range r.length).all (isAt t r) = false from by rw [List.all_eq_false]; exact ⟨i, List.mem_range.2 hi, by rw [h]; simp⟩]
 simp
theorem isR_yes {t : Tr} {r : List (List Int)} (h1 : 0 < r.length) (h2 : (r[0]! == List.replicate t.length 0) = true) (h3 : (r[r.length - 1]! == lensC t) = true) (h : ∀ i, i < r.length → isAt t r i = true) : isR t r = true := by
 unfold isR
 rw [decide_eq_true h1, h2, h3, show (List.range r.length).all (isAt t r) = true from by rw [List.all_eq_true]; exact fun i hi => h i (List.mem_range.1 hi)]
 rfl
set_option maxHeartbeats 8000000 in
set_option maxRecDepth 100000 in
theorem isR_calls (v rv : Value) (t : Tr) (r : List (List Int)) (w : World) (h : TrAt w v t) (hs : LooseTr t) (hrv : Sl RInts 1 w rv r) (hrl : r.length ≤ 1000000) (hil : ∀ i, i < r.length → r[i]!.length ≤ 1000000) :
  Calls Tryz.prog 15 #[.agg #[v], rv] w fun e w' => e = .returned (.bool (validT t && runB t r)) ∧ Ext w w' := by
 have HVR := Lib.hid (fun W (hW : Ext w W) => validR_calls v t W (h.ext hW) hs)
 have HT := Lib.hid h
 have HRV := Lib.hid hrv
 have HIL := Lib.hid hil
 obtain ⟨ta, tc, rfl, htc⟩ := h.sh
 obtain ⟨ra, rc, rfl, hrc⟩ := hrv.sh
 have HX1 := Lib.hid ((Ext.rf w).al (.cells #[.slice ta t.length tc] 24))
 have HB1 := Lib.hid (heap_alloc_new w (.cells #[.slice ta t.length tc] 24))
 have t0 := cellOf HB1.out 0
 simp only [List.getElem?_toArray, List.getElem?_cons_zero] at t0
 obtain ⟨R, hR⟩ : ∃ R, r.length = R := ⟨_, rfl⟩
 have HRL := Lib.hid hR
 rw [hR] at hrl hrc HRV ⊢
 cases hv : validT t with
 | false =>
   rw [hv] at HVR
   have HA : Hid ((false && runB t r) = false) := Lib.hid rfl
   rw [HA.out]
   generalize t.length = N at *
   clear h hs htc hrv hv hR hil hrc
   go_enter Tryz.func15, Tryz.ntmps15
   go_upto_region 1 with (fail)
   generalize w.alloc (.cells #[.slice ta N tc] 24) = w1 at *
   have HA : Hid (false = false) := Lib.hid rfl
   refine wp_region_tail (fun W => W.cell? ⟨w.heap.size, 0, none⟩ = some (.slice ta N tc)) 30 (by kernel_rfl) t0 (fun hHeld => ?_)
   refine tkA 0 6 (v := ?_) rfl rfl (by kernel_rfl) (fun _ _ _ h => h) ?_ (by assumption) ?_
   rotate_left
   ·(intro w hSw; (try dsimp only at hSw); go_simp; try (with_reducible rfl))
   try simp only [Act.put]
   try simp only [List.setIfInBounds_toArray]
   try simp only [List.set_cons_zero, List.set_cons_succ]
   refine wpAnyT_step (i := 1) (o := ⟨some 7, _, _, _, _, _⟩) (by kernel_rfl) rfl (fun K hK => ?_)
   refine step_call rfl 13 _ _ rfl enters_13 [.agg #[.slice ta N tc]] (by first | rfl | kernel_rfl | go_simp) (HVR.out _ (HX1.out.dr)) ?_
   rintro e y1 ⟨rfl, hXy⟩
   refine ⟨_, rfl, ?_⟩
   have HXY : Hid (Ext w1 y1) := Lib.hid ((Ext.rf w1).dr.trans' hXy)
   clear hXy
   refine hK.out _ _ ?_ (fun hHeld => ?_)
   ·(try dsimp only)
    exact HXY.out.cl t0
   clear hK K
   try simp only [Act.put]
   try simp only [List.setIfInBounds_toArray]
   try simp only [List.set_cons_zero, List.set_cons_succ]
   refine tkA 2 8 (v := ?_) rfl rfl (by kernel_rfl) (fun _ _ _ h => h) ?_ (by assumption) ?_
   rotate_left
   ·(intro w hSw; (try dsimp only at hSw); go_simp; try (with_reducible rfl))
   try simp only [Act.put]
   try simp only [List.setIfInBounds_toArray]
   try simp only [List.set_cons_zero, List.set_cons_succ]
   refine tkA 3 9 (v := ?_) rfl rfl (by kernel_rfl) (fun _ _ _ h => h) ?_ (by assumption) ?_
   rotate_left
   ·(intro w hSw; (try dsimp only at hSw); go_simp; try (with_reducible rfl))
   try simp only [Act.put]
   try simp only [List.setIfInBounds_toArray]
   try simp only [List.set_cons_zero, List.set_cons_succ]
   refine tkU 4 10 rfl rfl (by kernel_rfl) (fun _ _ _ h => h) (by assumption) ?_
   try simp only [Act.put]
   try simp only [List.setIfInBounds_toArray]
   try simp only [List.set_cons_zero, List.set_cons_succ]
   refine tkU 5 11 rfl rfl (by kernel_rfl) (fun _ _ _ h => h) (by assumption) ?_
   try simp only [Act.put]
   try simp only [List.setIfInBounds_toArray]
   try simp only [List.set_cons_zero, List.set_cons_succ]
   refine tkU 6 12 rfl rfl (by kernel_rfl) (fun _ _ _ h => h) (by assumption) ?_
   try simp only [Act.put]
   try simp only [List.setIfInBounds_toArray]
   try simp only [List.set_cons_zero, List.set_cons_succ]
   refine tkA 7 13 (v := ?_) rfl rfl (by kernel_rfl) (fun _ _ _ h => h) ?_ (by assumption) ?_
   rotate_left
   ·(intro w hSw; (try dsimp only at hSw); go_simp; try (with_reducible rfl))
   try simp only [Act.put]
   try simp only [List.setIfInBounds_toArray]
   try simp only [List.set_cons_zero, List.set_cons_succ]
   refine tkA 8 14 (v := ?_) rfl rfl (by kernel_rfl) (fun _ _ _ h => h) ?_ (by assumption) ?_
   rotate_left
   ·(intro w hSw; (try dsimp only at hSw); go_simp; try (with_reducible rfl))
   try simp only [Act.put]
   try simp only [List.setIfInBounds_toArray]
   try simp only [List.set_cons_zero, List.set_cons_succ]
   refine tkU 9 15 rfl rfl (by kernel_rfl) (fun _ _ _ h => h) (by assumption) ?_
   try simp only [Act.put]
   try simp only [List.setIfInBounds_toArray]
   try simp only [List.set_cons_zero, List.set_cons_succ]
   refine tkU 10 16 rfl rfl (by kernel_rfl) (fun _ _ _ h => h) (by assumption) ?_
   try simp only [Act.put]
   try simp only [List.setIfInBounds_toArray]
   try simp only [List.set_cons_zero, List.set_cons_succ]
   refine tkU 11 17 rfl rfl (by kernel_rfl) (fun _ _ _ h => h) (by assumption) ?_
   try simp only [Act.put]
   try simp only [List.setIfInBounds_toArray]
   try simp only [List.set_cons_zero, List.set_cons_succ]
   refine tkU 12 18 rfl rfl (by kernel_rfl) (fun _ _ _ h => h) (by assumption) ?_
   try simp only [Act.put]
   try simp only [List.setIfInBounds_toArray]
   try simp only [List.set_cons_zero, List.set_cons_succ]
   refine tkU 13 19 rfl rfl (by kernel_rfl) (fun _ _ _ h => h) (by assumption) ?_
   try simp only [Act.put]
   try simp only [List.setIfInBounds_toArray]
   try simp only [List.set_cons_zero, List.set_cons_succ]
   refine tkU 14 20 rfl rfl (by kernel_rfl) (fun _ _ _ h => h) (by assumption) ?_
   try simp only [Act.put]
   try simp only [List.setIfInBounds_toArray]
   try simp only [List.set_cons_zero, List.set_cons_succ]
   refine tkU 15 21 rfl rfl (by kernel_rfl) (fun _ _ _ h => h) (by assumption) ?_
   try simp only [Act.put]
   try simp only [List.setIfInBounds_toArray]
   try simp only [List.set_cons_zero, List.set_cons_succ]
   refine tkU 16 22 rfl rfl (by kernel_rfl) (fun _ _ _ h => h) (by assumption) ?_
   try simp only [Act.put]
   try simp only [List.setIfInBounds_toArray]
   try simp only [List.set_cons_zero, List.set_cons_succ]
   refine tkU 17 23 rfl rfl (by kernel_rfl) (fun _ _ _ h => h) (by assumption) ?_
   try simp only [Act.put]
   try simp only [List.setIfInBounds_toArray]
   try simp only [List.set_cons_zero, List.set_cons_succ]
   refine tkA 18 24 (v := ?_) rfl rfl (by kernel_rfl) (fun _ _ _ h => h) ?_ (by assumption) ?_
   rotate_left
   ·(intro w hSw; (try dsimp only at hSw); go_simp; try (with_reducible rfl))
   try simp only [Act.put]
   try simp only [List.setIfInBounds_toArray]
   try simp only [List.set_cons_zero, List.set_cons_succ]
   refine tkA 19 25 (v := ?_) rfl rfl (by kernel_rfl) (fun _ _ _ h => h) ?_ (by assumption) ?_
   rotate_left
   ·(intro w hSw; (try dsimp only at hSw); go_simp; try (with_reducible rfl))
   try simp only [Act.put]
   try simp only [List.setIfInBounds_toArray]
   try simp only [List.set_cons_zero, List.set_cons_succ]
   refine tkU 20 26 rfl rfl (by kernel_rfl) (fun _ _ _ h => h) (by assumption) ?_
   try simp only [Act.put]
   try simp only [List.setIfInBounds_toArray]
   try simp only [List.set_cons_zero, List.set_cons_succ]
   refine tkU 21 27 rfl rfl (by kernel_rfl) (fun _ _ _ h => h) (by assumption) ?_
   try simp only [Act.put]
   try simp only [List.setIfInBounds_toArray]
   try simp only [List.set_cons_zero, List.set_cons_succ]
   refine tkU 22 28 rfl rfl (by kernel_rfl) (fun _ _ _ h => h) (by assumption) ?_
   try simp only [Act.put]
   try simp only [List.setIfInBounds_toArray]
   try simp only [List.set_cons_zero, List.set_cons_succ]
   refine tkU 23 29 rfl rfl (by kernel_rfl) (fun _ _ _ h => h) (by assumption) ?_
   try simp only [Act.put]
   try simp only [List.setIfInBounds_toArray]
   try simp only [List.set_cons_zero, List.set_cons_succ]
   refine tkU 24 30 rfl rfl (by kernel_rfl) (fun _ _ _ h => h) (by assumption) ?_
   try simp only [Act.put]
   try simp only [List.setIfInBounds_toArray]
   try simp only [List.set_cons_zero, List.set_cons_succ]
   refine tkU 25 31 rfl rfl (by kernel_rfl) (fun _ _ _ h => h) (by assumption) ?_
   try simp only [Act.put]
   try simp only [List.setIfInBounds_toArray]
   try simp only [List.set_cons_zero, List.set_cons_succ]
   refine tkU 26 32 rfl rfl (by kernel_rfl) (fun _ _ _ h => h) (by assumption) ?_
   try simp only [Act.put]
   try simp only [List.setIfInBounds_toArray]
   try simp only [List.set_cons_zero, List.set_cons_succ]
   refine tkU 27 33 rfl rfl (by kernel_rfl) (fun _ _ _ h => h) (by assumption) ?_
   try simp only [Act.put]
   try simp only [List.setIfInBounds_toArray]
   try simp only [List.set_cons_zero, List.set_cons_succ]
   refine tkU 28 34 rfl rfl (by kernel_rfl) (fun _ _ _ h => h) (by assumption) ?_
   try simp only [Act.put]
   try simp only [List.setIfInBounds_toArray]
   try simp only [List.set_cons_zero, List.set_cons_succ]
   refine tkU 29 35 rfl rfl (by kernel_rfl) (fun _ _ _ h => h) (by assumption) ?_
   try simp only [Act.put]
   try simp only [List.setIfInBounds_toArray]
   try simp only [List.set_cons_zero, List.set_cons_succ]
   refine wpAnyT_last (by kernel_rfl) rfl (by kernel_rfl) (fun K hK => ?_)
   go_simp
   refine hK.out _ _ ?_
   go_wp2
   go_ret
   exact ⟨rfl, HX1.out.trans' HXY.out⟩
 | true =>
   rw [hv] at HVR
   rw [Bool.true_and, ← isR_eq hv]
   have hn8 := valid_8 hv
   have HVT := Lib.hid hv
   have HNO := Lib.hid (isR_none (t := t) (r := r))
   have HFI := Lib.hid (isR_first (t := t) (r := r))
   have HLA := Lib.hid (isR_last (t := t) (r := r))
   have HBA := Lib.hid (fun i => isR_bad (t := t) (r := r) (i := i))
   have HYE := Lib.hid (isR_yes (t := t) (r := r))
   generalize isR t r = ans at *
   obtain ⟨N, hN⟩ : ∃ N, t.length = N := ⟨_, rfl⟩
   have HNT := Lib.hid hN
   rw [hN] at HX1 HB1 t0 HT HVR htc hn8 HFI HYE ⊢
   clear h hs hrv hv hR hil hN
   by_cases hR0 : R = 0
   case pos =>
    have HA := Lib.hid (HNO.out (by rw [HRL.out]; exact hR0))
    have g1 : ((R : Int) == 0) = true := by rw [beq_iff_eq]; omega
    have g2 : decide (R = 0) = true := decide_eq_true hR0
    clear hR0
    go_enter Tryz.func15, Tryz.ntmps15
    go_upto_region 1 with (fail)
    generalize w.alloc (.cells #[.slice ta N tc] 24) = w1 at *
    refine wp_region_tail (fun W => W.cell? ⟨w.heap.size, 0, none⟩ = some (.slice ta N tc)) 30 (by kernel_rfl) t0 (fun hHeld => ?_)
    refine tkA 0 6 (v := ?_) rfl rfl (by kernel_rfl) (fun _ _ _ h => h) ?_ (by assumption) ?_
    rotate_left
    ·(intro w hSw; (try dsimp only at hSw); go_simp; try (with_reducible rfl))
    try simp only [Act.put]
    try simp only [List.setIfInBounds_toArray]
    try simp only [List.set_cons_zero, List.set_cons_succ]
    refine wpAnyT_step (i := 1) (o := ⟨some 7, _, _, _, _, _⟩) (by kernel_rfl) rfl (fun K hK => ?_)
    refine step_call rfl 13 _ _ rfl enters_13 [.agg #[.slice ta N tc]] (by first | rfl | kernel_rfl | go_simp) (HVR.out _ (HX1.out.dr)) ?_
    rintro e y1 ⟨rfl, hXy⟩
    refine ⟨_, rfl, ?_⟩
    have HXY : Hid (Ext w1 y1) := Lib.hid ((Ext.rf w1).dr.trans' hXy)
    clear hXy
    refine hK.out _ _ ?_ (fun hHeld => ?_)
    ·(try dsimp only)
     exact HXY.out.cl t0
    clear hK K
    try simp only [Act.put]
    try simp only [List.setIfInBounds_toArray]
    try simp only [List.set_cons_zero, List.set_cons_succ]
    refine tkA 2 8 (v := ?_) rfl rfl (by kernel_rfl) (fun _ _ _ h => h) ?_ (by assumption) ?_
    rotate_left
    ·(intro w hSw; (try dsimp only at hSw); go_simp; try (with_reducible rfl))
    try simp only [Act.put]
    try simp only [List.setIfInBounds_toArray]
    try simp only [List.set_cons_zero, List.set_cons_succ]
    refine tkA 3 9 (v := ?_) rfl rfl (by kernel_rfl) (fun _ _ _ h => h) ?_ (by assumption) ?_
    rotate_left
    ·(intro w hSw; (try dsimp only at hSw); go_simp; try (with_reducible rfl))
    try simp only [Act.put]
    try simp only [List.setIfInBounds_toArray]
    try simp only [List.set_cons_zero, List.set_cons_succ]
    refine tkA 4 10 (v := ?_) rfl rfl (by kernel_rfl) (fun _ _ _ h => h) ?_ (by assumption) ?_
    rotate_left
    ·(intro w hSw; (try dsimp only at hSw); go_simp; try (with_reducible rfl))
    try simp only [Act.put]
    try simp only [List.setIfInBounds_toArray]
    try simp only [List.set_cons_zero, List.set_cons_succ]
    refine tkA 5 11 (v := ?_) rfl rfl (by kernel_rfl) (fun _ _ _ h => h) ?_ (by assumption) ?_
    rotate_left
    ·(intro w hSw; (try dsimp only at hSw); go_simp; try (with_reducible rfl))
    try simp only [Act.put]
    try simp only [List.setIfInBounds_toArray]
    try simp only [List.set_cons_zero, List.set_cons_succ]
    refine tkA 6 12 (v := ?_) rfl rfl (by kernel_rfl) (fun _ _ _ h => h) ?_ (by assumption) ?_
    rotate_left
    ·(intro w hSw; (try dsimp only at hSw); go_simp; try (with_reducible rfl))
    try simp only [Act.put]
    try simp only [List.setIfInBounds_toArray]
    try simp only [List.set_cons_zero, List.set_cons_succ]
    refine tkA 7 13 (v := ?_) rfl rfl (by kernel_rfl) (fun _ _ _ h => h) ?_ (by assumption) ?_
    rotate_left
    ·(intro w hSw; (try dsimp only at hSw); go_simp; try (with_reducible rfl))
    try simp only [Act.put]
    try simp only [List.setIfInBounds_toArray]
    try simp only [List.set_cons_zero, List.set_cons_succ]
    refine tkA 8 14 (v := ?_) rfl rfl (by kernel_rfl) (fun _ _ _ h => h) ?_ (by assumption) ?_
    rotate_left
    ·(intro w hSw; (try dsimp only at hSw); go_simp; try (with_reducible rfl))
    try simp only [Act.put]
    try simp only [List.setIfInBounds_toArray]
    try simp only [List.set_cons_zero, List.set_cons_succ]
    refine tkU 9 15 rfl rfl (by kernel_rfl) (fun _ _ _ h => h) (by assumption) ?_
    try simp only [Act.put]
    try simp only [List.setIfInBounds_toArray]
    try simp only [List.set_cons_zero, List.set_cons_succ]
    refine tkU 10 16 rfl rfl (by kernel_rfl) (fun _ _ _ h => h) (by assumption) ?_
    try simp only [Act.put]
    try simp only [List.setIfInBounds_toArray]
    try simp only [List.set_cons_zero, List.set_cons_succ]
    refine tkU 11 17 rfl rfl (by kernel_rfl) (fun _ _ _ h => h) (by assumption) ?_
    try simp only [Act.put]
    try simp only [List.setIfInBounds_toArray]
    try simp only [List.set_cons_zero, List.set_cons_succ]
    refine tkU 12 18 rfl rfl (by kernel_rfl) (fun _ _ _ h => h) (by assumption) ?_
    try simp only [Act.put]
    try simp only [List.setIfInBounds_toArray]
    try simp only [List.set_cons_zero, List.set_cons_succ]
    refine tkU 13 19 rfl rfl (by kernel_rfl) (fun _ _ _ h => h) (by assumption) ?_
    try simp only [Act.put]
    try simp only [List.setIfInBounds_toArray]
    try simp only [List.set_cons_zero, List.set_cons_succ]
    refine tkU 14 20 rfl rfl (by kernel_rfl) (fun _ _ _ h => h) (by assumption) ?_
    try simp only [Act.put]
    try simp only [List.setIfInBounds_toArray]
    try simp only [List.set_cons_zero, List.set_cons_succ]
    refine tkU 15 21 rfl rfl (by kernel_rfl) (fun _ _ _ h => h) (by assumption) ?_
    try simp only [Act.put]
    try simp only [List.setIfInBounds_toArray]
    try simp only [List.set_cons_zero, List.set_cons_succ]
    refine tkU 16 22 rfl rfl (by kernel_rfl) (fun _ _ _ h => h) (by assumption) ?_
    try simp only [Act.put]
    try simp only [List.setIfInBounds_toArray]
    try simp only [List.set_cons_zero, List.set_cons_succ]
    refine tkU 17 23 rfl rfl (by kernel_rfl) (fun _ _ _ h => h) (by assumption) ?_
    try simp only [Act.put]
    try simp only [List.setIfInBounds_toArray]
    try simp only [List.set_cons_zero, List.set_cons_succ]
    refine tkA 18 24 (v := ?_) rfl rfl (by kernel_rfl) (fun _ _ _ h => h) ?_ (by assumption) ?_
    rotate_left
    ·(intro w hSw; (try dsimp only at hSw); go_simp; try (with_reducible rfl))
    try simp only [Act.put]
    try simp only [List.setIfInBounds_toArray]
    try simp only [List.set_cons_zero, List.set_cons_succ]
    refine tkA 19 25 (v := ?_) rfl rfl (by kernel_rfl) (fun _ _ _ h => h) ?_ (by assumption) ?_
    rotate_left
    ·(intro w hSw; (try dsimp only at hSw); go_simp; try (with_reducible rfl))
    try simp only [Act.put]
    try simp only [List.setIfInBounds_toArray]
    try simp only [List.set_cons_zero, List.set_cons_succ]
    refine tkU 20 26 rfl rfl (by kernel_rfl) (fun _ _ _ h => h) (by assumption) ?_
    try simp only [Act.put]
    try simp only [List.setIfInBounds_toArray]
    try simp only [List.set_cons_zero, List.set_cons_succ]
    refine tkU 21 27 rfl rfl (by kernel_rfl) (fun _ _ _ h => h) (by assumption) ?_
    try simp only [Act.put]
    try simp only [List.setIfInBounds_toArray]
    try simp only [List.set_cons_zero, List.set_cons_succ]
    refine tkU 22 28 rfl rfl (by kernel_rfl) (fun _ _ _ h => h) (by assumption) ?_
    try simp only [Act.put]
    try simp only [List.setIfInBounds_toArray]
    try simp only [List.set_cons_zero, List.set_cons_succ]
    refine tkU 23 29 rfl rfl (by kernel_rfl) (fun _ _ _ h => h) (by assumption) ?_
    try simp only [Act.put]
    try simp only [List.setIfInBounds_toArray]
    try simp only [List.set_cons_zero, List.set_cons_succ]
    refine tkU 24 30 rfl rfl (by kernel_rfl) (fun _ _ _ h => h) (by assumption) ?_
    try simp only [Act.put]
    try simp only [List.setIfInBounds_toArray]
    try simp only [List.set_cons_zero, List.set_cons_succ]
    refine tkU 25 31 rfl rfl (by kernel_rfl) (fun _ _ _ h => h) (by assumption) ?_
    try simp only [Act.put]
    try simp only [List.setIfInBounds_toArray]
    try simp only [List.set_cons_zero, List.set_cons_succ]
    refine tkU 26 32 rfl rfl (by kernel_rfl) (fun _ _ _ h => h) (by assumption) ?_
    try simp only [Act.put]
    try simp only [List.setIfInBounds_toArray]
    try simp only [List.set_cons_zero, List.set_cons_succ]
    refine tkU 27 33 rfl rfl (by kernel_rfl) (fun _ _ _ h => h) (by assumption) ?_
    try simp only [Act.put]
    try simp only [List.setIfInBounds_toArray]
    try simp only [List.set_cons_zero, List.set_cons_succ]
    refine tkU 28 34 rfl rfl (by kernel_rfl) (fun _ _ _ h => h) (by assumption) ?_
    try simp only [Act.put]
    try simp only [List.setIfInBounds_toArray]
    try simp only [List.set_cons_zero, List.set_cons_succ]
    refine tkU 29 35 rfl rfl (by kernel_rfl) (fun _ _ _ h => h) (by assumption) ?_
    try simp only [Act.put]
    try simp only [List.setIfInBounds_toArray]
    try simp only [List.set_cons_zero, List.set_cons_succ]
    refine wpAnyT_last (by kernel_rfl) rfl (by kernel_rfl) (fun K hK => ?_)
    go_simp
    refine hK.out _ _ ?_
    have HXF := Lib.hid (HX1.out.trans' HXY.out)
    go_wp2
    go_ret
    exact ⟨by rw [HA.out]; rfl, HXF.out⟩
   case neg =>
    obtain ⟨Z, hZ⟩ : ∃ Z, R = Z + 1 := ⟨R - 1, by omega⟩
    have HRZ := Lib.hid hZ
    have g1 : ((R : Int) == 0) = false := by rw [beq_eq_false_iff_ne]; omega
    have g2 : decide (R = 0) = false := decide_eq_false (by omega)
    obtain ⟨rB, rO, rC, a0, c0, hre, hrC, hrB, hr0, hI0⟩ := rowAt HRV.out 0 (by rw [HRL.out]; omega)
    obtain ⟨rB', rO', rC', aL, cL, hre', _, _, hrL, hIL⟩ := rowAt HRV.out Z (by rw [HRL.out]; omega)
    simp only [Value.slice.injEq] at hre hre'
    obtain ⟨rfl, hq1, rfl⟩ := hre
    obtain ⟨hq2, hq3, hq4⟩ := hre'
    clear hq1 hq3 hq4
    simp only [Option.some.injEq, Addr.mk.injEq, and_true] at hq2
    obtain ⟨rfl, rfl⟩ := hq2
    have HI0 := Lib.hid hI0
    have HIL2 := Lib.hid hIL
    have hm0 := HIL.out 0 (by rw [HRL.out]; omega)
    have hmL := HIL.out Z (by rw [HRL.out]; omega)
    have r0 := HX1.out.cl hr0
    have rL := HX1.out.cl hrL
    rw [Nat.add_zero] at r0
    have HS0 := Lib.hid (fun W (hW : Ext w W) u (hu : Ints W u (List.replicate N 0)) => same24 _ u r[0]! (List.replicate N 0) W (HI0.out.ext hW) hu hm0 (by rw [List.length_replicate]; omega))
    have HSL := Lib.hid (fun W (hW : Ext w W) u (hu : Ints W u (lensC t)) => same24 _ u r[Z]! (lensC t) W (HIL2.out.ext hW) hu hmL (by unfold lensC; rw [lensTo_len, HNT.out]; omega))
    have HLG := Lib.hid (fun W (hW : Ext w W) => lengthsQ_calls _ t W (HT.out.ext hW) (valid_small HVT.out))
    have HLN : Hid ((lensC t).length = N) := Lib.hid (by unfold lensC; rw [lensTo_len, HNT.out])
    obtain ⟨s1, hs1⟩ : ∃ b, (r[0]! == List.replicate N 0) = b := ⟨_, rfl⟩
    obtain ⟨s2, hs2⟩ : ∃ b, (r[Z]! == lensC t) = b := ⟨_, rfl⟩
    rw [hs1] at HS0
    rw [hs2] at HSL
    have HS1 := Lib.hid hs1
    have HS2 := Lib.hid (show (r[r.length - 1]! == lensC t) = s2 from by rw [HRL.out, hZ]; exact hs2)
    obtain ⟨ii, hii, iz0, iz1, iz2⟩ := info_partsM info_intG
    have hmk := (fun W : World => run_make (P := Tryz.prog) W 39 3 ii (.int .i64 0) Tryz.underlying39 hii iz0 .i64 .i64 (N : Int) (N : Int) (by omega) (by omega) (by rw [iz2]; omega) (by omega))
    rw [iz1] at hmk
    simp only [Int.toNat_natCast, Nat.mul_one] at hmk
    have hw : IntKind.i64.wrap ((R : Int) - 1) = (Z : Int) := by rw [show (R : Int) - 1 = (Z : Int) by omega]; exact IntWalk.i64_in _ (by omega)
    have hz1 : (Z : Int) < (R : Int) := by omega
    have hz2 : (0 : Int) ≤ (Z : Int) := by omega
    have hz3 : (0 : Int) < (R : Int) := by omega
    have hz4 : 0 < R := by omega
    generalize r[0]!.length = l0 at *
    generalize r[Z]!.length = lL at *
    clear hZ hr0 hrL hs1 hs2 hI0 hIL hR0
    go_enter Tryz.func15, Tryz.ntmps15
    go_upto_region 1 with (fail)
    generalize w.alloc (.cells #[.slice ta N tc] 24) = w1 at *
    refine wp_region_tail (fun W => W.cell? ⟨w.heap.size, 0, none⟩ = some (.slice ta N tc) ∧ W.cell? ⟨rB, rO, none⟩ = some (.slice a0 l0 c0) ∧ W.cell? ⟨rB, rO + Z, none⟩ = some (.slice aL lL cL)) 30 (by kernel_rfl) ⟨t0, r0, rL⟩ (fun hHeld => ?_)
    refine tkA 0 6 (v := ?_) rfl rfl (by kernel_rfl) (fun _ _ _ h => h) ?_ (by assumption) ?_
    rotate_left
    ·(intro w hSw; (try dsimp only at hSw); go_simp; try (with_reducible rfl))
    try simp only [Act.put]
    try simp only [List.setIfInBounds_toArray]
    try simp only [List.set_cons_zero, List.set_cons_succ]
    refine wpAnyT_step (i := 1) (o := ⟨some 7, _, _, _, _, _⟩) (by kernel_rfl) rfl (fun K hK => ?_)
    refine step_call rfl 13 _ _ rfl enters_13 [.agg #[.slice ta N tc]] (by first | rfl | kernel_rfl | go_simp) (HVR.out _ (HX1.out.dr)) ?_
    rintro e y1 ⟨rfl, hXy⟩
    refine ⟨_, rfl, ?_⟩
    have HXY : Hid (Ext w1 y1) := Lib.hid ((Ext.rf w1).dr.trans' hXy)
    clear hXy
    refine hK.out _ _ ?_ (fun hHeld => ?_)
    ·(try dsimp only)
     exact ⟨HXY.out.cl t0, HXY.out.cl r0, HXY.out.cl rL⟩
    clear hK K
    try simp only [Act.put]
    try simp only [List.setIfInBounds_toArray]
    try simp only [List.set_cons_zero, List.set_cons_succ]
    refine tkA 2 8 (v := ?_) rfl rfl (by kernel_rfl) (fun _ _ _ h => h) ?_ (by assumption) ?_
    rotate_left
    ·(intro w hSw; (try dsimp only at hSw); go_simp; try (with_reducible rfl))
    try simp only [Act.put]
    try simp only [List.setIfInBounds_toArray]
    try simp only [List.set_cons_zero, List.set_cons_succ]
    refine tkA 3 9 (v := ?_) rfl rfl (by kernel_rfl) (fun _ _ _ h => h) ?_ (by assumption) ?_
    rotate_left
    ·(intro w hSw; (try dsimp only at hSw); go_simp; try (with_reducible rfl))
    try simp only [Act.put]
    try simp only [List.setIfInBounds_toArray]
    try simp only [List.set_cons_zero, List.set_cons_succ]
    refine tkA 4 10 (v := ?_) rfl rfl (by kernel_rfl) (fun _ _ _ h => h) ?_ (by assumption) ?_
    rotate_left
    ·(intro w hSw; (try dsimp only at hSw); go_simp; try (with_reducible rfl))
    try simp only [Act.put]
    try simp only [List.setIfInBounds_toArray]
    try simp only [List.set_cons_zero, List.set_cons_succ]
    refine tkA 5 11 (v := ?_) rfl rfl (by kernel_rfl) (fun _ _ _ h => h) ?_ (by assumption) ?_
    rotate_left
    ·(intro w hSw; (try dsimp only at hSw); go_simp; try (with_reducible rfl))
    try simp only [Act.put]
    try simp only [List.setIfInBounds_toArray]
    try simp only [List.set_cons_zero, List.set_cons_succ]
    refine tkA 6 12 (v := ?_) rfl rfl (by kernel_rfl) (fun _ _ _ h => h) ?_ (by assumption) ?_
    rotate_left
    ·(intro w hSw; (try dsimp only at hSw); go_simp; try (with_reducible rfl))
    try simp only [Act.put]
    try simp only [List.setIfInBounds_toArray]
    try simp only [List.set_cons_zero, List.set_cons_succ]
    refine tkA 7 13 (v := ?_) rfl rfl (by kernel_rfl) (fun _ _ _ h => h) ?_ (by assumption) ?_
    rotate_left
    ·(intro w hSw; (try dsimp only at hSw); go_simp; try (with_reducible rfl))
    try simp only [Act.put]
    try simp only [List.setIfInBounds_toArray]
    try simp only [List.set_cons_zero, List.set_cons_succ]
    refine tkA 8 14 (v := ?_) rfl rfl (by kernel_rfl) (fun _ _ _ h => h) ?_ (by assumption) ?_
    rotate_left
    ·(intro w hSw; (try dsimp only at hSw); go_simp; try (with_reducible rfl))
    try simp only [Act.put]
    try simp only [List.setIfInBounds_toArray]
    try simp only [List.set_cons_zero, List.set_cons_succ]
    refine tkA 9 15 (v := ?_) rfl rfl (by kernel_rfl) (fun _ _ _ h => h) ?_ (by assumption) ?_
    rotate_left
    ·(intro w hSw; (try dsimp only at hSw); go_simp; try (with_reducible rfl))
    try simp only [Act.put]
    try simp only [List.setIfInBounds_toArray]
    try simp only [List.set_cons_zero, List.set_cons_succ]
    refine tkA 10 16 (v := ?_) rfl rfl (by kernel_rfl) (fun _ _ _ h => h) ?_ (by assumption) ?_
    rotate_left
    ·(intro w hSw; (try dsimp only at hSw); go_simp; try (with_reducible rfl))
    try simp only [Act.put]
    try simp only [List.setIfInBounds_toArray]
    try simp only [List.set_cons_zero, List.set_cons_succ]
    refine tkA 11 17 (v := ?_) rfl rfl (by kernel_rfl) (fun _ _ _ h => h) ?_ (by assumption) ?_
    rotate_left
    ·(intro w hSw; (try dsimp only at hSw); go_simp; try (with_reducible rfl))
    try simp only [Act.put]
    try simp only [List.setIfInBounds_toArray]
    try simp only [List.set_cons_zero, List.set_cons_succ]
    refine tkA 12 18 (v := ?_) rfl rfl (by kernel_rfl) (fun _ _ _ h => h) ?_ (by assumption) ?_
    rotate_left
    ·(intro w hSw; (try dsimp only at hSw); go_simp; try (with_reducible rfl))
    try simp only [Act.put]
    try simp only [List.setIfInBounds_toArray]
    try simp only [List.set_cons_zero, List.set_cons_succ]
    refine tkA 13 19 (v := ?_) rfl rfl (by kernel_rfl) (fun _ _ _ h => h) ?_ (by assumption) ?_
    rotate_left
    ·(intro w hSw; (try dsimp only at hSw); go_simp; try (with_reducible rfl))
    try simp only [Act.put]
    try simp only [List.setIfInBounds_toArray]
    try simp only [List.set_cons_zero, List.set_cons_succ]
    refine tkA 14 20 (v := ?_) rfl rfl (by kernel_rfl) (fun _ _ _ h => h) ?_ (by assumption) ?_
    rotate_left
    ·(intro w hSw; (try dsimp only at hSw); go_simp; try (with_reducible rfl))
    try simp only [Act.put]
    try simp only [List.setIfInBounds_toArray]
    try simp only [List.set_cons_zero, List.set_cons_succ]
    refine wpAnyT_step (i := 15) (o := ⟨some 21, _, _, _, _, _⟩) (by kernel_rfl) rfl (fun K hK => ?_)
    go_simp
    have HXM : Hid (Ext y1 (y1.alloc (.cells (madeCells #[.int .i64 0] N) 3))) := Lib.hid ((Ext.rf y1).al _)
    have HNM : Hid ((y1.alloc (.cells (madeCells #[.int .i64 0] N) 3)).heap[y1.heap.size]? = some (.cells (madeCells #[.int .i64 0] N) 3)) := Lib.hid (heap_alloc_new y1 _)
    have HIM : Hid (Ints (y1.alloc (.cells (madeCells #[.int .i64 0] N) 3)) (.slice (some ⟨y1.heap.size, 0, none⟩) N N) (List.replicate N 0)) := Lib.hid (by
     have h := row_made (base := 0) (x := Value.int .i64 0) HNM.out (Nat.zero_le _) (by unfold maxLen; omega)
     have h2 : Row (y1.alloc (.cells (madeCells #[.int .i64 0] N) 3)) 0 3 1 (.slice (some ⟨y1.heap.size, 0, none⟩) N N) (List.replicate N (0 : Int)).length ((List.replicate N (0 : Int)).map (Value.int .i64)) := by
      rw [List.length_replicate, List.map_replicate]; exact h
     have h3 := h2.ints
     exact h3)
    generalize hbm : y1.heap.size = bm at *
    generalize y1.alloc (.cells (madeCells #[.int .i64 0] N) 3) = y2 at *
    have HX2 := Lib.hid (HXY.out.trans' HXM.out)
    clear hbm
    refine hK.out _ _ ?_ (fun hHeld => ?_)
    ·(try dsimp only)
     exact ⟨HX2.out.cl t0, HX2.out.cl r0, HX2.out.cl rL⟩
    clear hK K
    try simp only [Act.put]
    try simp only [List.setIfInBounds_toArray]
    try simp only [List.set_cons_zero, List.set_cons_succ]
    refine wpAnyT_step (i := 16) (o := ⟨some 22, _, _, _, _, _⟩) (by kernel_rfl) rfl (fun K hK => ?_)
    refine step_callW (by kernel_rfl) 54 _ _ rfl enters_54 [.slice a0 l0 c0, .slice (some ⟨bm, 0, none⟩) N N] (by first | rfl | kernel_rfl | go_simp) (HS0.out _ (HX1.out.trans' HX2.out) _ HIM.out) ?_
    rintro e y3 ⟨rfl, hD⟩
    refine ⟨_, rfl, ?_⟩
    have HX3 := Lib.hid (HX2.out.trans' hD.ext)
    clear hD
    refine hK.out _ _ ?_ (fun hHeld => ?_)
    ·(try dsimp only)
     exact ⟨HX3.out.cl t0, HX3.out.cl r0, HX3.out.cl rL⟩
    clear hK K
    try simp only [Act.put]
    try simp only [List.setIfInBounds_toArray]
    try simp only [List.set_cons_zero, List.set_cons_succ]
    cases s1 with
    | false =>
      have HA := Lib.hid (HFI.out HS1.out)
      refine tkA 17 23 (v := ?_) rfl rfl (by kernel_rfl) (fun _ _ _ h => h) ?_ (by assumption) ?_
      rotate_left
      ·(intro w hSw; (try dsimp only at hSw); go_simp; try (with_reducible rfl))
      try simp only [Act.put]
      try simp only [List.setIfInBounds_toArray]
      try simp only [List.set_cons_zero, List.set_cons_succ]
      refine tkA 18 24 (v := ?_) rfl rfl (by kernel_rfl) (fun _ _ _ h => h) ?_ (by assumption) ?_
      rotate_left
      ·(intro w hSw; (try dsimp only at hSw); go_simp; try (with_reducible rfl))
      try simp only [Act.put]
      try simp only [List.setIfInBounds_toArray]
      try simp only [List.set_cons_zero, List.set_cons_succ]
      refine tkA 19 25 (v := ?_) rfl rfl (by kernel_rfl) (fun _ _ _ h => h) ?_ (by assumption) ?_
      rotate_left
      ·(intro w hSw; (try dsimp only at hSw); go_simp; try (with_reducible rfl))
      try simp only [Act.put]
      try simp only [List.setIfInBounds_toArray]
      try simp only [List.set_cons_zero, List.set_cons_succ]
      refine tkU 20 26 rfl rfl (by kernel_rfl) (fun _ _ _ h => h) (by assumption) ?_
      try simp only [Act.put]
      try simp only [List.setIfInBounds_toArray]
      try simp only [List.set_cons_zero, List.set_cons_succ]
      refine tkU 21 27 rfl rfl (by kernel_rfl) (fun _ _ _ h => h) (by assumption) ?_
      try simp only [Act.put]
      try simp only [List.setIfInBounds_toArray]
      try simp only [List.set_cons_zero, List.set_cons_succ]
      refine tkU 22 28 rfl rfl (by kernel_rfl) (fun _ _ _ h => h) (by assumption) ?_
      try simp only [Act.put]
      try simp only [List.setIfInBounds_toArray]
      try simp only [List.set_cons_zero, List.set_cons_succ]
      refine tkU 23 29 rfl rfl (by kernel_rfl) (fun _ _ _ h => h) (by assumption) ?_
      try simp only [Act.put]
      try simp only [List.setIfInBounds_toArray]
      try simp only [List.set_cons_zero, List.set_cons_succ]
      refine tkU 24 30 rfl rfl (by kernel_rfl) (fun _ _ _ h => h) (by assumption) ?_
      try simp only [Act.put]
      try simp only [List.setIfInBounds_toArray]
      try simp only [List.set_cons_zero, List.set_cons_succ]
      refine tkU 25 31 rfl rfl (by kernel_rfl) (fun _ _ _ h => h) (by assumption) ?_
      try simp only [Act.put]
      try simp only [List.setIfInBounds_toArray]
      try simp only [List.set_cons_zero, List.set_cons_succ]
      refine tkU 26 32 rfl rfl (by kernel_rfl) (fun _ _ _ h => h) (by assumption) ?_
      try simp only [Act.put]
      try simp only [List.setIfInBounds_toArray]
      try simp only [List.set_cons_zero, List.set_cons_succ]
      refine tkU 27 33 rfl rfl (by kernel_rfl) (fun _ _ _ h => h) (by assumption) ?_
      try simp only [Act.put]
      try simp only [List.setIfInBounds_toArray]
      try simp only [List.set_cons_zero, List.set_cons_succ]
      refine tkU 28 34 rfl rfl (by kernel_rfl) (fun _ _ _ h => h) (by assumption) ?_
      try simp only [Act.put]
      try simp only [List.setIfInBounds_toArray]
      try simp only [List.set_cons_zero, List.set_cons_succ]
      refine tkU 29 35 rfl rfl (by kernel_rfl) (fun _ _ _ h => h) (by assumption) ?_
      try simp only [Act.put]
      try simp only [List.setIfInBounds_toArray]
      try simp only [List.set_cons_zero, List.set_cons_succ]
      refine wpAnyT_last (by kernel_rfl) rfl (by kernel_rfl) (fun K hK => ?_)
      go_simp
      refine hK.out _ _ ?_
      have HXF := Lib.hid (HX1.out.trans' HX3.out)
      go_wp2
      go_ret
      exact ⟨by rw [HA.out]; rfl, HXF.out⟩
    | true =>
      refine tkA 17 23 (v := ?_) rfl rfl (by kernel_rfl) (fun _ _ _ h => h) ?_ (by assumption) ?_
      rotate_left
      ·(intro w hSw; (try dsimp only at hSw); go_simp; try (with_reducible rfl))
      try simp only [Act.put]
      try simp only [List.setIfInBounds_toArray]
      try simp only [List.set_cons_zero, List.set_cons_succ]
      refine tkA 18 24 (v := ?_) rfl rfl (by kernel_rfl) (fun _ _ _ h => h) ?_ (by assumption) ?_
      rotate_left
      ·(intro w hSw; (try dsimp only at hSw); go_simp; try (with_reducible rfl))
      try simp only [Act.put]
      try simp only [List.setIfInBounds_toArray]
      try simp only [List.set_cons_zero, List.set_cons_succ]
      refine tkA 19 25 (v := ?_) rfl rfl (by kernel_rfl) (fun _ _ _ h => h) ?_ (by assumption) ?_
      rotate_left
      ·(intro w hSw; (try dsimp only at hSw); go_simp; try (with_reducible rfl))
      try simp only [Act.put]
      try simp only [List.setIfInBounds_toArray]
      try simp only [List.set_cons_zero, List.set_cons_succ]
      refine tkA 20 26 (v := ?_) rfl rfl (by kernel_rfl) (fun _ _ _ h => h) ?_ (by assumption) ?_
      rotate_left
      ·(intro w hSw; (try dsimp only at hSw); go_simp; try (with_reducible rfl))
      try simp only [Act.put]
      try simp only [List.setIfInBounds_toArray]
      try simp only [List.set_cons_zero, List.set_cons_succ]
      refine tkA 21 27 (v := ?_) rfl rfl (by kernel_rfl) (fun _ _ _ h => h) ?_ (by assumption) ?_
      rotate_left
      ·(intro w hSw; (try dsimp only at hSw); go_simp; try (with_reducible rfl))
      try simp only [Act.put]
      try simp only [List.setIfInBounds_toArray]
      try simp only [List.set_cons_zero, List.set_cons_succ]
      refine tkA 22 28 (v := ?_) rfl rfl (by kernel_rfl) (fun _ _ _ h => h) ?_ (by assumption) ?_
      rotate_left
      ·(intro w hSw; (try dsimp only at hSw); go_simp; try (with_reducible rfl))
      try simp only [Act.put]
      try simp only [List.setIfInBounds_toArray]
      try simp only [List.set_cons_zero, List.set_cons_succ]
      refine tkA 23 29 (v := ?_) rfl rfl (by kernel_rfl) (fun _ _ _ h => h) ?_ (by assumption) ?_
      rotate_left
      ·(intro w hSw; (try dsimp only at hSw); go_simp; try (with_reducible rfl))
      try simp only [Act.put]
      try simp only [List.setIfInBounds_toArray]
      try simp only [List.set_cons_zero, List.set_cons_succ]
      refine tkA 24 30 (v := ?_) rfl rfl (by kernel_rfl) (fun _ _ _ h => h) ?_ (by assumption) ?_
      rotate_left
      ·(intro w hSw; (try dsimp only at hSw); go_simp; try (with_reducible rfl))
      try simp only [Act.put]
      try simp only [List.setIfInBounds_toArray]
      try simp only [List.set_cons_zero, List.set_cons_succ]
      refine tkA 25 31 (v := ?_) rfl rfl (by kernel_rfl) (fun _ _ _ h => h) ?_ (by assumption) ?_
      rotate_left
      ·(intro w hSw; (try dsimp only at hSw); go_simp; try (with_reducible rfl))
      try simp only [Act.put]
      try simp only [List.setIfInBounds_toArray]
      try simp only [List.set_cons_zero, List.set_cons_succ]
      refine tkA 26 32 (v := ?_) rfl rfl (by kernel_rfl) (fun _ _ _ h => h) ?_ (by assumption) ?_
      rotate_left
      ·(intro w hSw; (try dsimp only at hSw); go_simp; try (with_reducible rfl))
      try simp only [Act.put]
      try simp only [List.setIfInBounds_toArray]
      try simp only [List.set_cons_zero, List.set_cons_succ]
      refine wpAnyT_step (i := 27) (o := ⟨some 33, _, _, _, _, _⟩) (by kernel_rfl) rfl (fun K hK => ?_)
      refine step_callW (by kernel_rfl) 55 _ _ rfl enters_55 [.agg #[.slice ta N tc]] (by first | rfl | kernel_rfl | go_simp) (HLG.out _ (HX1.out.trans' HX3.out)) ?_
      rintro e y4 ⟨v4, rfl, hR4, hX4⟩
      rw [HLN.out] at hR4
      obtain ⟨x4, z4, rfl, hz5⟩ := hR4.any
      refine ⟨_, rfl, ?_⟩
      have HX4 := Lib.hid (HX3.out.trans' hX4)
      have HI4 : Hid (Ints y4 (.slice x4 N z4) (lensC t)) := Lib.hid (by
       have h := hR4
       rw [← HLN.out] at h ⊢
       exact h.ints)
      clear hX4 hR4 hz5
      refine hK.out _ _ ?_ (fun hHeld => ?_)
      ·(try dsimp only)
       exact ⟨HX4.out.cl t0, HX4.out.cl r0, HX4.out.cl rL⟩
      clear hK K
      try simp only [Act.put]
      try simp only [List.setIfInBounds_toArray]
      try simp only [List.set_cons_zero, List.set_cons_succ]
      refine wpAnyT_step (i := 28) (o := ⟨some 34, _, _, _, _, _⟩) (by kernel_rfl) rfl (fun K hK => ?_)
      refine step_callW (by kernel_rfl) 54 _ _ rfl enters_54 [.slice aL lL cL, .slice x4 N z4] (by first | rfl | kernel_rfl | go_simp) (HSL.out _ (HX1.out.trans' HX4.out) _ HI4.out) ?_
      rintro e y5 ⟨rfl, hD⟩
      refine ⟨_, rfl, ?_⟩
      have HX5 := Lib.hid (HX4.out.trans' hD.ext)
      clear hD
      refine hK.out _ _ ?_ (fun hHeld => ?_)
      ·(try dsimp only)
       exact ⟨HX5.out.cl t0, HX5.out.cl r0, HX5.out.cl rL⟩
      clear hK K
      try simp only [Act.put]
      try simp only [List.setIfInBounds_toArray]
      try simp only [List.set_cons_zero, List.set_cons_succ]
      cases s2 with
      | false =>
        have HA := Lib.hid (HLA.out HS2.out)
        refine tkA 29 35 (v := ?_) rfl rfl (by kernel_rfl) (fun _ _ _ h => h) ?_ (by assumption) ?_
        rotate_left
        ·(intro w hSw; (try dsimp only at hSw); go_simp; try (with_reducible rfl))
        try simp only [Act.put]
        try simp only [List.setIfInBounds_toArray]
        try simp only [List.set_cons_zero, List.set_cons_succ]
        refine wpAnyT_last (by kernel_rfl) rfl (by kernel_rfl) (fun K hK => ?_)
        go_simp
        refine hK.out _ _ ?_
        have HXF := Lib.hid (HX1.out.trans' HX5.out)
        go_wp2
        go_ret
        exact ⟨by rw [HA.out]; rfl, HXF.out⟩
      | true =>
        refine tkA 29 35 (v := ?_) rfl rfl (by kernel_rfl) (fun _ _ _ h => h) ?_ (by assumption) ?_
        rotate_left
        ·(intro w hSw; (try dsimp only at hSw); go_simp; try (with_reducible rfl))
        try simp only [Act.put]
        try simp only [List.setIfInBounds_toArray]
        try simp only [List.set_cons_zero, List.set_cons_succ]
        refine wpAnyT_last (by kernel_rfl) rfl (by kernel_rfl) (fun K hK => ?_)
        go_simp
        refine hK.out _ _ ?_
        have HX6 := Lib.hid (HX1.out.trans' HX5.out)
        have HT6 := Lib.hid (HX5.out.cl t0)
        clear t0 r0 rL hmk hw
        go_wp2
        go_loopg [5] R (fun g s5 wr => ∃ i : Nat, i ≤ R ∧ R - i ≤ g ∧ s5 = .int .i64 i ∧ Aside (Ext y5 wr) ∧ Aside (∀ j, j < i → isAt t r j = true))
        case atStart => exact ⟨0, Nat.zero_le _, by omega, rfl, (show Ext _ _ from Ext.rf _), (fun j hj => absurd hj (Nat.not_lt_zero _))⟩
        case round =>
         obtain ⟨i, hi, hgi, rfl, HE, HAL⟩ := hrel
         by_cases hlt : i < R
         case neg =>
          have hiz : ¬ (i : Int) < (R : Int) := by omega
          have HA := Lib.hid (HYE.out (by rw [HRL.out]; omega) HS1.out HS2.out (fun j hj => HAL.out j (by rw [HRL.out] at hj; omega)))
          have HXF := Lib.hid (HX6.out.trans' HE.out)
          go_wp2
          go_wp2
          go_ret
          exact ⟨by rw [HA.out]; rfl, HXF.out⟩
         case pos =>
          have hiz : (i : Int) < (R : Int) := by omega
          have hiz0 : (0 : Int) ≤ (i : Int) := by omega
          have HEW := Lib.hid (HX6.out.trans' HE.out)
          have tW := HE.out.cl HT6.out
          have HIR := Lib.hid (show i < r.length by rw [HRL.out]; exact hlt)
          have HBI := Lib.hid (fun h => HBA.out i HIR.out h)
          have HSU : Hid (isAt t r i = true → ∀ j, j < i + 1 → isAt t r j = true) := Lib.hid (fun h j hj => by
           by_cases e : j = i
           ·subst e; exact h
           ·exact HAL.out j (by omega))
          have HDF : Hid (isAt t r i = (is23 t r[i]! && (decide (i = 0) || decide (0 ≤ stepO r[i - 1]! r[i]!)))) := Lib.hid rfl
          obtain ⟨bI, oI, cI, aI, eI, hie, _, _, hrI, hII⟩ := rowAt HRV.out i HIR.out
          simp only [Value.slice.injEq, Option.some.injEq, Addr.mk.injEq, and_true] at hie
          obtain ⟨⟨rfl, rfl⟩, hq5, rfl⟩ := hie
          have HII := Lib.hid hII
          have hmI := HIL.out i HIR.out
          have rI := HEW.out.cl hrI
          have HIS := Lib.hid (fun W (hW : Ext w W) => is23_calls _ _ t r[i]! W (HT.out.ext hW) HVT.out (HII.out.ext hW))
          obtain ⟨s3, hs3⟩ : ∃ b, is23 t r[i]! = b := ⟨_, rfl⟩
          rw [hs3] at HIS HDF
          have HS3 := Lib.hid hs3
          clear hq5 hII hrI hs3
          cases s3 with
          | false =>
            generalize r[i]!.length = lI at *
            have HA := Lib.hid (HBI.out (by rw [HDF.out]; rfl))
            go_upto_region 6 with (fail)
            refine wp_region_tail (fun W => W.cell? ⟨w.heap.size, 0, none⟩ = some (.slice ta N tc) ∧ W.cell? ⟨rB, rO + i, none⟩ = some (.slice aI lI eI)) 23 (by kernel_rfl) ⟨tW, rI⟩ (fun hHeld => ?_)
            refine tkA 0 43 (v := ?_) rfl rfl (by kernel_rfl) (fun _ _ _ h => h) ?_ (by assumption) ?_
            rotate_left
            ·(intro w hSw; (try dsimp only at hSw); go_simp; try (with_reducible rfl))
            try simp only [Act.put]
            try simp only [List.setIfInBounds_toArray]
            try simp only [List.set_cons_zero, List.set_cons_succ]
            refine tkA 1 44 (v := ?_) rfl rfl (by kernel_rfl) (fun _ _ _ h => h) ?_ (by assumption) ?_
            rotate_left
            ·(intro w hSw; (try dsimp only at hSw); go_simp; try (with_reducible rfl))
            try simp only [Act.put]
            try simp only [List.setIfInBounds_toArray]
            try simp only [List.set_cons_zero, List.set_cons_succ]
            refine tkA 2 45 (v := ?_) rfl rfl (by kernel_rfl) (fun _ _ _ h => h) ?_ (by assumption) ?_
            rotate_left
            ·(intro w hSw; (try dsimp only at hSw); go_simp; try (with_reducible rfl))
            try simp only [Act.put]
            try simp only [List.setIfInBounds_toArray]
            try simp only [List.set_cons_zero, List.set_cons_succ]
            refine tkA 3 46 (v := ?_) rfl rfl (by kernel_rfl) (fun _ _ _ h => h) ?_ (by assumption) ?_
            rotate_left
            ·(intro w hSw; (try dsimp only at hSw); go_simp; try (with_reducible rfl))
            try simp only [Act.put]
            try simp only [List.setIfInBounds_toArray]
            try simp only [List.set_cons_zero, List.set_cons_succ]
            refine tkA 4 47 (v := ?_) rfl rfl (by kernel_rfl) (fun _ _ _ h => h) ?_ (by assumption) ?_
            rotate_left
            ·(intro w hSw; (try dsimp only at hSw); go_simp; try (with_reducible rfl))
            try simp only [Act.put]
            try simp only [List.setIfInBounds_toArray]
            try simp only [List.set_cons_zero, List.set_cons_succ]
            refine wpAnyT_step (i := 5) (o := ⟨some 48, _, _, _, _, _⟩) (by kernel_rfl) rfl (fun K hK => ?_)
            refine step_call rfl 56 _ _ rfl enters_56 [.agg #[.slice ta N tc], .slice aI lI eI] (by first | rfl | kernel_rfl | go_simp) (HIS.out _ HEW.out.dr) ?_
            rintro e y6 ⟨rfl, hX⟩
            refine ⟨_, rfl, ?_⟩
            have HX7 : Hid (Ext wr y6) := Lib.hid ((Ext.rf wr).dr.trans' hX)
            clear hX
            refine hK.out _ _ ?_ (fun hHeld => ?_)
            ·(try dsimp only)
             exact ⟨HX7.out.cl tW, HX7.out.cl rI⟩
            clear hK K
            try simp only [Act.put]
            try simp only [List.setIfInBounds_toArray]
            try simp only [List.set_cons_zero, List.set_cons_succ]
            refine tkA 6 49 (v := ?_) rfl rfl (by kernel_rfl) (fun _ _ _ h => h) ?_ (by assumption) ?_
            rotate_left
            ·(intro w hSw; (try dsimp only at hSw); go_simp; try (with_reducible rfl))
            try simp only [Act.put]
            try simp only [List.setIfInBounds_toArray]
            try simp only [List.set_cons_zero, List.set_cons_succ]
            refine tkA 7 50 (v := ?_) rfl rfl (by kernel_rfl) (fun _ _ _ h => h) ?_ (by assumption) ?_
            rotate_left
            ·(intro w hSw; (try dsimp only at hSw); go_simp; try (with_reducible rfl))
            try simp only [Act.put]
            try simp only [List.setIfInBounds_toArray]
            try simp only [List.set_cons_zero, List.set_cons_succ]
            refine tkU 8 51 rfl rfl (by kernel_rfl) (fun _ _ _ h => h) (by assumption) ?_
            try simp only [Act.put]
            try simp only [List.setIfInBounds_toArray]
            try simp only [List.set_cons_zero, List.set_cons_succ]
            refine tkU 9 52 rfl rfl (by kernel_rfl) (fun _ _ _ h => h) (by assumption) ?_
            try simp only [Act.put]
            try simp only [List.setIfInBounds_toArray]
            try simp only [List.set_cons_zero, List.set_cons_succ]
            refine tkU 10 53 rfl rfl (by kernel_rfl) (fun _ _ _ h => h) (by assumption) ?_
            try simp only [Act.put]
            try simp only [List.setIfInBounds_toArray]
            try simp only [List.set_cons_zero, List.set_cons_succ]
            refine tkU 11 54 rfl rfl (by kernel_rfl) (fun _ _ _ h => h) (by assumption) ?_
            try simp only [Act.put]
            try simp only [List.setIfInBounds_toArray]
            try simp only [List.set_cons_zero, List.set_cons_succ]
            refine tkU 12 55 rfl rfl (by kernel_rfl) (fun _ _ _ h => h) (by assumption) ?_
            try simp only [Act.put]
            try simp only [List.setIfInBounds_toArray]
            try simp only [List.set_cons_zero, List.set_cons_succ]
            refine tkU 13 56 rfl rfl (by kernel_rfl) (fun _ _ _ h => h) (by assumption) ?_
            try simp only [Act.put]
            try simp only [List.setIfInBounds_toArray]
            try simp only [List.set_cons_zero, List.set_cons_succ]
            refine tkU 14 57 rfl rfl (by kernel_rfl) (fun _ _ _ h => h) (by assumption) ?_
            try simp only [Act.put]
            try simp only [List.setIfInBounds_toArray]
            try simp only [List.set_cons_zero, List.set_cons_succ]
            refine tkU 15 58 rfl rfl (by kernel_rfl) (fun _ _ _ h => h) (by assumption) ?_
            try simp only [Act.put]
            try simp only [List.setIfInBounds_toArray]
            try simp only [List.set_cons_zero, List.set_cons_succ]
            refine tkU 16 59 rfl rfl (by kernel_rfl) (fun _ _ _ h => h) (by assumption) ?_
            try simp only [Act.put]
            try simp only [List.setIfInBounds_toArray]
            try simp only [List.set_cons_zero, List.set_cons_succ]
            refine tkU 17 60 rfl rfl (by kernel_rfl) (fun _ _ _ h => h) (by assumption) ?_
            try simp only [Act.put]
            try simp only [List.setIfInBounds_toArray]
            try simp only [List.set_cons_zero, List.set_cons_succ]
            refine tkU 18 61 rfl rfl (by kernel_rfl) (fun _ _ _ h => h) (by assumption) ?_
            try simp only [Act.put]
            try simp only [List.setIfInBounds_toArray]
            try simp only [List.set_cons_zero, List.set_cons_succ]
            refine tkU 19 62 rfl rfl (by kernel_rfl) (fun _ _ _ h => h) (by assumption) ?_
            try simp only [Act.put]
            try simp only [List.setIfInBounds_toArray]
            try simp only [List.set_cons_zero, List.set_cons_succ]
            refine tkU 20 63 rfl rfl (by kernel_rfl) (fun _ _ _ h => h) (by assumption) ?_
            try simp only [Act.put]
            try simp only [List.setIfInBounds_toArray]
            try simp only [List.set_cons_zero, List.set_cons_succ]
            refine tkU 21 64 rfl rfl (by kernel_rfl) (fun _ _ _ h => h) (by assumption) ?_
            try simp only [Act.put]
            try simp only [List.setIfInBounds_toArray]
            try simp only [List.set_cons_zero, List.set_cons_succ]
            refine tkU 22 65 rfl rfl (by kernel_rfl) (fun _ _ _ h => h) (by assumption) ?_
            try simp only [Act.put]
            try simp only [List.setIfInBounds_toArray]
            try simp only [List.set_cons_zero, List.set_cons_succ]
            refine wpAnyT_last (by kernel_rfl) rfl (by kernel_rfl) (fun K hK => ?_)
            go_simp
            refine hK.out _ _ ?_
            have HXF := Lib.hid (HEW.out.trans' HX7.out)
            go_wp2
            go_ret
            exact ⟨by rw [HA.out]; rfl, HXF.out⟩
          | true =>
            have HCI := Lib.hid (is23_iff.1 HS3.out)
            by_cases hi0 : i = 0
            case pos =>
             have HA := Lib.hid (HSU.out (by rw [HDF.out, decide_eq_true hi0]; rfl))
             generalize r[i]!.length = lI at *
             have hd0 : decide ((0 : Int) < (i : Int)) = false := decide_eq_false (by omega)
             have hn0 : ¬ 0 < i := by omega
             have hn1 : ¬ (0 : Int) < (i : Int) := by omega
             clear hi0
             go_upto_region 6 with (fail)
             refine wp_region_tail (fun W => W.cell? ⟨w.heap.size, 0, none⟩ = some (.slice ta N tc) ∧ W.cell? ⟨rB, rO + i, none⟩ = some (.slice aI lI eI)) 23 (by kernel_rfl) ⟨tW, rI⟩ (fun hHeld => ?_)
             refine tkA 0 43 (v := ?_) rfl rfl (by kernel_rfl) (fun _ _ _ h => h) ?_ (by assumption) ?_
             rotate_left
             ·(intro w hSw; (try dsimp only at hSw); go_simp; try (with_reducible rfl))
             try simp only [Act.put]
             try simp only [List.setIfInBounds_toArray]
             try simp only [List.set_cons_zero, List.set_cons_succ]
             refine tkA 1 44 (v := ?_) rfl rfl (by kernel_rfl) (fun _ _ _ h => h) ?_ (by assumption) ?_
             rotate_left
             ·(intro w hSw; (try dsimp only at hSw); go_simp; try (with_reducible rfl))
             try simp only [Act.put]
             try simp only [List.setIfInBounds_toArray]
             try simp only [List.set_cons_zero, List.set_cons_succ]
             refine tkA 2 45 (v := ?_) rfl rfl (by kernel_rfl) (fun _ _ _ h => h) ?_ (by assumption) ?_
             rotate_left
             ·(intro w hSw; (try dsimp only at hSw); go_simp; try (with_reducible rfl))
             try simp only [Act.put]
             try simp only [List.setIfInBounds_toArray]
             try simp only [List.set_cons_zero, List.set_cons_succ]
             refine tkA 3 46 (v := ?_) rfl rfl (by kernel_rfl) (fun _ _ _ h => h) ?_ (by assumption) ?_
             rotate_left
             ·(intro w hSw; (try dsimp only at hSw); go_simp; try (with_reducible rfl))
             try simp only [Act.put]
             try simp only [List.setIfInBounds_toArray]
             try simp only [List.set_cons_zero, List.set_cons_succ]
             refine tkA 4 47 (v := ?_) rfl rfl (by kernel_rfl) (fun _ _ _ h => h) ?_ (by assumption) ?_
             rotate_left
             ·(intro w hSw; (try dsimp only at hSw); go_simp; try (with_reducible rfl))
             try simp only [Act.put]
             try simp only [List.setIfInBounds_toArray]
             try simp only [List.set_cons_zero, List.set_cons_succ]
             refine wpAnyT_step (i := 5) (o := ⟨some 48, _, _, _, _, _⟩) (by kernel_rfl) rfl (fun K hK => ?_)
             refine step_call rfl 56 _ _ rfl enters_56 [.agg #[.slice ta N tc], .slice aI lI eI] (by first | rfl | kernel_rfl | go_simp) (HIS.out _ HEW.out.dr) ?_
             rintro e y6 ⟨rfl, hX⟩
             refine ⟨_, rfl, ?_⟩
             have HX7 : Hid (Ext wr y6) := Lib.hid ((Ext.rf wr).dr.trans' hX)
             clear hX
             refine hK.out _ _ ?_ (fun hHeld => ?_)
             ·(try dsimp only)
              exact ⟨HX7.out.cl tW, HX7.out.cl rI⟩
             clear hK K
             try simp only [Act.put]
             try simp only [List.setIfInBounds_toArray]
             try simp only [List.set_cons_zero, List.set_cons_succ]
             refine tkA 6 49 (v := ?_) rfl rfl (by kernel_rfl) (fun _ _ _ h => h) ?_ (by assumption) ?_
             rotate_left
             ·(intro w hSw; (try dsimp only at hSw); go_simp; try (with_reducible rfl))
             try simp only [Act.put]
             try simp only [List.setIfInBounds_toArray]
             try simp only [List.set_cons_zero, List.set_cons_succ]
             refine tkA 7 50 (v := ?_) rfl rfl (by kernel_rfl) (fun _ _ _ h => h) ?_ (by assumption) ?_
             rotate_left
             ·(intro w hSw; (try dsimp only at hSw); go_simp; try (with_reducible rfl))
             try simp only [Act.put]
             try simp only [List.setIfInBounds_toArray]
             try simp only [List.set_cons_zero, List.set_cons_succ]
             refine tkA 8 51 (v := ?_) rfl rfl (by kernel_rfl) (fun _ _ _ h => h) ?_ (by assumption) ?_
             rotate_left
             ·(intro w hSw; (try dsimp only at hSw); go_simp; try (with_reducible rfl))
             try simp only [Act.put]
             try simp only [List.setIfInBounds_toArray]
             try simp only [List.set_cons_zero, List.set_cons_succ]
             refine tkA 9 52 (v := ?_) rfl rfl (by kernel_rfl) (fun _ _ _ h => h) ?_ (by assumption) ?_
             rotate_left
             ·(intro w hSw; (try dsimp only at hSw); go_simp; try (with_reducible rfl))
             try simp only [Act.put]
             try simp only [List.setIfInBounds_toArray]
             try simp only [List.set_cons_zero, List.set_cons_succ]
             refine tkA 10 53 (v := ?_) rfl rfl (by kernel_rfl) (fun _ _ _ h => h) ?_ (by assumption) ?_
             rotate_left
             ·(intro w hSw; (try dsimp only at hSw); go_simp; try (with_reducible rfl))
             try simp only [Act.put]
             try simp only [List.setIfInBounds_toArray]
             try simp only [List.set_cons_zero, List.set_cons_succ]
             refine tkU 11 54 rfl rfl (by kernel_rfl) (fun _ _ _ h => h) (by assumption) ?_
             try simp only [Act.put]
             try simp only [List.setIfInBounds_toArray]
             try simp only [List.set_cons_zero, List.set_cons_succ]
             refine tkU 12 55 rfl rfl (by kernel_rfl) (fun _ _ _ h => h) (by assumption) ?_
             try simp only [Act.put]
             try simp only [List.setIfInBounds_toArray]
             try simp only [List.set_cons_zero, List.set_cons_succ]
             refine tkU 13 56 rfl rfl (by kernel_rfl) (fun _ _ _ h => h) (by assumption) ?_
             try simp only [Act.put]
             try simp only [List.setIfInBounds_toArray]
             try simp only [List.set_cons_zero, List.set_cons_succ]
             refine tkU 14 57 rfl rfl (by kernel_rfl) (fun _ _ _ h => h) (by assumption) ?_
             try simp only [Act.put]
             try simp only [List.setIfInBounds_toArray]
             try simp only [List.set_cons_zero, List.set_cons_succ]
             refine tkU 15 58 rfl rfl (by kernel_rfl) (fun _ _ _ h => h) (by assumption) ?_
             try simp only [Act.put]
             try simp only [List.setIfInBounds_toArray]
             try simp only [List.set_cons_zero, List.set_cons_succ]
             refine tkU 16 59 rfl rfl (by kernel_rfl) (fun _ _ _ h => h) (by assumption) ?_
             try simp only [Act.put]
             try simp only [List.setIfInBounds_toArray]
             try simp only [List.set_cons_zero, List.set_cons_succ]
             refine tkU 17 60 rfl rfl (by kernel_rfl) (fun _ _ _ h => h) (by assumption) ?_
             try simp only [Act.put]
             try simp only [List.setIfInBounds_toArray]
             try simp only [List.set_cons_zero, List.set_cons_succ]
             refine tkU 18 61 rfl rfl (by kernel_rfl) (fun _ _ _ h => h) (by assumption) ?_
             try simp only [Act.put]
             try simp only [List.setIfInBounds_toArray]
             try simp only [List.set_cons_zero, List.set_cons_succ]
             refine tkU 19 62 rfl rfl (by kernel_rfl) (fun _ _ _ h => h) (by assumption) ?_
             try simp only [Act.put]
             try simp only [List.setIfInBounds_toArray]
             try simp only [List.set_cons_zero, List.set_cons_succ]
             refine tkU 20 63 rfl rfl (by kernel_rfl) (fun _ _ _ h => h) (by assumption) ?_
             try simp only [Act.put]
             try simp only [List.setIfInBounds_toArray]
             try simp only [List.set_cons_zero, List.set_cons_succ]
             refine tkU 21 64 rfl rfl (by kernel_rfl) (fun _ _ _ h => h) (by assumption) ?_
             try simp only [Act.put]
             try simp only [List.setIfInBounds_toArray]
             try simp only [List.set_cons_zero, List.set_cons_succ]
             refine tkA 22 65 (v := ?_) rfl rfl (by kernel_rfl) (fun _ _ _ h => h) ?_ (by assumption) ?_
             rotate_left
             ·(intro w hSw; (try dsimp only at hSw); go_simp; try (with_reducible rfl))
             try simp only [Act.put]
             try simp only [List.setIfInBounds_toArray]
             try simp only [List.set_cons_zero, List.set_cons_succ]
             refine wpAnyT_last (by kernel_rfl) rfl (by kernel_rfl) (fun K hK => ?_)
             go_simp
             refine hK.out _ _ ?_
             go_wp2
             go_roundg (R - (i + 1))
             case measure => exact Nat.lt_of_lt_of_le (Nat.sub_lt_sub_left hlt (Nat.lt_succ_self i)) hgi
             case rel =>
              exact ⟨i + 1, by omega, Nat.le_refl _, rfl, (show Ext _ _ from HE.out.trans' HX7.out), HA.out⟩
            case neg =>
             obtain ⟨I, hI⟩ : ∃ I, i = I + 1 := ⟨i - 1, by omega⟩
             have HIJ := Lib.hid (show i - 1 = I by omega)
             have HJR := Lib.hid (show I < r.length by rw [HRL.out]; omega)
             have HCJ := Lib.hid (is23_iff.1 (show is23 t r[I]! = true from by
              have h := HAL.out I (by omega)
              unfold isAt at h
              rw [Bool.and_eq_true] at h
              exact h.1))
             obtain ⟨bJ, oJ, kJ, aJ, eJ, hje, _, _, hrJ, hIJ2⟩ := rowAt HRV.out I HJR.out
             simp only [Value.slice.injEq, Option.some.injEq, Addr.mk.injEq, and_true] at hje
             obtain ⟨⟨rfl, rfl⟩, hq6, rfl⟩ := hje
             have HII2 := Lib.hid hIJ2
             have hmJ := HIL.out I HJR.out
             have rJ := HEW.out.cl hrJ
             have HSP := Lib.hid (fun W (hW : Ext w W) => step24_calls _ _ r[I]! r[i]! W (HII2.out.ext hW) (HII.out.ext hW) hmJ hmI (fun k hk => by
              have h1 := HCJ.out.1.at (p := k) (by rw [← HCJ.out.1.1]; exact hk)
              have h2 := (valid_small HVT.out).2 k (by rw [← HCJ.out.1.1]; exact hk)
              omega))
             rw [HIJ.out] at HDF
             generalize stepO r[I]! r[i]! = so at *
             generalize r[i]!.length = lI at *
             generalize r[I]!.length = lJ at *
             have hd0 : decide ((0 : Int) < (i : Int)) = true := decide_eq_true (by omega)
             have hn0 : 0 < i := by omega
             have hn1 : (0 : Int) < (i : Int) := by omega
             have hn2 : (I : Int) < (R : Int) := by omega
             have hn3 : (0 : Int) ≤ (I : Int) := by omega
             have hwi : IntKind.i64.wrap ((i : Int) - 1) = (I : Int) := by rw [show (i : Int) - 1 = (I : Int) by omega]; exact IntWalk.i64_in _ (by omega)
             obtain ⟨sb, hsb⟩ : ∃ b, decide (so < 0) = b := ⟨_, rfl⟩
             rw [show decide (0 ≤ so) = !decide (so < 0) from by
              by_cases h : so < 0
              ·rw [decide_eq_true h, decide_eq_false (by omega)]; rfl
              ·rw [decide_eq_false h, decide_eq_true (by omega)]; rfl, hsb, decide_eq_false hi0] at HDF
             clear hi0 hq6 hIJ2 hrJ hI
             go_upto_region 6 with (fail)
             refine wp_region_tail (fun W => W.cell? ⟨w.heap.size, 0, none⟩ = some (.slice ta N tc) ∧ W.cell? ⟨rB, rO + i, none⟩ = some (.slice aI lI eI) ∧ W.cell? ⟨rB, rO + I, none⟩ = some (.slice aJ lJ eJ)) 23 (by kernel_rfl) ⟨tW, rI, rJ⟩ (fun hHeld => ?_)
             refine tkA 0 43 (v := ?_) rfl rfl (by kernel_rfl) (fun _ _ _ h => h) ?_ (by assumption) ?_
             rotate_left
             ·(intro w hSw; (try dsimp only at hSw); go_simp; try (with_reducible rfl))
             try simp only [Act.put]
             try simp only [List.setIfInBounds_toArray]
             try simp only [List.set_cons_zero, List.set_cons_succ]
             refine tkA 1 44 (v := ?_) rfl rfl (by kernel_rfl) (fun _ _ _ h => h) ?_ (by assumption) ?_
             rotate_left
             ·(intro w hSw; (try dsimp only at hSw); go_simp; try (with_reducible rfl))
             try simp only [Act.put]
             try simp only [List.setIfInBounds_toArray]
             try simp only [List.set_cons_zero, List.set_cons_succ]
             refine tkA 2 45 (v := ?_) rfl rfl (by kernel_rfl) (fun _ _ _ h => h) ?_ (by assumption) ?_
             rotate_left
             ·(intro w hSw; (try dsimp only at hSw); go_simp; try (with_reducible rfl))
             try simp only [Act.put]
             try simp only [List.setIfInBounds_toArray]
             try simp only [List.set_cons_zero, List.set_cons_succ]
             refine tkA 3 46 (v := ?_) rfl rfl (by kernel_rfl) (fun _ _ _ h => h) ?_ (by assumption) ?_
             rotate_left
             ·(intro w hSw; (try dsimp only at hSw); go_simp; try (with_reducible rfl))
             try simp only [Act.put]
             try simp only [List.setIfInBounds_toArray]
             try simp only [List.set_cons_zero, List.set_cons_succ]
             refine tkA 4 47 (v := ?_) rfl rfl (by kernel_rfl) (fun _ _ _ h => h) ?_ (by assumption) ?_
             rotate_left
             ·(intro w hSw; (try dsimp only at hSw); go_simp; try (with_reducible rfl))
             try simp only [Act.put]
             try simp only [List.setIfInBounds_toArray]
             try simp only [List.set_cons_zero, List.set_cons_succ]
             refine wpAnyT_step (i := 5) (o := ⟨some 48, _, _, _, _, _⟩) (by kernel_rfl) rfl (fun K hK => ?_)
             refine step_call rfl 56 _ _ rfl enters_56 [.agg #[.slice ta N tc], .slice aI lI eI] (by first | rfl | kernel_rfl | go_simp) (HIS.out _ HEW.out.dr) ?_
             rintro e y6 ⟨rfl, hX⟩
             refine ⟨_, rfl, ?_⟩
             have HX7 : Hid (Ext wr y6) := Lib.hid ((Ext.rf wr).dr.trans' hX)
             clear hX
             refine hK.out _ _ ?_ (fun hHeld => ?_)
             ·(try dsimp only)
              exact ⟨HX7.out.cl tW, HX7.out.cl rI, HX7.out.cl rJ⟩
             clear hK K
             try simp only [Act.put]
             try simp only [List.setIfInBounds_toArray]
             try simp only [List.set_cons_zero, List.set_cons_succ]
             refine tkA 6 49 (v := ?_) rfl rfl (by kernel_rfl) (fun _ _ _ h => h) ?_ (by assumption) ?_
             rotate_left
             ·(intro w hSw; (try dsimp only at hSw); go_simp; try (with_reducible rfl))
             try simp only [Act.put]
             try simp only [List.setIfInBounds_toArray]
             try simp only [List.set_cons_zero, List.set_cons_succ]
             refine tkA 7 50 (v := ?_) rfl rfl (by kernel_rfl) (fun _ _ _ h => h) ?_ (by assumption) ?_
             rotate_left
             ·(intro w hSw; (try dsimp only at hSw); go_simp; try (with_reducible rfl))
             try simp only [Act.put]
             try simp only [List.setIfInBounds_toArray]
             try simp only [List.set_cons_zero, List.set_cons_succ]
             refine tkA 8 51 (v := ?_) rfl rfl (by kernel_rfl) (fun _ _ _ h => h) ?_ (by assumption) ?_
             rotate_left
             ·(intro w hSw; (try dsimp only at hSw); go_simp; try (with_reducible rfl))
             try simp only [Act.put]
             try simp only [List.setIfInBounds_toArray]
             try simp only [List.set_cons_zero, List.set_cons_succ]
             refine tkA 9 52 (v := ?_) rfl rfl (by kernel_rfl) (fun _ _ _ h => h) ?_ (by assumption) ?_
             rotate_left
             ·(intro w hSw; (try dsimp only at hSw); go_simp; try (with_reducible rfl))
             try simp only [Act.put]
             try simp only [List.setIfInBounds_toArray]
             try simp only [List.set_cons_zero, List.set_cons_succ]
             refine tkA 10 53 (v := ?_) rfl rfl (by kernel_rfl) (fun _ _ _ h => h) ?_ (by assumption) ?_
             rotate_left
             ·(intro w hSw; (try dsimp only at hSw); go_simp; try (with_reducible rfl))
             try simp only [Act.put]
             try simp only [List.setIfInBounds_toArray]
             try simp only [List.set_cons_zero, List.set_cons_succ]
             refine tkA 11 54 (v := ?_) rfl rfl (by kernel_rfl) (fun _ _ _ h => h) ?_ (by assumption) ?_
             rotate_left
             ·(intro w hSw; (try dsimp only at hSw); go_simp; try (with_reducible rfl))
             try simp only [Act.put]
             try simp only [List.setIfInBounds_toArray]
             try simp only [List.set_cons_zero, List.set_cons_succ]
             refine tkA 12 55 (v := ?_) rfl rfl (by kernel_rfl) (fun _ _ _ h => h) ?_ (by assumption) ?_
             rotate_left
             ·(intro w hSw; (try dsimp only at hSw); go_simp; try (with_reducible rfl))
             try simp only [Act.put]
             try simp only [List.setIfInBounds_toArray]
             try simp only [List.set_cons_zero, List.set_cons_succ]
             refine tkA 13 56 (v := ?_) rfl rfl (by kernel_rfl) (fun _ _ _ h => h) ?_ (by assumption) ?_
             rotate_left
             ·(intro w hSw; (try dsimp only at hSw); go_simp; try (with_reducible rfl))
             try simp only [Act.put]
             try simp only [List.setIfInBounds_toArray]
             try simp only [List.set_cons_zero, List.set_cons_succ]
             refine tkA 14 57 (v := ?_) rfl rfl (by kernel_rfl) (fun _ _ _ h => h) ?_ (by assumption) ?_
             rotate_left
             ·(intro w hSw; (try dsimp only at hSw); go_simp; try (with_reducible rfl))
             try simp only [Act.put]
             try simp only [List.setIfInBounds_toArray]
             try simp only [List.set_cons_zero, List.set_cons_succ]
             refine tkA 15 58 (v := ?_) rfl rfl (by kernel_rfl) (fun _ _ _ h => h) ?_ (by assumption) ?_
             rotate_left
             ·(intro w hSw; (try dsimp only at hSw); go_simp; try (with_reducible rfl))
             try simp only [Act.put]
             try simp only [List.setIfInBounds_toArray]
             try simp only [List.set_cons_zero, List.set_cons_succ]
             refine tkA 16 59 (v := ?_) rfl rfl (by kernel_rfl) (fun _ _ _ h => h) ?_ (by assumption) ?_
             rotate_left
             ·(intro w hSw; (try dsimp only at hSw); go_simp; try (with_reducible rfl))
             try simp only [Act.put]
             try simp only [List.setIfInBounds_toArray]
             try simp only [List.set_cons_zero, List.set_cons_succ]
             refine tkA 17 60 (v := ?_) rfl rfl (by kernel_rfl) (fun _ _ _ h => h) ?_ (by assumption) ?_
             rotate_left
             ·(intro w hSw; (try dsimp only at hSw); go_simp; try (with_reducible rfl))
             try simp only [Act.put]
             try simp only [List.setIfInBounds_toArray]
             try simp only [List.set_cons_zero, List.set_cons_succ]
             refine tkA 18 61 (v := ?_) rfl rfl (by kernel_rfl) (fun _ _ _ h => h) ?_ (by assumption) ?_
             rotate_left
             ·(intro w hSw; (try dsimp only at hSw); go_simp; try (with_reducible rfl))
             try simp only [Act.put]
             try simp only [List.setIfInBounds_toArray]
             try simp only [List.set_cons_zero, List.set_cons_succ]
             refine tkA 19 62 (v := ?_) rfl rfl (by kernel_rfl) (fun _ _ _ h => h) ?_ (by assumption) ?_
             rotate_left
             ·(intro w hSw; (try dsimp only at hSw); go_simp; try (with_reducible rfl))
             try simp only [Act.put]
             try simp only [List.setIfInBounds_toArray]
             try simp only [List.set_cons_zero, List.set_cons_succ]
             refine wpAnyT_step (i := 20) (o := ⟨some 63, _, _, _, _, _⟩) (by kernel_rfl) rfl (fun K hK => ?_)
             refine step_callW (by kernel_rfl) 57 _ _ rfl enters_57 [.slice aJ lJ eJ, .slice aI lI eI] (by first | rfl | kernel_rfl | go_simp) (HSP.out _ (HEW.out.trans' HX7.out)) ?_
             rintro e y7 ⟨rfl, hD⟩
             refine ⟨_, rfl, ?_⟩
             have HX8 := Lib.hid (HX7.out.trans' hD.ext)
             clear hD
             refine hK.out _ _ ?_ (fun hHeld => ?_)
             ·(try dsimp only)
              exact ⟨HX8.out.cl tW, HX8.out.cl rI, HX8.out.cl rJ⟩
             clear hK K
             try simp only [Act.put]
             try simp only [List.setIfInBounds_toArray]
             try simp only [List.set_cons_zero, List.set_cons_succ]
             refine tkA 21 64 (v := ?_) rfl rfl (by kernel_rfl) (fun _ _ _ h => h) ?_ (by assumption) ?_
             rotate_left
             ·(intro w hSw; (try dsimp only at hSw); go_simp; try (with_reducible rfl))
             try simp only [Act.put]
             try simp only [List.setIfInBounds_toArray]
             try simp only [List.set_cons_zero, List.set_cons_succ]
             refine tkA 22 65 (v := ?_) rfl rfl (by kernel_rfl) (fun _ _ _ h => h) ?_ (by assumption) ?_
             rotate_left
             ·(intro w hSw; (try dsimp only at hSw); go_simp; try (with_reducible rfl))
             try simp only [Act.put]
             try simp only [List.setIfInBounds_toArray]
             try simp only [List.set_cons_zero, List.set_cons_succ]
             refine wpAnyT_last (by kernel_rfl) rfl (by kernel_rfl) (fun K hK => ?_)
             go_simp
             refine hK.out _ _ ?_
             cases sb with
             | true =>
               have HA := Lib.hid (HBI.out (by rw [HDF.out]; rfl))
               have HXF := Lib.hid (HEW.out.trans' HX8.out)
               go_wp2
               go_ret
               exact ⟨by rw [HA.out]; rfl, HXF.out⟩
             | false =>
               have HA := Lib.hid (HSU.out (by rw [HDF.out]; rfl))
               go_wp2
               go_roundg (R - (i + 1))
               case measure => exact Nat.lt_of_lt_of_le (Nat.sub_lt_sub_left hlt (Nat.lt_succ_self i)) hgi
               case rel =>
                exact ⟨i + 1, by omega, Nat.le_refl _, rfl, (show Ext _ _ from HE.out.trans' HX8.out), HA.out⟩
end Go.Proofs.YtfagfooggcinoaaGreat
