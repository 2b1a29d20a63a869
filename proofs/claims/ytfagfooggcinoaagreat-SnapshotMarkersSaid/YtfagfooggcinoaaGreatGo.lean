import Derived.Test.YtfagfooggcinoaaGreatGn
import Derived.Test.YtfagfooggcinoaaGreatJa
import Derived.Test.YtfagfooggcinoaaGreatProg
import Derived.Test.YtfagfooggcinoaaGreatGa
import Derived.Test.YtfagfooggcinoaaGreatGe
import Derived.Test.YtfagfooggcinoaaGreatGj
import Derived.BigQuiet
import Derived.Deep.QuietTactic
import Derived.Deep.LoopGhost
import Derived.Shelf.Abstract
import Derived.Deep.RegionHeld3
import Derived.RegionTactic
import Derived.Deep.RegionWith
import Derived.BigRegion
import Derived.Deep.DeepCutAuto
namespace Go.Proofs.YtfagfooggcinoaaGreat
open Go.RowKit
set_option linter.unusedVariables false
section
variable {t : Tr} {c c' base : List Int} {p : Nat} {cn : Nat → Int} {cd : Nat → Nat → Bool} {ch ch' : Nat → Nat → List Int}
end
def cnA (A : Sn) (q : Nat) : Int := A.l[q]!.cnt
def cdA (A : Sn) (q f : Nat) : Bool := A.l[q]!.closed[f]!
def chA (A : Sn) (q f : Nat) : List Int := A.l[q]!.chan[f]!
structure InvC (t : Tr) (c base : List Int) (p : Nat) (A : Sn) (b : Nat) : Prop where
 inv : InvA t A b
 i3 : Inv3 t c base p (cnA A) (cdA A) (chA A)
structure GivC (t : Tr) (r : List (List Int)) (base : List Int) (p a : Nat) : Prop where
 val : validT t = true
 fif : fifoB t = true
 run : runB t r = true
 few : r.length ≤ 1000000
 hp : p < t.length
 ha : a < r.length
 bas : base = r[a]!
section
variable {t : Tr} {r : List (List Int)} {base : List Int} {p a b i : Nat} {A : Sn} {d : Int}
end
end Go.Proofs.YtfagfooggcinoaaGreat
namespace Go.Proofs.YtfagfooggcinoaaGreat
open Go.RowKit
set_option linter.unusedVariables false
def Mono (A B : Sn) : Prop := ∀ q f : Nat, A.l[q]!.closed[f]! = true → B.l[q]!.closed[f]! = true
section
variable {t : Tr} {r : List (List Int)} {d : Int}
end
section
variable {t : Tr} {r : List (List Int)} {base : List Int} {p a b i : Nat} {A : Sn} {d : Int}
end
end Go.Proofs.YtfagfooggcinoaaGreat
namespace Go.Proofs.YtfagfooggcinoaaGreat
open Go.RowKit
set_option linter.unusedVariables false
def dn (q k x y : Nat) : Bool := decide (x < q) || (decide (x = q) && decide (y < k))
structure EndAt (t : Tr) (l l' : List Mk) (q k : Nat) : Prop where
 len : l'.length = t.length
 cnt : ∀ x, x < t.length → l'[x]!.cnt = l[x]!.cnt
 cl : ∀ x, x < t.length → l'[x]!.closed.length = t.length
 ch : ∀ x, x < t.length → l'[x]!.chan.length = t.length
 clo : ∀ x y, x < t.length → y < t.length → l'[x]!.closed[y]! = (l[x]!.closed[y]! || dn q k x y)
 cha : ∀ x y, x < t.length → y < t.length → l'[x]!.chan[y]! = if (!l[x]!.closed[y]! && dn q k x y) = true then l[x]!.chan[y]! ++ lostTo t (x : Int) y l[y]!.cnt.toNat else l[x]!.chan[y]!
end Go.Proofs.YtfagfooggcinoaaGreat
namespace Go.Proofs.YtfagfooggcinoaaGreat
open Go.RowKit
set_option linter.unusedVariables false
def badF (t : Tr) (p j i : Nat) : Bool :=
 !decide (eidB (findE t 3 (ev t (p, j)).msg) = 0) && (decide (eidB (findE t 3 (ev t (p, i)).msg) = 0) || decide (eidB (findE t 3 (ev t (p, j)).msg) < eidB (findE t 3 (ev t (p, i)).msg)))
def sameF (t : Tr) (p j i : Nat) : Prop := (ev t (p, i)).kind = 2 ∧ (ev t (p, j)).kind = 2 ∧ (ev t (p, i)).peer = (ev t (p, j)).peer
theorem fifS_back {t : Tr} {p q : Nat} : ∀ k s, fifS t p q k = some s → (s.2 = true → ∃ i, i < k ∧ snd t p q i ∧ eidB (findE t 3 (ev t (p, i)).msg) = 0) ∧ (s.1 ≠ 0 → ∃ i, i < k ∧ snd t p q i ∧ eidB (findE t 3 (ev t (p, i)).msg) = s.1) := by
 intro k
 induction k with
 | zero =>
   intro s h
   simp only [fifS, Option.some.injEq] at h
   subst h
   exact ⟨fun h => absurd h (by decide), fun h => absurd rfl h⟩
 | succ k ih =>
   intro s h
   cases h0 : fifS t p q k with
   | none => rw [fifS_none h0 _ (Nat.le_succ k)] at h; cases h
   | some s0 =>
     obtain ⟨i1, i2⟩ := ih s0 h0
     by_cases hn : (ev t (p, k)).kind = 2 ∧ (ev t (p, k)).peer = (q : Int)
     ·by_cases hz : eidB (findE t 3 (ev t (p, k)).msg) = 0
      ·rw [fif_miss h0 hn hz] at h
       obtain rfl := Option.some.inj h
       exact ⟨fun _ => ⟨k, Nat.lt_succ_self k, hn, hz⟩, fun h => by
        obtain ⟨i, a, b, c⟩ := i2 h
        exact ⟨i, Nat.lt_succ_of_lt a, b, c⟩⟩
      ·by_cases hb : s0.2 = true ∨ eidB (findE t 3 (ev t (p, k)).msg) < s0.1
       ·rw [fif_bad h0 hn hz hb] at h; cases h
       ·rw [fif_ok h0 hn hz hb] at h
        obtain rfl := Option.some.inj h
        exact ⟨fun h => absurd (.inl h) hb, fun _ => ⟨k, Nat.lt_succ_self k, hn, rfl⟩⟩
     ·rw [fif_skip h0 hn] at h
      obtain rfl := Option.some.inj h
      exact ⟨fun h => by
        obtain ⟨i, a, b, c⟩ := i1 h
        exact ⟨i, Nat.lt_succ_of_lt a, b, c⟩, fun h => by
        obtain ⟨i, a, b, c⟩ := i2 h
        exact ⟨i, Nat.lt_succ_of_lt a, b, c⟩⟩
theorem badF_iff {t : Tr} {p j i : Nat} : badF t p j i = true ↔ eidB (findE t 3 (ev t (p, j)).msg) ≠ 0 ∧ (eidB (findE t 3 (ev t (p, i)).msg) = 0 ∨ eidB (findE t 3 (ev t (p, j)).msg) < eidB (findE t 3 (ev t (p, i)).msg)) := by
 unfold badF
 simp only [Bool.and_eq_true, Bool.or_eq_true, Bool.not_eq_true', decide_eq_true_eq, decide_eq_false_iff_not, ne_eq]
theorem eidB_nn (x : Option Eid) : 0 ≤ eidB x := by
 cases x with
 | none => exact Int.le_refl _
 | some x => show 0 ≤ (x.2 : Int) + 1; omega
theorem fifo_yes {t : Tr} (h : ∀ p, p < t.length → ∀ j, j < t[p]!.events.length → ∀ i, i < j → sameF t p j i → badF t p j i = false) : fifoB t = true := by
 refine fifoB_yes (fun p hp q hq => ?_)
 have key : ∀ k, k ≤ t[p]!.events.length → (fifS t p q k).isSome = true := by
  intro k
  induction k with
  | zero => intro _; rfl
  | succ k ih =>
    intro hk
    have h0 := ih (by omega)
    cases hs : fifS t p q k with
    | none => rw [hs] at h0; cases h0
    | some s =>
      obtain ⟨i1, i2⟩ := fifS_back k s hs
      by_cases hn : (ev t (p, k)).kind = 2 ∧ (ev t (p, k)).peer = (q : Int)
      ·by_cases hz : eidB (findE t 3 (ev t (p, k)).msg) = 0
       ·rw [fif_miss hs hn hz]; rfl
       ·by_cases hb : s.2 = true ∨ eidB (findE t 3 (ev t (p, k)).msg) < s.1
        ·exfalso
         rcases hb with hb | hb
         ·obtain ⟨i, a, b, c⟩ := i1 hb
          have h9 := h p hp k (by omega) i a ⟨b.1, hn.1, by rw [b.2, hn.2]⟩
          rw [badF_iff.2 ⟨hz, .inl c⟩] at h9
          cases h9
         ·have h8 := eidB_nn (findE t 3 (ev t (p, k)).msg)
          obtain ⟨i, a, b, c⟩ := i2 (by omega)
          have h9 := h p hp k (by omega) i a ⟨b.1, hn.1, by rw [b.2, hn.2]⟩
          rw [badF_iff.2 ⟨hz, .inr (by rw [c]; exact hb)⟩] at h9
          cases h9
        ·rw [fif_ok hs hn hz hb]; rfl
      ·rw [fif_skip hs hn]; rfl
 exact key _ (Nat.le_refl _)
theorem fifo_no {t : Tr} (hv : validT t = true) {p j i : Nat} (hp : p < t.length) (hj : j < t[p]!.events.length) (hij : i < j) (hs : sameF t p j i) (hb : badF t p j i = true) : fifoB t = false := by
 obtain ⟨hb1, hb2⟩ := badF_iff.1 hb
 have hF := (eventB_parts.1 ((shapeB_parts2.1 (validT_parts2.1 hv).1).2.2.2 p hp j hj)).1
 have hq : 0 ≤ (ev t (p, j)).peer ∧ (ev t (p, j)).peer < t.length := by
  have h : formedB t.length p (ev t (p, j)) = true := hF
  unfold formedB at h
  rw [if_neg (by rw [hs.2.1]; decide)] at h
  simp only [Bool.and_eq_true, decide_eq_true_eq] at h
  exact ⟨h.2.1, h.2.2.1⟩
 obtain ⟨q, hqe⟩ : ∃ q : Nat, (ev t (p, j)).peer = (q : Int) := ⟨(ev t (p, j)).peer.toNat, by omega⟩
 cases hf : fifoB t with
 | false => rfl
 | true =>
   exfalso
   have h1 : snd t p q i := ⟨hs.1, by rw [hs.2.2, hqe]⟩
   have h2 : snd t p q j := ⟨hs.2.1, hqe⟩
   cases hr : findE t 3 (ev t (p, j)).msg with
   | none => rw [hr] at hb1; exact hb1 rfl
   | some r' =>
     obtain ⟨r, hr1, hr2⟩ := fifo_order hv hf (by omega) ⟨hp, hj⟩ hij h1 h2 hr
     rw [hr, hr1] at hb2
     have e1 : eidB (some r) = (r.2 : Int) + 1 := rfl
     have e2 : eidB (some r') = (r'.2 : Int) + 1 := rfl
     rw [e1, e2] at hb2
     omega
end Go.Proofs.YtfagfooggcinoaaGreat
namespace Go.Proofs.YtfagfooggcinoaaGreat
open Go.RowKit
set_option linter.unusedVariables false
structure TB (base W : World) (ra rb sa sb : Int) (b3 b7 b8 b9 b10 b11 : Bool) (v8 v9 v72 v76 : Value) : Prop where
 ext : Ext base W
 x1 : b3 = true → v72 = .agg #[.int .i64 ra, .int .i64 rb]
 x2 : b7 = true → v76 = .agg #[.int .i64 sa, .int .i64 sb]
 k1 : b8 = true → ∃ (K : Nat) (z0 z1 : Int), v8 = .pointer (some ⟨K, 0, none⟩) ∧ base.heap.size ≤ K ∧ W.heap[K]? = some (idO z0 z1) ∧ (b10 = true → z0 = ra ∧ z1 = rb)
 k2 : b9 = true → ∃ (K : Nat) (z0 z1 : Int), v9 = .pointer (some ⟨K, 0, none⟩) ∧ base.heap.size ≤ K ∧ W.heap[K]? = some (idO z0 z1) ∧ (b11 = true → z0 = sa ∧ z1 = sb)
 ap : b8 = true → b9 = true → v8 ≠ v9
 c1 : b10 = true → b8 = true
 c2 : b11 = true → b9 = true
theorem TB.grow {base W W' : World} {ra rb sa sb : Int} {b3 b7 b8 b9 b10 b11 : Bool} {v8 v9 v72 v76 : Value} (h : TB base W ra rb sa sb b3 b7 b8 b9 b10 b11 v8 v9 v72 v76) (hx : Ext W W') : TB base W' ra rb sa sb b3 b7 b8 b9 b10 b11 v8 v9 v72 v76 :=
 ⟨h.ext.trans' hx, h.x1, h.x2, fun hb => by
  obtain ⟨K, z0, z1, a, b, c, d⟩ := h.k1 hb
  exact ⟨K, z0, z1, a, b, hx.hp c, d⟩, fun hb => by
  obtain ⟨K, z0, z1, a, b, c, d⟩ := h.k2 hb
  exact ⟨K, z0, z1, a, b, hx.hp c, d⟩, h.ap, h.c1, h.c2⟩
theorem lt_of_heap {W : World} {K : Nat} {o : Obj} (h : W.heap[K]? = some o) : K < W.heap.size := (Array.getElem?_eq_some_iff.1 h).1
theorem id_other {W : World} {K K' : Nat} (h : K' ≠ K) (a b : Value) : ((W.setCell ⟨K, 0, none⟩ a).setCell ⟨K, 1, none⟩ b).heap[K']? = W.heap[K']? := by
 rw [Below.heap_setCell _ _ _ _ h, Below.heap_setCell _ _ _ _ h]
theorem id_setO {W : World} {K : Nat} {z0 z1 : Int} (h : W.heap[K]? = some (idO z0 z1)) (a b : Int) : ((W.setCell ⟨K, 0, none⟩ (.int .i64 a)).setCell ⟨K, 1, none⟩ (.int .i64 b)).heap[K]? = some (idO a b) := id_set h _ _
section
variable {P : Program} {ops : Array Oper} {Q : Exit → Act → World → Prop} {md : Region.Mode} {S : World → Prop}
def Step (P : Program) (ops : Array Oper) (Q : Exit → Act → World → Prop) (o : Oper) (a : Act) (W : World) (N : (Act → World → Prop) → Prop) : Prop :=
 ∀ K : Act → World → Prop, Shut (N K) → if Region.wanted o (yielded ops a.tmps) = true then Oper.wp P o a W K Q else K (a.put o.dst undef) W
theorem two_boxes (base : World) (ra rb sa sb : Int) (c1 c2 m1 m2 t1 t2 : Nat) (o1 o2 o3 o4 o5 o6 : Oper) (L : Bool → Bool → Bool → Bool → Bool → Bool → Array Bool) (T : Value → Value → Value → Value → Act)
  (hS : ∀ W, Ext base W → S W)
  (hR : ∀ b3 b7 b8 b9 b10 b11 i, i ∈ Region.ready md ops (L b3 b7 b8 b9 b10 b11) → (i = c1 ∧ b3 = false) ∨ (i = c2 ∧ b7 = false) ∨ (i = m1 ∧ b8 = false) ∨ (i = m2 ∧ b9 = false) ∨ (i = t1 ∧ b10 = false ∧ b3 = true ∧ b8 = true) ∨ (i = t2 ∧ b11 = false ∧ b7 = true ∧ b9 = true))
  (hE : ∀ b3 b7 b8 b9 b10 b11, Region.ready md ops (L b3 b7 b8 b9 b10 b11) = [] → b3 = true ∧ b7 = true ∧ b8 = true ∧ b9 = true ∧ b10 = true ∧ b11 = true)
  (hZ : Region.ready md ops (L true true true true true true) = [])
  (g1 : ops[c1]? = some o1) (g2 : ops[c2]? = some o2) (g3 : ops[m1]? = some o3) (g4 : ops[m2]? = some o4) (g5 : ops[t1]? = some o5) (g6 : ops[t2]? = some o6)
  (l1 : ∀ b3 b7 b8 b9 b10 b11, (L b3 b7 b8 b9 b10 b11).setIfInBounds c1 true = L true b7 b8 b9 b10 b11)
  (l2 : ∀ b3 b7 b8 b9 b10 b11, (L b3 b7 b8 b9 b10 b11).setIfInBounds c2 true = L b3 true b8 b9 b10 b11)
  (l3 : ∀ b3 b7 b8 b9 b10 b11, (L b3 b7 b8 b9 b10 b11).setIfInBounds m1 true = L b3 b7 true b9 b10 b11)
  (l4 : ∀ b3 b7 b8 b9 b10 b11, (L b3 b7 b8 b9 b10 b11).setIfInBounds m2 true = L b3 b7 b8 true b10 b11)
  (l5 : ∀ b3 b7 b8 b9 b10 b11, (L b3 b7 b8 b9 b10 b11).setIfInBounds t1 true = L b3 b7 b8 b9 true b11)
  (l6 : ∀ b3 b7 b8 b9 b10 b11, (L b3 b7 b8 b9 b10 b11).setIfInBounds t2 true = L b3 b7 b8 b9 b10 true)
  (s1 : ∀ v8 v9 v72 v76 W, Ext base W → Step P ops Q o1 (T v8 v9 v72 v76) W (fun K => ∀ W', Ext W W' → K (T v8 v9 (.agg #[.int .i64 ra, .int .i64 rb]) v76) W'))
  (s2 : ∀ v8 v9 v72 v76 W, Ext base W → Step P ops Q o2 (T v8 v9 v72 v76) W (fun K => ∀ W', Ext W W' → K (T v8 v9 v72 (.agg #[.int .i64 sa, .int .i64 sb])) W'))
  (s3 : ∀ v8 v9 v72 v76 W, Step P ops Q o3 (T v8 v9 v72 v76) W (fun K => K (T (.pointer (some ⟨W.heap.size, 0, none⟩)) v9 v72 v76) (W.alloc (idO 0 0))))
  (s4 : ∀ v8 v9 v72 v76 W, Step P ops Q o4 (T v8 v9 v72 v76) W (fun K => K (T v8 (.pointer (some ⟨W.heap.size, 0, none⟩)) v72 v76) (W.alloc (idO 0 0))))
  (s5 : ∀ (b : Nat) v9 v76 W z0 z1, W.heap[b]? = some (idO z0 z1) → Step P ops Q o5 (T (.pointer (some ⟨b, 0, none⟩)) v9 (.agg #[.int .i64 ra, .int .i64 rb]) v76) W (fun K => K (T (.pointer (some ⟨b, 0, none⟩)) v9 (.agg #[.int .i64 ra, .int .i64 rb]) v76) ((W.setCell ⟨b, 0, none⟩ (.int .i64 ra)).setCell ⟨b, 1, none⟩ (.int .i64 rb))))
  (s6 : ∀ (b : Nat) v8 v72 W z0 z1, W.heap[b]? = some (idO z0 z1) → Step P ops Q o6 (T v8 (.pointer (some ⟨b, 0, none⟩)) v72 (.agg #[.int .i64 sa, .int .i64 sb])) W (fun K => K (T v8 (.pointer (some ⟨b, 0, none⟩)) v72 (.agg #[.int .i64 sa, .int .i64 sb])) ((W.setCell ⟨b, 0, none⟩ (.int .i64 sa)).setCell ⟨b, 1, none⟩ (.int .i64 sb))))
  (hQ : ∀ (A B : Nat) W, Ext base W → W.heap[A]? = some (idO ra rb) → W.heap[B]? = some (idO sa sb) → Q .normal (T (.pointer (some ⟨A, 0, none⟩)) (.pointer (some ⟨B, 0, none⟩)) (.agg #[.int .i64 ra, .int .i64 rb]) (.agg #[.int .i64 sa, .int .i64 sb])) W) :
  ∀ (fuel : Nat) (b3 b7 b8 b9 b10 b11 : Bool) (v8 v9 v72 v76 : Value) (W : World), (!b3).toNat + (!b7).toNat + (!b8).toNat + (!b9).toNat + (!b10).toNat + (!b11).toNat ≤ fuel → TB base W ra rb sa sb b3 b7 b8 b9 b10 b11 v8 v9 v72 v76 →
   wpAnyH P md ops Q S fuel (L b3 b7 b8 b9 b10 b11) (T v8 v9 v72 v76) W := by
 have last : ∀ (b3 b7 b8 b9 b10 b11 : Bool) (v8 v9 v72 v76 : Value) (W : World), TB base W ra rb sa sb b3 b7 b8 b9 b10 b11 v8 v9 v72 v76 → (b3 = true ∧ b7 = true ∧ b8 = true ∧ b9 = true ∧ b10 = true ∧ b11 = true) → Q .normal (T v8 v9 v72 v76) W := by
  intro b3 b7 b8 b9 b10 b11 v8 v9 v72 v76 W h ⟨e3, e7, e8, e9, e10, e11⟩
  obtain ⟨A, z0, z1, rfl, _, ha, hz⟩ := h.k1 e8
  obtain ⟨B, y0, y1, rfl, _, hb, hy⟩ := h.k2 e9
  rw [h.x1 e3, h.x2 e7]
  obtain ⟨rfl, rfl⟩ := hz e10
  obtain ⟨rfl, rfl⟩ := hy e11
  exact hQ A B W h.ext ha hb
 intro fuel
 induction fuel with
 | zero =>
   intro b3 b7 b8 b9 b10 b11 v8 v9 v72 v76 W hf h
   have hall : b3 = true ∧ b7 = true ∧ b8 = true ∧ b9 = true ∧ b10 = true ∧ b11 = true := by
    cases b3 <;> cases b7 <;> cases b8 <;> cases b9 <;> cases b10 <;> cases b11 <;> first | exact ⟨rfl, rfl, rfl, rfl, rfl, rfl⟩ | (exfalso; revert hf; decide)
   refine ⟨?_, last _ _ _ _ _ _ _ _ _ _ _ h hall⟩
   obtain ⟨rfl, rfl, rfl, rfl, rfl, rfl⟩ := hall
   exact hZ
 | succ fuel ih =>
   intro b3 b7 b8 b9 b10 b11 v8 v9 v72 v76 W hf h
   refine ⟨fun h0 => last _ _ _ _ _ _ _ _ _ _ _ h (hE _ _ _ _ _ _ h0), fun i hi => ?_⟩
   rcases hR _ _ _ _ _ _ i hi with ⟨rfl, rfl⟩ | ⟨rfl, rfl⟩ | ⟨rfl, rfl⟩ | ⟨rfl, rfl⟩ | ⟨rfl, rfl, rfl, rfl⟩ | ⟨rfl, rfl, rfl, rfl⟩
   ·refine wpOp_step g1 (fun K' hK => s1 v8 v9 v72 v76 W h.ext K' (fun W' hW' => hK _ _ ⟨(hS W' (h.ext.trans' hW')), ?_⟩))
    rw [l1]
    refine ih _ _ _ _ _ _ _ _ _ _ _ (by simp at hf ⊢; omega) ?_
    have h' := h.grow hW'
    exact ⟨h'.ext, fun _ => rfl, h'.x2, h'.k1, h'.k2, h'.ap, h'.c1, h'.c2⟩
   ·refine wpOp_step g2 (fun K' hK => s2 v8 v9 v72 v76 W h.ext K' (fun W' hW' => hK _ _ ⟨(hS W' (h.ext.trans' hW')), ?_⟩))
    rw [l2]
    refine ih _ _ _ _ _ _ _ _ _ _ _ (by simp at hf ⊢; omega) ?_
    have h' := h.grow hW'
    exact ⟨h'.ext, h'.x1, fun _ => rfl, h'.k1, h'.k2, h'.ap, h'.c1, h'.c2⟩
   ·have hx : Ext W (W.alloc (idO 0 0)) := (Ext.rf W).al _
    refine wpOp_step g3 (fun K' hK => s3 v8 v9 v72 v76 W K' (hK _ _ ⟨(hS _ (h.ext.trans' hx)), ?_⟩))
    rw [l3]
    refine ih _ _ _ _ _ _ _ _ _ _ _ (by simp at hf ⊢; omega) ?_
    have h' := h.grow hx
    refine ⟨h'.ext, h'.x1, h'.x2, fun _ => ⟨W.heap.size, 0, 0, rfl, h.ext.size, heap_alloc_new W _, fun e => absurd (h.c1 e) (by decide)⟩, h'.k2, fun _ e9 e => ?_, fun _ => rfl, h'.c2⟩
    obtain ⟨B, y0, y1, e2, _, hb, _⟩ := h.k2 e9
    have := lt_of_heap hb
    rw [e2] at e
    simp only [Value.pointer.injEq, Option.some.injEq, Addr.mk.injEq, and_true] at e
    omega
   ·have hx : Ext W (W.alloc (idO 0 0)) := (Ext.rf W).al _
    refine wpOp_step g4 (fun K' hK => s4 v8 v9 v72 v76 W K' (hK _ _ ⟨(hS _ (h.ext.trans' hx)), ?_⟩))
    rw [l4]
    refine ih _ _ _ _ _ _ _ _ _ _ _ (by simp at hf ⊢; omega) ?_
    have h' := h.grow hx
    refine ⟨h'.ext, h'.x1, h'.x2, h'.k1, fun _ => ⟨W.heap.size, 0, 0, rfl, h.ext.size, heap_alloc_new W _, fun e => absurd (h.c2 e) (by decide)⟩, fun e8 _ e => ?_, h'.c1, fun _ => rfl⟩
    obtain ⟨B, y0, y1, e2, _, hb, _⟩ := h.k1 e8
    have := lt_of_heap hb
    rw [e2] at e
    simp only [Value.pointer.injEq, Option.some.injEq, Addr.mk.injEq, and_true] at e
    omega
   ·obtain ⟨A, z0, z1, rfl, hA, ha, _⟩ := h.k1 rfl
    obtain rfl := h.x1 rfl
    have hx : Ext base ((W.setCell ⟨A, 0, none⟩ (.int .i64 ra)).setCell ⟨A, 1, none⟩ (.int .i64 rb)) := id_ext h.ext hA _ _
    refine wpOp_step g5 (fun K' hK => s5 A v9 v76 W z0 z1 ha K' (hK _ _ ⟨(hS _ hx), ?_⟩))
    rw [l5]
    refine ih _ _ _ _ _ _ _ _ _ _ _ (by simp at hf ⊢; omega) ?_
    refine ⟨hx, fun _ => rfl, h.x2, fun _ => ⟨A, ra, rb, rfl, hA, id_setO ha _ _, fun _ => ⟨rfl, rfl⟩⟩, fun e9 => ?_, h.ap, fun _ => rfl, h.c2⟩
    obtain ⟨B, y0, y1, e2, hB, hb, hy⟩ := h.k2 e9
    refine ⟨B, y0, y1, e2, hB, ?_, hy⟩
    rw [id_other (fun e => h.ap rfl e9 (by rw [e2, e]))]
    exact hb
   ·obtain ⟨A, z0, z1, rfl, hA, ha, _⟩ := h.k2 rfl
    obtain rfl := h.x2 rfl
    have hx : Ext base ((W.setCell ⟨A, 0, none⟩ (.int .i64 sa)).setCell ⟨A, 1, none⟩ (.int .i64 sb)) := id_ext h.ext hA _ _
    refine wpOp_step g6 (fun K' hK => s6 A v8 v72 W z0 z1 ha K' (hK _ _ ⟨(hS _ hx), ?_⟩))
    rw [l6]
    refine ih _ _ _ _ _ _ _ _ _ _ _ (by simp at hf ⊢; omega) ?_
    refine ⟨hx, h.x1, fun _ => rfl, fun e8 => ?_, fun _ => ⟨A, sa, sb, rfl, hA, id_setO ha _ _, fun _ => ⟨rfl, rfl⟩⟩, h.ap, h.c1, fun _ => rfl⟩
    obtain ⟨B, y0, y1, e2, hB, hb, hy⟩ := h.k1 e8
    refine ⟨B, y0, y1, e2, hB, ?_, hy⟩
    rw [id_other (fun e => h.ap e8 rfl (by rw [e2, e]))]
    exact hb
theorem wpAnyH_takeD {i : Nat} {oi : Oper} {v : Value} {d : Option Tmp} {fuel : Nat} {listed : Array Bool} {a : Act} {w : World} (hi : ops[i]? = some oi) (hd : oi.dst = d)
  (hs : Region.noSelect ops = true) (hf : Region.free md ops listed i = true) (hr : (Region.ready md ops listed).contains i = true)
  (hQ : ∀ c a w, Q (.panic c) (a.put d v) w → Q (.panic c) a w) (hy : YieldsIf P ops S oi v a) (hS : S w)
  (h : wpAnyH P md ops Q S fuel (listed.setIfInBounds i true) (a.put d v) w) : wpAnyH P md ops Q S (fuel + 1) listed a w := by
 subst hd
 exact wpAnyH_take hi hs hf hr hQ hy hS h
def actT (a : Act) (y1 y2 x1 x2 : Tmp) (v8 v9 v72 v76 : Value) : Act := (((a.put (some y1) v8).put (some y2) v9).put (some x1) v72).put (some x2) v76
theorem two_start {fuel : Nat} {listed : Array Bool} {a : Act} {w : World} (base : World) (ra rb sa sb : Int) (c1 c2 m1 m2 t1 t2 : Nat) (o1 o2 o3 o4 o5 o6 : Oper) (L : Bool → Bool → Bool → Bool → Bool → Bool → Array Bool) (y1 y2 x1 x2 : Tmp)
  (hB : Ext base w) (hF : 6 ≤ fuel) (hL : L false false false false false false = listed) (hT : actT a y1 y2 x1 x2 (a.tmps.getD y1 undef) (a.tmps.getD y2 undef) (a.tmps.getD x1 undef) (a.tmps.getD x2 undef) = a)
  (hS : ∀ W, Ext base W → S W)
  (hR : ∀ b3 b7 b8 b9 b10 b11, ((Region.ready md ops (L b3 b7 b8 b9 b10 b11)).all fun i => (i == c1 && !b3) || ((i == c2 && !b7) || ((i == m1 && !b8) || ((i == m2 && !b9) || ((i == t1 && (!b10 && (b3 && b8))) || (i == t2 && (!b11 && (b7 && b9)))))))) = true)
  (hE : ∀ b3 b7 b8 b9 b10 b11, (!(Region.ready md ops (L b3 b7 b8 b9 b10 b11)).isEmpty || (b3 && (b7 && (b8 && (b9 && (b10 && b11)))))) = true)
  (hZ : Region.ready md ops (L true true true true true true) = [])
  (g1 : ops[c1]? = some o1) (g2 : ops[c2]? = some o2) (g3 : ops[m1]? = some o3) (g4 : ops[m2]? = some o4) (g5 : ops[t1]? = some o5) (g6 : ops[t2]? = some o6)
  (l1 : ∀ b3 b7 b8 b9 b10 b11, (L b3 b7 b8 b9 b10 b11).setIfInBounds c1 true = L true b7 b8 b9 b10 b11)
  (l2 : ∀ b3 b7 b8 b9 b10 b11, (L b3 b7 b8 b9 b10 b11).setIfInBounds c2 true = L b3 true b8 b9 b10 b11)
  (l3 : ∀ b3 b7 b8 b9 b10 b11, (L b3 b7 b8 b9 b10 b11).setIfInBounds m1 true = L b3 b7 true b9 b10 b11)
  (l4 : ∀ b3 b7 b8 b9 b10 b11, (L b3 b7 b8 b9 b10 b11).setIfInBounds m2 true = L b3 b7 b8 true b10 b11)
  (l5 : ∀ b3 b7 b8 b9 b10 b11, (L b3 b7 b8 b9 b10 b11).setIfInBounds t1 true = L b3 b7 b8 b9 true b11)
  (l6 : ∀ b3 b7 b8 b9 b10 b11, (L b3 b7 b8 b9 b10 b11).setIfInBounds t2 true = L b3 b7 b8 b9 b10 true)
  (s1 : ∀ v8 v9 v72 v76 W, Ext base W → Step P ops Q o1 (actT a y1 y2 x1 x2 v8 v9 v72 v76) W (fun K => ∀ W', Ext W W' → K (actT a y1 y2 x1 x2 v8 v9 (.agg #[.int .i64 ra, .int .i64 rb]) v76) W'))
  (s2 : ∀ v8 v9 v72 v76 W, Ext base W → Step P ops Q o2 (actT a y1 y2 x1 x2 v8 v9 v72 v76) W (fun K => ∀ W', Ext W W' → K (actT a y1 y2 x1 x2 v8 v9 v72 (.agg #[.int .i64 sa, .int .i64 sb])) W'))
  (s3 : ∀ v8 v9 v72 v76 W, Step P ops Q o3 (actT a y1 y2 x1 x2 v8 v9 v72 v76) W (fun K => K (actT a y1 y2 x1 x2 (.pointer (some ⟨W.heap.size, 0, none⟩)) v9 v72 v76) (W.alloc (idO 0 0))))
  (s4 : ∀ v8 v9 v72 v76 W, Step P ops Q o4 (actT a y1 y2 x1 x2 v8 v9 v72 v76) W (fun K => K (actT a y1 y2 x1 x2 v8 (.pointer (some ⟨W.heap.size, 0, none⟩)) v72 v76) (W.alloc (idO 0 0))))
  (s5 : ∀ (b : Nat) v9 v76 W z0 z1, W.heap[b]? = some (idO z0 z1) → Step P ops Q o5 (actT a y1 y2 x1 x2 (.pointer (some ⟨b, 0, none⟩)) v9 (.agg #[.int .i64 ra, .int .i64 rb]) v76) W (fun K => K (actT a y1 y2 x1 x2 (.pointer (some ⟨b, 0, none⟩)) v9 (.agg #[.int .i64 ra, .int .i64 rb]) v76) ((W.setCell ⟨b, 0, none⟩ (.int .i64 ra)).setCell ⟨b, 1, none⟩ (.int .i64 rb))))
  (s6 : ∀ (b : Nat) v8 v72 W z0 z1, W.heap[b]? = some (idO z0 z1) → Step P ops Q o6 (actT a y1 y2 x1 x2 v8 (.pointer (some ⟨b, 0, none⟩)) v72 (.agg #[.int .i64 sa, .int .i64 sb])) W (fun K => K (actT a y1 y2 x1 x2 v8 (.pointer (some ⟨b, 0, none⟩)) v72 (.agg #[.int .i64 sa, .int .i64 sb])) ((W.setCell ⟨b, 0, none⟩ (.int .i64 sa)).setCell ⟨b, 1, none⟩ (.int .i64 sb))))
  (hQ : ∀ (A B : Nat) W, Ext base W → W.heap[A]? = some (idO ra rb) → W.heap[B]? = some (idO sa sb) → Q .normal (actT a y1 y2 x1 x2 (.pointer (some ⟨A, 0, none⟩)) (.pointer (some ⟨B, 0, none⟩)) (.agg #[.int .i64 ra, .int .i64 rb]) (.agg #[.int .i64 sa, .int .i64 sb])) W) : wpAnyH P md ops Q S fuel listed a w := by
 have hR : ∀ b3 b7 b8 b9 b10 b11 i, i ∈ Region.ready md ops (L b3 b7 b8 b9 b10 b11) → (i = c1 ∧ b3 = false) ∨ (i = c2 ∧ b7 = false) ∨ (i = m1 ∧ b8 = false) ∨ (i = m2 ∧ b9 = false) ∨ (i = t1 ∧ b10 = false ∧ b3 = true ∧ b8 = true) ∨ (i = t2 ∧ b11 = false ∧ b7 = true ∧ b9 = true) := by
  intro b3 b7 b8 b9 b10 b11 i hi
  have h := List.all_eq_true.1 (hR b3 b7 b8 b9 b10 b11) i hi
  simpa only [Bool.or_eq_true, Bool.and_eq_true, Bool.not_eq_true', beq_iff_eq] using h
 have hE : ∀ b3 b7 b8 b9 b10 b11, Region.ready md ops (L b3 b7 b8 b9 b10 b11) = [] → b3 = true ∧ b7 = true ∧ b8 = true ∧ b9 = true ∧ b10 = true ∧ b11 = true := by
  intro b3 b7 b8 b9 b10 b11 hi
  have h := hE b3 b7 b8 b9 b10 b11
  rw [hi] at h
  simpa only [List.isEmpty_nil, Bool.not_true, Bool.false_or, Bool.and_eq_true] using h
 have h := two_boxes base ra rb sa sb c1 c2 m1 m2 t1 t2 o1 o2 o3 o4 o5 o6 L (actT a y1 y2 x1 x2) hS hR hE hZ g1 g2 g3 g4 g5 g6 l1 l2 l3 l4 l5 l6 s1 s2 s3 s4 s5 s6 hQ fuel false false false false false false (a.tmps.getD y1 undef) (a.tmps.getD y2 undef) (a.tmps.getD x1 undef) (a.tmps.getD x2 undef) w hF
  ⟨hB, fun e => absurd e (by decide), fun e => absurd e (by decide), fun e => absurd e (by decide), fun e => absurd e (by decide), fun e => absurd e (by decide), fun e => absurd e (by decide), fun e => absurd e (by decide)⟩
 rw [hL] at h
 exact hT.subst (motive := fun b => wpAnyH P md ops Q S fuel listed b w) h
end
end Go.Proofs.YtfagfooggcinoaaGreat
namespace Go.Proofs.YtfagfooggcinoaaGreat
open Go.RowKit
set_option linter.unusedVariables false
theorem enters_53 : ∀ args w, (callFunc 53 args).run Tryz.prog w = .ok (.enter 53 args) w := enters_of Tryz.func53 (by kernel_rfl) rfl
theorem two_new (w : World) (o1 o2 : Obj) : ((w.alloc o1).alloc o2).drew.heap[w.heap.size]? = some o1 ∧ ((w.alloc o1).alloc o2).drew.heap[w.heap.size + 1]? = some o2 :=
 ⟨(((Ext.rf (w.alloc o1)).al o2).dr).hp (heap_alloc_new w o1), (Ext.rf _).dr.hp (heap_new_eq (by simp))⟩
set_option maxHeartbeats 8000000 in
set_option maxRecDepth 100000 in
theorem fifoR_calls (v : Value) (t : Tr) (w : World) (h : TrAt w v t) (hs : LooseTr t) : Calls Tryz.prog 14 #[.agg #[v]] w fun e w' => e = .returned (.bool (validT t && fifoB t)) ∧ Ext w w' := by
 have HT := Lib.hid h
 have HV := Lib.hid (fun W (hW : Ext w W) => validR_calls v t W (h.ext hW) hs)
 obtain ⟨ta, tc, rfl, htc⟩ := h.sh
 have HX1 := Lib.hid ((Ext.rf w).al (.cells #[.slice ta t.length tc] 24))
 have HB1 := Lib.hid (heap_alloc_new w (.cells #[.slice ta t.length tc] 24))
 have hn1 := hs.1
 have t0 := cellOf HB1.out 0
 simp only [List.getElem?_toArray, List.getElem?_cons_zero] at t0
 cases hv : validT t with
 | false =>
   rw [hv] at HV
   clear h hs hv htc hn1
   generalize t.length = N at *
   go_enter Tryz.func14, Tryz.ntmps14
   go_wp2_with fail
   refine (HV.out _ HX1.out).mono ?_
   rintro e w2 ⟨rfl, hX2⟩
   go_wp2
   go_ret
   exact ⟨rfl, HX1.out.trans' hX2⟩
 | true =>
   rw [hv] at HV
   have hsm := valid_small hv
   have HFN := Lib.hid (fun p j i hp hj hij hq hb => fifo_no (t := t) (p := p) (j := j) (i := i) hv hp hj hij hq hb)
   have HFY := Lib.hid (fun h => fifo_yes (t := t) h)
   have HLEN := Lib.hid (fun p (hp : p < t.length) => (hsm.2 p hp).2.1)
   have HFI := Lib.hid (fun W (hW : Ext w W) m => findR_calls _ t 3 m W (HT.out.ext hW) hsm)
   generalize fifoB t = ans at *
   obtain ⟨N, hN⟩ : ∃ N, t.length = N := ⟨_, rfl⟩
   have HN := Lib.hid hN
   rw [hN] at HX1 HB1 t0 HT HV HFI htc hn1 ⊢
   clear h hs hv htc hsm hN
   go_enter Tryz.func14, Tryz.ntmps14
   go_wp2_with fail
   refine (HV.out _ HX1.out).mono ?_
   rintro e w2 ⟨rfl, hX2⟩
   have HX2 := Lib.hid (HX1.out.trans' hX2)
   have HB2 := Lib.hid (hX2.hp HB1.out)
   have l1 : w.heap.size < w2.heap.size := by have := hX2.sz; simp at this; omega
   clear t0 hX2
   go_wp2
   go_loopg [3] N (fun g s3 wr => ∃ p : Nat, p ≤ N ∧ N - p ≤ g ∧ s3 = .int .i64 p ∧ Aside (∀ x, x < p → ∀ y, y < t[x]!.events.length → ∀ z, z < y → sameF t x y z → badF t x y z = false) ∧ Aside (Ext w2 wr))
   case atStart => exact ⟨0, Nat.zero_le _, by omega, rfl, (show Aside _ from fun x hx => absurd hx (Nat.not_lt_zero _)), Ext.rf _⟩
   case round =>
    obtain ⟨p, hp, hgp, rfl, HA, HX⟩ := hrel
    have t3 := cellOf (HX.out.hp HB2.out) 0
    simp only [List.getElem?_toArray, List.getElem?_cons_zero] at t3
    by_cases hpn : p < N
    case neg =>
     have hpz : ¬ (p : Int) < (N : Int) := by omega
     have HQ := Lib.hid (HFY.out (fun x hx => HA.out x (by have := HN.out; omega)))
     go_wp2
     go_ret
     exact ⟨by rw [HQ.out]; rfl, HX2.out.trans' HX.out⟩
    case pos =>
     have hpz : (p : Int) < (N : Int) := by omega
     have hpz0 : (0 : Int) ≤ (p : Int) := by omega
     have HPT := Lib.hid (show p < t.length by rw [HN.out]; exact hpn)
     obtain ⟨B, O, C, vv, ve, hve, hlC, hB, hn0, hv0, he0, hV, hE0⟩ := proc_at HT.out p (by rw [HN.out]; exact hpn)
     simp only [Value.slice.injEq] at hve
     obtain ⟨rfl, hzz, rfl⟩ := hve
     have HEV := Lib.hid hE0
     obtain ⟨ea, ec, rfl, hec⟩ := hE0.sh
     have hen := HLEN.out p HPT.out
     have HPE := Lib.hid he0
     have HAN : Hid ((∀ y, y < t[p]!.events.length → ∀ z, z < y → sameF t p y z → badF t p y z = false) → ∀ x, x < p + 1 → ∀ y, y < t[x]!.events.length → ∀ z, z < y → sameF t x y z → badF t x y z = false) := Lib.hid (fun hh x hx => by
      by_cases e : x = p
      ·subst e; exact hh
      ·exact HA.out x (by omega))
     have HFP := Lib.hid (fun j i => HFN.out p j i HPT.out)
     have HEL : Hid (∀ i, Hid (t[p]!.events[i]! = ev t (p, i))) := Lib.hid (fun i => Lib.hid rfl)
     generalize hne : t[p]!.events.length = ne at *
     have HNE := Lib.hid hne
     clear hn0 hv0 hV hE0 hne hzz he0 HA
     go_wp2
     clear t3
     go_loopg [4] ne (fun g s4 wr => ∃ j : Nat, j ≤ ne ∧ ne - j ≤ g ∧ s4 = .int .i64 j ∧ Aside (∀ y, y < j → ∀ z, z < y → sameF t p y z → badF t p y z = false) ∧ Aside (Ext w2 wr))
     case atStart => exact ⟨0, Nat.zero_le _, by omega, rfl, (show Aside _ from fun x hx => absurd hx (Nat.not_lt_zero _)), HX.out⟩
     case round =>
      clear HX
      obtain ⟨j, hj, hgj, rfl, HC, HX⟩ := hrel
      have t3 := cellOf (HX.out.hp HB2.out) 0
      simp only [List.getElem?_toArray, List.getElem?_cons_zero] at t3
      have he3 := (HX2.out.trans' HX.out).cl HPE.out
      by_cases hjn : j < ne
      case neg =>
       have hjz : ¬ (j : Int) < (ne : Int) := by omega
       have HQ := Lib.hid (HAN.out (fun y hy => HC.out y (by omega)))
       go_wp2
       go_roundg (N - (p + 1))
       case measure => exact Nat.lt_of_lt_of_le (Nat.sub_lt_sub_left hpn (Nat.lt_succ_self p)) hgp
       case rel => exact ⟨p + 1, by omega, by omega, by go_num, (show Aside _ from HQ.out), (show Ext _ _ from HX.out)⟩
      case pos =>
       have hjz : (j : Int) < (ne : Int) := by omega
       have hjz0 : (0 : Int) ≤ (j : Int) := by omega
       have HCN : Hid ((∀ z, z < j → sameF t p j z → badF t p j z = false) → ∀ y, y < j + 1 → ∀ z, z < y → sameF t p y z → badF t p y z = false) := Lib.hid (fun hh y hy => by
        by_cases e : y = j
        ·subst e; exact hh
        ·exact HC.out y (by omega))
       have HFJ := Lib.hid (fun i => HFP.out j i hjn)
       obtain ⟨EB, EO, EC, va, hee, hlE, hEB, k0, k1, k2, k3, k4, ha⟩ := event_at HEV.out j (by rw [HNE.out]; omega)
       simp only [Value.slice.injEq] at hee
       obtain ⟨rfl, hzz, rfl⟩ := hee
       obtain ⟨va1, va2, rfl, _⟩ := ha.sh
       rw [(HEL.out j).out] at k0 k1 k2 k3 k4
       generalize (ev t (p, j)).asg.length = nb at *
       have HK0 := Lib.hid k0
       have HK1 := Lib.hid k1
       have HK2 := Lib.hid k2
       have HK3 := Lib.hid k3
       have HK4 := Lib.hid k4
       clear k0 k1 k2 k3 k4 ha hzz HC
       go_wp2
       clear t3 he3
       go_loopg [5] j (fun g s5 wr => ∃ i : Nat, i ≤ j ∧ j - i ≤ g ∧ s5 = .int .i64 i ∧ Aside (∀ z, z < i → sameF t p j z → badF t p j z = false) ∧ Aside (Ext w2 wr))
       case atStart => exact ⟨0, Nat.zero_le _, by omega, rfl, (show Aside _ from fun x hx => absurd hx (Nat.not_lt_zero _)), HX.out⟩
       case round =>
        clear HX
        obtain ⟨i, hi, hgi, rfl, HD, HX⟩ := hrel
        by_cases hin : i < j
        case neg =>
         have hiz : ¬ (i : Int) < (j : Int) := by omega
         have HQ := Lib.hid (HCN.out (fun z hz => HD.out z (by omega)))
         go_wp2
         go_roundg (ne - (j + 1))
         case measure => exact Nat.lt_of_lt_of_le (Nat.sub_lt_sub_left hjn (Nat.lt_succ_self j)) hgj
         case rel => exact ⟨j + 1, by omega, by omega, by go_num, (show Aside _ from HQ.out), (show Ext _ _ from HX.out)⟩
        case pos =>
         have hiz : (i : Int) < (j : Int) := by omega
         have hiz0 : (0 : Int) ≤ (i : Int) := by omega
         have hiz1 : (i : Int) < (ne : Int) := by omega
         have HDN : Hid ((sameF t p j i → badF t p j i = false) → ∀ z, z < i + 1 → sameF t p j z → badF t p j z = false) := Lib.hid (fun hh z hz => by
          by_cases e : z = i
          ·subst e; exact hh
          ·exact HD.out z (by omega))
         have HFK := Lib.hid (HFJ.out i hin)
         obtain ⟨EB', EO', EC', vb, hee', _, _, k0, k1, k2, k3, k4, hb⟩ := event_at HEV.out i (by rw [HNE.out]; omega)
         simp only [Value.slice.injEq, Option.some.injEq, Addr.mk.injEq, and_true] at hee'
         obtain ⟨⟨rfl, rfl⟩, hzz, rfl⟩ := hee'
         obtain ⟨vb1, vb2, rfl, _⟩ := hb.sh
         rw [(HEL.out i).out] at k0 k1 k2 k3 k4
         have HXW := Lib.hid (HX2.out.trans' HX.out)
         have m0 := HXW.out.cl k0
         have m1 := HXW.out.cl k1
         have m2 := HXW.out.cl k2
         have m3 := HXW.out.cl k3
         have m4 := HXW.out.cl k4
         have n0 := HXW.out.cl HK0.out
         have n1 := HXW.out.cl HK1.out
         have n2 := HXW.out.cl HK2.out
         have n3 := HXW.out.cl HK3.out
         have n4 := HXW.out.cl HK4.out
         have t3 := cellOf (HX.out.hp HB2.out) 0
         simp only [List.getElem?_toArray, List.getElem?_cons_zero] at t3
         have he3 := HXW.out.cl HPE.out
         clear k0 k1 k2 k3 k4 hzz hb HD
         have HSF : Hid (sameF t p j i ↔ (ev t (p, i)).kind = 2 ∧ (ev t (p, j)).kind = 2 ∧ (ev t (p, i)).peer = (ev t (p, j)).peer) := Lib.hid Iff.rfl
         have HBF := Lib.hid (badF_iff (t := t) (p := p) (j := j) (i := i))
         have HF1 := Lib.hid (fun W (hW : Ext w W) => HFI.out W hW (ev t (p, i)).msg)
         have HF2 := Lib.hid (fun W (hW : Ext w W) => HFI.out W hW (ev t (p, j)).msg)
         generalize findE t 3 (ev t (p, i)).msg = f1 at *
         generalize findE t 3 (ev t (p, j)).msg = f2 at *
         generalize (ev t (p, i)).asg.length = nb2 at *
         generalize ev t (p, i) = x at *
         generalize ev t (p, j) = y at *
         have l2 := World.block_lt_of_cell? wr _ t3
         have l3 := World.block_lt_of_cell? wr _ he3
         have l4 := World.block_lt_of_cell? wr _ m0
         simp only at l2 l3 l4
         have u2 : w.heap.size ≠ wr.heap.size := Nat.ne_of_lt l2
         have u3 : B ≠ wr.heap.size := Nat.ne_of_lt l3
         have u4 : EB ≠ wr.heap.size := Nat.ne_of_lt l4
         have u5 : w.heap.size ≠ wr.heap.size + 1 := by omega
         have u6 : B ≠ wr.heap.size + 1 := by omega
         have u7 : EB ≠ wr.heap.size + 1 := by omega
         go_upto_region 12 with (fail)
         go_cut [6, 7] (fun s6 s7 wx => ∃ A D : Nat, s6 = .pointer (some ⟨A, 0, none⟩) ∧ s7 = .pointer (some ⟨D, 0, none⟩) ∧ Aside (wx.heap[A]? = some (e5 (.int .i64 x.kind) (.int .i64 x.peer) (.int .i64 x.msg) (.int .i64 x.time) (.slice vb1 nb2 vb2))) ∧ Aside (wx.heap[D]? = some (e5 (.int .i64 y.kind) (.int .i64 y.peer) (.int .i64 y.msg) (.int .i64 y.time) (.slice va1 nb va2))) ∧ Aside (Ext wr wx))
         case first =>
          go_region
          all_goals (go_wp2; go_meet)
          all_goals
           first
           | exact ⟨wr.heap.size, wr.heap.size + 1, rfl, rfl, (two_new wr _ _).1, (two_new wr _ _).2, (((Ext.rf wr).al _).al _).dr⟩
           | exact ⟨wr.heap.size + 1, wr.heap.size, rfl, rfl, (two_new wr _ _).2, (two_new wr _ _).1, (((Ext.rf wr).al _).al _).dr⟩
         case rest =>
          obtain ⟨A, D, rfl, rfl, HXA, HXD, HXC⟩ := hcut
          obtain ⟨wd, rfl⟩ : ∃ z, z = wc := ⟨_, rfl⟩
          clear l2 l3 l4 u2 u3 u4 u5 u6 u7 m0 m1 m2 m3 m4 n0 n1 n2 n3 n4 t3 he3
          have x0 := cellOf HXA.out 0
          have x1 := cellOf HXA.out 1
          have x2 := cellOf HXA.out 2
          have y0 := cellOf HXD.out 0
          have y1 := cellOf HXD.out 1
          have y2 := cellOf HXD.out 2
          simp only [List.getElem?_toArray, List.getElem?_cons_zero, List.getElem?_cons_succ] at x0 x1 x2 y0 y1 y2
          have HXE := Lib.hid (HX.out.trans' HXC.out)
          have t3 := cellOf (HXE.out.hp HB2.out) 0
          simp only [List.getElem?_toArray, List.getElem?_cons_zero] at t3
          obtain ⟨c1, hc1⟩ : ∃ b, (x.kind != 2) = b := ⟨_, rfl⟩
          obtain ⟨c2, hc2⟩ : ∃ b, (y.kind != 2) = b := ⟨_, rfl⟩
          obtain ⟨c3, hc3⟩ : ∃ b, (x.peer != y.peer) = b := ⟨_, rfl⟩
          have hw : IntKind.i64.wrap ((i : Int) + 1) = ((i + 1 : Nat) : Int) := by rw [show (i : Int) + 1 = ((i + 1 : Nat) : Int) by omega]; exact IntWalk.i64_in _ (by omega)
          by_cases hsm : c1 = true ∨ c2 = true ∨ c3 = true
          case pos =>
           have HQ := Lib.hid (HDN.out (fun hh => by
            exfalso
            obtain ⟨g1, g2, g3⟩ := HSF.out.1 hh
            rw [g1] at hc1; rw [g2] at hc2; rw [g3, bne_self_eq_false] at hc3
            rw [← hc1, ← hc2, ← hc3] at hsm
            revert hsm
            decide))
           cases c1 with
           | true =>
             go_wp2
             go_roundg (j - (i + 1))
             case measure => exact Nat.lt_of_lt_of_le (Nat.sub_lt_sub_left hin (Nat.lt_succ_self i)) hgi
             case rel => exact ⟨i + 1, by omega, by omega, by go_num, (show Aside _ from HQ.out), (show Ext _ _ from HXE.out)⟩
           | false =>
             cases c2 with
             | true =>
               go_wp2
               go_roundg (j - (i + 1))
               case measure => exact Nat.lt_of_lt_of_le (Nat.sub_lt_sub_left hin (Nat.lt_succ_self i)) hgi
               case rel => exact ⟨i + 1, by omega, by omega, by go_num, (show Aside _ from HQ.out), (show Ext _ _ from HXE.out)⟩
             | false =>
               cases c3 with
               | true =>
                 go_wp2
                 go_roundg (j - (i + 1))
                 case measure => exact Nat.lt_of_lt_of_le (Nat.sub_lt_sub_left hin (Nat.lt_succ_self i)) hgi
                 case rel => exact ⟨i + 1, by omega, by omega, by go_num, (show Aside _ from HQ.out), (show Ext _ _ from HXE.out)⟩
               | false => exact absurd hsm (by decide)
          case neg =>
           obtain rfl : c1 = false := by
            cases c1 with
            | false => rfl
            | true => exact absurd (.inl rfl) hsm
           obtain rfl : c2 = false := by
            cases c2 with
            | false => rfl
            | true => exact absurd (.inr (.inl rfl)) hsm
           obtain rfl : c3 = false := by
            cases c3 with
            | false => rfl
            | true => exact absurd (.inr (.inr rfl)) hsm
           have HSS := Lib.hid (HSF.out.2 ⟨bne_eq_false_iff_eq.1 hc1, bne_eq_false_iff_eq.1 hc2, bne_eq_false_iff_eq.1 hc3⟩)
           clear hsm
           have HXF := Lib.hid (HX2.out.trans' HXE.out)
           have HXG := Lib.hid (Ext.rf wd)
           have HG1 := Lib.hid (fun W (hW : Ext wd W) => HF1.out W (HXF.out.trans' hW))
           have HG2 := Lib.hid (fun W (hW : Ext wd W) => HF2.out W (HXF.out.trans' hW))
           have HT3 := Lib.hid t3
           have HXX := Lib.hid x2
           have HYY := Lib.hid y2
           have lt1 := World.block_lt_of_cell? wd _ t3
           have lt2 := World.block_lt_of_cell? wd _ x2
           have lt3 := World.block_lt_of_cell? wd _ y2
           simp only at lt1 lt2 lt3
           have ne1 : w.heap.size ≠ wd.heap.size := Nat.ne_of_lt lt1
           have ne2 : A ≠ wd.heap.size := Nat.ne_of_lt lt2
           have ne3 : D ≠ wd.heap.size := Nat.ne_of_lt lt3
           have ne4 : w.heap.size ≠ wd.heap.size + 1 := by omega
           have ne5 : A ≠ wd.heap.size + 1 := by omega
           have ne6 : D ≠ wd.heap.size + 1 := by omega
           go_upto_region 14 with (fail)
           clear x0 x1 y0 y1 hc1 hc2 hc3 hw
           go_cut [8, 9] (fun s8 s9 wx => ∃ P Q : Nat, s8 = .pointer (some ⟨P, 0, none⟩) ∧ s9 = .pointer (some ⟨Q, 0, none⟩) ∧ Aside (wx.heap[P]? = some (idO (eidA f1) (eidB f1))) ∧ Aside (wx.heap[Q]? = some (idO (eidA f2) (eidB f2))) ∧ Aside (Ext wd wx))
           case first =>
            refine wp_region_held_drew (S := fun W => W.cell? ⟨w.heap.size, 0, none⟩ = some (.slice (some ⟨B, O, none⟩) N tc) ∧ W.cell? ⟨A, 2, none⟩ = some (.int .i64 x.msg) ∧ W.cell? ⟨D, 2, none⟩ = some (.int .i64 y.msg)) (by kernel_rfl) ⟨t3, x2, y2⟩ (fun hHeld => ?_)
            refine wpAnyH_takeD (i := 0) (d := some 69) (v := ?_) rfl rfl (by kernel_rfl) (by kernel_rfl) (by kernel_rfl) (fun _ _ _ h => h) (Or.inl ⟨by rfl, ?_⟩) (by assumption) ?_
            rotate_left
            ·(intro w hSw; (try dsimp only at hSw); go_simp; try (with_reducible rfl))
            try simp only [Act.put]
            try simp only [List.setIfInBounds_toArray]
            try simp only [List.set_cons_zero, List.set_cons_succ]
            refine wpAnyH_takeD (i := 1) (d := some 70) (v := ?_) rfl rfl (by kernel_rfl) (by kernel_rfl) (by kernel_rfl) (fun _ _ _ h => h) (Or.inl ⟨by rfl, ?_⟩) (by assumption) ?_
            rotate_left
            ·(intro w hSw; (try dsimp only at hSw); go_simp; try (with_reducible rfl))
            try simp only [Act.put]
            try simp only [List.setIfInBounds_toArray]
            try simp only [List.set_cons_zero, List.set_cons_succ]
            refine wpAnyH_takeD (i := 2) (d := some 71) (v := ?_) rfl rfl (by kernel_rfl) (by kernel_rfl) (by kernel_rfl) (fun _ _ _ h => h) (Or.inl ⟨by rfl, ?_⟩) (by assumption) ?_
            rotate_left
            ·(intro w hSw; (try dsimp only at hSw); go_simp; try (with_reducible rfl))
            try simp only [Act.put]
            try simp only [List.setIfInBounds_toArray]
            try simp only [List.set_cons_zero, List.set_cons_succ]
            refine wpAnyH_takeD (i := 4) (d := some 73) (v := ?_) rfl rfl (by kernel_rfl) (by kernel_rfl) (by kernel_rfl) (fun _ _ _ h => h) (Or.inl ⟨by rfl, ?_⟩) (by assumption) ?_
            rotate_left
            ·(intro w hSw; (try dsimp only at hSw); go_simp; try (with_reducible rfl))
            try simp only [Act.put]
            try simp only [List.setIfInBounds_toArray]
            try simp only [List.set_cons_zero, List.set_cons_succ]
            refine wpAnyH_takeD (i := 5) (d := some 74) (v := ?_) rfl rfl (by kernel_rfl) (by kernel_rfl) (by kernel_rfl) (fun _ _ _ h => h) (Or.inl ⟨by rfl, ?_⟩) (by assumption) ?_
            rotate_left
            ·(intro w hSw; (try dsimp only at hSw); go_simp; try (with_reducible rfl))
            try simp only [Act.put]
            try simp only [List.setIfInBounds_toArray]
            try simp only [List.set_cons_zero, List.set_cons_succ]
            refine wpAnyH_takeD (i := 6) (d := some 75) (v := ?_) rfl rfl (by kernel_rfl) (by kernel_rfl) (by kernel_rfl) (fun _ _ _ h => h) (Or.inl ⟨by rfl, ?_⟩) (by assumption) ?_
            rotate_left
            ·(intro w hSw; (try dsimp only at hSw); go_simp; try (with_reducible rfl))
            try simp only [Act.put]
            try simp only [List.setIfInBounds_toArray]
            try simp only [List.set_cons_zero, List.set_cons_succ]
            refine two_start (base := wd) (ra := eidA f1) (rb := eidB f1) (sa := eidA f2) (sb := eidB f2) 3 7 8 9 10 11 ⟨some 72, _, _, _, _, _⟩ ⟨some 76, _, _, _, _, _⟩ ⟨some 8, _, _, _, _, _⟩ ⟨some 9, _, _, _, _, _⟩ ⟨none, _, _, _, _, _⟩ ⟨none, _, _, _, _, _⟩
             (L := fun b3 b7 b8 b9 b10 b11 => #[true, true, true, b3, true, true, true, b7, b8, b9, b10, b11]) (y1 := 8) (y2 := 9) (x1 := 72) (x2 := 76)
             ?_ ?_ ?_ ?_ ?_ ?_ ?_ ?_ rfl rfl rfl rfl rfl rfl
             (fun _ _ _ _ _ _ => rfl) (fun _ _ _ _ _ _ => rfl) (fun _ _ _ _ _ _ => rfl) (fun _ _ _ _ _ _ => rfl) (fun _ _ _ _ _ _ => rfl) (fun _ _ _ _ _ _ => rfl)
             ?_ ?_ ?_ ?_ ?_ ?_ ?_
            ·exact (Ext.rf wd).dr
            ·exact Nat.le_of_ble_eq_true (by kernel_rfl)
            ·kernel_rfl
            ·kernel_rfl
            ·exact fun W hW => ⟨hW.cl HT3.out, hW.cl HXX.out, hW.cl HYY.out⟩
            ·intro b3 b7 b8 b9 b10 b11
             cases b3 <;> cases b7 <;> cases b8 <;> cases b9 <;> cases b10 <;> cases b11 <;> kernel_rfl
            ·intro b3 b7 b8 b9 b10 b11
             cases b3 <;> cases b7 <;> cases b8 <;> cases b9 <;> cases b10 <;> cases b11 <;> kernel_rfl
            ·kernel_rfl
            ·intro v8 v9 v72 v76 W hW K hK
             refine step_call rfl 53 _ _ rfl enters_53 [.agg #[.slice (some ⟨B, O, none⟩) N tc], .int .i64 3, .int .i64 x.msg] (by first | rfl | kernel_rfl | go_simp) (HG1.out W hW) ?_
             rintro e y ⟨rfl, hX⟩
             exact ⟨_, rfl, hK.out y hX⟩
            ·intro v8 v9 v72 v76 W hW K hK
             refine step_call rfl 53 _ _ rfl enters_53 [.agg #[.slice (some ⟨B, O, none⟩) N tc], .int .i64 3, .int .i64 y.msg] (by first | rfl | kernel_rfl | go_simp) (HG2.out W hW) ?_
             rintro e y ⟨rfl, hX⟩
             exact ⟨_, rfl, hK.out y hX⟩
            ·intro v8 v9 v72 v76 W K hK
             unfold actT
             try simp only [Act.put]
             try simp only [List.setIfInBounds_toArray]
             try simp only [List.set_cons_zero, List.set_cons_succ]
             go_simp
             exact hK.out
            ·intro v8 v9 v72 v76 W K hK
             unfold actT
             try simp only [Act.put]
             try simp only [List.setIfInBounds_toArray]
             try simp only [List.set_cons_zero, List.set_cons_succ]
             go_simp
             exact hK.out
            ·intro b v9 v76 W z0 z1 hb K hK
             have q0 := cellOf hb 0
             have q1 := cellOf hb 1
             have g0 := freeOf hb 0
             have g1 := freeOf hb 1
             simp only [List.getElem?_toArray, List.getElem?_cons_zero, List.getElem?_cons_succ] at q0 q1
             unfold actT
             try simp only [Act.put]
             try simp only [List.setIfInBounds_toArray]
             try simp only [List.set_cons_zero, List.set_cons_succ]
             go_simp
             exact hK.out
            ·intro b v8 v72 W z0 z1 hb K hK
             have q0 := cellOf hb 0
             have q1 := cellOf hb 1
             have g0 := freeOf hb 0
             have g1 := freeOf hb 1
             simp only [List.getElem?_toArray, List.getElem?_cons_zero, List.getElem?_cons_succ] at q0 q1
             unfold actT
             try simp only [Act.put]
             try simp only [List.setIfInBounds_toArray]
             try simp only [List.set_cons_zero, List.set_cons_succ]
             go_simp
             exact hK.out
            ·intro P0 Q0 W hW h1 h2
             unfold actT
             try simp only [Act.put]
             try simp only [List.setIfInBounds_toArray]
             try simp only [List.set_cons_zero, List.set_cons_succ]
             go_wp2
             go_meet
             exact ⟨P0, Q0, rfl, rfl, h1, h2, hW⟩
           case rest =>
            obtain ⟨P, Q, rfl, rfl, HXP, HXQ, HXC2⟩ := hcut
            obtain ⟨we, rfl⟩ : ∃ z, z = wc := ⟨_, rfl⟩
            clear t3 x2 y2 lt1 lt2 lt3 ne1 ne2 ne3 ne4 ne5 ne6
            have p1 := cellOf HXP.out 1
            have q1 := cellOf HXQ.out 1
            simp only [List.getElem?_toArray, List.getElem?_cons_zero, List.getElem?_cons_succ] at p1 q1
            have HXH := Lib.hid (HXE.out.trans' HXC2.out)
            have hw : IntKind.i64.wrap ((i : Int) + 1) = ((i + 1 : Nat) : Int) := by rw [show (i : Int) + 1 = ((i + 1 : Nat) : Int) by omega]; exact IntWalk.i64_in _ (by omega)
            generalize eidB f1 = z1 at *
            generalize eidB f2 = z2 at *
            by_cases h2 : z2 = 0
            ·have c2 : (z2 != 0) = false := by rw [bne_eq_false_iff_eq]; exact h2
             have HQ := Lib.hid (HDN.out (fun _ => by
              rw [Bool.eq_false_iff]
              intro hb
              exact (HBF.out.1 hb).1 h2))
             clear h2
             go_wp2
             go_roundg (j - (i + 1))
             case measure => exact Nat.lt_of_lt_of_le (Nat.sub_lt_sub_left hin (Nat.lt_succ_self i)) hgi
             case rel => exact ⟨i + 1, by omega, by omega, by go_num, (show Aside _ from HQ.out), (show Ext _ _ from HXH.out)⟩
            ·have c2 : (z2 != 0) = true := by rw [bne_iff_ne]; exact h2
             by_cases h1 : z1 = 0
             ·have c1 : (z1 == 0) = true := by rw [beq_iff_eq]; exact h1
              have HQ := Lib.hid (HFK.out HSS.out (HBF.out.2 ⟨h2, .inl h1⟩))
              clear h1 h2
              go_wp2
              go_ret
              exact ⟨by rw [HQ.out]; rfl, HX2.out.trans' HXH.out⟩
             ·have c1 : (z1 == 0) = false := by rw [beq_eq_false_iff_ne]; exact h1
              by_cases h3 : z2 < z1
              ·have c3 : decide (z2 < z1) = true := decide_eq_true h3
               have HQ := Lib.hid (HFK.out HSS.out (HBF.out.2 ⟨h2, .inr h3⟩))
               clear h1 h2 h3
               go_wp2
               go_ret
               exact ⟨by rw [HQ.out]; rfl, HX2.out.trans' HXH.out⟩
              ·have c3 : decide (z2 < z1) = false := decide_eq_false h3
               have HQ := Lib.hid (HDN.out (fun _ => by
                rw [Bool.eq_false_iff]
                intro hb
                rcases (HBF.out.1 hb).2 with h | h
                ·exact h1 h
                ·exact h3 h))
               clear h1 h2 h3
               go_wp2
               go_roundg (j - (i + 1))
               case measure => exact Nat.lt_of_lt_of_le (Nat.sub_lt_sub_left hin (Nat.lt_succ_self i)) hgi
               case rel => exact ⟨i + 1, by omega, by omega, by go_num, (show Aside _ from HQ.out), (show Ext _ _ from HXH.out)⟩
end Go.Proofs.YtfagfooggcinoaaGreat
namespace Go.Proofs.YtfagfooggcinoaaGreat
open Go.RowKit
set_option linter.unusedVariables false
noncomputable def bgnB (t : Tr) (r : List (List Int)) (p a : Int) : Bool := validT t && (fifoB t && (runB t r && (decide (0 ≤ p) && (decide (p < (t.length : Int)) && (decide (0 ≤ a) && decide (a < (r.length : Int)))))))
end Go.Proofs.YtfagfooggcinoaaGreat
