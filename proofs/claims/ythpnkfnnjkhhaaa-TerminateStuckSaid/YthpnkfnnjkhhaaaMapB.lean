/-
  A map from numbers to yes or no that the call has made: what it says at the numbers below a bound. No program is named here.
-/
import Derived.Test.YthpnkfnnjkhhaaaBase
import Derived.Maps.Own
import Derived.Maps.OwnOps
import Derived.Maps.Keyed
import Derived.Maps.Views
import Derived.WalkArith
namespace Go.Proofs.Ythpnkfnnjkhhaaa
open Go.RowKit Go.Maps
set_option linter.unusedVariables false

/-- Block b says F at the numbers below N; at most n stores were made. -/
def BMap (w : World) (P : Program) (k e : TypeId) (b n N : Nat) (F : List Bool) : Prop :=
  ∃ D : DataW Unit, w.ownsMap P k (plainElem P e) b n D ∧ IsMap D ∧ ∀ y : Int, 0 ≤ y → y < (N : Int) → D.atKey (.int .i64 y) (.lit (.bool false)) = .lit (.bool F[y.toNat]!)

variable {P : Program} {k e t : TypeId} {b n N : Nat} {F : List Bool} {w : World}

theorem BMap.made (w : World) (hF : ∀ i : Nat, i < N → F[i]! = false) : BMap (w.alloc (.map #[] 0)) P k e w.heap.size 0 N F :=
  ⟨.map [], World.ownsMap_made _ _ _ _, isMap_empty, fun y h0 h1 => by rw [hF y.toNat (by omega)]; rfl⟩

theorem BMap.lt (h : BMap w P k e b n N F) : b < w.heap.size := by obtain ⟨D, h, _⟩ := h; exact h.lt

theorem BMap.ext {w' : World} (h : BMap w P k e b n N F) (x : Ext w w') : BMap w' P k e b n N F := by
  obtain ⟨D, ⟨es, clock, hb, r⟩, h2⟩ := h
  exact ⟨D, ⟨es, clock, x.hp hb, r⟩, h2⟩

theorem BMap.mono (h : BMap w P k e b n N F) {n' : Nat} (hn : n ≤ n') : BMap w P k e b n' N F := by
  obtain ⟨D, h, r⟩ := h
  exact ⟨D, h.mono hn, r⟩

theorem BMap.grown {w' : World} {row : Option Nat} (h : BMap w P k e b n N F) (hg : w.grownBy w' row) (hne : some b ≠ row) : BMap w' P k e b n N F := by
  obtain ⟨D, h, r⟩ := h
  exact ⟨D, h.kept hg hne, r⟩

theorem wf_at {y : Int} {N : Nat} (h0 : 0 ≤ y) (h1 : y < (N : Int)) (hN : N ≤ 1000000) : (Lit.int .i64 y).wf = true := by
  simp [Lit.wf, IntKind.min, IntKind.max, IntKind.signed, IntKind.bits]; omega

theorem BMap.look (h : BMap w P k e b n N F) (hk : P.underlying k = some (.int .i64)) (ht : P.underlying t = some (.map k e)) (he : P.underlying e = some .bool) (hz : ∀ w, (zeroValue e).run P w = .ok (.bool false) w)
    (y : Int) (h0 : 0 ≤ y) (h1 : y < (N : Int)) (hN : N ≤ 1000000) : (Instr.lookup t (.map (some b)) (.int .i64 y) false).run P w = .ok (.bool F[y.toNat]!) w := by
  obtain ⟨D, h, _, hD⟩ := h
  obtain ⟨v, ps, hr, hv⟩ := h.lookup (int_keyed hk) ht (hz w) (plainElem_bool he false) (keyOf_int_mk hk (wf_at h0 h1 hN))
  rw [hD y h0 h1] at hv
  unfold plainElem at hv
  rw [he] at hv
  cases v <;> simp at hv
  rw [hr, hv.1]; simp

theorem wpList_look_b {ops : Array Oper} {rest : List Oper} {o : Oper} {a : Act} {Q : Exit → Act → World → Prop}
    (hg : o.guard = none) (m x : Operand) (t : TypeId) (hop : o.op = Op.lookup t m x false) (k e : TypeId) (b n N : Nat) (F : List Bool) (hown : BMap w P k e b n N F)
    (hk : P.underlying k = some (.int .i64)) (ht : P.underlying t = some (.map k e)) (he : P.underlying e = some .bool) (hz : ∀ w, (zeroValue e).run P w = .ok (.bool false) w)
    (y : Int) (h0 : 0 ≤ y) (h1 : y < (N : Int)) (hN : N ≤ 1000000) (hm : a.eval m = .map (some b)) (hx : a.eval x = .int .i64 y)
    (hK : wpList P ops Q rest (a.put o.dst (.bool F[y.toNat]!)) w) :
    wpList P ops Q (o :: rest) a w := by
  refine wpList_plain hg fun K' hK' => ?_
  have hrun := hown.look hk ht he hz y h0 h1 hN
  unfold Oper.wp
  simp [execOp, hop, hm, hx, hrun, Result.andThen]
  exact hK' _ _ (by simpa using hK)

theorem wpList_put_b {ops : Array Oper} {rest : List Oper} {o : Oper} {a : Act} {Q : Exit → Act → World → Prop}
    (hg : o.guard = none) (m x v : Operand) (t : TypeId) (hop : o.op = Op.mapUpdate t m x v) (k e : TypeId) (b n N : Nat) (F : List Bool) (hown : BMap w P k e b n N F) (hn : n < maxLen) (hF : F.length = N)
    (hk : P.underlying k = some (.int .i64)) (ht : P.underlying t = some (.map k e)) (he : P.underlying e = some .bool)
    (y : Int) (h0 : 0 ≤ y) (h1 : y < (N : Int)) (hN : N ≤ 1000000) (hm : a.eval m = .map (some b)) (hx : a.eval x = .int .i64 y) (hv : a.eval v = .bool true)
    (hK : ∀ w', BMap w' P k e b (n + 1) N (F.set y.toNat true) → w.grownBy w' (some b) → wpList P ops Q rest (a.put o.dst undef) w') :
    wpList P ops Q (o :: rest) a w := by
  obtain ⟨D, h, hi, hD⟩ := hown
  refine wpList_mapUpdate_own w hg m x v t hop k e (int_keyed hk) ht _ b n D hm h hn _ _ (.int .i64 y) hx hv (keyOf_int_mk hk (wf_at h0 h1 hN)) (.lit (.bool true)) [] (plainElem_bool he true) ?_
  intro w' h' hg'
  refine hK w' ⟨_, h', hi.put _ _, fun z hz0 hz1 => ?_⟩ hg'
  have key : ((F.set y.toNat true)[z.toNat]!) = if z = y then true else F[z.toNat]! := by
    rw [getElem!_pos _ _ (by rw [List.length_set, hF]; omega), List.getElem_set, getElem!_pos F _ (by rw [hF]; omega)]
    by_cases e : z = y
    · rw [if_pos (by rw [e]), if_pos e]
    · rw [if_neg (by omega), if_neg e]
  rw [key]
  by_cases e : z = y
  · subst e
    rw [if_pos rfl]
    exact atKey_put_same hi (by trivial) _ _
  · rw [if_neg e, ← hD z hz0 hz1]
    exact atKey_put_other (by simp only [ne_eq, Lit.int.injEq, true_and]; exact e) _ _

end Go.Proofs.Ythpnkfnnjkhhaaa
