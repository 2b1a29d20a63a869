/-
  'copy(dst, src)' of all elements, of any size, into a row of the call's own. No program is named here.
-/
import Derived.Test.YtodkcfebcjgahaaRow
import Derived.Laws.CopyOwn
namespace Go.Proofs.Ytodkcfebcjgahaa
open Go.RowKit
set_option linter.unusedVariables false

theorem run_copy_rows {P : Program} (w : World) (dT sT ty elem : TypeId) (size g o n dCap : Nat) (a : Addr) (sCap : Nat) (cur : Array Value) (t : TypeId) (cs : List Value)
    (hu : P.underlying dT = some (.slice elem)) (hs : (P.info? elem).map (·.size) = some size)
    (hg : w.heap[g]? = some (.cells cur t (0, 0))) (hn : cs.length = n * size)
    (hsrc : ∀ j v, cs[j]? = some v → w.cell? (a.add j) = some v) (hfit : o + cs.length ≤ cur.size) (h1 : ∀ v ∈ cs, v.oneCell' = true) :
    (Builtin.copy_ #[dT, sT] ty #[.slice (some ⟨g, o, none⟩) n dCap, .slice (some a) n sCap]).run P w =
      .ok (goInt n) (w.setRow g (cur.toList.take o ++ cs ++ cur.toList.drop (o + cs.length)).toArray) := by
  have hl := run_loadCells_list (P := P) w a cs hsrc
  have hst := run_storeCells_at P g o t cs 0 cur w hg (by simpa using hfit) h1
  cases hq : P.info? elem with
  | none => simp [hq] at hs
  | some i =>
    have hi : i.size = size := by simpa [hq] using hs
    simp [Builtin.copy_, run_underlying hu, Builtin.lenOf, Builtin.firstCells, sizeOf, typeInfo, hq, hi, ← hn, hl, hst]

theorem run_copy_none' {P : Program} (w : World) (dT sT ty elem : TypeId) (size : Nat) (d a : Option Addr) (dCap sCap : Nat) (hu : P.underlying dT = some (.slice elem)) (hs : (P.info? elem).map (·.size) = some size) :
    (Builtin.copy_ #[dT, sT] ty #[.slice d 0 dCap, .slice a 0 sCap]).run P w = .ok (goInt 0) w := by
  cases hq : P.info? elem with
  | none => simp [hq] at hs
  | some i =>
    have hl : ∀ (x : Addr), (loadCells x 0).run P w = .ok #[] w := fun x => by simpa using run_loadCells_list (P := P) w x [] (by simp)
    cases d <;> cases a <;> simp [Builtin.copy_, run_underlying hu, Builtin.lenOf, Builtin.firstCells, sizeOf, typeInfo, hq, storeCells, hl]

theorem wpList_copy_all {P : Program} {w : World} {ops : Array Oper} {rest : List Oper} {o : Oper} {a : Act} {Q : Exit → Act → World → Prop} (hgd : o.guard = none) (d s : Operand) (dT sT : TypeId)
    (ho : o.op = .call { callee := .builtin .copy, args := #[d, s], argTypes := #[dT, sT] }) (elem : TypeId) (size : Nat) (hu : P.underlying dT = some (.slice elem)) (hsz : (P.info? elem).map (·.size) = some size)
    (base n : Nat) (v u : Value) (xs cs : List Value) (hd : a.eval d = v) (hown : Row w base elem size v n xs) (hs : a.eval s = u) (hsrc : CellsAt w u size n cs) (h1 : ∀ x ∈ cs, x.oneCell' = true)
    (h : ∀ w', Row w' base elem size v n cs → w.grownBy w' v.ownBlock → wpList P ops Q rest (a.put o.dst (goInt n)) w') : wpList P ops Q (o :: rest) a w := by
  refine wpList_plain hgd fun K hK => ?_
  obtain ⟨hl, sa, sc, rfl, hsc, hcells⟩ := hsrc
  rcases Nat.eq_zero_or_pos n with rfl | hn
  · obtain ⟨da, dc, rfl⟩ := hown.nil_of rfl
    have hrun := run_copy_none' (P := P) w dT sT o.type elem size da sa dc sc hu hsz
    have hcs : cs = [] := List.eq_nil_of_length_eq_zero (by rw [hl]; simp)
    have hxs : xs = [] := List.eq_nil_of_length_eq_zero (by rw [hown.1]; simp)
    unfold Oper.wp
    simp [execOp, ho, resolve, invoke, builtin, hd, hs, hrun, Result.andThen]
    exact hK _ _ (h w (by rw [hcs]; rw [hxs] at hown; exact hown) (World.grownBy.refl w _))
  · rcases hown.2 with ⟨_, h0⟩ | ⟨g, off, cap, cur, rfl, hb, hg, hnc, hcm, hfit, hx⟩
    · omega
    · obtain ⟨b, so, rfl, hbs, hc⟩ := hcells hn
      have hmul : n * size ≤ cap * size := Nat.mul_le_mul_right _ hnc
      have hrun := run_copy_rows (P := P) w dT sT o.type elem size g off n cap ⟨b, so, none⟩ sc cur elem cs hu hsz hg hl (fun j x hj => by
        have hjl : j < n * size := by have := (List.getElem?_eq_some_iff.1 hj).1; omega
        rw [Addr.add_lit, hc j hjl]; exact hj) (by omega) h1
      unfold Oper.wp
      simp [execOp, ho, resolve, invoke, builtin, hd, hs, hrun, Result.andThen]
      have hcl : cur.toList.length = cur.size := Array.length_toList
      refine hK _ _ (by
        have := h (w.setRow g (cur.toList.take off ++ cs ++ cur.toList.drop (off + cs.length)).toArray) ?_ ?_
        · simpa using this
        · refine ⟨hl, .inr ⟨g, off, cap, _, rfl, hb, setRow_heap w g cur _ elem _ hg, hnc, hcm, ?_, ?_⟩⟩
          · simp; omega
          · rw [List.append_assoc, List.drop_left' (by rw [List.length_take]; omega), List.take_left' hl]
        · refine ⟨rfl, rfl, rfl, by simp [World.setRow], fun k hk hne => setRow_other w g k _ (fun e => hne (by rw [e]; rfl))⟩)

end Go.Proofs.Ytodkcfebcjgahaa
