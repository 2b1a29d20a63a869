/-
  A copy within a region that draws its order. No program is named here.
-/
import Derived.Test.YtodkcfebcjgahaaCopyN
import Derived.Test.YtodkcfebcjgahaaStep
namespace Go.Proofs.Ytodkcfebcjgahaa
open Go.RowKit
set_option linter.unusedVariables false

theorem run_copy_row {P : Program} (w : World) (dT sT ty elem : TypeId) (size : Nat) (hu : P.underlying dT = some (.slice elem)) (hsz : (P.info? elem).map (·.size) = some size)
    (base n : Nat) (v u : Value) (xs cs : List Value) (hown : Row w base elem size v n xs) (hsrc : CellsAt w u size n cs) (h1 : ∀ x ∈ cs, x.oneCell' = true) :
    ∃ w', (Builtin.copy_ #[dT, sT] ty #[v, u]).run P w = .ok (goInt n) w' ∧ Row w' base elem size v n cs ∧ w.grownBy w' v.ownBlock := by
  obtain ⟨hl, sa, sc, rfl, hsc, hcells⟩ := hsrc
  rcases Nat.eq_zero_or_pos n with rfl | hn
  · obtain ⟨da, dc, rfl⟩ := hown.nil_of rfl
    have hcs : cs = [] := List.eq_nil_of_length_eq_zero (by rw [hl]; simp)
    have hxs : xs = [] := List.eq_nil_of_length_eq_zero (by rw [hown.1]; simp)
    exact ⟨w, run_copy_none' (P := P) w dT sT ty elem size da sa dc sc hu hsz, by rw [hcs]; rw [hxs] at hown; exact hown, World.grownBy.refl w _⟩
  · rcases hown.2 with ⟨_, h0⟩ | ⟨g, off, cap, cur, rfl, hb, hg, hnc, hcm, hfit, hx⟩
    · omega
    · obtain ⟨b, so, rfl, hbs, hc⟩ := hcells hn
      have hmul : n * size ≤ cap * size := Nat.mul_le_mul_right _ hnc
      have hcl : cur.toList.length = cur.size := Array.length_toList
      refine ⟨_, run_copy_rows (P := P) w dT sT ty elem size g off n cap ⟨b, so, none⟩ sc cur elem cs hu hsz hg hl (fun j x hj => by
        have hjl : j < n * size := by have := (List.getElem?_eq_some_iff.1 hj).1; omega
        rw [Addr.add_lit, hc j hjl]; exact hj) (by omega) h1, ?_, ?_⟩
      · refine ⟨hl, .inr ⟨g, off, cap, _, rfl, hb, setRow_heap w g cur _ elem _ hg, hnc, hcm, ?_, ?_⟩⟩
        · simp; omega
        · rw [List.append_assoc, List.drop_left' (by rw [List.length_take]; omega), List.take_left' hl]
      · exact ⟨rfl, rfl, rfl, by simp [World.setRow], fun k hk hne => setRow_other w g k _ (fun e => hne (by rw [e]; rfl))⟩
theorem step_copyA {P : Program} {ops : Array Oper} {o : Oper} {a : Act} {w : World} {K : Act → World → Prop} {Q : Exit → Act → World → Prop} {E : Prop} (hgd : o.guard = none) (d s : Operand) (dT sT : TypeId)
    (ho : o.op = .call { callee := .builtin .copy, args := #[d, s], argTypes := #[dT, sT] }) (elem : TypeId) (size : Nat) (hu : P.underlying dT = some (.slice elem)) (hsz : (P.info? elem).map (·.size) = some size)
    (base n : Nat) (v u : Value) (xs cs : List Value) (hd : a.eval d = v) (hown : Row w base elem size v n xs) (hs : a.eval s = u) (hsrc : CellsAt w u size n cs) (h1 : ∀ x ∈ cs, x.oneCell' = true)
    (h : ∀ w', Row w' base elem size v n cs → w.grownBy w' v.ownBlock → K (a.put o.dst (goInt n)) w') : if Region.wanted o (yielded ops a.tmps) = true then Oper.wp P o a w K Q else E := by
  have hw : Region.wanted o (yielded ops a.tmps) = true := by simp [Region.wanted, hgd]
  rw [if_pos hw]
  obtain ⟨w', hr, h2, h3⟩ := run_copy_row (P := P) w dT sT o.type elem size hu hsz base n v u xs cs hown hsrc h1
  unfold Oper.wp execOp
  simp only [ho, resolve, invoke, builtin, Sem.run_bind, Sem.run_pure, Result.andThen_ok, List.map_toArray, List.map_cons, List.map_nil, hd, hs, hr]
  exact h w' h2 h3

end Go.Proofs.Ytodkcfebcjgahaa
