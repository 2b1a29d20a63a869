import Derived.Test.YtbpdbikphlhaiaaGreatDoorGa
import Derived.Test.YtbpdbikphlhaiaaGreatDoorGi
import Derived.Test.YtbpdbikphlhaiaaGreatDoorGc
import Derived.Test.YtbpdbikphlhaiaaGreatDoorProg
import Derived.Test.YtbpdbikphlhaiaaGreatDoorGj
import Derived.Deep.RegionHeld3
import Derived.BigQuiet
import Derived.Deep.QuietTactic
import Derived.Deep.LoopGhost
import Derived.Shelf.Abstract
import Derived.BigRegion
import Derived.Laws.EntriesVeiled
import Derived.Deep.DeepCutAuto
import Derived.Lib.TrailingZeros
import Derived.Laws.Bits64b
namespace Go.Proofs.YtbpdbikphlhaiaaGreatDoor
open Go.RowKit
set_option linter.unusedVariables false
theorem Row.stT {w : World} {base g o : Nat} {e t : TypeId} {size : Nat} {v : Value} {n : Nat} {xs : List Value} {cs : Array Value} {fr : Nat × Nat} (h : Row w base e size v n xs) (hg : w.heap[g]? = some (.cells cs t fr)) (hne : t ≠ e) (u : Value) : Row (w.setCell ⟨g, o, none⟩ u) base e size v n xs :=
 h.st (p := ⟨g, o, none⟩) (h.notBox hg hne) u
theorem row_heap {w : World} {base g off cap n m : Nat} {e : TypeId} {size : Nat} {xs : List Value} (h : Row w base e size (.slice (some ⟨g, off, none⟩) m cap) n xs) : ∃ cur fr, w.heap[g]? = some (.cells cur e fr) := by
 rcases h.2 with ⟨e, _⟩ | ⟨g', off', cap', cur, e, _, hgg, _⟩
 ·cases e
 ·simp only [Value.slice.injEq, Option.some.injEq, Addr.mk.injEq, and_true] at e
  obtain ⟨⟨rfl, _⟩, _⟩ := e
  exact ⟨_, _, hgg⟩
theorem heap_keptR {W W' : World} {row : Option Nat} {k : Nat} {o : Obj} (h : W.heap[k]? = some o) (hg : W.grownBy W' row) (hr : ∀ q, row = some q → q ≠ k) : W'.heap[k]? = some o :=
 (hg.block k (Array.getElem?_eq_some_iff.1 h).1 (fun e => hr k e.symm rfl)).trans h
theorem take_getR {cs xs : List Value} {a n : Nat} (h : (cs.drop a).take n = xs) {j : Nat} (hj : j < n) : cs[a + j]? = xs[j]? := by
 rw [← h, List.getElem?_take_of_lt hj, List.getElem?_drop]
def updR (va : Nat → Value) (k : Nat) (u : Value) : Nat → Value := fun j => if j = k then u else va j
theorem updR_at (va : Nat → Value) (k : Nat) (u : Value) : updR va k u k = u := if_pos rfl
theorem updR_ne {va : Nat → Value} {k j : Nat} {u : Value} (h : j ≠ k) : updR va k u j = va j := if_neg h
def setC (N : Nat) (u : Value) : List Value := [.int .i64 (N : Int), u]
def SetC (cs : List Value) (N n : Nat) (vw : Nat → Value) : Prop := cs.length = n * 2 ∧ ∀ k, k < n → (cs.drop (k * 2)).take 2 = setC N (vw k)
theorem SetC.snoc {cs : List Value} {N n : Nat} {vw : Nat → Value} (h : SetC cs N n vw) (u : Value) : SetC (cs ++ setC N u) N (n + 1) (updR vw n u) := by
 obtain ⟨h1, h2⟩ := h
 refine ⟨by rw [List.length_append, h1, Nat.add_mul]; rfl, fun k hk => ?_⟩
 by_cases e : k = n
 ·subst e
  rw [updR_at, List.drop_left' h1, List.take_of_length_le (by show 2 ≤ 2; omega)]
 ·rw [updR_ne e, List.drop_append_of_le_length (by rw [h1]; omega), List.take_append_of_le_length (by rw [List.length_drop, h1]; omega), h2 k (by omega)]
structure OwnRel (w : World) (base : Nat) (v : Value) (N : Nat) (M : List Nat) (vw : Nat → Value) : Prop where
 row : ∃ cs, Row w base 42 2 v M.length cs ∧ SetC cs N M.length vw
 word : ∀ k, k < M.length → Row w base 78 1 (vw k) 1 [.int .u64 (M[k]! : Int)]
 dis : ∀ i j, i < M.length → j < M.length → i ≠ j → (vw i).ownBlock ≠ (vw j).ownBlock
section
variable {w : World} {base : Nat} {v : Value} {N : Nat} {M : List Nat} {vw : Nat → Value}
theorem OwnRel.nil (w : World) (base N : Nat) (vw : Nat → Value) : OwnRel w base (.slice none 0 0) N [] vw :=
 ⟨⟨[], Row.mkNil _ _ _ _, rfl, fun k hk => absurd hk (by simp)⟩, fun k hk => absurd hk (by simp), fun i j hi => absurd hi (by simp)⟩
theorem OwnRel.ext {w' : World} (h : OwnRel w base v N M vw) (x : Ext w w') : OwnRel w' base v N M vw := by
 obtain ⟨⟨cs, h1, h2⟩, h3, h4⟩ := h
 exact ⟨⟨cs, h1.ext x, h2⟩, fun k hk => (h3 k hk).ext x, h4⟩
theorem OwnRel.mono {base' : Nat} (h : OwnRel w base v N M vw) (x : base' ≤ base) : OwnRel w base' v N M vw := by
 obtain ⟨⟨cs, h1, h2⟩, h3, h4⟩ := h
 exact ⟨⟨cs, h1.mono x, h2⟩, fun k hk => (h3 k hk).mono x, h4⟩
theorem OwnRel.stO {g o : Nat} {t : TypeId} {cs : Array Value} {fr : Nat × Nat} (h : OwnRel w base v N M vw) (hg : w.heap[g]? = some (.cells cs t fr)) (h1 : t ≠ 42) (h2 : t ≠ 78) (u : Value) : OwnRel (w.setCell ⟨g, o, none⟩ u) base v N M vw := by
 obtain ⟨⟨cs, g1, g2⟩, g3, g4⟩ := h
 exact ⟨⟨cs, g1.stT hg h1 u, g2⟩, fun k hk => (g3 k hk).stT hg h2 u, g4⟩
theorem OwnRel.any (h : OwnRel w base v N M vw) : ∃ a c, v = .slice a M.length c := by
 obtain ⟨⟨cs, h1, h2⟩, _⟩ := h
 obtain ⟨a, c, e, _⟩ := h1.any
 exact ⟨a, c, e⟩
theorem OwnRel.shape (h : OwnRel w base v N M vw) (hn : 0 < M.length) : ∃ g o c, v = .slice (some ⟨g, o, none⟩) M.length c := by
 obtain ⟨⟨cs, h1, h2⟩, _⟩ := h
 obtain ⟨g, o, c, e, _⟩ := h1.shape hn
 exact ⟨g, o, c, e⟩
theorem OwnRel.wordAt (h : OwnRel w base v N M vw) {k : Nat} (hk : k < M.length) : ∃ g o c, vw k = .slice (some ⟨g, o, none⟩) 1 c ∧ base ≤ g ∧ g < w.heap.size ∧ 1 ≤ c ∧ w.cell? ⟨g, o, none⟩ = some (.int .u64 (M[k]! : Int)) ∧ w.frozen? ⟨g, o, none⟩ = false := by
 have h3 := h.word k hk
 obtain ⟨g, o, c, e, hb, hg, hc⟩ := h3.shape (by omega)
 rw [e] at h3
 have h4 := h3.cell 0 (by omega)
 exact ⟨g, o, c, e, hb, hg, hc, by simpa using h4, h3.free o⟩
theorem OwnRel.cellsAt {g o n c : Nat} (h : OwnRel w base (.slice (some ⟨g, o, none⟩) n c) N M vw) (hn : n = M.length) {k : Nat} (hk : k < M.length) : w.cell? ⟨g, o + k * 2, none⟩ = some (.int .i64 (N : Int)) ∧ w.cell? ⟨g, o + k * 2 + 1, none⟩ = some (vw k) := by
 subst hn
 obtain ⟨⟨cs, h1, h2⟩, _⟩ := h
 have e0 := h1.cell (k * 2 + 0) (by omega)
 have e1 := h1.cell (k * 2 + 1) (by omega)
 rw [take_getR (h2.2 k hk) (by omega)] at e0 e1
 exact ⟨e0, by rw [Nat.add_assoc]; exact e1⟩
theorem OwnRel.set {k g o c : Nat} (h : OwnRel w base v N M vw) (hk : k < M.length) (hv : vw k = .slice (some ⟨g, o, none⟩) 1 c) (m : Nat) : OwnRel (w.setCell ⟨g, o, none⟩ (.int .u64 (m : Int))) base v N (M.set k m) vw := by
 obtain ⟨⟨cs, g1, g2⟩, g3, g4⟩ := h
 have hw := g3 k hk
 rw [hv] at hw
 obtain ⟨cur, fr, hg⟩ := row_heap hw
 refine ⟨⟨cs, by rw [List.length_set]; exact g1.stT hg (by decide) _, by rw [List.length_set]; exact g2⟩, fun j hj => ?_, fun i j hi hj => g4 i j (by rw [List.length_set] at hi; exact hi) (by rw [List.length_set] at hj; exact hj)⟩
 rw [List.length_set] at hj
 by_cases e : j = k
 ·subst e
  rw [nat_set_at hj, hv]
  have := hw.set 0 (.int .u64 (m : Int)) (by omega)
  simpa using this
 ·rw [nat_set_ne e]
  refine (g3 j hj).st (p := ⟨g, o, none⟩) ?_ _
  have := g4 j k hj hk e
  rw [hv] at this
  exact this
theorem OwnRel.snoc {w' : World} {v' u : Value} {cs : List Value} (h1 : Row w base 42 2 v M.length cs) (h2 : SetC cs N M.length vw) (h3 : ∀ k, k < M.length → Row w base 78 1 (vw k) 1 [.int .u64 (M[k]! : Int)]) (h4 : ∀ i j, i < M.length → j < M.length → i ≠ j → (vw i).ownBlock ≠ (vw j).ownBlock)
  {m : Nat} (hu : Row w base 78 1 u 1 [.int .u64 (m : Int)]) (hd : ∀ i, i < M.length → (vw i).ownBlock ≠ u.ownBlock) (hg : w.grownBy w' v.ownBlock) (ho : Row w' base 42 2 v' (M.length + 1) (cs ++ setC N u)) : OwnRel w' base v' N (M ++ [m]) (updR vw M.length u) := by
 have hl : (M ++ [m]).length = M.length + 1 := by simp
 refine ⟨⟨_, by rw [hl]; exact ho, by rw [hl]; exact h2.snoc u⟩, fun k hk => ?_, fun i j hi hj hij => ?_⟩
 ·rw [hl] at hk
  by_cases e : k = M.length
  ·subst e
   rw [updR_at, show (M ++ [m])[M.length]! = m by rw [getElem!_pos _ _ (by simp)]; simp]
   exact hu.grown hg (hu.apart h1 (by decide))
  ·rw [updR_ne e, show (M ++ [m])[k]! = M[k]! by rw [getElem!_pos _ k (by simp; omega), getElem!_pos M k (by omega), List.getElem_append_left (by omega)]]
   exact (h3 k (by omega)).grown hg ((h3 k (by omega)).apart h1 (by decide))
 ·rw [hl] at hi hj
  by_cases e1 : i = M.length
  ·rw [e1, updR_at, updR_ne (by omega)]
   exact fun e => hd j (by omega) e.symm
  ·by_cases e2 : j = M.length
   ·rw [e2, updR_at, updR_ne e1]; exact hd i (by omega)
   ·rw [updR_ne e1, updR_ne e2]; exact h4 i j (by omega) (by omega) hij
end
def RSet (N : Nat) (w : World) (vs : List Value) (m : Nat) : Prop := ∃ b o c, vs = [.int .i64 (N : Int), .slice (some ⟨b, o, none⟩) 1 c] ∧ b < w.heap.size ∧ 1 ≤ c ∧ w.cell? ⟨b, o, none⟩ = some (.int .u64 (m : Int))
theorem rset_lasts (N : Nat) : Lasts (RSet N) := fun _ _ _ _ ⟨b, o, c, h, hb, hc, hcell⟩ e => ⟨b, o, c, h, Nat.lt_of_lt_of_le hb e.size, hc, e.cl hcell⟩
theorem OwnRel.sl {w : World} {base : Nat} {v : Value} {N : Nat} {M : List Nat} {vw : Nat → Value} (h : OwnRel w base v N M vw) : Sl (RSet N) 2 w v M := by
 obtain ⟨cs, h1, h2⟩ := h.row
 refine h1.cells.sl fun i hi => ?_
 rw [h2.2 i hi]
 obtain ⟨g, o, c, e, _, hg, hc, hcell, _⟩ := h.wordAt hi
 exact ⟨g, o, c, by rw [setC, e], hg, hc, hcell⟩
theorem rset_at {w : World} {v : Value} {N : Nat} {M : List Nat} (h : Sl (RSet N) 2 w v M) (i : Nat) (hi : i < M.length) :
  ∃ B O C b o c, v = .slice (some ⟨B, O, none⟩) M.length C ∧ M.length ≤ C ∧ B < w.heap.size ∧ w.cell? ⟨B, O + i * 2, none⟩ = some (.int .i64 (N : Int)) ∧ w.cell? ⟨B, O + i * 2 + 1, none⟩ = some (.slice (some ⟨b, o, none⟩) 1 c) ∧ 1 ≤ c ∧ b < w.heap.size ∧ w.cell? ⟨b, o, none⟩ = some (.int .u64 (M[i]! : Int)) := by
 obtain ⟨B, O, C, vs, rfl, hlc, hB, h1, ⟨b, o, c, rfl, hb, hc, hcell⟩, h3⟩ := Sl.cellsOf h i hi
 exact ⟨B, O, C, b, o, c, rfl, hlc, hB, by simpa using h3 0 (by omega), by simpa using h3 1 (by omega), hc, hb, hcell⟩
end Go.Proofs.YtbpdbikphlhaiaaGreatDoor
namespace Go.Proofs.YtbpdbikphlhaiaaGreatDoor
set_option linter.unusedVariables false
section
variable {P : Program} {ops : Array Oper} {Q : Exit → Act → World → Prop} {md : Region.Mode} {S : World → Prop} {st : Nat}
def wpAnyT (P : Program) (md : Region.Mode) (ops : Array Oper) (Q : Exit → Act → World → Prop) (S : World → Prop) (st : Nat) : Nat → Array Bool → Act → World → Prop
 | 0, listed, a, w => Region.ready md ops listed = [] ∧ Q .normal a w
 | fuel + 1, listed, a, w =>
   (Region.ready md ops listed = [] → Q .normal a w) ∧
   ∀ i ∈ Region.ready md ops listed, wpOp P ops Q i (fun a' w' => (i = st ∨ S w') ∧ wpAnyT P md ops Q S st fuel (listed.setIfInBounds i true) a' w') a w
theorem wpAny_of_T : ∀ (fuel : Nat) (listed : Array Bool) (a : Act) (w : World), wpAnyT P md ops Q S st fuel listed a w → wpAny P md ops Q fuel listed a w
 | 0, _, _, _, h => h
 | fuel + 1, _, _, _, h => ⟨h.1, fun i hi => wpOp_mono (fun a' w' h' => wpAny_of_T fuel _ a' w' h'.2) (h.2 i hi)⟩
theorem wpAnyT_first {i : Nat} {oi : Oper} {v : Value} (hi : ops[i]? = some oi) (hsel : ∀ (j : Nat) (o : Oper) cs b, ops[j]? = some o → o.op ≠ .select cs b)
  (hQ : ∀ c a w, Q (.panic c) (a.put oi.dst v) w → Q (.panic c) a w) (D : List Nat) (hst : st ∈ D)
  (hD : ∀ d ∈ D, d ≠ i → ∃ od, ops[d]? = some od ∧ ∃ e ∈ od.after, Region.binds md e = true ∧ e.on ∈ D) :
  ∀ (fuel : Nat) (listed : Array Bool) (a : Act) (w : World),
   (∀ j oj, ops[j]? = some oj → j ≠ i → listed.getD j true = false → (∀ e ∈ oj.after, Region.binds md e = true → e.on ≠ i) → oi.apart ops oj = true) →
   i ∈ Region.ready md ops listed → (∀ d ∈ D, listed.getD d true = false) → YieldsIf P ops S oi v a → S w →
   wpAnyT P md ops Q S st fuel (listed.setIfInBounds i true) (a.put oi.dst v) w → wpAnyT P md ops Q S st (fuel + 1) listed a w := by
 intro fuel
 induction fuel with
 | zero =>
   intro listed a w _ hr _ hy hS H
   refine ⟨fun h => (by rw [h] at hr; cases hr), fun j hj => ?_⟩
   by_cases hji : j = i
   ·subst hji; exact hy.wpOp hi hS ⟨.inr hS, H⟩
   ·have := ready_mono hj hji
    rw [H.1] at this
    cases this
 | succ fuel ih =>
   intro listed a w hfree hr hun hy hS H
   refine ⟨fun h => (by rw [h] at hr; cases hr), fun j hj => ?_⟩
   by_cases hji : j = i
   ·subst hji; exact hy.wpOp hi hS ⟨.inr hS, H⟩
   ·have h1 := H.2 j (ready_mono hj hji)
    obtain ⟨hjun, oj, hoj, hall⟩ := mem_ready.1 hj
    have flip : ∀ k, listed.getD k true = false → listed.getD k false = true → False := fun k h0 h1 => by
     rcases Nat.lt_or_ge k listed.size with h' | h'
     ·simp [h'] at h0 h1; rw [h0] at h1; cases h1
     ·simp [Array.getElem?_eq_none h'] at h1
    have hnot : ∀ e ∈ oj.after, Region.binds md e = true → e.on ≠ i := fun e he hb heq => by
     have h1 := hall e he hb
     rw [heq] at h1
     exact flip i (mem_ready.1 hr).1 h1
    have hjD : j ∉ D := fun hjd => by
     obtain ⟨od, hod, e, he, hb, hed⟩ := hD j hjd hji
     rw [hoj] at hod
     cases hod
     exact flip e.on (hun e.on hed) (hall e he hb)
    have hjst : j ≠ st := fun e => hjD (e ▸ hst)
    have h2 := wpOp_putIf hoj (hfree j oj hoj hji hjun hnot) (fun cs b => hsel i oi cs b hi) (fun cs b => hsel j oj cs b hoj) hQ hy h1
    have hfree' : ∀ k ok, ops[k]? = some ok → k ≠ i → (listed.setIfInBounds j true).getD k true = false →
      (∀ e ∈ ok.after, Region.binds md e = true → e.on ≠ i) → oi.apart ops ok = true := fun k ok hk hki hun hno => by
     refine hfree k ok hk hki ?_ hno
     by_cases hjk : j = k
     ·subst hjk; exact hjun
     ·rw [getD_set_ne true hjk] at hun; exact hun
    have hun' : ∀ d ∈ D, (listed.setIfInBounds j true).getD d true = false := fun d hd => by
     rw [getD_set_ne true (fun e => hjD (by rw [e]; exact hd))]; exact hun d hd
    refine wpOp_mono (fun a' w' h3 => ?_) h2
    have hSw : S w' := h3.2.1.resolve_left hjst
    refine ⟨.inr hSw, ih (listed.setIfInBounds j true) a' w' hfree' (ready_mono hr (Ne.symm hji)) hun' h3.1 hSw ?_⟩
    rw [Array.setIfInBounds_comm _ _ hji]
    exact h3.2.2
def upOf (md : Region.Mode) (ops : Array Oper) (i : Nat) : List Nat :=
 (List.range ops.size).foldl (fun D j => if j == i || ((ops[j]?).map (·.after.any fun e => Region.binds md e && D.contains e.on)).getD false then D ++ [j] else D) []
def upOk (md : Region.Mode) (ops : Array Oper) (listed : Array Bool) (st i : Nat) : Bool :=
 (upOf md ops i).contains st && (upOf md ops i).all fun d => !(listed.getD d true) && (d == i || ((ops[d]?).map (·.after.any fun e => Region.binds md e && (upOf md ops i).contains e.on)).getD false)
theorem wpAnyT_take {i : Nat} {oi : Oper} {v : Value} {d : Option Tmp} {fuel : Nat} {listed : Array Bool} {a : Act} {w : World} (hi : ops[i]? = some oi) (hd : oi.dst = d)
  (hs : Region.noSelect ops = true) (hf : Region.free md ops listed i = true) (hr : (Region.ready md ops listed).contains i = true) (hu : upOk md ops listed st i = true)
  (hQ : ∀ c a w, Q (.panic c) (a.put d v) w → Q (.panic c) a w) (hy : YieldsIf P ops S oi v a) (hS : S w)
  (h : wpAnyT P md ops Q S st fuel (listed.setIfInBounds i true) (a.put d v) w) : wpAnyT P md ops Q S st (fuel + 1) listed a w := by
 subst hd
 unfold upOk at hu
 simp only [Bool.and_eq_true, List.all_eq_true, Bool.not_eq_true', Bool.or_eq_true, beq_iff_eq] at hu
 obtain ⟨h1, h2⟩ := hu
 refine wpAnyT_first hi (Region.noSelect_spec hs) hQ (upOf md ops i) (by simpa using h1) (fun d hd hne => ?_) fuel listed a w (Region.free_spec hi hf) (by simpa using hr) (fun d hd => (h2 d hd).1) hy hS h
 have h3 := (h2 d hd).2.resolve_left hne
 cases hod : ops[d]? with
 | none => rw [hod] at h3; simp at h3
 | some od =>
   rw [hod] at h3
   simp only [Option.map_some, Option.getD_some] at h3
   obtain ⟨e, he, hb⟩ := Array.any_eq_true'.1 h3
   rw [Bool.and_eq_true] at hb
   exact ⟨od, rfl, e, he, hb.1, by simpa using hb.2⟩
theorem tkA (i : Nat) (d : Tmp) {v : Value} {oi : Oper} {fuel : Nat} {listed : Array Bool} {a : Act} {w : World} (hi : ops[i]? = some oi) (hd : oi.dst = some d)
  (hb : (Region.noSelect ops && (Region.free md ops listed i && ((Region.ready md ops listed).contains i && (upOk md ops listed st i && Region.wanted oi (yielded ops a.tmps))))) = true)
  (hQ : ∀ c a w, Q (.panic c) (a.put (some d) v) w → Q (.panic c) a w) (hy : ∀ w, S w → (execOp a.eval oi).run P w = .ok (.value v) w) (hS : S w)
  (h : wpAnyT P md ops Q S st fuel (listed.setIfInBounds i true) (a.put (some d) v) w) : wpAnyT P md ops Q S st (fuel + 1) listed a w := by
 simp only [Bool.and_eq_true] at hb
 exact wpAnyT_take hi hd hb.1 hb.2.1 hb.2.2.1 hb.2.2.2.1 hQ (Or.inl ⟨hb.2.2.2.2, hy⟩) hS h
theorem tkU (i : Nat) (d : Tmp) {oi : Oper} {fuel : Nat} {listed : Array Bool} {a : Act} {w : World} (hi : ops[i]? = some oi) (hd : oi.dst = some d)
  (hb : (Region.noSelect ops && (Region.free md ops listed i && ((Region.ready md ops listed).contains i && (upOk md ops listed st i && !Region.wanted oi (yielded ops a.tmps))))) = true)
  (hQ : ∀ c a w, Q (.panic c) (a.put (some d) undef) w → Q (.panic c) a w) (hS : S w)
  (h : wpAnyT P md ops Q S st fuel (listed.setIfInBounds i true) (a.put (some d) undef) w) : wpAnyT P md ops Q S st (fuel + 1) listed a w := by
 simp only [Bool.and_eq_true, Bool.not_eq_true'] at hb
 exact wpAnyT_take hi hd hb.1 hb.2.1 hb.2.2.1 hb.2.2.2.1 hQ (Or.inr ⟨hb.2.2.2.2, rfl⟩) hS h
theorem wp_region_tail (S : World → Prop) (st : Nat) {id : Nat} {a : Act} {w : World} (hm : P.follows .mixedOrders = true) (hS : S w.drew)
  (h : S w.drew → wpAnyT P .any ops Q S st ops.size (Array.replicate ops.size false) a w.drew) : (Code.region id ops true).wp P Q a w :=
 wp_region_any hm (wpAny_of_T _ _ _ _ (h hS))
theorem wpAnyT_step {i : Nat} {o : Oper} {fuel : Nat} {listed : Array Bool} {a : Act} {w : World} (hr : Region.ready md ops listed = [i]) (ho : ops[i]? = some o)
  (h : ∀ K' : Act → World → Prop, Shut (∀ a w, S w → (S w → wpAnyT P md ops Q S st fuel (listed.setIfInBounds i true) a w) → K' a w) → if Region.wanted o (yielded ops a.tmps) = true then Oper.wp P o a w K' Q else K' (a.put o.dst undef) w) :
  wpAnyT P md ops Q S st (fuel + 1) listed a w :=
 ⟨fun h0 => (by rw [hr] at h0; cases h0), fun j hj => by
  rw [hr] at hj
  obtain rfl : j = i := by simpa using hj
  exact wpOp_step ho (fun K' hK => h K' (fun a w hS hW => hK a w ⟨.inr hS, hW hS⟩))⟩
theorem wpAnyT_last {o : Oper} {fuel : Nat} {listed : Array Bool} {a : Act} {w : World} (hr : Region.ready md ops listed = [st]) (ho : ops[st]? = some o) (hr2 : Region.ready md ops (listed.setIfInBounds st true) = [])
  (h : ∀ K' : Act → World → Prop, Shut (∀ a w, Q .normal a w → K' a w) → if Region.wanted o (yielded ops a.tmps) = true then Oper.wp P o a w K' Q else K' (a.put o.dst undef) w) :
  wpAnyT P md ops Q S st (fuel + 1) listed a w :=
 ⟨fun h0 => (by rw [hr] at h0; cases h0), fun j hj => by
  rw [hr] at hj
  obtain rfl : j = st := by simpa using hj
  refine wpOp_step ho (fun K' hK => h K' (fun a w hq => hK a w ⟨.inl rfl, ?_⟩))
  cases fuel with
  | zero => exact ⟨hr2, hq⟩
  | succ n => exact ⟨fun _ => hq, by rw [hr2]; simp⟩⟩
def AllT (P : Program) (md : Region.Mode) (ops : Array Oper) (Q : Exit → Act → World → Prop) (S : World → Prop) (st : Nat) (fuel : Nat) (listed : Array Bool) (a : Act) (w : World) (rs : List Nat) : Prop :=
 ∀ i ∈ rs, wpOp P ops Q i (fun a' w' => (i = st ∨ S w') ∧ wpAnyT P md ops Q S st fuel (listed.setIfInBounds i true) a' w') a w
end
end Go.Proofs.YtbpdbikphlhaiaaGreatDoor
namespace Go.Proofs.YtbpdbikphlhaiaaGreatDoor
open Go.RowKit
set_option linter.unusedVariables false
theorem step_callW {P : Program} {ops : Array Oper} {o : Oper} {a : Act} {w : World} {K : Act → World → Prop} {Q : Exit → Act → World → Prop} {E : Prop}
  (hw : Region.wanted o (yielded ops a.tmps) = true) (f : FuncId) (args : Array Operand) (tys : Array TypeId) (ho : o.op = .call { callee := .value (.func f), args := args, argTypes := tys })
  (eg : ∀ args w, (callFunc f args).run P w = .ok (.enter f args) w) (vals : List Value) (hv : args.toList.map a.eval = vals) {R : Ending → World → Prop} (hc : Calls P f vals.toArray w R)
  (hK : ∀ e w', R e w' → ∃ v, e = .returned v ∧ K (a.put o.dst v) w') :
  if Region.wanted o (yielded ops a.tmps) = true then Oper.wp P o a w K Q else E := by
 rw [if_pos hw]
 have hr : (execOp a.eval o).run P w = .ok (.enter f vals.toArray) w := by
  have hv' : args.map a.eval = vals.toArray := by rw [← hv]; cases args; simp
  have he : a.eval (.func f) = .func (.func f) #[] #[] := rfl
  unfold execOp
  simp only [ho, resolve, he, Deferred.ofValue, Sem.run_bind, Sem.run_pure, Result.andThen_ok, invoke, Array.append_empty, hv']
  simp [eg]
 unfold Oper.wp
 rw [hr, Oper.upon_enter]
 refine hc.mono fun e w' h => ?_
 obtain ⟨v, rfl, hk⟩ := hK e w' h
 exact hk
end Go.Proofs.YtbpdbikphlhaiaaGreatDoor
namespace Go.Proofs.YtbpdbikphlhaiaaGreatDoor
open Go.RowKit
set_option linter.unusedVariables false
theorem enters_92 : ∀ args w, (callFunc 92 args).run Tryz.prog w = .ok (.enter 92 args) w := enters_of Tryz.func92 (by kernel_rfl) rfl
theorem info_setR : (Tryz.prog.info? 42).map (fun i => (i.zero, i.size, i.bytes)) = some (some (.agg #[.int .i64 0, .slice none 0 0]), 2, 32) := by kernel_rfl
theorem info_partsS {P : Program} {t : TypeId} {z : Value} {s b : Nat} (h : (P.info? t).map (fun i => (i.zero, i.size, i.bytes)) = some (some z, s, b)) : ∃ i, P.info? t = some i ∧ i.zero = some z ∧ i.size = s ∧ i.bytes = b := by
 cases hq : P.info? t with
 | none => rw [hq] at h; cases h
 | some i =>
   rw [hq] at h
   simp only [Option.map_some, Option.some.injEq, Prod.mk.injEq] at h
   exact ⟨i, rfl, h.1, h.2.1, h.2.2⟩
theorem mk_word (w : World) : Sem.run Tryz.prog (Instr.makeSlice 40 (.int .i64 1) (.int .i64 1)) w = .ok (.slice (some ⟨w.heap.size, 0, none⟩) 1 1) (w.alloc (.cells #[.int .u64 0] 78)) := by kernel_rfl
def EmI (w W : World) (n k : Nat) : Prop := ∃ v vw, W.heap[w.heap.size + 1]? = some (.cells #[v] 32) ∧ OwnRel W (w.heap.size + 2) v n (List.replicate k 0) vw ∧ W.heap[w.heap.size]? = some (.cells #[.slice none 0 0] 32) ∧ Ext w W ∧ w.heap.size + 2 ≤ W.heap.size
theorem quo_small {j : Nat} (h : j < 64) : Int.tdiv (j : Int) 64 = 0 := by
 rw [Int.tdiv_eq_ediv_of_nonneg (by omega)]; omega
theorem rem_small {j : Nat} (h : j < 64) : Int.tmod (j : Int) 64 = (j : Int) := by
 rw [Int.tmod_eq_emod_of_nonneg (by omega)]; omega
def BndM (N : Nat) (M : List Nat) : Prop := ∀ i : Nat, M[i]! < 2 ^ N
theorem BndM.u64 {N : Nat} {M : List Nat} (h : BndM N M) (hN : N ≤ 64) (i : Nat) : M[i]! < 2 ^ 64 := Nat.lt_of_lt_of_le (h i) (Nat.pow_le_pow_right (by decide) hN)
theorem BndM.put {N : Nat} {M : List Nat} (h : BndM N M) {i j : Nat} (hj : j < N) : BndM N (putM M i j) := by
 intro a
 unfold putM
 by_cases e : a = i
 ·subst e
  by_cases hl : a < M.length
  ·rw [nat_set_at hl]; exact Nat.or_lt_two_pow (h a) (Nat.pow_lt_pow_right (by decide) hj)
  ·rw [getElem!_neg _ a (by rw [List.length_set]; exact hl)]; exact Nat.two_pow_pos N
 ·rw [nat_set_ne e]; exact h a
theorem BndM.zero (N k : Nat) : BndM N (List.replicate k 0) := by
 intro a
 by_cases hl : a < k
 ·rw [getElem!_pos _ a (by simpa using hl)]; simp [Nat.two_pow_pos]
 ·rw [getElem!_neg _ a (by simpa using hl)]; exact Nat.two_pow_pos N
def KeepU (w w' : World) : Prop := ∀ (k : Nat) (cs : Array Value) (t : TypeId) (fr : Nat × Nat), t ≠ 78 → w.heap[k]? = some (.cells cs t fr) → w'.heap[k]? = some (.cells cs t fr)
theorem has_eq {M : List Nat} {i j : Nat} {a : Int} (h : a = ((M[i]!.testBit j).toNat : Int)) : (a == 1) = hasM M i j := by
 subst h
 unfold hasM
 cases M[i]!.testBit j <;> rfl
set_option maxHeartbeats 1000000 in
theorem has_calls (v : Value) (N : Nat) (M : List Nat) (i j : Nat) (w : World) (h : Sl (RSet N) 2 w v M) (hi : i < M.length) (hj : j < 64) (hb : M[i]! < 2 ^ 64) :
  Calls Tryz.prog 93 #[.agg #[v], .int .i64 i, .int .i64 j] w fun e w' => e = .returned (.bool (hasM M i j)) ∧ Ext w w' := by
 obtain ⟨B, O, C, b, o, c, rfl, hlc, hB, h0, h1, hc, hbb, h2⟩ := rset_at h i hi
 have HE := Lib.hid (has_eq (M := M) (i := i) (j := j) (a := bits .and .u64 ((M[i]! : Int) / 2 ^ j) 1) (by rw [div_pow_nat]; exact bits_and_one j hb))
 have HQ := quo_small hj
 have HR := rem_small hj
 obtain ⟨r, hr⟩ : ∃ r, hasM M i j = r := ⟨_, rfl⟩
 rw [hr] at HE ⊢
 generalize M[i]! = m at *
 generalize hn : M.length = n at *
 have hin : (i : Int) < (n : Int) := by omega
 have hjz : (0 : Int) ≤ (j : Int) := by omega
 have hj64 : (j : Int) ≤ 64 := by omega
 have hnb : B ≠ w.heap.size := by omega
 have hnb2 : b ≠ w.heap.size := by omega
 clear h hr hn
 go_enter Tryz.func93, Tryz.ntmps93
 go_wp2
 go_ret
 rw [HE.out]
 exact ⟨rfl, (Ext.rf w).al _⟩
set_option maxHeartbeats 1000000 in
theorem words_calls (n : Nat) (w : World) (h1 : 1 ≤ n) (h2 : n ≤ 64) :
  Calls Tryz.prog 92 #[.int .i64 n] w fun e w' => e = .returned (.int .i64 1) ∧ w' = w := by
 have hz : Int.tdiv ((n : Int) + 63) 64 = 1 := by rw [Int.tdiv_eq_ediv_of_nonneg (by omega)]; omega
 go_enter Tryz.func92, Tryz.ntmps92
 go_wp2
 go_ret
 exact ⟨by simp [hz], rfl⟩
set_option maxHeartbeats 2000000 in
set_option maxRecDepth 100000 in
theorem put_calls (v : Value) (N : Nat) (M : List Nat) (vw : Nat → Value) (i j base : Nat) (w : World) (h : OwnRel w base v N M vw) (hi : i < M.length) (hj : j < 64) (hb : M[i]! < 2 ^ 64) (hbase : base ≤ w.heap.size) :
  Calls Tryz.prog 76 #[.agg #[v], .int .i64 i, .int .i64 j] w fun e w' => e = .returned (.tuple #[]) ∧ OwnRel w' base v N (putM M i j) vw ∧ Below base w w' ∧ KeepU w w' := by
 have HO := Lib.hid h
 obtain ⟨B, O, C, rfl⟩ := h.shape (Nat.lt_of_le_of_lt (Nat.zero_le _) hi)
 obtain ⟨g, o, c, hvw, hgb, hgw, hc, h2, hfr⟩ := h.wordAt hi
 have h1 := (h.cellsAt rfl hi).2
 rw [hvw] at h1
 have HV := Lib.hid hvw
 have HQ := quo_small hj
 have HR := rem_small hj
 have HW := Lib.hid (shl_one hj)
 have HB := Lib.hid (bits_or_pow hb hj)
 have HI := Lib.hid hi
 have HP : Hid (putM M i j = M.set i (M[i]! ||| 2 ^ j)) := Lib.hid rfl
 generalize M[i]! = m at *
 generalize hn : M.length = n at *
 have HN := Lib.hid hn
 have hin : (i : Int) < (n : Int) := by omega
 have hjz : (0 : Int) ≤ (j : Int) := by omega
 have hj64 : (j : Int) ≤ 64 := by omega
 have hBw := World.block_lt_of_cell? w _ h1
 have HX0 := Lib.hid (heap_alloc_new w (.cells #[.slice (some ⟨B, O, none⟩) n C] 32))
 have HE1 := Lib.hid ((Ext.rf w).al (.cells #[.slice (some ⟨B, O, none⟩) n C] 32))
 have k1 := HE1.out.cl h1
 have k2 := HE1.out.cl h2
 have k3 : (w.alloc (.cells #[.slice (some ⟨B, O, none⟩) n C] 32)).frozen? ⟨g, o, none⟩ = false := by
  have := (((HO.out.ext HE1.out).wordAt (k := i) (by rw [HN.out]; exact HI.out)))
  obtain ⟨g', o', c', e', _, _, _, _, hf'⟩ := this
  rw [HV.out] at e'
  simp only [Value.slice.injEq, Option.some.injEq, Addr.mk.injEq, and_true] at e'
  obtain ⟨⟨rfl, rfl⟩, _⟩ := e'
  exact hf'
 have s0 := cellOf HX0.out 0
 simp only [List.getElem?_toArray, List.getElem?_cons_zero] at s0
 clear h hvw hn hfr h1 h2 hb hi
 go_enter Tryz.func76, Tryz.ntmps76
 go_wp2
 generalize hm2 : m ||| 2 ^ j = m2 at *
 have HO1 := Lib.hid (HO.out.ext HE1.out)
 have HW0 := Lib.hid (show w.heap.size ≤ w.heap.size from Nat.le_refl _)
 generalize w.alloc (.cells #[.slice (some ⟨B, O, none⟩) n C] 32) = w1 at *
 refine wp_region_tail (fun W => W.cell? ⟨w.heap.size, 0, none⟩ = some (.slice (some ⟨B, O, none⟩) n C) ∧ W.cell? ⟨B, O + i * 2 + 1, none⟩ = some (.slice (some ⟨g, o, none⟩) 1 c) ∧ W.cell? ⟨g, o, none⟩ = some (.int .u64 m)) 15 (by kernel_rfl) ⟨s0, k1, k2⟩ (fun hHeld => ?_)
 have HE2 := Lib.hid (show Ext w w1.drew from HE1.out.dr)
 have HO2 := Lib.hid (HO1.out.ext (Ext.rf w1).dr)
 have k4 : w1.drew.frozen? ⟨g, o, none⟩ = false := k3
 generalize w1.drew = wT at *
 clear k3 s0 k1 k2 HX0 HO1
 have hw0 : IntKind.i64.wrap 0 = 0 := by decide
 have hw9 := HW.out
 have hw8 := HB.out
 refine tkA 0 6 (v := ?_) rfl rfl (by kernel_rfl) (fun _ _ _ h => h) ?_ (by assumption) ?_
 rotate_left
 ·(intro w hSw; (try dsimp only at hSw); go_simp; try (with_reducible rfl))
 try simp only [Act.put]
 try simp only [List.setIfInBounds_toArray]
 try simp only [List.set_cons_zero, List.set_cons_succ]
 refine tkA 1 7 (v := ?_) rfl rfl (by kernel_rfl) (fun _ _ _ h => h) ?_ (by assumption) ?_
 rotate_left
 ·(intro w hSw; (try dsimp only at hSw); go_simp; try (with_reducible rfl))
 try simp only [Act.put]
 try simp only [List.setIfInBounds_toArray]
 try simp only [List.set_cons_zero, List.set_cons_succ]
 refine tkA 2 8 (v := ?_) rfl rfl (by kernel_rfl) (fun _ _ _ h => h) ?_ (by assumption) ?_
 rotate_left
 ·(intro w hSw; (try dsimp only at hSw); go_simp; try (with_reducible rfl))
 try simp only [Act.put]
 try simp only [List.setIfInBounds_toArray]
 try simp only [List.set_cons_zero, List.set_cons_succ]
 refine tkA 3 9 (v := ?_) rfl rfl (by kernel_rfl) (fun _ _ _ h => h) ?_ (by assumption) ?_
 rotate_left
 ·(intro w hSw; (try dsimp only at hSw); go_simp; try (with_reducible rfl))
 try simp only [Act.put]
 try simp only [List.setIfInBounds_toArray]
 try simp only [List.set_cons_zero, List.set_cons_succ]
 refine tkA 4 10 (v := ?_) rfl rfl (by kernel_rfl) (fun _ _ _ h => h) ?_ (by assumption) ?_
 rotate_left
 ·(intro w hSw; (try dsimp only at hSw); go_simp; try (with_reducible rfl))
 try simp only [Act.put]
 try simp only [List.setIfInBounds_toArray]
 try simp only [List.set_cons_zero, List.set_cons_succ]
 refine tkA 5 11 (v := ?_) rfl rfl (by kernel_rfl) (fun _ _ _ h => h) ?_ (by assumption) ?_
 rotate_left
 ·(intro w hSw; (try dsimp only at hSw); go_simp; try (with_reducible rfl))
 try simp only [Act.put]
 try simp only [List.setIfInBounds_toArray]
 try simp only [List.set_cons_zero, List.set_cons_succ]
 refine tkA 6 12 (v := ?_) rfl rfl (by kernel_rfl) (fun _ _ _ h => h) ?_ (by assumption) ?_
 rotate_left
 ·(intro w hSw; (try dsimp only at hSw); go_simp; try (with_reducible rfl))
 try simp only [Act.put]
 try simp only [List.setIfInBounds_toArray]
 try simp only [List.set_cons_zero, List.set_cons_succ]
 refine tkA 7 13 (v := ?_) rfl rfl (by kernel_rfl) (fun _ _ _ h => h) ?_ (by assumption) ?_
 rotate_left
 ·(intro w hSw; (try dsimp only at hSw); go_simp; try (with_reducible rfl))
 try simp only [Act.put]
 try simp only [List.setIfInBounds_toArray]
 try simp only [List.set_cons_zero, List.set_cons_succ]
 refine tkA 8 14 (v := ?_) rfl rfl (by kernel_rfl) (fun _ _ _ h => h) ?_ (by assumption) ?_
 rotate_left
 ·(intro w hSw; (try dsimp only at hSw); go_simp; try (with_reducible rfl))
 try simp only [Act.put]
 try simp only [List.setIfInBounds_toArray]
 try simp only [List.set_cons_zero, List.set_cons_succ]
 refine tkA 9 15 (v := ?_) rfl rfl (by kernel_rfl) (fun _ _ _ h => h) ?_ (by assumption) ?_
 rotate_left
 ·(intro w hSw; (try dsimp only at hSw); go_simp; try (with_reducible rfl))
 try simp only [Act.put]
 try simp only [List.setIfInBounds_toArray]
 try simp only [List.set_cons_zero, List.set_cons_succ]
 refine tkA 10 16 (v := ?_) rfl rfl (by kernel_rfl) (fun _ _ _ h => h) ?_ (by assumption) ?_
 rotate_left
 ·(intro w hSw; (try dsimp only at hSw); go_simp; try (with_reducible rfl))
 try simp only [Act.put]
 try simp only [List.setIfInBounds_toArray]
 try simp only [List.set_cons_zero, List.set_cons_succ]
 refine tkA 11 17 (v := ?_) rfl rfl (by kernel_rfl) (fun _ _ _ h => h) ?_ (by assumption) ?_
 rotate_left
 ·(intro w hSw; (try dsimp only at hSw); go_simp; try (with_reducible rfl))
 try simp only [Act.put]
 try simp only [List.setIfInBounds_toArray]
 try simp only [List.set_cons_zero, List.set_cons_succ]
 refine tkA 12 18 (v := ?_) rfl rfl (by kernel_rfl) (fun _ _ _ h => h) ?_ (by assumption) ?_
 rotate_left
 ·(intro w hSw; (try dsimp only at hSw); go_simp; try (with_reducible rfl))
 try simp only [Act.put]
 try simp only [List.setIfInBounds_toArray]
 try simp only [List.set_cons_zero, List.set_cons_succ]
 refine tkA 13 19 (v := ?_) rfl rfl (by kernel_rfl) (fun _ _ _ h => h) ?_ (by assumption) ?_
 rotate_left
 ·(intro w hSw; (try dsimp only at hSw); go_simp; try (with_reducible rfl))
 try simp only [Act.put]
 try simp only [List.setIfInBounds_toArray]
 try simp only [List.set_cons_zero, List.set_cons_succ]
 refine tkA 14 20 (v := ?_) rfl rfl (by kernel_rfl) (fun _ _ _ h => h) ?_ (by assumption) ?_
 rotate_left
 ·(intro w hSw; (try dsimp only at hSw); go_simp; try (with_reducible rfl))
 try simp only [Act.put]
 try simp only [List.setIfInBounds_toArray]
 try simp only [List.set_cons_zero, List.set_cons_succ]
 refine wpAnyT_last (by kernel_rfl) rfl (by kernel_rfl) (fun K hK => ?_)
 go_simp
 refine hK.out _ _ ?_
 go_wp2_with fail
 go_end0
 refine ⟨rfl, ?_, (HE2.out.mono hbase).setCell hgb _, fun k cs t fr ht hk => ?_⟩
 ·rw [HP.out]
  exact HO2.out.set (by rw [HN.out]; exact HI.out) HV.out m2
 ·have h9 := HE2.out.hp hk
  have hkg : k ≠ g := fun e => by
   have hw := HO2.out.word i (by rw [HN.out]; exact HI.out)
   rw [HV.out] at hw
   obtain ⟨cur, fr2, hg⟩ := row_heap hw
   rw [e, hg] at h9
   simp only [Option.some.injEq, Obj.cells.injEq] at h9
   exact ht h9.2.1.symm
  exact (Below.heap_setCell wT ⟨g, o, none⟩ _ k hkg).trans h9
set_option maxHeartbeats 1000000 in
theorem bwords_calls (n : Nat) (w : World) (h1 : 1 ≤ n) (h2 : n ≤ 63) :
  Calls Tryz.prog 31 #[.int .i64 n] w fun e w' => e = .returned (.int .i64 1) ∧ w' = w := by
 have hz : Int.tdiv ((n : Int) + 64 - 1) 64 = 1 := by rw [Int.tdiv_eq_ediv_of_nonneg (by omega)]; omega
 have hz2 : Int.tdiv ((n : Int) + 63) 64 = 1 := by rw [Int.tdiv_eq_ediv_of_nonneg (by omega)]; omega
 go_enter Tryz.func31, Tryz.ntmps31
 go_wp2
 go_ret
 exact ⟨by simp [hz, hz2], rfl⟩
set_option maxHeartbeats 2000000 in
set_option maxRecDepth 100000 in
theorem bvalid_calls (N b o c m : Nat) (w : World) (h : w.cell? ⟨b, o, none⟩ = some (.int .u64 (m : Int))) (hN : 1 ≤ N) (hN2 : N ≤ 63) (hm : m < 2 ^ N) :
  Calls Tryz.prog 72 #[.agg #[.int .i64 (N : Int), .slice (some ⟨b, o, none⟩) 1 c]] w fun e w' => e = .returned (.bool true) ∧ Ext w w' := by
 have HWC := Lib.hid (fun W => bwords_calls N W hN hN2)
 have hbw := World.block_lt_of_cell? w _ h
 have HE1 := Lib.hid ((Ext.rf w).al (.cells #[.int .i64 (N : Int), .slice (some ⟨b, o, none⟩) 1 c] 42))
 have k1 := HE1.out.cl h
 have HX0 := Lib.hid (heap_alloc_new w (.cells #[.int .i64 (N : Int), .slice (some ⟨b, o, none⟩) 1 c] 42))
 have s0 := cellOf HX0.out 0
 have s1 := cellOf HX0.out 1
 simp only [List.getElem?_toArray, List.getElem?_cons_zero, List.getElem?_cons_succ] at s0 s1
 have d0 : decide ((N : Int) < 0) = false := decide_eq_false (by omega)
 have d1 : decide (512 < (N : Int)) = false := decide_eq_false (by omega)
 have hr : Int.tmod (N : Int) 64 = (N : Int) := rem_small (by omega)
 have hne : ((N : Int) == 0) = false := by rw [beq_eq_false_iff_ne]; omega
 have hdiv : (m : Int) / 2 ^ N = 0 := by rw [div_pow_nat, Nat.div_eq_of_lt hm]; rfl
 have hNz : (0 : Int) ≤ (N : Int) := by omega
 have hN64 : (N : Int) ≤ 64 := by omega
 clear h hm hbw
 go_enter Tryz.func72, Tryz.ntmps72
 go_wp2
 generalize hw2 : w.alloc (.cells #[.int .i64 (N : Int), .slice (some ⟨b, o, none⟩) 1 c] 42) = w2 at *
 clear hw2
 go_region_with (refine (HWC.out _).mono ?_; rintro e w9 ⟨rfl, rfl⟩)
 all_goals
  go_wp2
  go_ret
  exact ⟨by simp [hne], HE1.out.dr⟩
set_option maxHeartbeats 4000000 in
set_option maxRecDepth 100000 in
theorem empty_calls (n : Nat) (w : World) (hn : n ≤ 63) :
  Calls Tryz.prog 74 #[.int .i64 n] w fun e w' => ∃ v vw, e = .returned (.agg #[v]) ∧ OwnRel w' w.heap.size v n (List.replicate n 0) vw ∧ Ext w w' := by
 obtain ⟨ii, hii, iz0, iz1, iz2⟩ := info_partsS info_setR
 have HX0 : Hid (((w.alloc (.cells #[.slice none 0 0] 32)).alloc (.cells #[.slice none 0 0] 32)).heap[w.heap.size]? = some (.cells #[.slice none 0 0] 32)) := Lib.hid (((Ext.rf _).al (.cells #[.slice none 0 0] 32)).hp (heap_alloc_new w (.cells #[.slice none 0 0] 32)))
 have HX1 : Hid (((w.alloc (.cells #[.slice none 0 0] 32)).alloc (.cells #[.slice none 0 0] 32)).heap[w.heap.size + 1]? = some (.cells #[.slice none 0 0] 32)) := Lib.hid (by
  have h0 := heap_alloc_new (w.alloc (.cells #[.slice none 0 0] 32)) (.cells #[.slice none 0 0] 32)
  simpa using h0)
 have HE1 : Hid (Ext w ((w.alloc (.cells #[.slice none 0 0] 32)).alloc (.cells #[.slice none 0 0] 32))) := Lib.hid (by repeat (first | refine Ext.st ?_ (by first | exact Nat.le_refl _ | exact Nat.le_succ _ | assumption | omega) _ | refine Ext.al ?_ _ | refine Ext.dr ?_ | refine Ext.drN ?_ _ | exact Ext.rf _))
 go_enter Tryz.func74, Tryz.ntmps74
 go_wp2
 generalize hw2 : (w.alloc (.cells #[.slice none 0 0] 32)).alloc (.cells #[.slice none 0 0] 32) = w2 at *
 have hsz : w.heap.size + 2 ≤ w2.heap.size := by rw [← hw2]; simp
 clear hw2
 have HE0 : Hid (EmI w w2 n 0) := Lib.hid ⟨_, fun _ => undef, HX1.out, OwnRel.nil _ _ _ _, HX0.out, HE1.out, hsz⟩
 go_loopg [5] n (fun g s5 wr => ∃ k : Nat, k ≤ n ∧ n - k ≤ g ∧ s5 = .int .i64 k ∧ Aside (EmI w wr n k))
 case atStart => exact ⟨0, Nat.zero_le _, by omega, rfl, (show EmI _ _ _ _ from HE0.out)⟩
 case round =>
  obtain ⟨k, hk, hg, rfl, HI⟩ := hrel
  obtain ⟨v, vw, hb, ho, hb0, hX, hs2⟩ := HI.out
  obtain ⟨va, vc, hv⟩ := ho.any
  rw [List.length_replicate] at hv
  subst hv
  have HB := Lib.hid hb
  have HO := Lib.hid ho
  have HB0 := Lib.hid hb0
  have HX := Lib.hid hX
  have s0 := cellOf hb 0
  have f0 := freeOf hb 0
  have r0 := cellOf hb0 0
  have fr0 := freeOf hb0 0
  simp only [List.getElem?_toArray, List.getElem?_cons_zero] at s0 r0
  clear hb ho hb0 hX
  by_cases hlt : k < n
  ·have hltz : (k : Int) < (n : Int) := by omega
   have HWC := Lib.hid (fun W => words_calls n W (by omega) (by omega))
   have hws : w.heap.size + 1 < wr.heap.size := by omega
   clear r0 fr0
   go_wp2
   refine wp_region_tail (fun W => W.cell? ⟨w.heap.size + 1, 0, none⟩ = some (.slice va k vc)) 10 (by kernel_rfl) s0 (fun hHeld => ?_)
   have HET := Lib.hid (show Ext wr wr.drew from (Ext.rf wr).dr)
   have hws2 : w.heap.size + 2 ≤ wr.drew.heap.size := hs2
   generalize wr.drew = wT at *
   refine tkA 0 7 (v := ?_) rfl rfl (by kernel_rfl) (fun _ _ _ h => h) ?_ (by assumption) ?_
   rotate_left
   ·(intro w hSw; (try dsimp only at hSw); go_simp; try (with_reducible rfl))
   try simp only [Act.put]
   try simp only [List.setIfInBounds_toArray]
   try simp only [List.set_cons_zero, List.set_cons_succ]
   refine tkA 1 8 (v := ?_) rfl rfl (by kernel_rfl) (fun _ _ _ h => h) ?_ (by assumption) ?_
   rotate_left
   ·(intro w hSw; (try dsimp only at hSw); go_simp; try (with_reducible rfl))
   try simp only [Act.put]
   try simp only [List.setIfInBounds_toArray]
   try simp only [List.set_cons_zero, List.set_cons_succ]
   refine tkA 2 9 (v := ?_) rfl rfl (by kernel_rfl) (fun _ _ _ h => h) ?_ (by assumption) ?_
   rotate_left
   ·(intro w hSw; (try dsimp only at hSw); go_simp; try (with_reducible rfl))
   try simp only [Act.put]
   try simp only [List.setIfInBounds_toArray]
   try simp only [List.set_cons_zero, List.set_cons_succ]
   refine tkA 3 10 (v := ?_) rfl rfl (by kernel_rfl) (fun _ _ _ h => h) ?_ (by assumption) ?_
   rotate_left
   ·(intro w hSw; (try dsimp only at hSw); go_simp; try (with_reducible rfl))
   try simp only [Act.put]
   try simp only [List.setIfInBounds_toArray]
   try simp only [List.set_cons_zero, List.set_cons_succ]
   refine wpAnyT_step (i := 4) (by kernel_rfl) rfl (fun K hK => ?_)
   refine step_callW (by kernel_rfl) 92 _ _ rfl enters_92 [.int .i64 n] (by first | rfl | kernel_rfl | go_simp) (HWC.out _) ?_
   rintro e y ⟨rfl, rfl⟩
   refine ⟨_, rfl, ?_⟩
   refine hK.out _ _ ?_ (fun hHeld => ?_)
   ·(try dsimp only)
    exact hHeld
   clear hK K
   try simp only [Act.put]
   try simp only [List.setIfInBounds_toArray]
   try simp only [List.set_cons_zero, List.set_cons_succ]
   refine wpAnyT_step (i := 5) (by kernel_rfl) rfl (fun K hK => ?_)
   have hmk := mk_word y
   go_simp
   clear hmk
   have HE2 := Lib.hid (HET.out.al (.cells #[.int .u64 0] 78))
   have HBW := Lib.hid (heap_alloc_new y (.cells #[.int .u64 0] 78))
   have k0 := HE2.out.cl s0
   refine hK.out _ _ ?_ (fun hHeld => ?_)
   ·(try dsimp only)
    exact k0
   clear hK K
   try simp only [Act.put]
   try simp only [List.setIfInBounds_toArray]
   try simp only [List.set_cons_zero, List.set_cons_succ]
   obtain ⟨G, hG⟩ : ∃ G, y.heap.size = G := ⟨_, rfl⟩
   have HG := Lib.hid (show w.heap.size + 2 ≤ G from by rw [← hG]; exact hws2)
   have HG2 := Lib.hid (show wr.heap.size ≤ G from by rw [← hG]; exact HET.out.sz)
   rw [hG] at HBW ⊢
   clear hG
   generalize y.alloc (.cells #[.int .u64 0] 78) = wA at *
   have hGA : G < wA.heap.size := (Array.getElem?_eq_some_iff.1 HBW.out).1
   refine tkA 6 13 (v := ?_) rfl rfl (by kernel_rfl) (fun _ _ _ h => h) ?_ (by assumption) ?_
   rotate_left
   ·(intro w hSw; (try dsimp only at hSw); go_simp; try (with_reducible rfl))
   try simp only [Act.put]
   try simp only [List.setIfInBounds_toArray]
   try simp only [List.set_cons_zero, List.set_cons_succ]
   refine wpAnyT_step (i := 7) (by kernel_rfl) rfl (fun K hK => ?_)
   go_simp
   refine hK.out _ _ ?_ (fun hHeld => ?_)
   ·(try dsimp only)
    go_keep
   clear hK K
   try simp only [Act.put]
   try simp only [List.setIfInBounds_toArray]
   try simp only [List.set_cons_zero, List.set_cons_succ]
   refine wpAnyT_step (i := 8) (by kernel_rfl) rfl (fun K hK => ?_)
   obtain ⟨cs, hr, hcs⟩ := HO.out.row
   have HR := Lib.hid hr
   have HCS := Lib.hid hcs
   rw [List.length_replicate] at HR HCS
   have HEB := Lib.hid (HE2.out.al (.cells #[.int .i64 (n : Int), .slice (some ⟨G, 0, none⟩) 1 1] 42))
   have HWR : Hid (Row wA (w.heap.size + 2) 78 1 (.slice (some ⟨G, 0, none⟩) 1 1) 1 [.int .u64 ((0 : Nat) : Int)]) := Lib.hid ⟨rfl, .inr ⟨G, 0, 1, _, rfl, HG.out, HBW.out, Nat.le_refl _, by unfold maxLen; omega, by simp, by simp⟩⟩
   clear hr hcs
   refine step_append_rowN rfl _ _ 30 rfl (w.heap.size + 2) 42 ii (.agg #[.int .i64 0, .slice none 0 0]) 2 32 Tryz.underlying30 hii iz0 iz1 iz2 rfl (by decide) (.slice va k vc) k cs rfl (HR.out.ext HEB.out) wA.heap.size 1 [.int .i64 (n : Int), .slice (some ⟨G, 0, none⟩) 1 1] rfl rfl ⟨_, heap_alloc_new _ _⟩ (by simp [Value.oneCell']) (by unfold maxLen; omega) (by omega) (Nat.le_trans hs2 HEB.out.sz) ?_
   intro v8 w8 hown8 hgrow8 hblk8
   obtain ⟨a8, c8, rfl, _⟩ := hown8.any
   have HOWN := Lib.hid hown8
   have HGR := Lib.hid hgrow8
   have HX8 := Lib.hid ((HX.out.trans' HEB.out).gr hgrow8 (fun q hq => by have := (HR.out.lt q hq).1; omega))
   have HB8 := Lib.hid (heap_keptR (HEB.out.hp HB.out) hgrow8 (fun q hq => by have := (HR.out.lt q hq).1; omega))
   have HB08 := Lib.hid (heap_keptR (HEB.out.hp HB0.out) hgrow8 (fun q hq => by have := (HR.out.lt q hq).1; omega))
   have e0 := cellOf HB8.out 0
   have f8 := freeOf HB8.out 0
   simp only [List.getElem?_toArray, List.getElem?_cons_zero] at e0
   clear hown8 hgrow8 hblk8
   refine hK.out _ _ ?_ (fun hHeld => ?_)
   ·(try dsimp only)
    exact e0
   clear hK K
   try simp only [Act.put]
   try simp only [List.setIfInBounds_toArray]
   try simp only [List.set_cons_zero, List.set_cons_succ]
   refine tkA 9 16 (v := ?_) rfl rfl (by kernel_rfl) (fun _ _ _ h => h) ?_ (by assumption) ?_
   rotate_left
   ·(intro w hSw; (try dsimp only at hSw); go_simp; try (with_reducible rfl))
   try simp only [Act.put]
   try simp only [List.setIfInBounds_toArray]
   try simp only [List.set_cons_zero, List.set_cons_succ]
   refine wpAnyT_last (by kernel_rfl) rfl (by kernel_rfl) (fun K hK => ?_)
   go_simp
   refine hK.out _ _ ?_
   go_wp2_with fail
   go_roundg (n - (k + 1))
   case measure => omega
   case rel =>
    refine ⟨k + 1, by omega, by omega, by go_num, (show EmI _ _ _ _ from ?_)⟩
    have h3 : ∀ j, j < (List.replicate k 0).length → Row wA (w.heap.size + 2) 78 1 (vw j) 1 [.int .u64 (((List.replicate k 0)[j]! : Nat) : Int)] := fun j hj => (HO.out.word j hj).ext HE2.out
    have hs := OwnRel.snoc (M := List.replicate k 0) (by rw [List.length_replicate]; exact HR.out.ext HEB.out) (by rw [List.length_replicate]; exact HCS.out) (fun j hj => (h3 j hj).al _) HO.out.dis (HWR.out.al (.cells #[.int .i64 (n : Int), .slice (some ⟨G, 0, none⟩) 1 1] 42)) (fun j hj e => by
     have := ((HO.out.word j hj).lt G (by rw [e]; rfl)).2
     have := HG2.out; omega) HGR.out (by rw [List.length_replicate]; exact HOWN.out)
    have e1 : List.replicate k 0 ++ [0] = List.replicate (k + 1) 0 := (List.replicate_succ' ..).symm
    rw [e1] at hs
    refine ⟨.slice a8 (k + 1) c8, _, ?_, hs.stO HB8.out (by decide) (by decide) _, ?_, HX8.out.st (by show w.heap.size ≤ w.heap.size + 1; omega) _, ?_⟩
    ·rw [heap_setCell_same HB8.out]; simp
    ·rw [Below.heap_setCell w8 ⟨w.heap.size + 1, 0, none⟩ _ w.heap.size (by simp)]; exact HB08.out
    ·rw [size_setCell]; exact Nat.le_trans (Nat.le_trans hs2 HEB.out.sz) HGR.out.size
  ·have hltz : ¬ (k : Int) < (n : Int) := by omega
   obtain rfl : n = k := by omega
   go_wp2
   have z0 := cellOf (heap_setCell_same (o := 0) (u := .slice va n vc) HB0.out) 0
   simp only [Array.setIfInBounds, List.size_toArray, List.length_cons, List.length_nil, Nat.zero_lt_succ] at z0
   refine bodyPost_ret (v := .agg #[.slice va n vc]) (by simp [results, Tryz.results74, go_sem, z0]) rfl ?_
   exact ⟨_, rfl, ⟨_, (HO.out.mono (by omega)).stO HB0.out (by decide) (by decide) _⟩, HX.out.st (by show w.heap.size ≤ w.heap.size; omega) _⟩
end Go.Proofs.YtbpdbikphlhaiaaGreatDoor
namespace Go.Proofs.YtbpdbikphlhaiaaGreatDoor
set_option linter.unusedVariables false
theorem ctz_least {x z : Nat} (hx : x < 2 ^ 64) (hz : x.testBit z = true) (hl : ∀ j, j < z → x.testBit j = false) : Lib.ctz 64 x = z := by
 have h0 : x ≠ 0 := by rintro rfl; simp at hz
 obtain ⟨m, hm, hc⟩ := Lib.ctzFrom_spec 64 x (by omega) hx
 have e : Lib.ctz 64 x = Lib.ctzFrom 64 x := by unfold Lib.ctz; rw [if_neg h0]
 rw [e]
 generalize Lib.ctzFrom 64 x = c at *
 have hb : ∀ j, x.testBit j = (decide (j ≥ c) && (2 * m + 1).testBit (j - c)) := fun j => by rw [hm, Nat.testBit_two_pow_mul]
 have hbc : x.testBit c = true := by rw [hb c]; simp
 by_cases h1 : c < z
 ·rw [hl c h1] at hbc; cases hbc
 ·by_cases h2 : z < c
  ·rw [hb z, decide_eq_false (by omega)] at hz; simp at hz
  ·omega
structure MemI (s n : Nat) (done rest : List Nat) (x : Nat) : Prop where
 eq : membW s n = done ++ rest
 bit : ∀ j, x.testBit j = decide (j ∈ rest)
 lt : x < 2 ^ 64
theorem membW_sorted (s n : Nat) : (membW s n).Pairwise (· < ·) := List.Pairwise.filter _ List.pairwise_lt_range
theorem MemI.start {s n : Nat} (hs : s < 2 ^ n) (hn : n ≤ 64) : MemI s n [] (membW s n) s := by
 refine ⟨rfl, fun j => ?_, Nat.lt_of_lt_of_le hs (Nat.pow_le_pow_right (by decide) hn)⟩
 rw [Bool.eq_iff_iff, decide_eq_true_iff, mem_membW hs]
theorem MemI.fin {s n x : Nat} {done : List Nat} (h : MemI s n done [] x) : x = 0 ∧ membW s n = done := by
 refine ⟨Nat.eq_of_testBit_eq fun j => ?_, by have := h.eq; simpa using this⟩
 rw [h.bit j]; simp
theorem MemI.low {s n x z : Nat} {done rest : List Nat} (h : MemI s n done (z :: rest) x) : x.testBit z = true ∧ (∀ j, j < z → x.testBit j = false) ∧ x ≠ 0 := by
 have h1 : x.testBit z = true := by rw [h.bit z]; simp
 refine ⟨h1, fun j hj => ?_, by rintro rfl; simp at h1⟩
 rw [h.bit j, decide_eq_false_iff_not]
 intro hm
 have hs := membW_sorted s n
 rw [h.eq, List.pairwise_append] at hs
 rcases List.mem_cons.1 hm with e | hm
 ·omega
 ·have := (List.pairwise_cons.1 hs.2.1).1 j hm; omega
theorem MemI.step {s n x z : Nat} {done rest : List Nat} (h : MemI s n done (z :: rest) x) : MemI s n (done ++ [z]) rest (x &&& (x - 1)) := by
 obtain ⟨h1, h2, h0⟩ := h.low
 refine ⟨by rw [h.eq]; simp, fun j => ?_, Nat.lt_of_le_of_lt Nat.and_le_left h.lt⟩
 rw [clear_low h1 h2 j, h.bit j]
 have hs := membW_sorted s n
 rw [h.eq, List.pairwise_append] at hs
 have hz : z ∉ rest := fun hm => by have := (List.pairwise_cons.1 hs.2.1).1 z hm; omega
 by_cases e : j = z
 ·subst e; simp [hz]
 ·simp [e]
theorem membW_len (s n : Nat) : (membW s n).length ≤ n := Nat.le_trans (List.length_filter_le _ _) (by simp)
theorem membW_lt {s n j : Nat} (h : j ∈ membW s n) : j < n := List.mem_range.1 (List.mem_filter.1 h).1
end Go.Proofs.YtbpdbikphlhaiaaGreatDoor
namespace Go.Proofs.YtbpdbikphlhaiaaGreatDoor
open Go.RowKit
set_option linter.unusedVariables false
def TabG (w : World) : Prop := ∀ j, j < 64 → w.cell? ⟨0, j, none⟩ = some (.int .u8 (Lib.deBruijn64tab.getD j 0 : Nat))
theorem TabG.ext {w w' : World} (h : TabG w) (x : Ext w w') : TabG w' := fun j hj => x.cl (h j hj)
theorem tz_key (x a : Nat) (hx : x < 18446744073709551616) (hx0 : x ≠ 0) (hlow : x &&& (18446744073709551616 - x) = a) :
  IntKind.u64.wrap (bits BinOp.and IntKind.u64 (x : Int) (IntKind.u64.wrap (-(x : Int))) * 285870213051353865) / 288230376151711744 = ((a * 285870213051353865 % 18446744073709551616 / 288230376151711744 : Nat) : Int) := by
 have e1 : IntKind.u64.wrap (-(x : Int)) = ((18446744073709551616 - x : Nat) : Int) := by
  simp only [IntKind.wrap, IntKind.bits, IntKind.signed, Bool.false_and, Bool.false_eq_true, if_false]; omega
 rw [e1, bits_and_nat hx (by omega), hlow]
 simp only [IntKind.wrap, IntKind.bits, IntKind.signed, Bool.false_and, Bool.false_eq_true, if_false]
 omega
set_option maxHeartbeats 1000000 in
theorem tz_core (x k idx : Nat) (w : World) (hx0 : ((x : Int) == 0) = false)
  (key : IntKind.u64.wrap (bits BinOp.and IntKind.u64 (x : Int) (IntKind.u64.wrap (-(x : Int))) * 285870213051353865) / 288230376151711744 = (idx : Int))
  (hi : idx < 64) (hk : k < 64) (hcell : w.cell? ⟨0, idx, none⟩ = some (.int .u8 k)) :
  Calls Tryz.prog 107 #[.int .u64 x] w fun e w' => e = .returned (.int .i64 k) ∧ w' = w := by
 go_enter Tryz.func107, Tryz.ntmps107
 go_wp2_with (simp only [key])
 go_ret
 exact ⟨rfl, rfl⟩
theorem tz64_calls (x z : Nat) (w : World) (hx : x < 2 ^ 64) (hz : x.testBit z = true) (hl : ∀ j, j < z → x.testBit j = false) (hT : TabG w) :
  Calls Tryz.prog 107 #[.int .u64 x] w fun e w' => e = .returned (.int .i64 z) ∧ w' = w := by
 have h0 : x ≠ 0 := by rintro rfl; simp at hz
 obtain ⟨hlow, hk⟩ := Lib.lowest_bit 64 x h0 hx
 rw [ctz_least hx hz hl] at hlow hk
 obtain ⟨hi, htab⟩ := Lib.deBruijn64_at _ hk
 have hcell := hT _ hi
 rw [htab] at hcell
 exact tz_core x z _ w (by simp; omega) (tz_key x _ hx h0 hlow) hi hk hcell
set_option maxHeartbeats 1000000 in
theorem inside_calls (N : Nat) (x : Nat) (W : Value) (w : World) (hx : x < N) (hN : N ≤ 63) (hW : ∃ a n c, W = .slice a n c) :
  Calls Tryz.prog 32 #[.agg #[.int .i64 (N : Int), W], .int .i64 (x : Int)] w fun e w' => e = .returned (.bool true) ∧ Ext w w' := by
 obtain ⟨a, n, c, rfl⟩ := hW
 have hxz : (0 : Int) ≤ (x : Int) := by omega
 have hxn : (x : Int) < (N : Int) := by omega
 go_enter Tryz.func32, Tryz.ntmps32
 go_wp2
 go_ret
 exact ⟨rfl, (Ext.rf w).al _⟩
theorem word_row {w : World} {base b : Nat} {m : Nat} (hb : w.heap[b]? = some (.cells #[.int .u64 (m : Int)] 78)) (hbase : base ≤ b) : Row w base 78 1 (.slice (some ⟨b, 0, none⟩) 1 1) 1 [.int .u64 (m : Int)] :=
 ⟨rfl, .inr ⟨b, 0, 1, #[.int .u64 (m : Int)], rfl, hbase, hb, by omega, by unfold maxLen; omega, by simp, by simp⟩⟩
end Go.Proofs.YtbpdbikphlhaiaaGreatDoor
namespace Go.Proofs.YtbpdbikphlhaiaaGreatDoor
open Go.RowKit
set_option linter.unusedVariables false
attribute [local go_sem ↓] Go.wp_at_zero Go.wp_at_succ
theorem info_intB : (Tryz.prog.info? 3).map (fun i => (i.zero, i.size, i.bytes)) = some (some (.int .i64 0), 1, 8) := by kernel_rfl
def intsN (L : List Nat) : List Int := L.map fun (j : Nat) => (j : Int)
theorem intsN_len (L : List Nat) : (intsN L).length = L.length := by simp [intsN]
theorem intsN_at (L : List Nat) {i : Nat} (hi : i < L.length) : (intsN L)[i]! = (L[i]! : Int) := by
 rw [getElem!_pos _ i (by rw [intsN_len]; exact hi), getElem!_pos L i hi]; simp [intsN]
set_option maxHeartbeats 4000000 in
set_option maxRecDepth 100000 in
theorem members_calls (N b o c s : Nat) (w : World) (h : w.cell? ⟨b, o, none⟩ = some (.int .u64 (s : Int))) (hc : 1 ≤ c) (hN : 1 ≤ N) (hN2 : N ≤ 63) (hs : s < 2 ^ N) (hT : TabG w) :
  Calls Tryz.prog 88 #[.agg #[.int .i64 (N : Int), .slice (some ⟨b, o, none⟩) 1 c]] w fun e w' => ∃ v, e = .returned (.tuple #[v, .int .i64 0]) ∧ Row w' w.heap.size 3 1 v (membW s N).length ((intsN (membW s N)).map (Value.int .i64)) ∧ Ext w w' := by
 have HVC := Lib.hid (fun W (hW : Ext w W) => bvalid_calls N b o c s W (hW.cl h) hN hN2 hs)
 have HMI := Lib.hid (MemI.start hs (show N ≤ 64 by omega))
 have HML := Lib.hid (membW_len s N)
 have HT := Lib.hid hT
 have HTZ := Lib.hid (fun x z W (hW : Ext w W) h1 h2 h3 => tz64_calls x z W h1 h2 h3 (hT.ext hW))
 have hbw := World.block_lt_of_cell? w _ h
 obtain ⟨ii, hii, jz0, jz1, jz2⟩ := info_parts info_intB
 have HX0 := Lib.hid (heap_alloc_new w (.cells #[.int .i64 (N : Int), .slice (some ⟨b, o, none⟩) 1 c] 42))
 have HE1 := Lib.hid ((Ext.rf w).al (.cells #[.int .i64 (N : Int), .slice (some ⟨b, o, none⟩) 1 c] 42))
 have HC := Lib.hid h
 clear h hs hT
 go_enter Tryz.func88, Tryz.ntmps88
 go_wp2_with fail
 refine (HVC.out _ HE1.out).mono ?_
 rintro e w2 ⟨rfl, hX2⟩
 have HE2 := Lib.hid (HE1.out.trans' hX2)
 have HY2 := Lib.hid (hX2.hp HX0.out)
 have t1 := cellOf HY2.out 1
 have t0 := cellOf HY2.out 0
 simp only [List.getElem?_toArray, List.getElem?_cons_zero, List.getElem?_cons_succ] at t0 t1
 clear hX2
 have hsz2 : w.heap.size ≤ w2.heap.size := HE2.out.sz
 go_wp2
 go_loopg [4, 13] 1 (fun g s4 s13 wr => ∃ k : Nat, k ≤ 1 ∧ 1 - k ≤ g ∧ s13 = .int .i64 k ∧ (∃ L : List Nat, Aside (L = if k = 0 then [] else membW s N) ∧ Aside (Row wr w2.heap.size 3 1 s4 L.length ((intsN L).map (Value.int .i64)))) ∧ Aside (Ext w2 wr))
 case atStart => exact ⟨0, Nat.zero_le _, by omega, rfl, ⟨[], (show _ = _ from rfl), (show Row _ _ _ _ _ _ _ from Row.mkNil _ _ _ _)⟩, Ext.rf _⟩
 case round =>
  obtain ⟨k, hk, hg, rfl, ⟨L, HLL, HR⟩, HEK⟩ := hrel
  have HEW := Lib.hid (HE2.out.trans' HEK.out)
  by_cases hk0 : k = 0
  ·subst hk0
   have hL : L = [] := HLL.out
   subst hL
   have q0 := HEW.out.cl HC.out
   have hz : (0 : Int) < 1 := by decide
   obtain ⟨wo, rfl⟩ : ∃ x, x = wr := ⟨_, rfl⟩
   go_wp2
   clear q0
   go_loopg [4, 6] (membW s N).length (fun g s4 s6 wr => ∃ (done rest : List Nat) (x : Nat), rest.length ≤ g ∧ s6 = .int .u64 x ∧ Aside (MemI s N done rest x) ∧ Aside (Row wr w2.heap.size 3 1 s4 done.length ((intsN done).map (Value.int .i64))) ∧ Aside (Ext w2 wr))
   case atStart => exact ⟨[], membW s N, s, Nat.le_refl _, rfl, HMI, HR, HEK⟩
   case round =>
    obtain ⟨done, rest, x, hg2, rfl, HM, HR, HEK⟩ := hrel
    have HEW := Lib.hid (HE2.out.trans' HEK.out)
    cases rest with
    | nil =>
      obtain ⟨hx0, hfin⟩ := HM.out.fin
      subst hx0
      have HF := Lib.hid hfin
      clear hfin
      go_wp2
      go_roundg 0
      case measure => omega
      case rel => exact ⟨1, Nat.le_refl _, Nat.le_refl _, by go_num, ⟨done, (show _ = _ from by rw [HF.out]; rfl), HR⟩, HEK⟩
    | cons z rest =>
      obtain ⟨h1, h2, h3⟩ := HM.out.low
      have HB := Lib.hid (HTZ.out x z wr HEW.out HM.out.lt h1 h2)
      have HST := Lib.hid HM.out.step
      have hd0 : ((x : Int) != 0) = true := by simp; omega
      have hz64 : z < 64 := by
       have := membW_lt (s := s) (n := N) (j := z) (by rw [HM.out.eq]; simp)
       omega
      have hdl : done.length ≤ 64 := by
       have h9 := congrArg List.length HM.out.eq
       rw [List.length_append] at h9
       have := HML.out; omega
      have g1 : IntKind.u64.wrap ((x : Int) - 1) = ((x - 1 : Nat) : Int) := by
       rw [show (x : Int) - 1 = ((x - 1 : Nat) : Int) by omega]; exact u64_wrap_nat (by have := HM.out.lt; omega)
      have g2 : bits .and .u64 (x : Int) ((x - 1 : Nat) : Int) = ((x &&& (x - 1) : Nat) : Int) := bits_and_nat HM.out.lt (by have := HM.out.lt; omega)
      generalize x &&& (x - 1) = x2 at *
      generalize hx1 : x - 1 = x1 at *
      have hsz := HEK.out.sz
      have HSC : Hid ((intsN (done ++ [z])).map (Value.int .i64) = (intsN done).map (Value.int .i64) ++ [.int .i64 (z : Int)]) := Lib.hid (by simp [intsN])
      generalize hdn : done.length = dl at *
      have HDN := Lib.hid hdn
      clear h1 h2 h3 hx1 hdn
      go_wp2_with fail
      refine (HB.out).mono ?_
      rintro e w6 ⟨rfl, hw6⟩
      subst hw6
      go_wp2_with ((at_builtin; go_loud (refine wpList_append_one rfl _ _ 25 rfl w2.heap.size 3 ii (.int .i64 0) 1 8 Tryz.underlying25 hii jz0 jz1 jz2 rfl (by decide) _ dl _ rfl (HR.out.al _) w6.heap.size 1 [.int .i64 z] rfl rfl ⟨_, heap_alloc_new _ _⟩ (by simp [Value.oneCell']) (by unfold maxLen; omega) (by omega) (by simp; omega) ?_; intro v8 w8 hown8 hgrow8 hblk8; have HOWN := Lib.hid hown8; have HG8 := Lib.hid hgrow8; clear hown8 hgrow8 hblk8)))
      go_roundg rest.length
      case measure => have : (z :: rest).length = rest.length + 1 := rfl; omega
      case rel => exact ⟨done ++ [z], rest, x2, Nat.le_refl _, rfl, HST, (show Row _ _ _ _ _ _ _ from by rw [HSC.out, List.length_append, HDN.out]; exact HOWN.out), (HEK.out.al _).gr HG8.out (fun q hq => (HR.out.lt q hq).1)⟩
  ·obtain rfl : k = 1 := by omega
   obtain rfl : L = membW s N := HLL.out
   obtain ⟨a4, c4, e4, _⟩ := HR.out.any
   subst e4
   go_wp2
   exact bodyPost_ret (v := .tuple #[.slice a4 (membW s N).length c4, .int .i64 0]) (by simp [results, Tryz.results88, go_sem]) rfl ⟨_, rfl, HR.out.mono hsz2, HEW.out⟩
theorem mk_words (w : World) : Sem.run Tryz.prog (Instr.makeSlice 40 (.int .i64 1) (.int .i64 1)) w = .ok (.slice (some ⟨w.heap.size, 0, none⟩) 1 1) (w.alloc (.cells #[.int .u64 0] 78)) := mk_word w
structure OfI (w W : World) (N m : Nat) : Prop where
 rb : W.heap[w.heap.size]? = some (.cells #[.int .i64 0, .slice none 0 0] 42)
 wb : W.heap[w.heap.size + 1]? = some (.cells #[.int .u64 (m : Int)] 78)
 sb : W.heap[w.heap.size + 2]? = some (.cells #[.int .i64 (N : Int), .slice (some ⟨w.heap.size + 1, 0, none⟩) 1 1] 42)
 x : Ext w W
theorem OfI.ext {w W W' : World} {N m : Nat} (h : OfI w W N m) (x : Ext W W') : OfI w W' N m := ⟨x.hp h.rb, x.hp h.wb, x.hp h.sb, h.x.trans' x⟩
theorem OfI.put {w W : World} {N m m' : Nat} (h : OfI w W N m) : OfI w (W.setCell ⟨w.heap.size + 1, 0, none⟩ (.int .u64 (m' : Int))) N m' :=
 ⟨by rw [Below.heap_setCell W ⟨w.heap.size + 1, 0, none⟩ _ w.heap.size (by simp)]; exact h.rb, by rw [heap_setCell_same h.wb]; simp, by rw [Below.heap_setCell W ⟨w.heap.size + 1, 0, none⟩ _ (w.heap.size + 2) (by simp)]; exact h.sb, h.x.st (by show w.heap.size ≤ w.heap.size + 1; omega) _⟩
set_option maxHeartbeats 4000000 in
set_option maxRecDepth 100000 in
theorem of_calls (N : Nat) (v : Value) (l : List Nat) (w : World) (h : Ints w v (intsN l)) (hN : 1 ≤ N) (hN2 : N ≤ 63) (hl : l.length ≤ 1000000) (hlt : ∀ j ∈ l, j < N) :
  Calls Tryz.prog 12 #[.int .i64 (N : Int), v] w fun e w' => ∃ u, e = .returned (.tuple #[.agg #[.int .i64 (N : Int), u], .int .i64 0]) ∧ Row w' w.heap.size 78 1 u 1 [.int .u64 (wordOf l : Int)] ∧ Ext w w' := by
 have HII := Lib.hid h
 have HLT := Lib.hid hlt
 have HWC := Lib.hid (fun W => bwords_calls N W hN hN2)
 have HMK := mk_words
 obtain ⟨va, vc, rfl, hvc, _⟩ := h
 rw [intsN_len] at hvc ⊢
 generalize hln : l.length = n at *
 have HLN := Lib.hid hln
 have d0 : decide ((N : Int) < 0) = false := decide_eq_false (by omega)
 have d1 : decide (512 < (N : Int)) = false := decide_eq_false (by omega)
 clear hln hlt
 go_enter Tryz.func12, Tryz.ntmps12
 go_wp2_with fail
 refine (HWC.out _).mono ?_
 rintro e w9 ⟨rfl, hw9⟩
 subst hw9
 go_wp2
 have HI0 : Hid (OfI w (((w.alloc (.cells #[.int .i64 0, .slice none 0 0] 42)).alloc (.cells #[.int .u64 0] 78)).alloc (.cells #[.int .i64 (N : Int), .slice (some ⟨w.heap.size + 1, 0, none⟩) 1 1] 42)) N 0) := Lib.hid (by
  refine ⟨?_, ?_, heap_new_eq (by simp), (by repeat (first | refine Ext.st ?_ (by first | exact Nat.le_refl _ | exact Nat.le_succ _ | assumption | omega) _ | refine Ext.al ?_ _ | refine Ext.dr ?_ | refine Ext.drN ?_ _ | exact Ext.rf _))⟩
  ·have h0 := heap_alloc_new w (.cells #[.int .i64 0, .slice none 0 0] 42)
   exact (((Ext.rf _).al _).al _).hp h0
  ·exact ((Ext.rf _).al _).hp (heap_new_eq (by simp)))
 clear HMK d0 d1
 generalize ((w.alloc (.cells #[.int .i64 0, .slice none 0 0] 42)).alloc (.cells #[.int .u64 0] 78)).alloc (.cells #[.int .i64 (N : Int), .slice (some ⟨w.heap.size + 1, 0, none⟩) 1 1] 42) = w3 at *
 go_loopg [23] n (fun g s23 wr => ∃ k : Nat, k ≤ n ∧ n - k ≤ g ∧ s23 = .int .i64 k ∧ Aside (OfI w wr N (wordOf (l.take k))))
 case atStart => exact ⟨0, Nat.zero_le _, by omega, rfl, (show OfI _ _ _ _ from HI0.out)⟩
 case round =>
  obtain ⟨k, hk, hg, rfl, HI⟩ := hrel
  clear HI0
  have HIS := HI.out
  have s0 := cellOf HIS.sb 0
  have s1 := cellOf HIS.sb 1
  have r0 := cellOf HIS.rb 0
  have r1 := cellOf HIS.rb 1
  have f0 := freeOf HIS.rb 0
  have f1 := freeOf HIS.rb 1
  simp only [List.getElem?_toArray, List.getElem?_cons_zero, List.getElem?_cons_succ] at s0 s1 r0 r1
  by_cases hlt : k < n
  ·have hltz : (k : Int) < (n : Int) := by omega
   have hkz : (0 : Int) ≤ (k : Int) := by omega
   obtain ⟨b, o, hv, hob, hcell⟩ := ints_at HII.out k (by rw [intsN_len, HLN.out]; exact hlt)
   rw [intsN_at l (by rw [HLN.out]; exact hlt)] at hcell
   subst hv
   have hXN := HLT.out l[k]! (by rw [getElem!_pos l k (by rw [HLN.out]; exact hlt)]; exact List.getElem_mem _)
   have HTK : Hid (wordOf (l.take (k + 1)) = wordOf (l.take k) ||| 2 ^ l[k]!) := Lib.hid (by
    have hkl : k < l.length := by rw [HLN.out]; exact hlt
    have e : l.take (k + 1) = l.take k ++ [l[k]!] := by rw [List.take_succ_eq_append_getElem hkl, getElem!_pos l k hkl]
    rw [e, wordOf_snoc])
   have hmw : wordOf (l.take k) < 2 ^ 64 := Nat.lt_of_lt_of_le (wordOf_lt (fun j hj => HLT.out j (List.mem_of_mem_take hj))) (Nat.pow_le_pow_right (by decide) (show N ≤ 64 by omega))
   have q0 := HIS.x.cl hcell
   generalize l[k]! = X at *
   generalize wordOf (l.take k) = m at *
   have HIC := Lib.hid (fun W => inside_calls N X (.slice (some ⟨w.heap.size + 1, 0, none⟩) 1 1) W hXN hN2 ⟨_, _, _, rfl⟩)
   have HW := Lib.hid (shl_one (k := X) (by omega))
   have HB := Lib.hid (bits_or_pow hmw (show X < 64 by omega))
   have HQ := quo_small (j := X) (by omega)
   have HR := rem_small (j := X) (by omega)
   have hXz : (0 : Int) ≤ (X : Int) := by omega
   have hX64 : (X : Int) ≤ 64 := by omega
   generalize hm2 : m ||| 2 ^ X = m2 at *
   clear hmw hm2 hXN hcell hob
   go_wp2_with fail
   clear s0 s1 r0 r1 f0 f1 q0
   refine (HIC.out _).mono ?_
   rintro e w4 ⟨rfl, hX4⟩
   have HI4 := Lib.hid (HIS.ext hX4)
   clear hX4 HI HIS
   have s1 := cellOf HI4.out.sb 1
   have k4 := cellOf HI4.out.wb 0
   have fr4 := freeOf HI4.out.wb 0
   simp only [List.getElem?_toArray, List.getElem?_cons_zero, List.getElem?_cons_succ] at s1 k4
   go_wp2
   refine wp_region_tail (fun W => W.cell? ⟨w.heap.size + 2, 1, none⟩ = some (.slice (some ⟨w.heap.size + 1, 0, none⟩) 1 1) ∧ W.cell? ⟨w.heap.size + 1, 0, none⟩ = some (.int .u64 (m : Int))) 11 (by kernel_rfl) ⟨s1, k4⟩ (fun hHeld => ?_)
   have HI5 := Lib.hid (HI4.out.ext (Ext.rf w4).dr)
   have fr5 : w4.drew.frozen? ⟨w.heap.size + 1, 0, none⟩ = false := fr4
   generalize w4.drew = w5 at *
   clear s1 k4 fr4 HI4
   have hw0 : IntKind.i64.wrap 0 = 0 := by decide
   have hw9 := HW.out
   have hw8 := HB.out
   refine tkA 0 32 (v := ?_) rfl rfl (by kernel_rfl) (fun _ _ _ h => h) ?_ (by assumption) ?_
   rotate_left
   ·(intro w hSw; (try dsimp only at hSw); go_simp; try (with_reducible rfl))
   try simp only [Act.put]
   try simp only [List.setIfInBounds_toArray]
   try simp only [List.set_cons_zero, List.set_cons_succ]
   refine tkA 1 33 (v := ?_) rfl rfl (by kernel_rfl) (fun _ _ _ h => h) ?_ (by assumption) ?_
   rotate_left
   ·(intro w hSw; (try dsimp only at hSw); go_simp; try (with_reducible rfl))
   try simp only [Act.put]
   try simp only [List.setIfInBounds_toArray]
   try simp only [List.set_cons_zero, List.set_cons_succ]
   refine tkA 2 34 (v := ?_) rfl rfl (by kernel_rfl) (fun _ _ _ h => h) ?_ (by assumption) ?_
   rotate_left
   ·(intro w hSw; (try dsimp only at hSw); go_simp; try (with_reducible rfl))
   try simp only [Act.put]
   try simp only [List.setIfInBounds_toArray]
   try simp only [List.set_cons_zero, List.set_cons_succ]
   refine tkA 3 35 (v := ?_) rfl rfl (by kernel_rfl) (fun _ _ _ h => h) ?_ (by assumption) ?_
   rotate_left
   ·(intro w hSw; (try dsimp only at hSw); go_simp; try (with_reducible rfl))
   try simp only [Act.put]
   try simp only [List.setIfInBounds_toArray]
   try simp only [List.set_cons_zero, List.set_cons_succ]
   refine tkA 4 36 (v := ?_) rfl rfl (by kernel_rfl) (fun _ _ _ h => h) ?_ (by assumption) ?_
   rotate_left
   ·(intro w hSw; (try dsimp only at hSw); go_simp; try (with_reducible rfl))
   try simp only [Act.put]
   try simp only [List.setIfInBounds_toArray]
   try simp only [List.set_cons_zero, List.set_cons_succ]
   refine tkA 5 37 (v := ?_) rfl rfl (by kernel_rfl) (fun _ _ _ h => h) ?_ (by assumption) ?_
   rotate_left
   ·(intro w hSw; (try dsimp only at hSw); go_simp; try (with_reducible rfl))
   try simp only [Act.put]
   try simp only [List.setIfInBounds_toArray]
   try simp only [List.set_cons_zero, List.set_cons_succ]
   refine tkA 6 38 (v := ?_) rfl rfl (by kernel_rfl) (fun _ _ _ h => h) ?_ (by assumption) ?_
   rotate_left
   ·(intro w hSw; (try dsimp only at hSw); go_simp; try (with_reducible rfl))
   try simp only [Act.put]
   try simp only [List.setIfInBounds_toArray]
   try simp only [List.set_cons_zero, List.set_cons_succ]
   refine tkA 7 39 (v := ?_) rfl rfl (by kernel_rfl) (fun _ _ _ h => h) ?_ (by assumption) ?_
   rotate_left
   ·(intro w hSw; (try dsimp only at hSw); go_simp; try (with_reducible rfl))
   try simp only [Act.put]
   try simp only [List.setIfInBounds_toArray]
   try simp only [List.set_cons_zero, List.set_cons_succ]
   refine tkA 8 40 (v := ?_) rfl rfl (by kernel_rfl) (fun _ _ _ h => h) ?_ (by assumption) ?_
   rotate_left
   ·(intro w hSw; (try dsimp only at hSw); go_simp; try (with_reducible rfl))
   try simp only [Act.put]
   try simp only [List.setIfInBounds_toArray]
   try simp only [List.set_cons_zero, List.set_cons_succ]
   refine tkA 9 41 (v := ?_) rfl rfl (by kernel_rfl) (fun _ _ _ h => h) ?_ (by assumption) ?_
   rotate_left
   ·(intro w hSw; (try dsimp only at hSw); go_simp; try (with_reducible rfl))
   try simp only [Act.put]
   try simp only [List.setIfInBounds_toArray]
   try simp only [List.set_cons_zero, List.set_cons_succ]
   refine tkA 10 42 (v := ?_) rfl rfl (by kernel_rfl) (fun _ _ _ h => h) ?_ (by assumption) ?_
   rotate_left
   ·(intro w hSw; (try dsimp only at hSw); go_simp; try (with_reducible rfl))
   try simp only [Act.put]
   try simp only [List.setIfInBounds_toArray]
   try simp only [List.set_cons_zero, List.set_cons_succ]
   refine wpAnyT_last (by kernel_rfl) rfl (by kernel_rfl) (fun K hK => ?_)
   go_simp
   refine hK.out _ _ ?_
   go_wp2_with fail
   go_roundg (n - (k + 1))
   case measure => omega
   case rel => exact ⟨k + 1, by omega, by omega, by go_num, (show OfI _ _ _ _ from by rw [HTK.out]; exact HI5.out.put)⟩
  ·have hltz : ¬ (k : Int) < (n : Int) := by omega
   obtain rfl : n = k := by omega
   have HW := Lib.hid HIS
   clear HI HIS
   go_wp2
   have e1 := heap_setCell_same (o := 1) (u := .slice (some ⟨w.heap.size + 1, 0, none⟩) 1 1) (heap_setCell_same (o := 0) (u := .int .i64 (N : Int)) HW.out.rb)
   have z0 := cellOf e1 0
   have z1 := cellOf e1 1
   simp only [Array.setIfInBounds, List.size_toArray, List.length_cons, List.length_nil, Nat.zero_lt_succ] at z0 z1
   refine bodyPost_ret (v := .tuple #[.agg #[.int .i64 (N : Int), .slice (some ⟨w.heap.size + 1, 0, none⟩) 1 1], .int .i64 0]) (by simp [results, Tryz.results12, go_sem, z0, z1]) rfl ⟨_, rfl, ?_, ?_⟩
   ·have hw := HW.out.wb
    rw [show l.take n = l from by rw [← HLN.out]; exact List.take_length] at hw
    refine word_row (b := w.heap.size + 1) ?_ (by omega)
    rw [Below.heap_setCell _ ⟨w.heap.size, 1, none⟩ _ (w.heap.size + 1) (by simp), Below.heap_setCell _ ⟨w.heap.size, 0, none⟩ _ (w.heap.size + 1) (by simp)]
    exact hw
   ·exact (HW.out.x.st (by show w.heap.size ≤ w.heap.size; omega) _).st (by show w.heap.size ≤ w.heap.size; omega) _
end Go.Proofs.YtbpdbikphlhaiaaGreatDoor
namespace Go.Proofs.YtbpdbikphlhaiaaGreatDoor
open Go.RowKit
set_option linter.unusedVariables false
set_option maxHeartbeats 400000 in
theorem indexFunc_set {α : Type} [Inhabited α] (R : World → List Value → α → Prop) (hLasts : Lasts R) (g : Nat) (cb : Array Value) (eg : ∀ args w, (callFunc g args).run Tryz.prog w = .ok (.enter g args) w) (p : α → Bool) (v : Value) (l : List α) (w : World)
  (hv : Sl R 2 w v l) (hn : l.length ≤ 1000000) (hp : SaysOf Tryz.prog R encAgg g cb p l w) :
  Calls Tryz.prog 110 #[v, .func (.func g) #[] cb] w fun e w' => e = .returned (.int .i64 (firstAt p l)) ∧ Ext w w' := by
 obtain ⟨a, c, rfl, hlc, hv⟩ := hv
 have HLC := Lib.hid hlc; clear hlc
 have HV := Lib.hid hv; clear hv
 have HP := Lib.hid hp; clear hp
 have HT := Lib.hid hLasts; clear hLasts
 generalize hln : l.length = n at hn
 have HL := Lib.hid hln; clear hln
 go_enter Tryz.func110, Tryz.ntmps110
 go_wp2
 go_loopg [5, 8] n (fun m _ s8 wr => ∃ k : Nat, k ≤ n ∧ n - k ≤ m ∧ s8 = .int .i64 k ∧ Ext w wr ∧ Aside (∀ j, j < k → p l[j]! = false))
 case atStart => exact ⟨0, Nat.zero_le _, by omega, rfl, Below.refl _ _, (fun j hj => absurd hj (Nat.not_lt_zero _))⟩
 case round =>
  obtain ⟨k, hk, hm, rfl, he, A⟩ := hrel
  have HE := Lib.hid he; clear he
  by_cases hlt : k < n
  ·obtain ⟨b, off, rfl, hb, hc⟩ := HV.out (by intro e; have := HL.out; simp [e] at this; omega)
   obtain ⟨vs, hvs, hR, hcell⟩ := hc k (by rw [HL.out]; exact hlt)
   obtain ⟨c0, c1, rfl⟩ : ∃ c0 c1, vs = [c0, c1] := by match vs, hvs with | [c0, c1], _ => exact ⟨c0, c1, rfl⟩
   have d0 : wr.cell? ⟨b, off + k * 2, none⟩ = some c0 := (HE.out.cell hb).trans (hcell 0 (by omega))
   have d1 : wr.cell? ⟨b, off + k * 2 + 1, none⟩ = some c1 := (HE.out.cell hb).trans (hcell 1 (by omega))
   have hltz : (k : Int) < (n : Int) := by omega
   clear hc hcell
   have hcall := HP.out _ (mem_at l k (by rw [HL.out]; exact hlt)) wr _ HE.out (HT.out _ _ _ _ hR HE.out)
   unfold encAgg at hcall
   generalize hy : l[k]! = y at hcall hR
   have B := Lib.hid hy
   clear hy hR hvs HV HT HP
   cases hq : p y with
   | true =>
     rw [hq] at hcall
     have HQ := Lib.hid hq; clear hq
     go_wp2_with (go_at_fn g; refine hcall.mono ?_; rintro e w' ⟨rfl, he'⟩)
     go_ret
     exact ⟨by rw [firstAt_hit p l k (by rw [HL.out]; omega) (by rw [B.out]; exact HQ.out) A.out]; rfl, HE.out.trans' he'⟩
   | false =>
     rw [hq] at hcall
     have HQ := Lib.hid hq; clear hq
     go_wp2_with (go_at_fn g; refine hcall.mono ?_; rintro e w' ⟨rfl, he'⟩)
     go_roundg (n - (k + 1))
     case measure => omega
     case rel =>
      refine ⟨k + 1, by omega, by omega, by go_num, HE.out.trans' he', (show Aside _ from fun j hj => ?_)⟩
      by_cases e : j = k
      ·subst e
       rw [B.out]; exact HQ.out
      ·exact A.out j (by omega)
  ·have hltz : ¬ (k : Int) < (n : Int) := by omega
   go_wp2
   go_ret
   exact ⟨by rw [firstAt_miss p l (fun j hj => A.out j (by rw [HL.out] at hj; omega))]; rfl, HE.out⟩
set_option maxHeartbeats 400000 in
theorem containsFunc_set {α : Type} [Inhabited α] (R : World → List Value → α → Prop) (hLasts : Lasts R) (g : Nat) (cb : Array Value) (eg : ∀ args w, (callFunc g args).run Tryz.prog w = .ok (.enter g args) w) (p : α → Bool) (v : Value) (l : List α) (w : World)
  (hv : Sl R 2 w v l) (hn : l.length ≤ 1000000) (hp : SaysOf Tryz.prog R encAgg g cb p l w) :
  Calls Tryz.prog 90 #[v, .func (.func g) #[] cb] w fun e w' => e = .returned (.bool (l.any p)) ∧ Ext w w' := by
 have HI := Lib.hid (indexFunc_set R hLasts g cb eg p v l w hv hn hp)
 clear hv hp eg hLasts
 rw [← firstAt_any]
 go_enter Tryz.func90, Tryz.ntmps90
 go_wp2_with (go_at_call 110; refine HI.out.mono ?_; rintro e w' ⟨rfl, he'⟩)
 go_ret
 exact ⟨rfl, he'⟩
end Go.Proofs.YtbpdbikphlhaiaaGreatDoor
namespace Go.Proofs.YtbpdbikphlhaiaaGreatDoor
open Go.RowKit
set_option linter.unusedVariables false
theorem enters_91 : ∀ args w, (callFunc 91 args).run Tryz.prog w = .ok (.enter 91 args) w := enters_of Tryz.func91 (by kernel_rfl) rfl
set_option maxHeartbeats 2000000 in
set_option maxRecDepth 100000 in
theorem rvalid1_calls (N m b : Nat) (vs : List Value) (a : Option Addr) (c : Nat) (w : World) (hv : RSet N w vs m) (hb : w.cell? ⟨b, 0, none⟩ = some (.slice a N c)) (hN : 1 ≤ N) (hN2 : N ≤ 63) (hm : m < 2 ^ N) :
  Calls Tryz.prog 91 #[encAgg vs, .pointer (some ⟨b, 0, none⟩)] w fun e w' => e = .returned (.bool false) ∧ Ext w w' := by
 obtain ⟨wb, wo, wc, rfl, hwb, hc, hcell⟩ := hv
 have HVC := Lib.hid (fun W (hW : Ext w W) => bvalid_calls N wb wo wc m W (hW.cl hcell) hN hN2 hm)
 have hbw := World.block_lt_of_cell? w _ hb
 have HE1 := Lib.hid ((Ext.rf w).al (.cells #[.int .i64 (N : Int), .slice (some ⟨wb, wo, none⟩) 1 wc] 42))
 have k1 := HE1.out.cl hb
 have HX0 := Lib.hid (heap_alloc_new w (.cells #[.int .i64 (N : Int), .slice (some ⟨wb, wo, none⟩) 1 wc] 42))
 have s0 := cellOf HX0.out 0
 have s1 := cellOf HX0.out 1
 simp only [List.getElem?_toArray, List.getElem?_cons_zero, List.getElem?_cons_succ] at s0 s1
 have hne : ((N : Int) != (N : Int)) = false := by simp
 unfold encAgg
 clear hb hcell hwb
 go_enter Tryz.func91, Tryz.ntmps91
 go_wp2_with fail
 refine (HVC.out _ HE1.out).mono ?_
 rintro e w9 ⟨rfl, hX9⟩
 go_wp2
 go_ret
 exact ⟨rfl, HE1.out.trans' hX9⟩
set_option maxHeartbeats 2000000 in
set_option maxRecDepth 100000 in
theorem rvalid_calls (v : Value) (N : Nat) (M : List Nat) (w : World) (h : Sl (RSet N) 2 w v M) (hl : M.length = N) (hN : N ≤ 63) (hb : BndM N M) :
  Calls Tryz.prog 73 #[.agg #[v]] w fun e w' => e = .returned (.bool true) ∧ Ext w w' := by
 obtain ⟨a, c, rfl, hlc⟩ := h.sh
 have HC := Lib.hid (fun W (hW : Ext w W) (hc : W.cell? ⟨w.heap.size, 0, none⟩ = some (.slice a N c)) => containsFunc_set (RSet N) (rset_lasts N) 91 #[.pointer (some ⟨w.heap.size, 0, none⟩)] enters_91 (fun _ => false) _ M W (h.ext (rset_lasts N) hW) (by omega)
  (fun m hm W2 vs hW2 hR => by
   obtain ⟨i, hi, rfl⟩ := List.getElem_of_mem hm
   have := hb i
   rw [getElem!_pos M i hi] at this
   exact rvalid1_calls N _ _ vs a c W2 hR (hW2.cl hc) (by omega) hN this))
 have HA : Hid ((M.any fun _ => false) = false) := Lib.hid (by rw [List.any_eq_false]; intro x _; simp)
 rw [HA.out, hl] at HC
 rw [hl]
 have HE1 := Lib.hid ((Ext.rf w).al (.cells #[.slice a N c] 32))
 have HX0 := Lib.hid (heap_alloc_new w (.cells #[.slice a N c] 32))
 have s0 := cellOf HX0.out 0
 simp only [List.getElem?_toArray, List.getElem?_cons_zero] at s0
 have d0 : decide ((N : Int) ≤ 512) = true := decide_eq_true (by omega)
 clear h hl hb hlc
 go_enter Tryz.func73, Tryz.ntmps73
 go_wp2_with fail
 refine (HC.out _ HE1.out s0).mono ?_
 rintro e w9 ⟨rfl, hX9⟩
 go_wp2
 go_ret
 exact ⟨rfl, HE1.out.trans' hX9⟩
end Go.Proofs.YtbpdbikphlhaiaaGreatDoor
namespace Go.Proofs.YtbpdbikphlhaiaaGreatDoor
set_option linter.unusedVariables false
def prsTo (M : List Nat) (N i j : Nat) : List (Nat × Nat) := ((List.range i).flatMap fun a => ((List.range N).filter fun b => hasM M a b).map fun (b : Nat) => (a, b)) ++ ((List.range j).filter fun b => hasM M i b).map fun (b : Nat) => (i, b)
theorem prsTo_zero (M : List Nat) (N : Nat) : prsTo M N 0 0 = [] := rfl
theorem prsTo_yes {M : List Nat} {N i j : Nat} (h : hasM M i j = true) : prsTo M N i (j + 1) = prsTo M N i j ++ [(i, j)] := by
 unfold prsTo; rw [List.range_succ, List.filter_append]; simp [h, List.append_assoc]
theorem prsTo_no {M : List Nat} {N i j : Nat} (h : hasM M i j = false) : prsTo M N i (j + 1) = prsTo M N i j := by
 unfold prsTo; rw [List.range_succ, List.filter_append]; simp [h]
theorem prsTo_next (M : List Nat) (N i : Nat) : prsTo M N i N = prsTo M N (i + 1) 0 := by
 unfold prsTo; rw [List.range_succ, List.flatMap_append]; simp
theorem prsTo_mem {M : List Nat} {N i j a b : Nat} : (a, b) ∈ prsTo M N i j ↔ hasM M a b = true ∧ ((a < i ∧ b < N) ∨ (a = i ∧ b < j)) := by
 unfold prsTo
 simp only [List.mem_append, List.mem_flatMap, List.mem_map, List.mem_filter, List.mem_range, Prod.mk.injEq]
 constructor
 ·rintro (⟨x, h1, y, ⟨h2, h3⟩, rfl, rfl⟩ | ⟨y, ⟨h2, h3⟩, rfl, rfl⟩)
  ·exact ⟨h3, .inl ⟨h1, h2⟩⟩
  ·exact ⟨h3, .inr ⟨rfl, h2⟩⟩
 ·rintro ⟨h, (⟨h1, h2⟩ | ⟨rfl, h2⟩)⟩
  ·exact .inl ⟨a, h1, b, ⟨h2, h⟩, rfl, rfl⟩
  ·exact .inr ⟨b, ⟨h2, h⟩, rfl, rfl⟩
theorem prsTo_len (M : List Nat) (N : Nat) : ∀ i j, (prsTo M N i j).length ≤ i * N + j := by
 have row : ∀ i, (prsTo M N i 0).length ≤ i * N := by
  intro i
  induction i with
  | zero => simp [prsTo]
  | succ i ih =>
    rw [← prsTo_next]
    have e : prsTo M N i N = prsTo M N i 0 ++ ((List.range N).filter fun b => hasM M i b).map fun (b : Nat) => (i, b) := by simp [prsTo]
    rw [e, List.length_append, List.length_map]
    have := List.length_filter_le (fun b => hasM M i b) (List.range N)
    rw [List.length_range] at this
    rw [Nat.add_mul]; omega
 intro i j
 have e : prsTo M N i j = prsTo M N i 0 ++ ((List.range j).filter fun b => hasM M i b).map fun (b : Nat) => (i, b) := by simp [prsTo]
 rw [e, List.length_append, List.length_map]
 have h1 := List.length_filter_le (fun b => hasM M i b) (List.range j)
 rw [List.length_range] at h1
 have := row i
 omega
def putS (Q : List Nat) (p : Nat × Nat) : List Nat := putM Q p.2 p.1
def invP (N : Nat) (L : List (Nat × Nat)) : List Nat := L.foldl putS (List.replicate N 0)
theorem invP_snoc (N : Nat) (L : List (Nat × Nat)) (p : Nat × Nat) : invP N (L ++ [p]) = putS (invP N L) p := by unfold invP; rw [List.foldl_append]; rfl
theorem putM_len (Q : List Nat) (i j : Nat) : (putM Q i j).length = Q.length := by simp [putM]
theorem fold_len : ∀ (L : List (Nat × Nat)) (Q : List Nat), (L.foldl putS Q).length = Q.length
 | [], Q => rfl
 | p :: L, Q => by rw [List.foldl_cons, fold_len L]; exact putM_len Q _ _
theorem invP_len (N : Nat) (L : List (Nat × Nat)) : (invP N L).length = N := by unfold invP; rw [fold_len, List.length_replicate]
theorem fold_has : ∀ (L : List (Nat × Nat)) (Q : List Nat) (i j : Nat), (∀ p ∈ L, p.2 < Q.length) → hasM (L.foldl putS Q) i j = (hasM Q i j || decide ((j, i) ∈ L))
 | [], Q, i, j, _ => by simp
 | p :: L, Q, i, j, h => by
   rw [List.foldl_cons, fold_has L _ i j (fun q hq => by rw [show (putS Q p).length = Q.length from putM_len Q _ _]; exact h q (by simp [hq]))]
   unfold putS
   rw [putM_has (h p (by simp))]
   obtain ⟨a, b⟩ := p
   by_cases e1 : i = b
   ·by_cases e2 : j = a
    ·subst e1; subst e2; simp
    ·simp [e1, e2]
   ·simp [e1]
theorem zero_has (N i j : Nat) : hasM (List.replicate N 0) i j = false := by
 unfold hasM
 by_cases h : i < N
 ·rw [getElem!_pos _ i (by simpa using h), List.getElem_replicate, Nat.zero_testBit]
 ·rw [getElem!_neg _ i (by simpa using h)]; exact Nat.zero_testBit j
def invM (M : List Nat) (N : Nat) : List Nat := invP N (prsTo M N N 0)
theorem invM_has {M : List Nat} {N : Nat} (hl : M.length = N) (hb : ∀ i : Nat, M[i]! < 2 ^ N) (i j : Nat) : hasM (invM M N) i j = hasM M j i := by
 unfold invM invP
 rw [fold_has _ _ _ _ (fun p hp => by
  obtain ⟨a, b⟩ := p
  rw [List.length_replicate]
  have := (prsTo_mem.1 hp).2
  simp only; omega), zero_has, Bool.false_or, Bool.eq_iff_iff, decide_eq_true_iff, prsTo_mem]
 constructor
 ·exact fun h => h.1
 ·intro h
  refine ⟨h, .inl ⟨?_, ?_⟩⟩
  ·by_cases hj : j < N
   ·exact hj
   ·rw [hasM_out (by omega)] at h; cases h
  ·by_cases hi : i < N
   ·exact hi
   ·unfold hasM at h
    rw [Nat.testBit_lt_two_pow (Nat.lt_of_lt_of_le (hb j) (Nat.pow_le_pow_right (by decide) (by omega)))] at h
    cases h
end Go.Proofs.YtbpdbikphlhaiaaGreatDoor
