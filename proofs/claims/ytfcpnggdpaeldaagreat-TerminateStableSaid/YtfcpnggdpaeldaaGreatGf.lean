import Derived.Test.YtfcpnggdpaeldaaGreatGe
import Derived.Test.YtfcpnggdpaeldaaGreatGb
import Derived.Test.YtfcpnggdpaeldaaGreatJa
import Derived.Test.YtfcpnggdpaeldaaGreatProg
import Derived.RangeFuncNested
import Derived.RangeFuncBound
import Derived.RangeFuncCalls
import Derived.RangeFuncLeaves
import Derived.Shelf.RegionOpen
import Derived.OwnWalkIn
import Derived.TacticsInMore
import Derived.LoopNIn
import Derived.LoopIn
import Derived.Sort.LoopGhostIn
import Derived.Sort.CutIn
import Derived.BigQuiet
import Derived.Deep.QuietTactic
import Derived.Deep.LoopGhost
import Derived.Shelf.Abstract
import Derived.Deep.DeepCutAuto
import Derived.Deep.DrawnRows
/-
  The values of variables in the states of processes, in plain words. No program is named here.
-/
namespace Go.Proofs.YtfcpnggdpaeldaaGreat
open Go.RowKit
set_option linter.unusedVariables false

/-! ### The program's states -/
def initV (t : Tr) (p : Nat) : List Int := t[p]!.vars.map (·.init)
def putA (now : List Int) (a : Asg) : List Int := now.set a.var.toNat a.value
/-- The values behind the first j assignments of an event. -/
def stepTo (now : List Int) (e : Ev) (j : Nat) : List Int := (e.asg.take j).foldl putA now
def stepV (now : List Int) (e : Ev) : List Int := e.asg.foldl putA now
/-- The values of state k. -/
def stV (t : Tr) (p k : Nat) : List Int := (t[p]!.events.take k).foldl stepV (initV t p)
theorem foldl_putA_len (l : List Asg) : ∀ now : List Int, (l.foldl putA now).length = now.length := by
  induction l with
  | nil => intro now; rfl
  | cons a l ih => intro now; rw [List.foldl_cons, ih]; simp [putA]
theorem stepTo_zero (now : List Int) (e : Ev) : stepTo now e 0 = now := by simp [stepTo]
theorem stepTo_succ (now : List Int) (e : Ev) (j : Nat) (h : j < e.asg.length) : stepTo now e (j + 1) = putA (stepTo now e j) e.asg[j]! := by
  unfold stepTo
  rw [List.take_succ_eq_append_getElem h, List.foldl_append, getElem!_pos e.asg j h]; rfl
theorem stepTo_all (now : List Int) (e : Ev) (j : Nat) (h : j = e.asg.length) : stepTo now e j = stepV now e := by
  unfold stepTo stepV; rw [h, List.take_length]
theorem stepTo_len (now : List Int) (e : Ev) (j : Nat) : (stepTo now e j).length = now.length := foldl_putA_len _ _
theorem stV_zero (t : Tr) (p : Nat) : stV t p 0 = initV t p := by simp [stV]
theorem stV_succ (t : Tr) (p k : Nat) (h : k < t[p]!.events.length) : stV t p (k + 1) = stepV (stV t p k) t[p]!.events[k]! := by
  unfold stV
  rw [List.take_succ_eq_append_getElem h, List.foldl_append, getElem!_pos t[p]!.events k h]; rfl
theorem initV_len (t : Tr) (p : Nat) : (initV t p).length = t[p]!.vars.length := by simp [initV]
theorem stV_len (t : Tr) (p : Nat) : ∀ k, k ≤ t[p]!.events.length → (stV t p k).length = t[p]!.vars.length := by
  intro k hk
  induction k with
  | zero => rw [stV_zero, initV_len]
  | succ k ih => rw [stV_succ t p k (by omega)]; unfold stepV; rw [foldl_putA_len, ih (by omega)]

/-! ### The reference's value: the last assignment -/
/-- The value that the first assignment to v in the list gives, from place j on. -/
def findA (l : List Asg) (v : Int) : Option Int := (l.find? fun a => decide (a.var = v)).map (·.value)
def valR (t : Tr) (p : Nat) (v : Nat) : Nat → Int
  | 0 => t[p]!.vars[v]!.init
  | k + 1 => match findA t[p]!.events[k]!.asg (v : Int) with | some x => x | none => valR t p v k
/-- No variable is assigned twice. -/
def OnceA (l : List Asg) : Prop := l.Pairwise (fun a b => a.var ≠ b.var) ∧ ∀ a ∈ l, 0 ≤ a.var
theorem getSet {l : List Int} {i j : Nat} {x : Int} (hj : j < l.length) : (l.set i x)[j]! = if i = j then x else l[j]! := by
  rw [getElem!_pos _ j (by rw [List.length_set]; exact hj), List.getElem_set, getElem!_pos l j hj]
theorem fold_at (v : Nat) : ∀ (l : List Asg) (now : List Int), OnceA l → v < now.length → (l.foldl putA now)[v]! = (match findA l (v : Int) with | some x => x | none => now[v]!) := by
  intro l
  induction l with
  | nil => intro now _ _; rfl
  | cons a l ih =>
    intro now ⟨h1, h2⟩ hv
    rw [List.pairwise_cons] at h1
    have ha := h2 a (by simp)
    rw [List.foldl_cons, ih (putA now a) ⟨h1.2, fun b hb => h2 b (by simp [hb])⟩ (by simpa [putA] using hv)]
    unfold putA
    rw [getSet hv]
    unfold findA
    rw [List.find?_cons]
    by_cases e : a.var = (v : Int)
    · have hn : l.find? (fun b => decide (b.var = (v : Int))) = none := by
        rw [List.find?_eq_none]; intro b hb hc
        exact h1.1 b hb (by rw [e]; exact (of_decide_eq_true hc).symm)
      rw [hn, if_pos (by omega)]
      simp [e]
    · rw [if_neg (by omega)]
      simp [e]
/-- The values of both are the same. -/
theorem valR_stV {t : Tr} {p v : Nat} (ho : ∀ i, i < t[p]!.events.length → OnceA t[p]!.events[i]!.asg) (hv : v < t[p]!.vars.length) : ∀ k, k ≤ t[p]!.events.length → valR t p v k = (stV t p k)[v]! := by
  intro k hk
  induction k with
  | zero =>
    rw [stV_zero]; unfold valR initV
    rw [getElem!_pos t[p]!.vars v hv, getElem!_pos (t[p]!.vars.map (·.init)) v (by simpa using hv)]; simp
  | succ k ih =>
    rw [stV_succ t p k (by omega)]
    unfold stepV
    rw [fold_at v _ _ (ho k (by omega)) (by rw [stV_len t p k (by omega)]; exact hv), ← ih (by omega)]
    rfl

/-! ### What a valid trace has of assignments -/
theorem once_valid {t : Tr} (h : shapeB t = true) {p i : Nat} (hp : p < t.length) (hi : i < t[p]!.events.length) :
    OnceA t[p]!.events[i]!.asg ∧ ∀ a ∈ t[p]!.events[i]!.asg, 0 ≤ a.var ∧ a.var < t[p]!.vars.length ∧ valueB a.value = true := by
  unfold shapeB at h
  simp only [Bool.and_eq_true, decide_eq_true_eq, range_all] at h
  have he := h.2.2.2 p hp i hi
  unfold eventB at he
  simp only [Bool.and_eq_true, decide_eq_true_eq, range_all] at he
  have ha := he.2.2.2.2.2
  generalize t[p]!.events[i]!.asg = l at *
  have key : ∀ k, k < l.length → 0 ≤ l[k]!.var ∧ l[k]!.var < t[p]!.vars.length ∧ valueB l[k]!.value = true ∧ ∀ j, j < k → l[j]!.var ≠ l[k]!.var := by
    intro k hk
    have := ha k hk
    unfold asgB at this
    simp only [Bool.and_eq_true, decide_eq_true_eq, range_all, Bool.not_eq_true', decide_eq_false_iff_not] at this
    exact this
  have mem : ∀ a ∈ l, 0 ≤ a.var ∧ a.var < t[p]!.vars.length ∧ valueB a.value = true := by
    intro a hm
    obtain ⟨k, hk, rfl⟩ := List.getElem_of_mem hm
    have := key k hk
    rw [getElem!_pos l k hk] at this
    exact ⟨this.1, this.2.1, this.2.2.1⟩
  refine ⟨⟨List.pairwise_iff_getElem.2 fun j k hj hk hjk => ?_, fun a hm => (mem a hm).1⟩, mem⟩
  have := (key k hk).2.2.2 j hjk
  rw [getElem!_pos l j hj, getElem!_pos l k hk] at this
  exact this
theorem init_valid {t : Tr} (h : shapeB t = true) {p v : Nat} (hp : p < t.length) (hv : v < t[p]!.vars.length) : valueB t[p]!.vars[v]!.init = true := by
  unfold shapeB at h
  simp only [Bool.and_eq_true, decide_eq_true_eq, range_all] at h
  exact (varB_parts.1 ((headB_parts.1 (h.2.2.1 p hp)).2.2.2.1 v hv)).2
/-- Each value is in range. -/
theorem valR_in {t : Tr} (h : shapeB t = true) {p v : Nat} (hp : p < t.length) (hv : v < t[p]!.vars.length) : ∀ k, k ≤ t[p]!.events.length → valueB (valR t p v k) = true := by
  intro k hk
  induction k with
  | zero => exact init_valid h hp hv
  | succ k ih =>
    unfold valR
    cases hf : findA t[p]!.events[k]!.asg (v : Int) with
    | none => exact ih (by omega)
    | some x =>
      simp only
      unfold findA at hf
      rw [Option.map_eq_some_iff] at hf
      obtain ⟨a, ha, rfl⟩ := hf
      exact ((once_valid h hp (by omega)).2 a (List.mem_of_find?_eq_some ha)).2.2

/-! ### The values in all states, the least, the greatest, the changes -/
def valsTo (t : Tr) (p v k : Nat) : List Int := (List.range k).map fun i => (stV t p i)[v]!
theorem valsTo_succ (t : Tr) (p v k : Nat) : valsTo t p v (k + 1) = valsTo t p v k ++ [(stV t p k)[v]!] := by simp [valsTo, List.range_succ]
theorem valsTo_len (t : Tr) (p v k : Nat) : (valsTo t p v k).length = k := by simp [valsTo]
theorem valsTo_at {t : Tr} {p v k i : Nat} (h : i < k) : (valsTo t p v k)[i]! = (stV t p i)[v]! := by
  rw [getElem!_pos _ i (by rw [valsTo_len]; exact h)]; simp [valsTo]
/-- The least and the greatest of f 0 .. f k. -/
def lowF (f : Nat → Int) : Nat → Int
  | 0 => f 0
  | k + 1 => if f (k + 1) < lowF f k then f (k + 1) else lowF f k
def highF (f : Nat → Int) : Nat → Int
  | 0 => f 0
  | k + 1 => if highF f k < f (k + 1) then f (k + 1) else highF f k
theorem lowF_congr {f g : Nat → Int} : ∀ k, (∀ i, i ≤ k → f i = g i) → lowF f k = lowF g k := by
  intro k
  induction k with
  | zero => intro h; exact h 0 (Nat.le_refl _)
  | succ k ih => intro h; unfold lowF; rw [ih (fun i hi => h i (by omega)), h (k + 1) (Nat.le_refl _)]
theorem highF_congr {f g : Nat → Int} : ∀ k, (∀ i, i ≤ k → f i = g i) → highF f k = highF g k := by
  intro k
  induction k with
  | zero => intro h; exact h 0 (Nat.le_refl _)
  | succ k ih => intro h; unfold highF; rw [ih (fun i hi => h i (by omega)), h (k + 1) (Nat.le_refl _)]
/-- The states 1 .. k whose value is another one than before. -/
def chgF (f : Nat → Int) (k : Nat) : List Int := ((List.range k).filter fun i => f (i + 1) != f i).map fun (i : Nat) => ((i : Int) + 1)
theorem chgF_zero (f : Nat → Int) : chgF f 0 = [] := rfl
theorem chgF_yes {f : Nat → Int} {k : Nat} (h : (f (k + 1) != f k) = true) : chgF f (k + 1) = chgF f k ++ [(k : Int) + 1] := by
  unfold chgF; rw [List.range_succ, List.filter_append, List.filter_cons_of_pos (p := fun (i : Nat) => f (i + 1) != f i) (a := k) h, List.map_append]; rfl
theorem chgF_no {f : Nat → Int} {k : Nat} (h : (f (k + 1) != f k) = false) : chgF f (k + 1) = chgF f k := by
  unfold chgF; rw [List.range_succ, List.filter_append, List.filter_cons_of_neg (p := fun (i : Nat) => f (i + 1) != f i) (a := k) (by rw [h]; decide)]; simp
theorem chgF_len (f : Nat → Int) (k : Nat) : (chgF f k).length ≤ k := by
  unfold chgF; rw [List.length_map]; exact Nat.le_trans (List.length_filter_le _ _) (by simp)
theorem chgF_congr {f g : Nat → Int} {k : Nat} (h : ∀ i, i ≤ k → f i = g i) : chgF f k = chgF g k := by
  unfold chgF
  congr 1
  refine List.filter_congr fun i hi => ?_
  rw [List.mem_range] at hi
  rw [h (i + 1) (by omega), h i (by omega)]
/-- Neighbors differ by at most 1. -/
def unitF (f : Nat → Int) (k : Nat) : Bool := (List.range k).all fun i => decide (-1 ≤ f (i + 1) - f i) && decide (f (i + 1) - f i ≤ 1)
theorem unitF_zero (f : Nat → Int) : unitF f 0 = true := rfl
theorem unitF_succ (f : Nat → Int) (k : Nat) : unitF f (k + 1) = (unitF f k && (decide (-1 ≤ f (k + 1) - f k) && decide (f (k + 1) - f k ≤ 1))) := by
  unfold unitF; rw [List.range_succ, List.all_append]; simp
theorem unitF_congr {f g : Nat → Int} {k : Nat} (h : ∀ i, i ≤ k → f i = g i) : unitF f k = unitF g k := by
  unfold unitF
  rw [Bool.eq_iff_iff, range_all, range_all]
  constructor <;> intro hh i hi
  · rw [← h (i + 1) (by omega), ← h i (by omega)]; exact hh i hi
  · rw [h (i + 1) (by omega), h i (by omega)]; exact hh i hi
theorem unitF_no {f : Nat → Int} {k n : Nat} (hk : k < n) (h : (decide (-1 ≤ f (k + 1) - f k) && decide (f (k + 1) - f k ≤ 1)) = false) : unitF f n = false := by
  unfold unitF
  rw [List.all_eq_false]
  exact ⟨k, by rw [List.mem_range]; exact hk, by rw [h]; decide⟩

end Go.Proofs.YtfcpnggdpaeldaaGreat

/-
  A range over a function that makes what it hands over while it runs: what a round reads is told of the round's own world, and what a round must keep may depend on the element. No program is named here.
-/
namespace Go.Proofs.YtfcpnggdpaeldaaGreat
open Go.RowKit
set_option linter.unusedVariables false

/-- What the iterator itself may turn between two rounds: blocks from B on, as Tn lets it where 'pre' has come. -/
def AbidesT {α : Type} (B : Nat) (Tn : List α → Nat → Prop) (J : List α → World → Prop) : Prop :=
  ∀ pre W W' row, J pre W → W.grownBy W' row → (∀ r, row = some r → B ≤ r ∧ Tn pre r) → J pre W'
/-- The promise of an iterator that is called at whatever loop l: a round is told 'Rd pre x W1', and owes 'Kp x W1 W''. -/
def SeqStopsR {α : Type} (F : Fence) (n : Nat) (P : Program) (g : Nat) (lb : Array Value) (encs : α → Array Value) (Rd : List α → α → World → Prop) (Kp : α → World → World → Prop) (Tn : List α → Nat → Prop) (S Sp : List α → Prop) (w : World) : Prop :=
  ∀ (l : Nat) (J Jx : List α → World → Prop) (W : World), Below w.heap.size w W → AbidesT W.heap.size Tn J →
    (∀ pre x W1, J pre W1 → Rd pre x W1 → YieldAt F (n - 1) P l (encs x) W1 fun e W' =>
      (e = .returned (.bool true) ∧ J (pre ++ [x]) W' ∧ Kp x W1 W') ∨ (e = .returned (.bool false) ∧ Jx (pre ++ [x]) W')) →
    J [] W →
    CallsIn F n P g (#[.func (.yield l) #[] #[]] ++ lb) W fun e W' => (∃ v, e = .returned v) ∧ ((∃ xs, S xs ∧ J xs W') ∨ (∃ pre, Sp pre ∧ Jx pre W'))

variable {F : Fence} {n : Nat} {P : Program} {w : World}

/-- The range over such an iterator. -/
theorem wpIn_rangeFunc_R {α : Type} {g : Operand} {ps : Array Tmp} {assign body : Code} {Q : Exit → Act → World → Prop} {a : Act}
    (hro : F.round = none) (h1 : 1 ≤ n) {gf : Nat} {lb : Array Value} (hg : a.eval g = .func (.func gf) #[] lb) (hFg : F.fn gf) (eg : ∀ args w, (callFunc gf args).run P w = .ok (.enter gf args) w)
    {encs : α → Array Value} {Rd : List α → α → World → Prop} {Kp : α → World → World → Prop} {Tn : List α → Nat → Prop} {S Sp : List α → Prop} {w0 : World} (hseq : SeqStopsR F (n - 1) P gf lb encs Rd Kp Tn S Sp w0)
    (hKt : ∀ {x A B C}, Kp x A B → Kp x B C → Kp x A C) (hKb : ∀ x (W : World) (l : Nat) (o o' : Obj), w.heap.size ≤ l → W.heap[l]? = some o → o.isCells = false → Kp x W (W.putObj l o')) (hb0 : Below w0.heap.size w0 w) (hps : ∀ x, (encs x).size = ps.size)
    (I : List α → World → Prop) (Ix : Code → List α → World → Prop) (hI : OwnFrom w.heap.size I) (hIT : AbidesT (w.heap.size + 2) Tn I) (hIx : ∀ c, OwnFrom w.heap.size (Ix c)) (h0 : I [] w) (Ax : List α → α → Act → World → Prop) (hAx : ∀ pre x a', OwnFrom w.heap.size (fun (_ : Unit) W => Ax pre x a' W))
    (hassign : ∀ (l : Nat) (pre : List α) (x : α) (W : World) (K : Act → World → Prop), I pre W → Rd pre x W → (∀ a' W', KeepsFrom w.heap.size W W' → Kp x W W' → I pre W' → Ax pre x a' W' → K a' W') →
      assign.wpIn (F.inRound l) (n - 1 - 1) P (Exit.then K (fun _ _ _ => False)) { tmps := (ps.zip (encs x)).foldl (fun t (p, v) => t.setIfInBounds p v) a.tmps, defers := [] } W)
    (hbody : ∀ (l : Nat) (pre : List α) (x : α) (a' : Act) (W : World), w.heap.size ≤ l → (∃ r, W.heap[l]? = some (.loop r)) → I pre W → Ax pre x a' W → body.wpIn (F.inRound l) (n - 1 - 1) P (ownPostG w.heap.size (Kp x) I Ix (pre ++ [x]) W) a' W)
    (hdone : ∀ (D : Nat) (xs : List α) (W : World), w.heap.size ≤ D → S xs → I xs W → W.heap[D]? = some (.deferred (some [])) → Q .normal { a with defers := { target := .collected D, args := #[] } :: a.defers } W)
    (hstop : ∀ (D : Nat) (c : Code) (pre : List α) (W : World), w.heap.size ≤ D → Sp pre → Ix c pre W → W.heap[D]? = some (.deferred (some [])) → c.wpIn F n P Q { a with defers := { target := .collected D, args := #[] } :: a.defers } W) :
    (Code.rangeFunc g ps assign body).wpIn F n P Q a w := by
  refine wpIn_rangeFunc fun fn hfn => ?_
  rw [hro]
  -- the loop's record in each of its states
  obtain ⟨R, hR⟩ : ∃ R : LoopState → Option Code → Loop, R = fun st pe => { state := st, pending := pe, fn, tmps := a.tmps, params := ps, assign, body, defers := w.heap.size } := ⟨_, rfl⟩
  have hRp : ∀ st pe, (R st pe).params = ps := fun _ _ => by rw [hR]
  obtain ⟨V, hV⟩ : ∃ V, (w.alloc (.deferred (some []))).alloc (.loop (R .ready none)) = V := ⟨_, rfl⟩
  have vl : V.heap[w.heap.size + 1]? = some (.loop (R .ready none)) := by rw [← hV]; exact heap_new_eq (by simp)
  have vk : V.heap[w.heap.size]? = some (.deferred (some [])) := by rw [← hV]; exact ((Ext.rf _).al _).hp (heap_alloc_new w _)
  have vI : I [] V := by rw [← hV]; exact hI.alloc _ (hI.alloc _ h0)
  have vb : Below w0.heap.size w0 V := by rw [← hV]; exact hb0.trans ((((Ext.rf w).al _).al _).mono hb0.size)
  have vs : V.heap.size = w.heap.size + 2 := by rw [← hV]; simp
  refine ⟨w.heap.size + 1, [{ target := .collected w.heap.size, args := #[] }], V, { target := .fn (.func gf) lb, args := #[.func (.yield (w.heap.size + 1)) #[] #[]] }, V, gf,
    #[.func (.yield (w.heap.size + 1)) #[] #[]] ++ lb, V, by rw [← hV, hR]; exact run_enterLoop_outer _ _ _ _ _, by simp only [resolve, hg]; simp [go_sem], fun f' hf' => by simp [Target.leads] at hf'; subst hf'; exact hFg, by simp [invoke, go_sem, eg], fun _ => h1, ?_⟩
  have putI : ∀ {pre : List α} {W : World} {o o' : Obj}, I pre W → W.heap[w.heap.size + 1]? = some o → o.isCells = false → I pre (W.putObj (w.heap.size + 1) o') := fun hi hl ho => hI.putObj _ hi (by omega) hl ho
  refine (hseq (w.heap.size + 1)
    (fun pre W => I pre W ∧ W.heap[w.heap.size + 1]? = some (.loop (R .ready none)) ∧ W.heap[w.heap.size]? = some (.deferred (some [])))
    (fun pre W => ∃ c, Ix c pre W ∧ W.heap[w.heap.size + 1]? = some (.loop (R .done (some c))) ∧ W.heap[w.heap.size]? = some (.deferred (some []))) V vb
    (fun s A B row hs hg' hr => ⟨hIT s A B row hs.1 hg' (fun r e => ⟨by have := (hr r e).1; omega, (hr r e).2⟩),
      (hg'.block _ (Array.getElem?_eq_some_iff.1 hs.2.1).1 (fun e => by have := (hr _ e.symm).1; omega)).trans hs.2.1, (hg'.block _ (Array.getElem?_eq_some_iff.1 hs.2.2).1 (fun e => by have := (hr _ e.symm).1; omega)).trans hs.2.2⟩)
    ?round ⟨vI, vl, vk⟩).mono ?behind
  case behind =>
    rintro e W2 ⟨⟨v, rfl⟩, (⟨xs, hS, hi, hl, hk⟩ | ⟨pre, hSp, c, hi, hl, hk⟩)⟩
    · have he := run_endLoop (P := P) hl (by rw [hR]; simp)
      rw [hR] at he
      exact ⟨none, _, he, hdone _ xs _ (Nat.le_refl _) hS (putI hi hl rfl) ((World.putObj_heap_other (by omega)).trans hk)⟩
    · have he := run_endLoop (P := P) hl (by rw [hR]; simp)
      rw [hR] at he
      exact ⟨some c, _, he, hstop _ c pre _ (Nat.le_refl _) hSp ((hIx c).putObj _ hi (by omega) hl rfl) ((World.putObj_heap_other (by omega)).trans hk)⟩
  case round =>
    rintro pre x W0 ⟨hi0, hl0, hk0⟩ hrd
    have hy := run_yield (P := P) (args := encs x) hl0 (by rw [hRp]; exact hps x)
    rw [hR] at hy
    refine ⟨fn, _, assign, body, hy, roundIn_of_wpIn hfn (hassign _ pre x W0 _ hi0 hrd fun a' W hkf hkp hi hax => ?_)⟩
    have hl := hkf.same _ _ (by omega) hl0 rfl
    have hk := hkf.same _ _ (Nat.le_refl _) hk0 rfl
    refine ⟨_, run_beginRound hl (by rw [hR]), ?_⟩
    have bl : (W.putObj (w.heap.size + 1) (.loop { R .ready none with state := .busy })).heap[w.heap.size + 1]? = some (.loop { R .ready none with state := .busy }) := World.putObj_heap_same (Array.getElem?_eq_some_iff.1 hl).1
    have bk : (W.putObj (w.heap.size + 1) (.loop { R .ready none with state := .busy })).heap[w.heap.size]? = some (.deferred (some [])) := (World.putObj_heap_other (by omega)).trans hk
    have bp : Kp x W (W.putObj (w.heap.size + 1) (.loop { R .ready none with state := .busy })) := hKb x _ _ _ _ (by omega) hl rfl
    refine wpIn_mono (hbody _ pre x a' _ (by omega) ⟨_, bl⟩ (putI hi hl rfl) ((hAx pre x a').putObj (s := ()) _ hax (by omega) hl rfl)) ?_
    -- the round's end: the record is ready again, or done with a way out
    have fin : ∀ (j : Option Code) (W3 : World), KeepsFrom w.heap.size (W.putObj (w.heap.size + 1) (.loop { R .ready none with state := .busy })) W3 →
        (Instr.endRound (w.heap.size + 1) j).run P W3 = .ok (.bool j.isNone) (W3.putObj (w.heap.size + 1) (.loop (R (if j.isNone then .ready else .done) j))) ∧
        W3.heap[w.heap.size + 1]? = some (.loop { R .ready none with state := .busy }) ∧
        (W3.putObj (w.heap.size + 1) (.loop (R (if j.isNone then .ready else .done) j))).heap[w.heap.size + 1]? = some (.loop (R (if j.isNone then .ready else .done) j)) ∧
        (W3.putObj (w.heap.size + 1) (.loop (R (if j.isNone then .ready else .done) j))).heap[w.heap.size]? = some (.deferred (some [])) := fun j W3 k3 => by
      have l3 := k3.same _ _ (by omega) bl rfl
      have he := run_endRound (P := P) j l3
      rw [hR] at he ⊢
      rw [hR] at l3
      exact ⟨he, l3, World.putObj_heap_same (Array.getElem?_eq_some_iff.1 l3).1, (World.putObj_heap_other (by omega)).trans (k3.same _ _ (Nat.le_refl _) bk rfl)⟩
    have out : ∀ (c : Code) (W3 : World), KeepsFrom w.heap.size (W.putObj (w.heap.size + 1) (.loop { R .ready none with state := .busy })) W3 → Ix c (pre ++ [x]) W3 →
        ∃ c', Ix c' (pre ++ [x]) (W3.putObj (w.heap.size + 1) (.loop (R .done (some c)))) ∧ (W3.putObj (w.heap.size + 1) (.loop (R .done (some c)))).heap[w.heap.size + 1]? = some (.loop (R .done (some c'))) ∧ (W3.putObj (w.heap.size + 1) (.loop (R .done (some c)))).heap[w.heap.size]? = some (.deferred (some [])) := fun c W3 k3 hx => by
      obtain ⟨_, l3, l4, k4⟩ := fin (some c) W3 k3
      exact ⟨c, (hIx c).putObj _ hx (by omega) l3 rfl, l4, k4⟩
    intro e a3 W3 hp
    cases e with
    | normal =>
      obtain ⟨k3, p3, i3⟩ := hp
      obtain ⟨hr, l3, l4, k4⟩ := fin none W3 k3
      exact ⟨_, _, hr, .inl ⟨rfl, ⟨putI i3 l3 rfl, l4, k4⟩, hKt hkp (hKt (hKt bp p3) (hKb x _ _ _ _ (by omega) l3 rfl))⟩⟩
    | ret => exact ⟨_, _, (fin (some .ret) W3 hp.1).1, .inr ⟨rfl, out .ret W3 hp.1 hp.2⟩⟩
    | exit id => exact ⟨_, _, (fin (some (.exit id)) W3 hp.1).1, .inr ⟨rfl, out (.exit id) W3 hp.1 hp.2⟩⟩
    | goto t => exact ⟨_, _, (fin (some (.goto t)) W3 hp.1).1, .inr ⟨rfl, out (.goto t) W3 hp.1 hp.2⟩⟩
    | panic ch => exact hp.elim
    | outgrown => exact hp.elim

end Go.Proofs.YtfcpnggdpaeldaaGreat

/-
  The library's Clone on numbers.
-/
namespace Go.Proofs.YtfcpnggdpaeldaaGreat
open Go.RowKit
set_option linter.unusedVariables false

theorem info_cints : (Tryz.prog.info? 3).map (fun i => (i.zero, i.size, i.bytes)) = some (some (.int .i64 0), 1, 8) := by kernel_rfl

set_option maxHeartbeats 400000 in
theorem clone_cints (v : Value) (n : Nat) (xs : List Value) (w : World) (hv : CellsAt w v 1 n xs) (h1 : ∀ u ∈ xs, u.oneCell' = true) (hn : n ≤ 1000000) :
    Calls Tryz.prog 51 #[v] w fun e w' => ∃ v', e = .returned v' ∧ Row w' w.heap.size 3 1 v' n xs ∧ Ext w w' := by
  obtain ⟨i0, hi, hz0, hz1, hz2⟩ := info_parts info_cints
  obtain ⟨hl, a, c, rfl, hlc, hv⟩ := hv
  have HLC := Lib.hid hlc; clear hlc
  cases a with
  | none =>
    have hn0 : n = 0 := by
      rcases Nat.eq_zero_or_pos n with h | h
      · exact h
      · obtain ⟨_, _, h, _⟩ := hv h; simp at h
    subst hn0
    obtain rfl : xs = [] := List.eq_nil_of_length_eq_zero (by omega)
    clear hv h1 hn hl
    have heq := fun wx => Lib.run_eql_slice_nil (P := Tryz.prog) wx 25 3 none 0 c 0 0 Tryz.underlying25
    go_enter Tryz.func51, Tryz.ntmps51
    go_wp2
    go_ret
    exact ⟨_, rfl, Row.mkNil _ _ _ _, Ext.rf _⟩
  | some ad =>
    have heq := fun wx => Lib.run_eql_slice_nil (P := Tryz.prog) wx 25 3 (some ad) n c 0 0 Tryz.underlying25
    have HV := Lib.hid hv; clear hv
    have H1 := Lib.hid h1; clear h1
    have HL := Lib.hid hl; clear hl
    have hrow : Row (w.alloc (.cells #[] 3)) w.heap.size 3 1 (.slice (some ⟨w.heap.size, 0, none⟩) 0 0) 0 [] :=
      ⟨by simp, .inr ⟨w.heap.size, 0, 0, #[], rfl, Nat.le_refl _, heap_alloc_new w _, Nat.le_refl _, Nat.zero_le _, by simp, by simp⟩⟩
    have HR := Lib.hid hrow; clear hrow
    have hcs : 0 < n → ∃ ad', some ad = some ad' ∧ ∀ j u, xs[j]? = some u → (w.alloc (.cells #[] 3)).cell? (ad'.add j) = some u := by
      intro hp
      obtain ⟨b, off, hab, hb, hc⟩ := HV.out hp
      refine ⟨ad, rfl, fun j u hj => ?_⟩
      simp only [Option.some.injEq] at hab
      subst hab
      have hjl : j < n * 1 := by have := (List.getElem?_eq_some_iff.1 hj).1; rw [HL.out] at this; exact this
      rw [Addr.add_lit]
      exact ((Ext.rf w).al _).cl ((hc j hjl).trans hj)
    have HC := Lib.hid hcs; clear hcs
    go_enter Tryz.func51, Tryz.ntmps51
    go_wp2_with ((at_builtin; refine wpList_append_row rfl _ _ 25 rfl w.heap.size 3 i0 (.int .i64 0) 1 8 Tryz.underlying25 hi hz0 hz1 hz2 rfl (by decide) _ 0 [] rfl HR.out _ n c xs rfl HL.out HC.out H1.out (by unfold maxLen; omega) (by omega) (by simp) ?_; intro v' w1 hown1 hgrow1 hblk))
    go_ret
    exact ⟨_, rfl, by simpa using hown1, ((Ext.rf w).al _).gr hgrow1 (fun k hk => by have e : some w.heap.size = some k := hk; simp at e; omega)⟩

end Go.Proofs.YtfcpnggdpaeldaaGreat

/-
  Boxes of cells: what they hold, and that rows of other types stay as they are when a box is written. No program is named here.
-/
namespace Go.Proofs.YtfcpnggdpaeldaaGreat
open Go.RowKit
set_option linter.unusedVariables false

theorem cellOf {w : World} {g : Nat} {cs : Array Value} {e : TypeId} {fr : Nat × Nat} (h : w.heap[g]? = some (.cells cs e fr)) (i : Nat) : w.cell? ⟨g, i, none⟩ = cs[i]? := by simp [World.cell?, h]
theorem freeOf {w : World} {g : Nat} {cs : Array Value} {e : TypeId} (h : w.heap[g]? = some (.cells cs e (0, 0))) (i : Nat) : w.frozen? ⟨g, i, none⟩ = false := by simp [World.frozen?, h]

/-- A block of another type is no row's own. -/
theorem Row.notBox {w : World} {base g : Nat} {e e' : TypeId} {size : Nat} {v : Value} {n : Nat} {xs : List Value} {cs : Array Value} {fr : Nat × Nat} (h : Row w base e size v n xs) (hg : w.heap[g]? = some (.cells cs e' fr)) (hne : e' ≠ e) : v.ownBlock ≠ some g := by
  intro hk
  rcases h.2 with ⟨rfl, _⟩ | ⟨g', off, cap, cur, rfl, _, hg', _⟩
  · simp [Value.ownBlock] at hk
  · simp [Value.ownBlock] at hk
    subst hk
    rw [hg] at hg'
    simp at hg'
    exact hne hg'.2.1
theorem grownKeep {W w5 : World} {row : Option Nat} {k : Nat} {X : Obj} (hg : W.grownBy w5 row) (hne : row ≠ some k) (h : W.heap[k]? = some X) : w5.heap[k]? = some X := by
  rw [hg.block k (Array.getElem?_eq_some_iff.1 h).1 (fun e => hne e.symm)]
  exact h

end Go.Proofs.YtfcpnggdpaeldaaGreat

/-
  Calls that only read: the world has drawn, nothing else. No program is named here.
-/
namespace Go.Proofs.YtfcpnggdpaeldaaGreat
open Go.RowKit
set_option linter.unusedVariables false

/-- w' is w, but for draws. -/
def Drawn (w w' : World) : Prop := ∃ n, w' = w.drewN n
theorem Drawn.rf (w : World) : Drawn w w := ⟨0, (World.drewN_zero w).symm⟩
theorem Drawn.drN {w w' : World} (h : Drawn w w') (n : Nat) : Drawn w (w'.drewN n) := by
  obtain ⟨m, rfl⟩ := h
  exact ⟨m + n, by rw [World.drewN_drewN]⟩
theorem Drawn.trans {a b c : World} (h : Drawn a b) (k : Drawn b c) : Drawn a c := by
  obtain ⟨m, rfl⟩ := k
  exact h.drN m
theorem Drawn.ext {w w' : World} (h : Drawn w w') : Ext w w' := by
  obtain ⟨n, rfl⟩ := h
  exact (Ext.rf w).drN n
theorem Drawn.cell {w w' : World} (h : Drawn w w') (a : Addr) : w'.cell? a = w.cell? a := by
  obtain ⟨n, rfl⟩ := h
  rfl
theorem Drawn.heap {w w' : World} (h : Drawn w w') : w'.heap = w.heap := by
  obtain ⟨n, rfl⟩ := h
  rfl
theorem drawn_quiet {P : Program} {f : FuncId} {args : Array Value} {w : World} {n : Nat} {v : Value} (h : Calls P f args (w.drewN n) fun e w' => e = .returned v ∧ Drawn (w.drewN n) w') :
    Calls P f args (w.drewN n) fun e w'' => e = .returned v ∧ ∃ m, w'' = w.drewN m :=
  h.mono fun _ _ ⟨he, m, hm⟩ => ⟨he, n + m, by rw [hm, World.drewN_drewN]⟩
theorem drawn_quiet_add {P : Program} {f : FuncId} {args : Array Value} {w : World} {a n : Nat} {v : Value} (h : Calls P f args (w.drewN (a + n)) fun e w' => e = .returned v ∧ Drawn (w.drewN (a + n)) w') :
    Calls P f args (w.drewN (a + n)) fun e w'' => e = .returned v ∧ ∃ m, w'' = w.drewN (a + m) :=
  h.mono fun _ _ ⟨he, m, hm⟩ => ⟨he, n + m, by rw [hm, World.drewN_drewN, Nat.add_assoc]⟩

end Go.Proofs.YtfcpnggdpaeldaaGreat

/-
  The first event of a kind with a number, and an event by its name: the reference's Find and At.
-/
namespace Go.Proofs.YtfcpnggdpaeldaaGreat
open Go.RowKit
set_option linter.unusedVariables false
attribute [local go_sem ↓] Go.wp_at_zero Go.wp_at_succ

abbrev idO (a b : Int) : Obj := .cells #[.int .i64 a, .int .i64 b] 72
/-- The value of an event's name; (0, 0) for none. -/
def eidA : Option Eid → Int
  | none => 0
  | some x => x.1
def eidB : Option Eid → Int
  | none => 0
  | some x => (x.2 : Int) + 1
theorem id_set {w : World} {K : Nat} {z0 z1 : Value} {fr : Nat × Nat} (h : w.heap[K]? = some (.cells #[z0, z1] 72 fr)) (a b : Value) :
    ((w.setCell ⟨K, 0, none⟩ a).setCell ⟨K, 1, none⟩ b).heap[K]? = some (.cells #[a, b] 72 fr) := by
  obtain ⟨hlt, hk⟩ := Array.getElem?_eq_some_iff.1 h
  have h1 : (w.setCell ⟨K, 0, none⟩ a).heap[K]? = some (.cells #[a, z1] 72 fr) := by
    show (w.heap.modify K _)[K]? = _
    rw [Array.getElem?_eq_getElem (by rw [Array.size_modify]; exact hlt), Array.getElem_modify_self, hk]
    rfl
  obtain ⟨hlt1, hk1⟩ := Array.getElem?_eq_some_iff.1 h1
  show ((w.setCell ⟨K, 0, none⟩ a).heap.modify K _)[K]? = _
  rw [Array.getElem?_eq_getElem (by rw [Array.size_modify]; exact hlt1), Array.getElem_modify_self, hk1]
  rfl
theorem id_ext {w W : World} {K : Nat} (h : Ext w W) (hK : w.heap.size ≤ K) (a b : Value) : Ext w ((W.setCell ⟨K, 0, none⟩ a).setCell ⟨K, 1, none⟩ b) :=
  (h.st (p := ⟨K, 0, none⟩) hK a).st (p := ⟨K, 1, none⟩) hK b

set_option maxHeartbeats 4000000 in
set_option maxRecDepth 100000 in
theorem findR_calls (v : Value) (t : Tr) (kd m : Int) (w : World) (h : TrAt w v t) (hs : SmallTr t) :
    Calls Tryz.prog 92 #[.agg #[v], .int .i64 kd, .int .i64 m] w fun e w' => e = .returned (.agg #[.int .i64 (eidA (findE t kd m)), .int .i64 (eidB (findE t kd m))]) ∧ Ext w w' := by
  have HT := Lib.hid h
  have HS := Lib.hid hs
  obtain ⟨ta, tc, rfl, htc⟩ := h.sh
  have hn1 := hs.1
  generalize hfe : findE t kd m = fe
  have HFE := Lib.hid hfe
  generalize hln : t.length = N at *
  have HL := Lib.hid hln
  have HX0 := Lib.hid (((Ext.rf _).al (idO 0 0)).hp (heap_alloc_new w (.cells #[.slice ta N tc] 24)))
  have HX1 := Lib.hid (heap_new_eq (w := w.alloc (.cells #[.slice ta N tc] 24)) (o := idO 0 0) (b := w.heap.size + 1) (by simp))
  have HE2 : Hid (Ext w ((w.alloc (.cells #[.slice ta N tc] 24)).alloc (idO 0 0))) := Lib.hid (((Ext.rf w).al _).al _)
  clear h hs hfe hln
  go_enter Tryz.func92, Tryz.ntmps92
  go_wp2
  generalize hw2 : (w.alloc (.cells #[.slice ta N tc] 24)).alloc (idO 0 0) = w2 at *
  clear hw2
  go_loopg [7] N (fun g s7 wr => ∃ p : Nat, p ≤ N ∧ N - p ≤ g ∧ s7 = .int .i64 p ∧ Aside ((idsTo t p 0).find? (hit t kd m) = none) ∧ Aside (Ext w2 wr))
  case atStart => exact ⟨0, Nat.zero_le _, by omega, rfl, (show Aside _ from rfl), (show Ext _ _ from Ext.rf _)⟩
  case round =>
    obtain ⟨p, hp, hg, rfl, A, HEK⟩ := hrel
    have HEW := Lib.hid (HE2.out.trans' HEK.out)
    have HXA := Lib.hid (HEK.out.hp HX0.out)
    have HXB := Lib.hid (HEK.out.hp HX1.out)
    have a0 := cellOf HXA.out 0
    simp only [List.getElem?_toArray, List.getElem?_cons_zero] at a0
    by_cases hlt : p < N
    · have hltz : (p : Int) < (N : Int) := by omega
      have hpz : (0 : Int) ≤ (p : Int) := by omega
      obtain ⟨B, O, C, vv, ve, hve, hlC, hB, hn0, hv0, he0, hV, hE0⟩ := proc_at HT.out p (by rw [HL.out]; exact hlt)
      simp only [Value.slice.injEq] at hve
      obtain ⟨rfl, hzz, rfl⟩ := hve
      obtain ⟨ea, ec, rfl, hec⟩ := hE0.sh
      have hen := (HS.out.2 p (by rw [HL.out]; exact hlt)).2.1
      have HE0 := Lib.hid hE0
      have HHE0 := Lib.hid he0
      have HPL := Lib.hid (show p < t.length from by rw [HL.out]; exact hlt)
      have HNX := Lib.hid (idsTo_next t p)
      generalize hx : t[p]! = x at *
      generalize hne : x.events.length = ne at *
      have HX := Lib.hid hx
      have HNE := Lib.hid hne
      clear hn0 hv0 hV hE0 hzz hx hne he0
      go_wp2
      clear a0
      obtain ⟨wo, rfl⟩ : ∃ x, x = wr := ⟨_, rfl⟩
      go_loopg [8] ne (fun g s8 wr => ∃ i : Nat, i ≤ ne ∧ ne - i ≤ g ∧ s8 = .int .i64 i ∧ Aside ((idsTo t p i).find? (hit t kd m) = none) ∧ Aside (Ext w2 wr))
      case atStart => exact ⟨0, Nat.zero_le _, by omega, rfl, A, HEK⟩
      case round =>
        obtain ⟨i, hi, hg2, rfl, A2, HEL⟩ := hrel
        have HEX := Lib.hid (HE2.out.trans' HEL.out)
        have HXC := Lib.hid (HEL.out.hp HX0.out)
        have HXD := Lib.hid (HEL.out.hp HX1.out)
        have a0 := cellOf HXC.out 0
        simp only [List.getElem?_toArray, List.getElem?_cons_zero] at a0
        have he1 := HEX.out.cl HHE0.out
        by_cases hlti : i < ne
        · have hltz2 : (i : Int) < (ne : Int) := by omega
          have hiz : (0 : Int) ≤ (i : Int) := by omega
          obtain ⟨EB, EO, EC, va, hee, hlE, hEB, k0, k1, k2, k3, k4, hA⟩ := event_at HE0.out i (by rw [HNE.out]; exact hlti)
          simp only [Value.slice.injEq] at hee
          obtain ⟨rfl, hzz, rfl⟩ := hee
          obtain ⟨ua, uc, rfl, huc⟩ := hA.sh
          have m0 := HEX.out.cl k0
          have m1 := HEX.out.cl k1
          have m2 := HEX.out.cl k2
          have m3 := HEX.out.cl k3
          have m4 := HEX.out.cl k4
          have HIN : Hid (Inn t (p, i)) := Lib.hid ⟨HPL.out, by show i < t[p]!.events.length; rw [HX.out, HNE.out]; exact hlti⟩
          have HHIT : Hid (hit t kd m (p, i) = (decide (x.events[i]!.kind = kd) && decide (x.events[i]!.msg = m))) := Lib.hid (by simp only [hit, show ev t (p, i) = x.events[i]! from by show t[p]!.events[i]! = _; rw [HX.out]])
          have HSN := Lib.hid (idsTo_succ t p i)
          have HPF := Lib.hid (idsTo_ids (i := i + 1) HPL.out (by rw [HX.out, HNE.out]; omega))
          generalize x.events[i]! = y at *
          generalize y.asg.length = na at *
          clear k0 k1 k2 k3 k4 hzz hA
          have HBE := Lib.hid (heap_alloc_new wr (.cells #[.int .i64 y.kind, .int .i64 y.peer, .int .i64 y.msg, .int .i64 y.time, .slice ua na uc] 62))
          have HXE := Lib.hid (((Ext.rf wr).al (.cells #[.int .i64 y.kind, .int .i64 y.peer, .int .i64 y.msg, .int .i64 y.time, .slice ua na uc] 62)).hp HXD.out)
          have HEY := Lib.hid (HEX.out.al (.cells #[.int .i64 y.kind, .int .i64 y.peer, .int .i64 y.msg, .int .i64 y.time, .slice ua na uc] 62))
          have HEZ := Lib.hid (HEL.out.al (.cells #[.int .i64 y.kind, .int .i64 y.peer, .int .i64 y.msg, .int .i64 y.time, .slice ua na uc] 62))
          obtain ⟨b1, hb1⟩ : ∃ b, (y.kind == kd) = b := ⟨_, rfl⟩
          obtain ⟨b2, hb2⟩ : ∃ b, (y.msg == m) = b := ⟨_, rfl⟩
          have HHB : Hid (hit t kd m (p, i) = (b1 && b2)) := Lib.hid (by rw [HHIT.out, ← hb1, ← hb2]; rfl)
          clear HHIT
          cases b1 with
          | true =>
            cases b2 with
            | true =>
              obtain rfl : fe = some (p, i) := by
                rw [← HFE.out]
                obtain ⟨post, hpost⟩ := HPF.out
                unfold findE firstIn
                rw [← hpost, HSN.out, List.find?_append, List.find?_append, A2.out, List.find?_cons, HHB.out]
                simp
              have q0 := cellOf HXE.out 0
              have q1 := cellOf HXE.out 1
              have f0 := freeOf HXE.out 0
              have f1 := freeOf HXE.out 1
              simp only [List.getElem?_toArray, List.getElem?_cons_zero, List.getElem?_cons_succ] at q0 q1
              go_wp2
              clear q0 q1 f0 f1
              have r0 := cellOf (id_set HXE.out (.int .i64 p) (.int .i64 ((i : Int) + 1))) 0
              have r1 := cellOf (id_set HXE.out (.int .i64 p) (.int .i64 ((i : Int) + 1))) 1
              simp only [List.getElem?_toArray, List.getElem?_cons_zero, List.getElem?_cons_succ] at r0 r1
              refine bodyPost_ret (v := .agg #[.int .i64 p, .int .i64 ((i : Int) + 1)]) (by simp [results, Tryz.results92, go_sem, r0, r1]) rfl ?_
              exact ⟨rfl, id_ext HEY.out (by omega) _ _⟩
            | false =>
              go_wp2
              go_roundg (ne - (i + 1))
              case measure => omega
              case rel => exact ⟨i + 1, by omega, by omega, by go_num, (show (idsTo t p (i + 1)).find? (hit t kd m) = none from by rw [HSN.out, List.find?_append, A2.out]; simp [HHB.out]), (show Ext _ _ from HEZ.out)⟩
          | false =>
            go_wp2
            go_roundg (ne - (i + 1))
            case measure => omega
            case rel => exact ⟨i + 1, by omega, by omega, by go_num, (show (idsTo t p (i + 1)).find? (hit t kd m) = none from by rw [HSN.out, List.find?_append, A2.out]; simp [HHB.out]), (show Ext _ _ from HEZ.out)⟩
        · have hltz2 : ¬ (i : Int) < (ne : Int) := by omega
          obtain rfl : i = ne := by omega
          go_wp2
          go_roundg (N - (p + 1))
          case measure => omega
          case rel => exact ⟨p + 1, by omega, by omega, by go_num, (show (idsTo t (p + 1) 0).find? (hit t kd m) = none from by rw [← HNX.out]; exact A2.out), HEL⟩
    · have hltz : ¬ (p : Int) < (N : Int) := by omega
      obtain rfl : p = N := by omega
      obtain rfl : fe = none := by rw [← HFE.out]; unfold findE firstIn ids; rw [HL.out]; exact A.out
      have q0 := cellOf HXB.out 0
      have q1 := cellOf HXB.out 1
      have f0 := freeOf HXB.out 0
      have f1 := freeOf HXB.out 1
      simp only [List.getElem?_toArray, List.getElem?_cons_zero, List.getElem?_cons_succ] at q0 q1
      go_wp2
      clear q0 q1 f0 f1
      have r0 := cellOf (id_set HXB.out (.int .i64 0) (.int .i64 0)) 0
      have r1 := cellOf (id_set HXB.out (.int .i64 0) (.int .i64 0)) 1
      simp only [List.getElem?_toArray, List.getElem?_cons_zero, List.getElem?_cons_succ] at r0 r1
      exact bodyPost_ret (v := .agg #[.int .i64 0, .int .i64 0]) (by simp [results, Tryz.results92, go_sem, r0, r1]) rfl ⟨rfl, id_ext HEW.out (by omega) _ _⟩

end Go.Proofs.YtfcpnggdpaeldaaGreat
