import Derived.Test.YtfagfooggcinoaaJa
import Derived.Test.YtfagfooggcinoaaProg
import Derived.Test.YtfagfooggcinoaaGa
import Derived.BigQuiet
import Derived.Deep.QuietTactic
import Derived.Deep.LoopGhost
import Derived.Shelf.Abstract
namespace Go.Proofs.Ytfagfooggcinoaa
open Go.RowKit
set_option linter.unusedVariables false
def exT : Tr := [⟨⟨#[97]⟩, [], [⟨2, 1, 1, 0, []⟩, ⟨1, 0, 0, 0, []⟩]⟩, ⟨⟨#[98]⟩, [], [⟨1, 0, 0, 0, []⟩, ⟨3, 0, 1, 0, []⟩]⟩]
def exA : List Value := [.int .i64 2, .int .i64 1, .int .i64 1, .int .i64 0, .slice none 0 0, .int .i64 1, .int .i64 0, .int .i64 0, .int .i64 0, .slice none 0 0]
def exB : List Value := [.int .i64 1, .int .i64 0, .int .i64 0, .int .i64 0, .slice none 0 0, .int .i64 3, .int .i64 0, .int .i64 1, .int .i64 0, .slice none 0 0]
def exC (n : Nat) : List Value := [.string ⟨#[97]⟩, .slice none 0 0, .slice (some ⟨n + 1, 0, none⟩) 2 2, .string ⟨#[98]⟩, .slice none 0 0, .slice (some ⟨n + 1 + 1, 0, none⟩) 2 2]
theorem sl_none {α : Type} [Inhabited α] (R : World → List Value → α → Prop) (k : Nat) (w : World) : Sl R k w (.slice none 0 0) [] := ⟨none, 0, rfl, Nat.le_refl _, fun h => absurd rfl h⟩
theorem two_at {n : Nat} (h : n < 2) : n = 0 ∨ n = 1 := by omega
theorem exT_at {W : World} {n : Nat} {e f : TypeId} (h1 : W.heap[n + 1]? = some (.cells exA.toArray e)) (h2 : W.heap[n + 2]? = some (.cells exB.toArray e)) (h3 : W.heap[n + 3]? = some (.cells (exC n).toArray f)) :
  TrAt W (.slice (some ⟨n + 1 + 1 + 1, 0, none⟩) 2 2) exT := by
 have a1 : Sl REv 5 W (.slice (some ⟨n + 1, 0, none⟩) 2 2) [⟨2, 1, 1, 0, []⟩, ⟨1, 0, 0, 0, []⟩] :=
  (cells_laid 5 2 h1 rfl).sl (R := REv) (l := ([⟨2, 1, 1, 0, []⟩, ⟨1, 0, 0, 0, []⟩] : List Ev)) (fun i hi => by
   rcases two_at hi with rfl | rfl
   ·exact ⟨_, rfl, sl_none _ _ _⟩
   ·exact ⟨_, rfl, sl_none _ _ _⟩)
 have a2 : Sl REv 5 W (.slice (some ⟨n + 1 + 1, 0, none⟩) 2 2) [⟨1, 0, 0, 0, []⟩, ⟨3, 0, 1, 0, []⟩] :=
  (cells_laid 5 2 h2 rfl).sl (R := REv) (l := ([⟨1, 0, 0, 0, []⟩, ⟨3, 0, 1, 0, []⟩] : List Ev)) (fun i hi => by
   rcases two_at hi with rfl | rfl
   ·exact ⟨_, rfl, sl_none _ _ _⟩
   ·exact ⟨_, rfl, sl_none _ _ _⟩)
 exact (cells_laid 3 2 h3 rfl).sl (R := RPr) (l := exT) (fun i hi => by
  rcases two_at hi with rfl | rfl
  ·exact ⟨_, _, rfl, sl_none _ _ _, a1⟩
  ·exact ⟨_, _, rfl, sl_none _ _ _, a2⟩)
set_option maxHeartbeats 2000000 in
theorem example_calls (w : World) : Calls Try.prog 22 #[] w fun e w' => ∃ v, e = .returned (.agg #[v]) ∧ TrAt w' v exT ∧ Ext w w' := by
 go_enter Try.func22, Try.ntmps22
 go_wp2
 have hb := fun i o => allocs_at [.cells #[.slice (some ⟨w.heap.size + 1 + 1 + 1, 0, none⟩) 2 2] 24, .cells (exA).toArray 56, .cells (exB).toArray 56, .cells (exC w.heap.size).toArray 52] w i o
 have h0 := cellOf (hb 0 _ rfl) 0
 have r0 := h0
 simp only [List.getElem?_toArray, List.getElem?_cons_zero, Nat.add_zero] at r0
 refine bodyPost_ret (v := .agg #[.slice (some ⟨w.heap.size + 1 + 1 + 1, 0, none⟩) 2 2]) (by simp [results, Try.results22, go_sem]) rfl ?_
 exact ⟨_, rfl, exT_at (hb 1 _ rfl) (hb 2 _ rfl) (hb 3 _ rfl), (by repeat (first | refine Ext.st ?_ (by first | exact Nat.le_refl _ | exact Nat.le_succ _ | assumption | omega) _ | refine Ext.al ?_ _ | refine Ext.dr ?_ | refine Ext.drN ?_ _ | exact Ext.rf _))⟩
end Go.Proofs.Ytfagfooggcinoaa
namespace Go.Proofs.Ytfagfooggcinoaa
set_option linter.unusedVariables false
structure Mk where
 cnt : Int
 closed : List Bool
 chan : List (List Int)
deriving Inhabited, DecidableEq
structure Mr where
 sent : Bool
 arr : Bool
 due : Int
deriving Inhabited, DecidableEq
structure Sn where
 l : List Mk
 at_ : List Int
deriving Inhabited, DecidableEq
theorem setG_at {α : Type} [Inhabited α] {l : List α} {k : Nat} (hk : k < l.length) (b : α) : (l.set k b)[k]! = b := by
 rw [getElem!_pos _ k (by rw [List.length_set]; exact hk), List.getElem_set_self]
theorem setG_ne {α : Type} [Inhabited α] {l : List α} {k j : Nat} (h : j ≠ k) (x : α) : (l.set k x)[j]! = l[j]! := by
 by_cases hj : j < l.length
 ·rw [getElem!_pos _ j (by rw [List.length_set]; exact hj), getElem!_pos l j hj, List.getElem_set_ne (fun e => h e.symm)]
 ·rw [getElem!_neg _ j (by rw [List.length_set]; exact hj), getElem!_neg l j hj]
theorem listG_ext {α : Type} [Inhabited α] {a b : List α} (hl : a.length = b.length) (h : ∀ j, j < a.length → a[j]! = b[j]!) : a = b :=
 List.ext_getElem hl fun i h1 h2 => by
  have := h i h1
  rwa [getElem!_pos a i h1, getElem!_pos b i h2] at this
def mk0 (n : Nat) : Mk := ⟨-1, List.replicate n false, List.replicate n []⟩
def begL (n : Nat) : List Mk := List.replicate n (mk0 n)
def recL (l : List Mk) (p : Nat) (c : Int) : List Mk := l.set p ⟨c, l[p]!.closed.set p true, l[p]!.chan⟩
def closeK (l : List Mk) (q f : Nat) : List Mk := l.set q { l[q]! with closed := l[q]!.closed.set f true }
def noteL (l : List Mk) (q f : Nat) (x : Int) : List Mk := l.set q { l[q]! with chan := l[q]!.chan.set f (l[q]!.chan[f]! ++ [x]) }
def markB (n i : Nat) (m : Mk) : Bool :=
 decide (-1 ≤ m.cnt) && (decide (m.cnt ≤ 64) && (decide (m.closed.length = n) && (decide (m.chan.length = n) &&
  (if m.cnt = -1 then m.closed.all (fun b => !b) && m.chan.all (fun c => c.isEmpty) else m.closed[i]! && m.chan[i]!.isEmpty))))
def allMsgs (l : List Mk) : List Int := l.flatMap fun m => m.chan.flatten
def validK (l : List Mk) : Bool :=
 decide (1 ≤ l.length) && (decide (l.length ≤ 8) && (((List.range l.length).all fun i => markB l.length i l[i]!) && (decide (allMsgs l).Nodup && (allMsgs l).all fun x => decide (0 ≤ x) && decide (x ≤ 199))))
def cntsL (l : List Mk) : List Int := l.map (·.cnt)
def recordedB (l : List Mk) : Bool := l.all fun m => decide (0 ≤ m.cnt)
def rAt (r : List (List Int)) (i p : Nat) : Int := (r[i]!)[p]!
def aheadB (t : Tr) (q : Int) (b : Int) (x : Eid) : Bool :=
 decide ((ev t x).kind = 2) && (decide ((ev t x).peer = q) && (match findE t 3 (ev t x).msg with | none => true | some r => decide (b < (r.2 : Int) + 1)))
def aheadTo (t : Tr) (q b : Int) (p k : Nat) : List Int := ((List.range k).filter fun (j : Nat) => aheadB t q b (p, j)).map fun (j : Nat) => (ev t (p, j)).msg
def lostB (t : Tr) (q : Int) (x : Eid) : Bool := decide ((ev t x).kind = 2) && (decide ((ev t x).peer = q) && (findE t 3 (ev t x).msg).isNone)
def lostTo (t : Tr) (q : Int) (p k : Nat) : List Int := ((List.range k).filter fun (j : Nat) => lostB t q (p, j)).map fun (j : Nat) => (ev t (p, j)).msg
def freeB (t : Tr) (q b : Int) (p k : Nat) : Bool := (List.range k).all fun j => !aheadB t q b (p, j)
theorem lostTo_yes {t : Tr} {q : Int} {p i : Nat} (h : lostB t q (p, i) = true) : lostTo t q p (i + 1) = lostTo t q p i ++ [(ev t (p, i)).msg] := by
 unfold lostTo; rw [List.range_succ, List.filter_append, List.filter_cons_of_pos (p := fun (j : Nat) => lostB t q (p, j)) (a := i) h, List.map_append]; rfl
theorem lostTo_no {t : Tr} {q : Int} {p i : Nat} (h : lostB t q (p, i) = false) : lostTo t q p (i + 1) = lostTo t q p i := by
 unfold lostTo; rw [List.range_succ, List.filter_append, List.filter_cons_of_neg (p := fun (j : Nat) => lostB t q (p, j)) (a := i) (by rw [h]; decide)]; simp
theorem lostTo_len (t : Tr) (q : Int) (p i : Nat) : (lostTo t q p i).length ≤ i := by
 unfold lostTo; rw [List.length_map]; exact Nat.le_trans (List.length_filter_le _ _) (by simp)
theorem freeB_no {t : Tr} {q b : Int} {p k j : Nat} (hj : j < k) (h : aheadB t q b (p, j) = true) : freeB t q b p k = false := by
 unfold freeB; rw [List.all_eq_false]; exact ⟨j, List.mem_range.2 hj, by rw [h]; simp⟩
theorem freeB_yes {t : Tr} {q b : Int} {p k : Nat} (h : ∀ j, j < k → aheadB t q b (p, j) = false) : freeB t q b p k = true := by
 unfold freeB; rw [List.all_eq_true]; exact fun j hj => by rw [h j (List.mem_range.1 hj)]; rfl
def mAt (l : List Mk) (at_ : List Int) (d : Int) (f t : Nat) : Mr := if f ≠ t ∧ l[f]!.cnt ≠ -1 then ⟨true, l[t]!.closed[f]!, at_[f]! + d⟩ else ⟨false, false, 0⟩
def mRow (n : Nat) (d : Int) (A : Sn) (f : Nat) : List Mr := (List.range n).map fun t => mAt A.l A.at_ d f t
def mOf (n : Nat) (d : Int) (A : Sn) : List (List Mr) := (List.range n).map fun f => mRow n d A f
theorem mRow_len (n : Nat) (d : Int) (A : Sn) (f : Nat) : (mRow n d A f).length = n := by simp [mRow]
theorem mOf_len (n : Nat) (d : Int) (A : Sn) : (mOf n d A).length = n := by simp [mOf]
theorem mRow_at {n : Nat} {d : Int} {A : Sn} {f t : Nat} (ht : t < n) : (mRow n d A f)[t]! = mAt A.l A.at_ d f t := by
 rw [getElem!_pos _ t (by rw [mRow_len]; exact ht)]; simp [mRow]
theorem mOf_at {n : Nat} {d : Int} {A : Sn} {f : Nat} (hf : f < n) : (mOf n d A)[f]! = mRow n d A f := by
 rw [getElem!_pos _ f (by rw [mOf_len]; exact hf)]; simp [mOf]
def sendRow (n p : Nat) (due : Int) (row : List Mr) (k : Nat) : List Mr := (List.range n).map fun q => if q < k ∧ q ≠ p then ⟨true, false, due⟩ else row[q]!
theorem sendRow_len (n p : Nat) (due : Int) (row : List Mr) (k : Nat) : (sendRow n p due row k).length = n := by simp [sendRow]
theorem sendRow_at {n p : Nat} {due : Int} {row : List Mr} {k q : Nat} (hq : q < n) : (sendRow n p due row k)[q]! = if q < k ∧ q ≠ p then ⟨true, false, due⟩ else row[q]! := by
 rw [getElem!_pos _ q (by rw [sendRow_len]; exact hq)]; simp [sendRow]
theorem sendRow_zero {n p : Nat} {due : Int} {row : List Mr} (hl : row.length = n) : sendRow n p due row 0 = row :=
 listG_ext (by rw [sendRow_len, hl]) fun j hj => by rw [sendRow_len] at hj; rw [sendRow_at hj, if_neg (by omega)]
theorem sendRow_self {n p : Nat} {due : Int} {row : List Mr} : sendRow n p due row (p + 1) = sendRow n p due row p :=
 listG_ext (by rw [sendRow_len, sendRow_len]) fun j hj => by
  rw [sendRow_len] at hj; rw [sendRow_at hj, sendRow_at hj]
  have : (j < p + 1 ∧ j ≠ p) = (j < p ∧ j ≠ p) := by rw [eq_iff_iff]; omega
  simp only [this]
theorem sendRow_step {n p : Nat} {due : Int} {row : List Mr} {k : Nat} (hk : k < n) (hp : k ≠ p) : (sendRow n p due row k).set k ⟨true, false, due⟩ = sendRow n p due row (k + 1) :=
 listG_ext (by rw [List.length_set, sendRow_len, sendRow_len]) fun j hj => by
  rw [List.length_set, sendRow_len] at hj
  by_cases e : j = k
  ·subst e; rw [setG_at (by rw [sendRow_len]; exact hj), sendRow_at hj, if_pos ⟨by omega, hp⟩]
  ·rw [setG_ne e, sendRow_at hj, sendRow_at hj]
   have : (j < k ∧ j ≠ p) = (j < k + 1 ∧ j ≠ p) := by rw [eq_iff_iff]; omega
   simp only [this]
section
variable (t : Tr) (r : List (List Int)) (d : Int)
def aRec (A : Sn) (q i : Nat) : Sn := ⟨recL A.l q (rAt r i q), A.at_.set q i⟩
def aRec? (A : Sn) (q i : Nat) : Sn := if A.l[q]!.cnt = -1 then aRec r A q i else A
def aArr (A : Sn) (f q i : Nat) : Sn := ⟨closeK (aRec? r A q i).l q f, (aRec? r A q i).at_⟩
def condA (A : Sn) (i f q : Nat) : Bool :=
 decide (f ≠ q) && (decide (A.l[f]!.cnt ≠ -1) && (!A.l[q]!.closed[f]! && (decide (A.at_[f]! + d ≤ i) && freeB t q (rAt r i q) f A.l[f]!.cnt.toNat)))
def aStep (i : Nat) (X : Sn × Bool) (x : Nat × Nat) : Sn × Bool := if condA t r d X.1 i x.1 x.2 = true then (aArr r X.1 x.1 x.2 i, true) else X
def prsTo (n f k : Nat) : List (Nat × Nat) := ((List.range f).flatMap fun a => (List.range n).map fun b => (a, b)) ++ (List.range k).map fun b => (f, b)
def aPassTo (i : Nat) (A : Sn) (f k : Nat) : Sn × Bool := (prsTo A.l.length f k).foldl (aStep t r d i) (A, false)
def aPass (i : Nat) (A : Sn) : Sn × Bool := aPassTo t r d i A A.l.length 0
def aAll (i : Nat) : Nat → Sn → Sn
 | 0, A => A
 | k + 1, A => if (aPass t r d i A).2 = true then aAll i k (aPass t r d i A).1 else (aPass t r d i A).1
def opens (A : Sn) : Nat := (A.l.map fun m => (m.closed.filter fun b => !b).length).sum
def aAll' (i : Nat) (A : Sn) : Sn := aAll t r d i (opens A + 1) A
def aRecv (A : Sn) (q : Nat) (x : Ev) (i : Nat) : Sn :=
 let f := x.peer.toNat
 let B := if (decide (f ≠ q) && (decide (A.l[f]!.cnt ≠ -1) && (!A.l[q]!.closed[f]! && (match findE t 2 x.msg with | some s => decide (A.l[f]!.cnt < (s.2 : Int) + 1) | none => false)))) = true then aAll' t r d i (aArr r A f q i) else A
 if (decide (B.l[q]!.cnt ≠ -1) && !B.l[q]!.closed[f]!) = true then ⟨noteL B.l q f x.msg, B.at_⟩ else B
def movesP (r : List (List Int)) (i : Nat) : Nat := ((List.range r[i]!.length).find? fun p => decide (rAt r i p < rAt r (i + 1) p)).getD 0
def aEvent (A : Sn) (i : Nat) : Sn :=
 let q := movesP r i
 let x := ev t (q, (rAt r i q).toNat)
 if x.kind = 3 then aRecv t r d A q x i else A
def aRun : Nat → Nat → Sn → Sn
 | 0, _, A => A
 | k + 1, i, A => let B := aAll' t r d i A; if i + 1 = r.length then B else aRun k (i + 1) (aEvent t r d B i)
def endRec (l : List Mk) (last k : Nat) : List Mk := (List.range k).foldl (fun l q => if l[q]!.cnt = -1 then recL l q (rAt r last q) else l) l
def endCh (l : List Mk) (q f : Nat) : List Mk :=
 if l[q]!.closed[f]! = true then l else closeK (l.set q { l[q]! with chan := l[q]!.chan.set f (l[q]!.chan[f]! ++ lostTo t q f l[f]!.cnt.toNat) }) q f
def endTo (l : List Mk) (q k : Nat) : List Mk := (prsTo l.length q k).foldl (fun l x => endCh t l x.1 x.2) l
def aEnd (l : List Mk) : List Mk := endTo t (endRec r l (r.length - 1) l.length) l.length 0
def chanL (p a : Nat) : List Mk := aEnd t r (aRun t r d (r.length - a) a (aRec r ⟨begL t.length, List.replicate t.length 0⟩ p a)).l
end
theorem prsTo_zero (n : Nat) : prsTo n 0 0 = [] := rfl
theorem prsTo_succ (n f k : Nat) : prsTo n f (k + 1) = prsTo n f k ++ [(f, k)] := by unfold prsTo; rw [List.range_succ, List.map_append, List.append_assoc]; rfl
theorem prsTo_next (n f : Nat) : prsTo n f n = prsTo n (f + 1) 0 := by unfold prsTo; rw [List.range_succ, List.flatMap_append]; simp
structure InvA (t : Tr) (A : Sn) (b : Nat) : Prop where
 ll : A.l.length = t.length
 la : A.at_.length = t.length
 cl : ∀ q, q < t.length → A.l[q]!.closed.length = t.length
 ch : ∀ q, q < t.length → A.l[q]!.chan.length = t.length
 cnt : ∀ q, q < t.length → A.l[q]!.cnt = -1 ∨ (0 ≤ A.l[q]!.cnt ∧ A.l[q]!.cnt ≤ (t[q]!.events.length : Int))
 un : ∀ p, p < t.length → A.l[p]!.cnt = -1 → ∀ q, q < t.length → A.l[q]!.closed[p]! = false
 own : ∀ p, p < t.length → A.l[p]!.cnt ≠ -1 → A.l[p]!.closed[p]! = true
 at_ : ∀ q, q < t.length → 0 ≤ A.at_[q]! ∧ A.at_[q]! ≤ 1000000
 few : ∀ q, q < t.length → ∀ f, f < t.length → (A.l[q]!.chan[f]!).length ≤ b
 none : ∀ q, q < t.length → A.l[q]!.cnt = -1 → ∀ f, f < t.length → A.l[q]!.chan[f]! = []
theorem InvA.more {t : Tr} {A : Sn} {b b' : Nat} (h : InvA t A b) (hb : b ≤ b') : InvA t A b' :=
 ⟨h.ll, h.la, h.cl, h.ch, h.cnt, h.un, h.own, h.at_, fun q hq f hf => Nat.le_trans (h.few q hq f hf) hb, h.none⟩
def RunIn (t : Tr) (r : List (List Int)) : Prop := r.length ≤ 1000000 ∧ ∀ i, i < r.length → r[i]!.length = t.length ∧ ∀ p, p < t.length → 0 ≤ rAt r i p ∧ rAt r i p ≤ (t[p]!.events.length : Int)
section
variable {t : Tr} {r : List (List Int)} {A : Sn} {b : Nat}
theorem recL_len (l : List Mk) (p : Nat) (c : Int) : (recL l p c).length = l.length := by simp [recL]
theorem closeK_len (l : List Mk) (q f : Nat) : (closeK l q f).length = l.length := by simp [closeK]
theorem noteL_len (l : List Mk) (q f : Nat) (x : Int) : (noteL l q f x).length = l.length := by simp [noteL]
theorem recL_at {l : List Mk} {p : Nat} (hp : p < l.length) (c : Int) : (recL l p c)[p]! = ⟨c, l[p]!.closed.set p true, l[p]!.chan⟩ := setG_at hp _
theorem recL_ne {l : List Mk} {p q : Nat} (h : q ≠ p) (c : Int) : (recL l p c)[q]! = l[q]! := setG_ne h _
theorem closeK_at {l : List Mk} {q : Nat} (hq : q < l.length) (f : Nat) : (closeK l q f)[q]! = { l[q]! with closed := l[q]!.closed.set f true } := setG_at hq _
theorem closeK_ne {l : List Mk} {p q : Nat} (h : p ≠ q) (f : Nat) : (closeK l q f)[p]! = l[p]! := setG_ne h _
theorem noteL_at {l : List Mk} {q : Nat} (hq : q < l.length) (f : Nat) (x : Int) : (noteL l q f x)[q]! = { l[q]! with chan := l[q]!.chan.set f (l[q]!.chan[f]! ++ [x]) } := setG_at hq _
theorem noteL_ne {l : List Mk} {p q : Nat} (h : p ≠ q) (f : Nat) (x : Int) : (noteL l q f x)[p]! = l[p]! := setG_ne h _
theorem InvA.reco (h : InvA t A b) (hr : RunIn t r) {q i : Nat} (hq : q < t.length) (hi : i < r.length) (hc : A.l[q]!.cnt = -1) : InvA t (aRec r A q i) b := by
 have hql : q < A.l.length := by rw [h.ll]; exact hq
 have hrq := (hr.2 i hi).2 q hq
 refine ⟨(recL_len ..).trans h.ll, (List.length_set ..).trans h.la, fun p hp => ?_, fun p hp => ?_, fun p hp => ?_, fun p hp hn s hs => ?_, fun p hp hn => ?_, fun p hp => ?_, fun p hp f hf => ?_, fun p hp hn f hf => ?_⟩
 all_goals simp only [aRec] at *
 ·by_cases e : p = q
  ·subst e; rw [recL_at hql]; simpa using h.cl p hp
  ·rw [recL_ne e]; exact h.cl p hp
 ·by_cases e : p = q
  ·subst e; rw [recL_at hql]; exact h.ch p hp
  ·rw [recL_ne e]; exact h.ch p hp
 ·by_cases e : p = q
  ·subst e; rw [recL_at hql]; exact .inr hrq
  ·rw [recL_ne e]; exact h.cnt p hp
 ·have hpq : p ≠ q := by
   rintro rfl
   rw [recL_at hql] at hn
   simp only at hn
   omega
  rw [recL_ne hpq] at hn
  by_cases e : s = q
  ·subst e; rw [recL_at hql]; simp only; rw [setG_ne hpq]; exact h.un p hp hn s hs
  ·rw [recL_ne e]; exact h.un p hp hn s hs
 ·by_cases e : p = q
  ·subst e; rw [recL_at hql]; simp only; exact setG_at (by rw [h.cl p hp]; exact hp) _
  ·rw [recL_ne e] at hn ⊢; exact h.own p hp hn
 ·by_cases e : p = q
  ·subst e
   rw [setG_at (by rw [h.la]; exact hp)]
   have := hr.1; omega
  ·rw [setG_ne e]; exact h.at_ p hp
 ·by_cases e : p = q
  ·subst e; rw [recL_at hql]; exact h.few p hp f hf
  ·rw [recL_ne e]; exact h.few p hp f hf
 ·have hpq : p ≠ q := by
   rintro rfl
   rw [recL_at hql] at hn
   simp only at hn
   omega
  rw [recL_ne hpq] at hn ⊢
  exact h.none p hp hn f hf
theorem InvA.rec? (h : InvA t A b) (hr : RunIn t r) {q i : Nat} (hq : q < t.length) (hi : i < r.length) : InvA t (aRec? r A q i) b ∧ (aRec? r A q i).l[q]!.cnt ≠ -1 ∧ (∀ p, p ≠ q → (aRec? r A q i).l[p]! = A.l[p]!) := by
 have hql : q < A.l.length := by rw [h.ll]; exact hq
 unfold aRec?
 split
 ·rename_i hc
  refine ⟨h.reco hr hq hi hc, ?_, fun p hp => recL_ne hp _⟩
  show (recL A.l q (rAt r i q))[q]!.cnt ≠ -1
  rw [recL_at hql]
  have := (hr.2 i hi).2 q hq
  simp only; omega
 ·rename_i hc; exact ⟨h, hc, fun p _ => rfl⟩
theorem InvA.close (h : InvA t A b) {q f : Nat} (hq : q < t.length) (hf : f < t.length) (hc : A.l[f]!.cnt ≠ -1) : InvA t ⟨closeK A.l q f, A.at_⟩ b := by
 have hql : q < A.l.length := by rw [h.ll]; exact hq
 refine ⟨(closeK_len ..).trans h.ll, h.la, fun p hp => ?_, fun p hp => ?_, fun p hp => ?_, fun p hp hn s hs => ?_, fun p hp hn => ?_, h.at_, fun p hp g hg => ?_, fun p hp hn g hg => ?_⟩
 all_goals simp only at *
 ·by_cases e : p = q
  ·subst e; rw [closeK_at hql]; simpa using h.cl p hp
  ·rw [closeK_ne e]; exact h.cl p hp
 ·by_cases e : p = q
  ·subst e; rw [closeK_at hql]; exact h.ch p hp
  ·rw [closeK_ne e]; exact h.ch p hp
 ·by_cases e : p = q
  ·subst e; rw [closeK_at hql]; exact h.cnt p hp
  ·rw [closeK_ne e]; exact h.cnt p hp
 ·have hn2 : A.l[p]!.cnt = -1 := by
   by_cases e : p = q
   ·subst e; rw [closeK_at hql] at hn; exact hn
   ·rw [closeK_ne e] at hn; exact hn
  have hpf : p ≠ f := by rintro rfl; exact hc hn2
  by_cases e : s = q
  ·subst e; rw [closeK_at hql]; simp only; rw [setG_ne hpf]; exact h.un p hp hn2 s hs
  ·rw [closeK_ne e]; exact h.un p hp hn2 s hs
 ·by_cases e : p = q
  ·subst e
   rw [closeK_at hql] at hn ⊢
   simp only at hn ⊢
   by_cases e2 : p = f
   ·subst e2; exact setG_at (by rw [h.cl p hp]; exact hp) _
   ·rw [setG_ne e2]; exact h.own p hp hn
  ·rw [closeK_ne e] at hn ⊢; exact h.own p hp hn
 ·by_cases e : p = q
  ·subst e; rw [closeK_at hql]; exact h.few p hp g hg
  ·rw [closeK_ne e]; exact h.few p hp g hg
 ·by_cases e : p = q
  ·subst e; rw [closeK_at hql] at hn ⊢; exact h.none p hp hn g hg
  ·rw [closeK_ne e] at hn ⊢; exact h.none p hp hn g hg
theorem InvA.arr (h : InvA t A b) (hr : RunIn t r) {f q i : Nat} (hf : f < t.length) (hq : q < t.length) (hi : i < r.length) (hc : A.l[f]!.cnt ≠ -1) (hne : f ≠ q) : InvA t (aArr r A f q i) b := by
 obtain ⟨h1, h2, h3⟩ := h.rec? hr hq hi
 exact h1.close hq hf (by rw [h3 f hne]; exact hc)
theorem InvA.note (h : InvA t A b) {q f : Nat} (hq : q < t.length) (hf : f < t.length) (hc : A.l[q]!.cnt ≠ -1) (x : Int) : InvA t ⟨noteL A.l q f x, A.at_⟩ (b + 1) := by
 have hql : q < A.l.length := by rw [h.ll]; exact hq
 refine ⟨(noteL_len ..).trans h.ll, h.la, fun p hp => ?_, fun p hp => ?_, fun p hp => ?_, fun p hp hn s hs => ?_, fun p hp hn => ?_, h.at_, fun p hp g hg => ?_, fun p hp hn g hg => ?_⟩
 all_goals simp only at *
 ·by_cases e : p = q
  ·subst e; rw [noteL_at hql]; exact h.cl p hp
  ·rw [noteL_ne e]; exact h.cl p hp
 ·by_cases e : p = q
  ·subst e; rw [noteL_at hql]; simpa using h.ch p hp
  ·rw [noteL_ne e]; exact h.ch p hp
 ·by_cases e : p = q
  ·subst e; rw [noteL_at hql]; exact h.cnt p hp
  ·rw [noteL_ne e]; exact h.cnt p hp
 ·have hn2 : A.l[p]!.cnt = -1 := by
   by_cases e : p = q
   ·subst e; rw [noteL_at hql] at hn; exact hn
   ·rw [noteL_ne e] at hn; exact hn
  by_cases e : s = q
  ·subst e; rw [noteL_at hql]; exact h.un p hp hn2 s hs
  ·rw [noteL_ne e]; exact h.un p hp hn2 s hs
 ·by_cases e : p = q
  ·subst e; rw [noteL_at hql] at hn ⊢; exact h.own p hp hn
  ·rw [noteL_ne e] at hn ⊢; exact h.own p hp hn
 ·by_cases e : p = q
  ·subst e
   rw [noteL_at hql]
   simp only
   by_cases e2 : g = f
   ·subst e2
    rw [setG_at (by rw [h.ch p hp]; exact hg), List.length_append, List.length_singleton]
    have := h.few p hp g hg; omega
   ·rw [setG_ne e2]; exact Nat.le_succ_of_le (h.few p hp g hg)
  ·rw [noteL_ne e]; exact Nat.le_succ_of_le (h.few p hp g hg)
 ·by_cases e : p = q
  ·subst e; rw [noteL_at hql] at hn; exact absurd hn hc
  ·rw [noteL_ne e] at hn ⊢; exact h.none p hp hn g hg
end
end Go.Proofs.Ytfagfooggcinoaa
namespace Go.Proofs.Ytfagfooggcinoaa
set_option linter.unusedVariables false
theorem sum_setG {α : Type} [Inhabited α] (g : α → Nat) : ∀ (l : List α) (q : Nat) (x : α), q < l.length → ((l.set q x).map g).sum + g l[q]! = (l.map g).sum + g x
 | [], q, x, h => absurd h (by simp)
 | a :: l, 0, x, h => by simp; omega
 | a :: l, q + 1, x, h => by
   have := sum_setG g l q x (by simpa using h)
   rw [List.set_cons_succ, List.map_cons, List.sum_cons, List.map_cons, List.sum_cons]
   have e : (a :: l)[q + 1]! = l[q]! := by simp
   rw [e]; omega
def openK (m : Mk) : Nat := (m.closed.filter fun b => !b).length
theorem opens_eq (A : Sn) : opens A = (A.l.map openK).sum := rfl
theorem filter_set_true : ∀ (l : List Bool) (f : Nat), f < l.length → l[f]! = false → ((l.set f true).filter fun b => !b).length + 1 = (l.filter fun b => !b).length
 | [], f, h, _ => absurd h (by simp)
 | a :: l, 0, h, h2 => by
   have : a = false := by simpa using h2
   subst this; simp
 | a :: l, f + 1, h, h2 => by
   have := filter_set_true l f (by simpa using h) (by simpa using h2)
   cases a <;> simp [List.set_cons_succ] at * <;> omega
theorem filter_set_le : ∀ (l : List Bool) (f : Nat), ((l.set f true).filter fun b => !b).length ≤ (l.filter fun b => !b).length
 | [], f => by simp
 | a :: l, 0 => by cases a <;> simp
 | a :: l, f + 1 => by
   have := filter_set_le l f
   cases a <;> simp [List.set_cons_succ] at * <;> omega
theorem opens_rec {r : List (List Int)} {A : Sn} {q i : Nat} (hq : q < A.l.length) : opens (aRec r A q i) ≤ opens A := by
 have h := sum_setG openK A.l q ⟨rAt r i q, A.l[q]!.closed.set q true, A.l[q]!.chan⟩ hq
 have h2 : openK ⟨rAt r i q, A.l[q]!.closed.set q true, A.l[q]!.chan⟩ ≤ openK A.l[q]! := filter_set_le _ _
 rw [opens_eq, opens_eq]
 show ((recL A.l q (rAt r i q)).map openK).sum ≤ _
 unfold recL; omega
theorem opens_rec? {r : List (List Int)} {A : Sn} {q i : Nat} (hq : q < A.l.length) : opens (aRec? r A q i) ≤ opens A := by
 unfold aRec?; split
 ·exact opens_rec hq
 ·exact Nat.le_refl _
theorem opens_close_lt {l : List Mk} {at_ : List Int} {q f : Nat} (hq : q < l.length) (hf : f < l[q]!.closed.length) (hc : l[q]!.closed[f]! = false) : opens ⟨closeK l q f, at_⟩ < opens ⟨l, at_⟩ := by
 have h := sum_setG openK l q { l[q]! with closed := l[q]!.closed.set f true } hq
 have h2 : openK { l[q]! with closed := l[q]!.closed.set f true } + 1 = openK l[q]! := filter_set_true _ _ hf hc
 rw [opens_eq, opens_eq]
 show ((l.set q { l[q]! with closed := l[q]!.closed.set f true }).map openK).sum < (l.map openK).sum
 omega
section
variable {t : Tr} {r : List (List Int)} {d : Int} {A : Sn} {b : Nat}
theorem opens_arr (h : InvA t A b) {f q i : Nat} (hf : f < t.length) (hq : q < t.length) (hne : f ≠ q) (hc : A.l[q]!.closed[f]! = false) : opens (aArr r A f q i) < opens A := by
 have hql : q < A.l.length := by rw [h.ll]; exact hq
 have h1 := opens_rec? (r := r) (i := i) hql
 have hll : (aRec? r A q i).l.length = A.l.length := by
  unfold aRec?; split
  ·exact recL_len ..
  ·rfl
 have hcq : (aRec? r A q i).l[q]!.closed[f]! = false ∧ (aRec? r A q i).l[q]!.closed.length = t.length := by
  unfold aRec?; split
  ·show (recL A.l q _)[q]!.closed[f]! = false ∧ (recL A.l q _)[q]!.closed.length = _
   rw [recL_at hql]
   exact ⟨(setG_ne hne _).trans hc, by simpa using h.cl q hq⟩
  ·exact ⟨hc, h.cl q hq⟩
 exact Nat.lt_of_lt_of_le (opens_close_lt (at_ := (aRec? r A q i).at_) (by rw [hll]; exact hql) (by rw [hcq.2]; exact hf) hcq.1) h1
theorem condA_parts {i f q : Nat} (h : condA t r d A i f q = true) : f ≠ q ∧ A.l[f]!.cnt ≠ -1 ∧ A.l[q]!.closed[f]! = false ∧ A.at_[f]! + d ≤ (i : Int) ∧ freeB t q (rAt r i q) f A.l[f]!.cnt.toNat = true := by
 unfold condA at h
 simp only [Bool.and_eq_true, decide_eq_true_eq, Bool.not_eq_true'] at h
 exact ⟨h.1, h.2.1, h.2.2.1, h.2.2.2.1, h.2.2.2.2⟩
theorem aStep_ok {i : Nat} {X : Sn × Bool} {x : Nat × Nat} (h : InvA t X.1 b) (hr : RunIn t r) (hi : i < r.length) (h1 : x.1 < t.length) (h2 : x.2 < t.length) :
  InvA t (aStep t r d i X x).1 b ∧ (((aStep t r d i X x).2 = true ∧ opens (aStep t r d i X x).1 < opens X.1) ∨ aStep t r d i X x = X) := by
 unfold aStep
 by_cases hc : condA t r d X.1 i x.1 x.2 = true
 ·rw [if_pos hc]
  obtain ⟨c1, c2, c3, _⟩ := condA_parts hc
  exact ⟨h.arr hr h1 h2 hi c2 c1, .inl ⟨rfl, opens_arr h h1 h2 c1 c3⟩⟩
 ·rw [if_neg hc]; exact ⟨h, .inr rfl⟩
theorem aFold_ok {i : Nat} (hr : RunIn t r) (hi : i < r.length) : ∀ (l : List (Nat × Nat)) (X : Sn × Bool), (∀ x ∈ l, x.1 < t.length ∧ x.2 < t.length) → InvA t X.1 b →
  InvA t (l.foldl (aStep t r d i) X).1 b ∧ (((l.foldl (aStep t r d i) X).2 = true ∧ opens (l.foldl (aStep t r d i) X).1 < opens X.1) ∨ l.foldl (aStep t r d i) X = X)
 | [], X, _, h => ⟨h, .inr rfl⟩
 | x :: l, X, hl, h => by
   obtain ⟨k1, k2⟩ := aStep_ok (d := d) h hr hi (hl x (by simp)).1 (hl x (by simp)).2
   obtain ⟨g1, g2⟩ := aFold_ok hr hi l (aStep t r d i X x) (fun y hy => hl y (by simp [hy])) k1
   rw [List.foldl_cons]
   refine ⟨g1, ?_⟩
   rcases k2 with ⟨k2, k3⟩ | k2
   ·rcases g2 with ⟨g2, g3⟩ | g2
    ·exact .inl ⟨g2, by omega⟩
    ·left; rw [g2]; exact ⟨k2, k3⟩
   ·rw [k2] at g2 ⊢; exact g2
theorem mem_prsTo {n f k : Nat} (hf : f ≤ n) (hk : k ≤ n) (h0 : k = 0 ∨ f < n) {x : Nat × Nat} (hx : x ∈ prsTo n f k) : x.1 < n ∧ x.2 < n := by
 unfold prsTo at hx
 rw [List.mem_append] at hx
 rcases hx with hx | hx
 ·obtain ⟨a, ha, hx⟩ := List.mem_flatMap.1 hx
  obtain ⟨c, hc, rfl⟩ := List.mem_map.1 hx
  exact ⟨by have := List.mem_range.1 ha; simp only; omega, List.mem_range.1 hc⟩
 ·obtain ⟨c, hc, rfl⟩ := List.mem_map.1 hx
  have := List.mem_range.1 hc
  exact ⟨by simp only; omega, by simp only; omega⟩
theorem aPassTo_ok {i f k : Nat} (h : InvA t A b) (hr : RunIn t r) (hi : i < r.length) (hf : f ≤ t.length) (hk : k ≤ t.length) (h0 : k = 0 ∨ f < t.length) :
  InvA t (aPassTo t r d i A f k).1 b ∧ (((aPassTo t r d i A f k).2 = true ∧ opens (aPassTo t r d i A f k).1 < opens A) ∨ aPassTo t r d i A f k = (A, false)) := by
 unfold aPassTo
 rw [h.ll]
 exact aFold_ok hr hi _ (A, false) (fun x hx => mem_prsTo hf hk h0 hx) h
theorem aPass_ok {i : Nat} (h : InvA t A b) (hr : RunIn t r) (hi : i < r.length) :
  InvA t (aPass t r d i A).1 b ∧ (((aPass t r d i A).2 = true ∧ opens (aPass t r d i A).1 < opens A) ∨ aPass t r d i A = (A, false)) := by
 unfold aPass; rw [h.ll]
 exact aPassTo_ok h hr hi (Nat.le_refl _) (Nat.zero_le _) (.inl rfl)
theorem aPassTo_succ {i f k : Nat} : aPassTo t r d i A f (k + 1) = aStep t r d i (aPassTo t r d i A f k) (f, k) := by
 unfold aPassTo; rw [prsTo_succ, List.foldl_append]; rfl
theorem aPassTo_next {i f n : Nat} (hn : A.l.length = n) : aPassTo t r d i A f n = aPassTo t r d i A (f + 1) 0 := by
 unfold aPassTo; rw [hn, prsTo_next]
theorem aAll_any {i : Nat} (hr : RunIn t r) (hi : i < r.length) : ∀ (k k' : Nat) (A : Sn), InvA t A b → opens A < k → opens A < k' → aAll t r d i k A = aAll t r d i k' A := by
 intro k
 induction k with
 | zero => intro k' A _ hk; exact absurd hk (Nat.not_lt_zero _)
 | succ k ih =>
   intro k' A h hk hk'
   obtain ⟨k', rfl⟩ : ∃ j, k' = j + 1 := ⟨k' - 1, by omega⟩
   obtain ⟨h1, h2⟩ := aPass_ok (d := d) h hr hi
   rw [aAll, aAll]
   by_cases hm : (aPass t r d i A).2 = true
   ·rw [if_pos hm, if_pos hm]
    rcases h2 with ⟨_, h2⟩ | h2
    ·exact ih k' _ h1 (by omega) (by omega)
    ·rw [h2] at hm; cases hm
   ·rw [if_neg hm, if_neg hm]
theorem aAll_fuel {i k : Nat} (h : InvA t A b) (hr : RunIn t r) (hi : i < r.length) (hk : opens A < k) : aAll t r d i k A = aAll' t r d i A := aAll_any hr hi k _ A h hk (Nat.lt_succ_self _)
theorem aAll'_more {i : Nat} (h : InvA t A b) (hr : RunIn t r) (hi : i < r.length) (hm : (aPass t r d i A).2 = true) : aAll' t r d i (aPass t r d i A).1 = aAll' t r d i A ∧ opens (aPass t r d i A).1 < opens A := by
 obtain ⟨h1, h2⟩ := aPass_ok (d := d) h hr hi
 have hlt : opens (aPass t r d i A).1 < opens A := by
  rcases h2 with ⟨_, h2⟩ | h2
  ·exact h2
  ·rw [h2] at hm; cases hm
 refine ⟨?_, hlt⟩
 show _ = aAll t r d i (opens A + 1) A
 rw [aAll, if_pos hm, aAll_fuel h1 hr hi hlt]
theorem aAll'_done {i : Nat} (h : InvA t A b) (hr : RunIn t r) (hi : i < r.length) (hm : (aPass t r d i A).2 = false) : aAll' t r d i A = A ∧ (aPass t r d i A).1 = A := by
 obtain ⟨h1, h2⟩ := aPass_ok (d := d) h hr hi
 have he : aPass t r d i A = (A, false) := by
  rcases h2 with ⟨h2, _⟩ | h2
  ·rw [h2] at hm; cases hm
  ·exact h2
 refine ⟨?_, by rw [he]⟩
 show aAll t r d i (opens A + 1) A = A
 rw [aAll, if_neg (by rw [hm]; simp), he]
theorem list2_ext {α : Type} {n : Nat} {a b : List (List α)} [Inhabited α] (ha : a.length = n) (hb : b.length = n) (h1 : ∀ f, f < n → a[f]!.length = n) (h2 : ∀ f, f < n → b[f]!.length = n) (h : ∀ f q, f < n → q < n → (a[f]!)[q]! = (b[f]!)[q]!) : a = b :=
 listG_ext (by rw [ha, hb]) fun f hf => listG_ext (by rw [h1 f (by omega), h2 f (by omega)]) fun q hq => h f q (by omega) (by have := h1 f (by omega); omega)
theorem mOf_get {n f q : Nat} (hf : f < n) (hq : q < n) : ((mOf n d A)[f]!)[q]! = mAt A.l A.at_ d f q := by rw [mOf_at hf, mRow_at hq]
def arrM (m : List (List Mr)) (f q : Nat) : List (List Mr) := m.set f (m[f]!.set q { (m[f]!)[q]! with arr := true })
def sendM (n q : Nat) (due : Int) (m : List (List Mr)) : List (List Mr) := m.set q (sendRow n q due m[q]! n)
theorem arrM_get {n : Nat} {m : List (List Mr)} {f q a c : Nat} (hm : m.length = n) (hr : m[f]!.length = n) (hf : f < n) (hq : q < n) : ((arrM m f q)[a]!)[c]! = if a = f ∧ c = q then { (m[f]!)[q]! with arr := true } else (m[a]!)[c]! := by
 unfold arrM
 by_cases e : a = f
 ·subst e
  rw [setG_at (by omega)]
  by_cases e2 : c = q
  ·subst e2; rw [setG_at (by omega), if_pos ⟨rfl, rfl⟩]
  ·rw [setG_ne e2, if_neg (by omega)]
 ·rw [setG_ne e, if_neg (by omega)]
theorem mOf_rec (h : InvA t A b) {q i : Nat} (hq : q < t.length) (hc : A.l[q]!.cnt = -1) (hn0 : rAt r i q ≠ -1) : sendM t.length q (i + d) (mOf t.length d A) = mOf t.length d (aRec r A q i) := by
 have hql : q < A.l.length := by rw [h.ll]; exact hq
 have hl : (sendM t.length q (i + d) (mOf t.length d A)).length = t.length := by unfold sendM; rw [List.length_set, mOf_len]
 refine list2_ext hl (mOf_len ..) (fun f hf => ?_) (fun f hf => by rw [mOf_at hf, mRow_len]) (fun f s hf hs => ?_)
 ·unfold sendM
  by_cases e : f = q
  ·subst e; rw [setG_at (by rw [mOf_len]; exact hf), sendRow_len]
  ·rw [setG_ne e, mOf_at hf, mRow_len]
 rw [mOf_get hf hs]
 unfold sendM
 by_cases e : f = q
 ·subst e
  rw [setG_at (by rw [mOf_len]; exact hf), sendRow_at hs]
  unfold mAt
  by_cases e2 : s = f
  ·subst e2
   rw [if_neg (by omega), if_neg (fun h => h.1 rfl), mOf_get hf hs]
   unfold mAt; rw [if_neg (fun h => h.1 rfl)]
  ·rw [if_pos ⟨hs, e2⟩]
   have h1 : (aRec r A f i).l[f]!.cnt = rAt r i f := by show (recL A.l f _)[f]!.cnt = _; rw [recL_at hql]
   have h2 : (aRec r A f i).l[s]! = A.l[s]! := recL_ne e2 _
   have h3 : (aRec r A f i).at_[f]! = (i : Int) := setG_at (by rw [h.la]; exact hf) _
   rw [if_pos ⟨Ne.symm e2, by rw [h1]; exact hn0⟩, h2, h3, h.un f hf hc s hs]
 ·rw [setG_ne e, mOf_get hf hs]
  unfold mAt
  have h1 : (aRec r A q i).l[f]! = A.l[f]! := recL_ne e _
  have h3 : (aRec r A q i).at_[f]! = A.at_[f]! := setG_ne e _
  rw [h1, h3]
  by_cases hc2 : f ≠ s ∧ A.l[f]!.cnt ≠ -1
  ·rw [if_pos hc2, if_pos hc2]
   by_cases e2 : s = q
   ·subst e2
    have : (aRec r A s i).l[s]!.closed[f]! = A.l[s]!.closed[f]! := by show (recL A.l s _)[s]!.closed[f]! = _; rw [recL_at hql]; exact setG_ne e _
    rw [this]
   ·have h2 : (aRec r A q i).l[s]! = A.l[s]! := recL_ne e2 _
    rw [h2]
  ·rw [if_neg hc2, if_neg hc2]
theorem mOf_arr (h : InvA t A b) (hr : RunIn t r) {f q i : Nat} (hf : f < t.length) (hq : q < t.length) (hi : i < r.length) (hc : A.l[f]!.cnt ≠ -1) (hne : f ≠ q) :
  (if A.l[q]!.cnt = -1 then sendM t.length q (i + d) (arrM (mOf t.length d A) f q) else arrM (mOf t.length d A) f q) = mOf t.length d (aArr r A f q i) := by
 have hql : q < A.l.length := by rw [h.ll]; exact hq
 have hml := mOf_len t.length d A
 have hrl : ∀ a, a < t.length → (mOf t.length d A)[a]!.length = t.length := fun a ha => by rw [mOf_at ha, mRow_len]
 have key : ∀ B : Sn, (∀ p : Nat, B.l[p]!.cnt = (aArr r A f q i).l[p]!.cnt) → B.at_ = (aArr r A f q i).at_ → (∀ p s : Nat, p < t.length → s < t.length → ¬ (p = q ∧ s = f) → B.l[p]!.closed[s]! = (aArr r A f q i).l[p]!.closed[s]!) →
   (aArr r A f q i).l[q]!.closed[f]! = true → B.l[f]!.cnt ≠ -1 → arrM (mOf t.length d B) f q = mOf t.length d (aArr r A f q i) := by
  intro B k1 k2 k3 k4 k5
  have hmB := mOf_len t.length d B
  have hrB : ∀ a, a < t.length → (mOf t.length d B)[a]!.length = t.length := fun a ha => by rw [mOf_at ha, mRow_len]
  refine list2_ext (by unfold arrM; rw [List.length_set, hmB]) (mOf_len ..) (fun a ha => ?_) (fun a ha => by rw [mOf_at ha, mRow_len]) (fun a s ha hs => ?_)
  ·unfold arrM
   by_cases e : a = f
   ·subst e; rw [setG_at (by rw [hmB]; exact ha), List.length_set, hrB a ha]
   ·rw [setG_ne e, hrB a ha]
  ·rw [arrM_get hmB (hrB f hf) hf hq, mOf_get ha hs, mOf_get hf hq, mOf_get ha hs]
   unfold mAt
   by_cases e : a = f ∧ s = q
   ·obtain ⟨rfl, rfl⟩ := e
    rw [if_pos ⟨rfl, rfl⟩, if_pos ⟨hne, k5⟩, if_pos ⟨hne, by rw [← k1]; exact k5⟩, k4, k2]
   ·rw [if_neg e, ← k1 a, ← k2]
    by_cases hc2 : a ≠ s ∧ B.l[a]!.cnt ≠ -1
    ·rw [if_pos hc2, if_pos hc2, k3 s a hs ha (by omega)]
    ·rw [if_neg hc2, if_neg hc2]
 by_cases hcq : A.l[q]!.cnt = -1
 ·rw [if_pos hcq]
  have hrq := (hr.2 i hi).2 q hq
  have e1 : aArr r A f q i = ⟨closeK (recL A.l q (rAt r i q)) q f, A.at_.set q i⟩ := by unfold aArr aRec?; rw [if_pos hcq]; rfl
  have hrl2 : q < (recL A.l q (rAt r i q)).length := by rw [recL_len]; exact hql
  have e2 : sendM t.length q (i + d) (arrM (mOf t.length d A) f q) = arrM (sendM t.length q (i + d) (mOf t.length d A)) f q := by
   have g1 : (arrM (mOf t.length d A) f q)[q]! = (mOf t.length d A)[q]! := setG_ne (Ne.symm hne) _
   have g2 : (sendM t.length q (i + d) (mOf t.length d A))[f]! = (mOf t.length d A)[f]! := setG_ne hne _
   unfold sendM at g2 ⊢
   rw [g1]
   unfold arrM
   rw [g2, List.set_comm _ _ hne]
  rw [e2, mOf_rec h hq hcq (show rAt r i q ≠ -1 by omega)]
  refine key (aRec r A q i) (fun p => ?_) (by rw [e1]; rfl) (fun p s hp hs hps => ?_) ?_ ?_
  ·rw [e1]
   show (recL A.l q _)[p]!.cnt = _
   by_cases e : p = q
   ·subst e; rw [closeK_at hrl2]
   ·rw [closeK_ne e]
  ·rw [e1]
   show (recL A.l q _)[p]!.closed[s]! = (closeK (recL A.l q (rAt r i q)) q f)[p]!.closed[s]!
   by_cases e : p = q
   ·subst e; rw [closeK_at hrl2]; exact (setG_ne (fun e => hps ⟨rfl, e⟩) _).symm
   ·rw [closeK_ne e]
  ·rw [e1]
   show (closeK (recL A.l q (rAt r i q)) q f)[q]!.closed[f]! = true
   rw [closeK_at hrl2]
   exact setG_at (by rw [recL_at hql]; simp only [List.length_set]; rw [h.cl q hq]; exact hf) _
  ·show (recL A.l q _)[f]!.cnt ≠ -1
   rw [recL_ne hne]; exact hc
 ·rw [if_neg hcq]
  have e1 : aArr r A f q i = ⟨closeK A.l q f, A.at_⟩ := by unfold aArr aRec?; rw [if_neg hcq]
  refine key A (fun p => ?_) (by rw [e1]) (fun p s hp hs hps => ?_) ?_ hc
  ·rw [e1]
   show _ = (closeK A.l q f)[p]!.cnt
   by_cases e : p = q
   ·subst e; rw [closeK_at hql]
   ·rw [closeK_ne e]
  ·rw [e1]
   show _ = (closeK A.l q f)[p]!.closed[s]!
   by_cases e : p = q
   ·subst e; rw [closeK_at hql]; exact (setG_ne (fun e => hps ⟨rfl, e⟩) _).symm
   ·rw [closeK_ne e]
  ·rw [e1]
   show (closeK A.l q f)[q]!.closed[f]! = true
   rw [closeK_at hql]; exact setG_at (by rw [h.cl q hq]; exact hf) _
theorem mAt_cond {i f q : Nat} : ((mAt A.l A.at_ d f q).sent && (!(mAt A.l A.at_ d f q).arr && (decide ((mAt A.l A.at_ d f q).due ≤ (i : Int)) && freeB t q (rAt r i q) f A.l[f]!.cnt.toNat))) = condA t r d A i f q := by
 unfold condA mAt
 by_cases hc : f ≠ q ∧ A.l[f]!.cnt ≠ -1
 ·rw [if_pos hc, decide_eq_true hc.1, decide_eq_true hc.2]; rfl
 ·rw [if_neg hc]
  by_cases e : f = q
  ·rw [show decide (f ≠ q) = false from decide_eq_false (fun h => h e)]; rfl
  ·have : A.l[f]!.cnt = -1 := Classical.byContradiction fun h => hc ⟨e, h⟩
   rw [show decide (A.l[f]!.cnt ≠ -1) = false from decide_eq_false (fun h => h this), Bool.false_and]; simp
end
end Go.Proofs.Ytfagfooggcinoaa
namespace Go.Proofs.Ytfagfooggcinoaa
open Go.RowKit
set_option linter.unusedVariables false
def RowRows (w : World) (base : Nat) (e e' : TypeId) (enc : Int → Value) (v : Value) (l : List (List Int)) : Prop :=
 ∃ vs : List Value, Row w base e 1 v l.length vs ∧ ∀ i, i < l.length → Row w base e' 1 vs[i]! l[i]!.length (l[i]!.map enc)
end Go.Proofs.Ytfagfooggcinoaa
namespace Go.Proofs.Ytfagfooggcinoaa
open Go.RowKit
set_option linter.unusedVariables false
theorem Row.stO {w : World} {base g o : Nat} {e t : TypeId} {size : Nat} {v : Value} {n : Nat} {xs : List Value} {cs : Array Value} {fr : Nat × Nat} (h : Row w base e size v n xs) (hg : w.heap[g]? = some (.cells cs t fr)) (hne : t ≠ e) (u : Value) : Row (w.setCell ⟨g, o, none⟩ u) base e size v n xs :=
 h.st (p := ⟨g, o, none⟩) (h.notBox hg hne) u
theorem Row.block {w : World} {base : Nat} {e : TypeId} {size : Nat} {v : Value} {n : Nat} {xs : List Value} (h : Row w base e size v n xs) : ∀ k, v.ownBlock = some k → ∃ cs t fr, w.heap[k]? = some (.cells cs t fr) ∧ t = e := by
 intro k hk
 rcases h.2 with ⟨rfl, _⟩ | ⟨g, off, cap, cur, rfl, _, hg, _⟩
 ·simp [Value.ownBlock] at hk
 ·simp [Value.ownBlock] at hk
  subst hk
  exact ⟨cur, e, (0, 0), hg, rfl⟩
def QHs (w : World) (base : Nat) (e2 e3 : TypeId) (hs : List Value) (qs : List (List (List Int))) : Prop :=
 hs.length = qs.length ∧ (∀ p, p < qs.length → RowRows w base e2 e3 (Value.int .i64) hs[p]! qs[p]!) ∧
  ∀ p q, p < qs.length → q < qs.length → p ≠ q → hs[p]!.ownBlock = none ∨ hs[p]!.ownBlock ≠ hs[q]!.ownBlock
def OwnQs (w : World) (base : Nat) (e1 e2 e3 : TypeId) (uq : Value) (qs : List (List (List Int))) : Prop :=
 ∃ hs : List Value, Row w base e1 1 uq qs.length hs ∧ QHs w base e2 e3 hs qs
end Go.Proofs.Ytfagfooggcinoaa
namespace Go.Proofs.Ytfagfooggcinoaa
open Go.RowKit
set_option linter.unusedVariables false
def asC (a : Asg) : List Value := [.int .i64 a.var, .int .i64 a.value]
def vrC (x : Vr) : List Value := [.string x.name, .int .i64 x.init]
def evC (e : Ev) (u : Value) : List Value := [.int .i64 e.kind, .int .i64 e.peer, .int .i64 e.msg, .int .i64 e.time, u]
def prC3 (x : Pr) (u v : Value) : List Value := [.string x.name, u, v]
theorem flat_len {α : Type} {k : Nat} (f : α → List Value) (hf : ∀ x, (f x).length = k) (l : List α) : (l.flatMap f).length = l.length * k := by
 induction l with
 | nil => simp
 | cons a l ih => rw [List.flatMap_cons, List.length_append, hf, ih, List.length_cons, Nat.succ_mul]; omega
theorem flat_at {α : Type} [Inhabited α] {k : Nat} (f : α → List Value) (hf : ∀ x, (f x).length = k) : ∀ (l : List α) (i : Nat), i < l.length → ((l.flatMap f).drop (i * k)).take k = f l[i]! := by
 intro l
 induction l with
 | nil => intro i hi; exact absurd hi (by simp)
 | cons a l ih =>
   intro i hi
   rw [List.flatMap_cons]
   cases i with
   | zero => rw [Nat.zero_mul, List.drop_zero, List.take_left' (hf a)]; rfl
   | succ i =>
     rw [Nat.succ_mul, Nat.add_comm, ← List.drop_drop, List.drop_left' (hf a), ih i (by simpa using hi)]
     rw [getElem!_pos l i (by simpa using hi), getElem!_pos (a :: l) (i + 1) hi]; rfl
abbrev RowV (w : World) (base : Nat) (v : Value) (l : List Vr) : Prop := Row w base 60 2 v l.length (l.flatMap vrC)
abbrev RowA (w : World) (base : Nat) (v : Value) (l : List Asg) : Prop := Row w base 140 2 v l.length (l.flatMap asC)
def EvC (cs : List Value) (l : List Ev) (va : Nat → Value) : Prop := cs.length = l.length * 5 ∧ ∀ k, k < l.length → (cs.drop (k * 5)).take 5 = evC l[k]! (va k)
def PrC (cs : List Value) (l : List Pr) (vv ve : Nat → Value) : Prop := cs.length = l.length * 3 ∧ ∀ k, k < l.length → (cs.drop (k * 3)).take 3 = prC3 l[k]! (vv k) (ve k)
def OwnE (w : World) (base : Nat) (v : Value) (l : List Ev) (va : Nat → Value) : Prop :=
 ∃ cs, Row w base 56 5 v l.length cs ∧ EvC cs l va ∧ ∀ k, k < l.length → RowA w base (va k) l[k]!.asg
def OwnP (w : World) (base : Nat) (v : Value) (l : List Pr) (vv ve : Nat → Value) (va : Nat → Nat → Value) : Prop :=
 ∃ cs, Row w base 52 3 v l.length cs ∧ PrC cs l vv ve ∧ ∀ p, p < l.length → RowV w base (vv p) l[p]!.vars ∧ OwnE w base (ve p) l[p]!.events (va p)
def Dis (u v : Value) : Prop := u.ownBlock = none ∨ u.ownBlock ≠ v.ownBlock
theorem Dis.symm {u v : Value} (h : Dis u v) : Dis v u := by
 unfold Dis at *
 by_cases hv : v.ownBlock = none
 ·exact .inl hv
 ·refine .inr fun e => ?_
  rcases h with h | h
  ·rw [h] at e; exact hv e
  ·exact h e.symm
structure DisP (l : List Pr) (vv ve : Nat → Value) (va : Nat → Nat → Value) : Prop where
 v : ∀ p q, p < l.length → q < l.length → p ≠ q → Dis (vv p) (vv q)
 e : ∀ p q, p < l.length → q < l.length → p ≠ q → Dis (ve p) (ve q)
 a : ∀ p q i j, p < l.length → q < l.length → i < l[p]!.events.length → j < l[q]!.events.length → (p ≠ q ∨ i ≠ j) → Dis (va p i) (va q j)
theorem dis_new {w w' : World} {b1 b2 : Nat} {e1 e2 : TypeId} {s1 s2 n1 n2 : Nat} {u v : Value} {x1 x2 : List Value} (h1 : Row w b1 e1 s1 u n1 x1) (h2 : Row w' b2 e2 s2 v n2 x2) (hb : w.heap.size ≤ b2) : Dis u v := by
 cases hu : u.ownBlock with
 | none => exact .inl hu
 | some k =>
   refine .inr fun e => ?_
   have := (h1.lt k hu).2
   have := (h2.lt k (by rw [← e]; exact hu)).1
   omega
end Go.Proofs.Ytfagfooggcinoaa
namespace Go.Proofs.Ytfagfooggcinoaa
open Go.RowKit
set_option linter.unusedVariables false
def mixL {α : Type} (n i : Nat) (g1 g2 : Nat → α) : List α := (List.range n).map fun v => if v < i then g1 v else g2 v
abbrev RowI (w : World) (base : Nat) (v : Value) (l : List Int) : Prop := Row w base 3 1 v l.length (l.map (Value.int .i64))
theorem Dis.nilL {u : Value} : Dis (.slice none 0 0) u := .inl rfl
theorem Dis.nilR {u : Value} : Dis u (.slice none 0 0) := Dis.nilL.symm
def putF {α : Type} (f : Nat → α) (i : Nat) (x : α) : Nat → α := fun r => if r = i then x else f r
theorem putF_same {α : Type} {f : Nat → α} {i : Nat} {x : α} : putF f i x i = x := if_pos rfl
theorem putF_ne {α : Type} {f : Nat → α} {i r : Nat} {x : α} (h : r ≠ i) : putF f i x r = f r := if_neg h
structure Fam (w : World) (base n : Nat) (vs : Nat → Value) (ls : Nat → List Int) : Prop where
 row : ∀ i, i < n → RowI w base (vs i) (ls i)
 dis : ∀ i j, i < n → j < n → i ≠ j → Dis (vs i) (vs j)
end Go.Proofs.Ytfagfooggcinoaa
namespace Go.Proofs.Ytfagfooggcinoaa
open Go.RowKit
set_option linter.unusedVariables false
def RInts (w : World) (cs : List Value) (x : List Int) : Prop := ∃ u, cs = [u] ∧ Ints w u x
theorem rints_lasts : Lasts RInts := fun _ _ _ _ ⟨u, h, hb⟩ e => ⟨u, h, hb.ext e⟩
def RQueue (w : World) (cs : List Value) (x : List (List Int)) : Prop := ∃ u, cs = [u] ∧ Sl RInts 1 w u x
def RBool (w : World) (cs : List Value) (x : Bool) : Prop := cs = [.bool x]
theorem Sl.at1 {α : Type} [Inhabited α] {R : World → List Value → α → Prop} {w : World} {v : Value} {l : List α} (h : Sl R 1 w v l) (k : Nat) (hk : k < l.length) :
  ∃ b off c cv, v = .slice (some ⟨b, off, none⟩) l.length c ∧ l.length ≤ c ∧ b < w.heap.size ∧ w.cell? ⟨b, off + k, none⟩ = some cv ∧ R w [cv] l[k]! := by
 obtain ⟨a, c, rfl, hlc, h⟩ := h
 obtain ⟨b, off, rfl, hb, hc⟩ := h (by intro e; simp [e] at hk)
 obtain ⟨vs, h1, h2, h3⟩ := hc k hk
 match vs, h1 with
 | [cv], _ => exact ⟨b, off, c, cv, rfl, hlc, hb, by have := h3 0 (by omega); simpa using this, h2⟩
theorem Ints.at1 {w : World} {v : Value} {l : List Int} (h : Ints w v l) (k : Nat) (hk : k < l.length) :
  ∃ b off c, v = .slice (some ⟨b, off, none⟩) l.length c ∧ l.length ≤ c ∧ b < w.heap.size ∧ w.cell? ⟨b, off + k, none⟩ = some (.int .i64 l[k]!) := by
 obtain ⟨a, c, rfl, hlc, h⟩ := h
 obtain ⟨b, off, rfl, hb, hc⟩ := h (by intro e; simp [e] at hk)
 exact ⟨b, off, c, rfl, hlc, hb, hc k hk⟩
theorem Sl.shape {α : Type} [Inhabited α] {R : World → List Value → α → Prop} {k : Nat} {w : World} {v : Value} {l : List α} (h : Sl R k w v l) : ∃ a c, v = .slice a l.length c ∧ l.length ≤ c := by
 obtain ⟨a, c, h1, h2, _⟩ := h; exact ⟨a, c, h1, h2⟩
end Go.Proofs.Ytfagfooggcinoaa
namespace Go.Proofs.Ytfagfooggcinoaa
open Go.RowKit
set_option linter.unusedVariables false
theorem row_hp {w : World} {base g off cap n m : Nat} {e : TypeId} {size : Nat} {xs : List Value} (h : Row w base e size (.slice (some ⟨g, off, none⟩) m cap) n xs) : ∃ cur fr, w.heap[g]? = some (.cells cur e fr) := by
 rcases h.2 with ⟨e, _⟩ | ⟨g', off', cap', cur, e, _, hgg, _⟩
 ·cases e
 ·simp only [Value.slice.injEq, Option.some.injEq, Addr.mk.injEq, and_true] at e
  obtain ⟨⟨rfl, _⟩, _⟩ := e
  exact ⟨_, _, hgg⟩
def Bools (w : World) (v : Value) (l : List Bool) : Prop := CellsAt w v 1 l.length (l.map Value.bool)
theorem Bools.ext {w w' : World} {v : Value} {l : List Bool} (h : Bools w v l) (e : Ext w w') : Bools w' v l := CellsAt.ext h e
def RMk (w : World) (cs : List Value) (m : Mk) : Prop := ∃ u y, cs = [.int .i64 m.cnt, u, y] ∧ Bools w u m.closed ∧ Sl RInts 1 w y m.chan
theorem rmk_lasts : Lasts RMk := fun _ _ _ _ ⟨u, y, h, h1, h2⟩ e => ⟨u, y, h, h1.ext e, h2.ext rints_lasts e⟩
def mkCells (l : List Mk) (vc vh : Nat → Value) : List Value :=
 (List.range (l.length * 3)).map fun j => if j % 3 = 0 then .int .i64 l[j / 3]!.cnt else if j % 3 = 1 then vc (j / 3) else vh (j / 3)
section
variable {l : List Mk} {vc vh : Nat → Value}
theorem mkCells_len (l : List Mk) (vc vh : Nat → Value) : (mkCells l vc vh).length = l.length * 3 := by simp [mkCells]
theorem mkCells_get {j : Nat} (hj : j < l.length * 3) : (mkCells l vc vh)[j]? = some (if j % 3 = 0 then .int .i64 l[j / 3]!.cnt else if j % 3 = 1 then vc (j / 3) else vh (j / 3)) := by
 unfold mkCells
 rw [List.getElem?_map, List.getElem?_range hj]; rfl
theorem mkCells_0 {i : Nat} (hi : i < l.length) : (mkCells l vc vh)[i * 3]? = some (.int .i64 l[i]!.cnt) := by
 rw [mkCells_get (by omega), if_pos (by omega), show i * 3 / 3 = i by omega]
theorem mkCells_1 {i : Nat} (hi : i < l.length) : (mkCells l vc vh)[i * 3 + 1]? = some (vc i) := by
 rw [mkCells_get (by omega), if_neg (by omega), if_pos (by omega), show (i * 3 + 1) / 3 = i by omega]
theorem mkCells_2 {i : Nat} (hi : i < l.length) : (mkCells l vc vh)[i * 3 + 2]? = some (vh i) := by
 rw [mkCells_get (by omega), if_neg (by omega), if_neg (by omega), show (i * 3 + 2) / 3 = i by omega]
theorem mkCells_three {i : Nat} (hi : i < l.length) : ((mkCells l vc vh).drop (i * 3)).take 3 = [.int .i64 l[i]!.cnt, vc i, vh i] := by
 apply List.ext_getElem?
 intro j
 rw [List.getElem?_take]
 match j with
 | 0 => rw [if_pos (by omega), List.getElem?_drop, Nat.add_zero, mkCells_0 hi]; rfl
 | 1 => rw [if_pos (by omega), List.getElem?_drop, mkCells_1 hi]; rfl
 | 2 => rw [if_pos (by omega), List.getElem?_drop, mkCells_2 hi]; rfl
 | j + 3 => rw [if_neg (by omega)]; rfl
theorem mkCells_ext {l' : List Mk} {vc' vh' : Nat → Value} (hl : l'.length = l.length) (h : ∀ i, i < l.length → l'[i]!.cnt = l[i]!.cnt ∧ vc' i = vc i ∧ vh' i = vh i) : mkCells l' vc' vh' = mkCells l vc vh := by
 apply List.ext_getElem?
 intro j
 by_cases hj : j < l.length * 3
 ·obtain ⟨h1, h2, h3⟩ := h (j / 3) (by omega)
  rw [mkCells_get (by rw [hl]; exact hj), mkCells_get hj, h1, h2, h3]
 ·rw [List.getElem?_eq_none (by rw [mkCells_len]; omega), List.getElem?_eq_none (by rw [mkCells_len]; omega)]
theorem mkCells_set {l' : List Mk} {vc' vh' : Nat → Value} {i : Nat} {k : Nat} (hk : k < 3) {u : Value} (hi : i < l.length) (hl : l'.length = l.length) (h : ∀ j, j < l.length → j ≠ i → l'[j]!.cnt = l[j]!.cnt ∧ vc' j = vc j ∧ vh' j = vh j)
  (h0 : (Value.int .i64 l'[i]!.cnt) = if k = 0 then u else .int .i64 l[i]!.cnt) (h1 : vc' i = if k = 1 then u else vc i) (h2 : vh' i = if k = 2 then u else vh i) : (mkCells l vc vh).set (i * 3 + k) u = mkCells l' vc' vh' := by
 apply List.ext_getElem?
 intro j
 by_cases hj : j < l.length * 3
 ·rw [List.getElem?_set, mkCells_get (l := l') (by rw [hl]; exact hj), mkCells_len]
  by_cases e : i * 3 + k = j
  ·subst e
   rw [if_pos rfl, if_pos (by omega), show (i * 3 + k) / 3 = i by omega, h0, h1, h2]
   congr 1
   match k with
   | 0 => rw [if_pos (by omega), if_pos rfl]
   | 1 => rw [if_neg (by omega), if_pos (by omega), if_pos rfl]
   | 2 => rw [if_neg (by omega), if_neg (by omega), if_pos rfl]
   | k + 3 => omega
  ·rw [if_neg e, mkCells_get hj]
   congr 1
   by_cases e2 : j / 3 = i
   ·rw [e2, h0, h1, h2]
    have hjk : j % 3 ≠ k := by omega
    by_cases a0 : j % 3 = 0
    ·rw [if_pos a0, if_pos a0, if_neg (by omega)]
    ·rw [if_neg a0, if_neg a0]
     by_cases a1 : j % 3 = 1
     ·rw [if_pos a1, if_pos a1, if_neg (by omega)]
     ·rw [if_neg a1, if_neg a1, if_neg (by omega)]
   ·obtain ⟨g1, g2, g3⟩ := h (j / 3) (by omega) e2
    rw [g1, g2, g3]
 ·rw [List.getElem?_eq_none (by rw [List.length_set, mkCells_len]; omega), List.getElem?_eq_none (by rw [mkCells_len]; omega)]
theorem mkCells_snoc (m : Mk) (u y : Value) : mkCells (l ++ [m]) (putF vc l.length u) (putF vh l.length y) = mkCells l vc vh ++ [.int .i64 m.cnt, u, y] := by
 apply List.ext_getElem?
 intro j
 by_cases hj : j < l.length * 3
 ·rw [mkCells_get (by simp; omega), List.getElem?_append_left (by rw [mkCells_len]; exact hj), mkCells_get hj, putF_ne (by omega), putF_ne (by omega), getElem!_pos (l ++ [m]) _ (show j / 3 < (l ++ [m]).length by simp; omega), getElem!_pos l _ (show j / 3 < l.length by omega), List.getElem_append_left]
 ·rw [List.getElem?_append_right (by rw [mkCells_len]; omega), mkCells_len]
  by_cases hj3 : j < l.length * 3 + 3
  ·have hd : j / 3 = l.length := by omega
   rw [mkCells_get (by simp; omega), hd, putF_same, putF_same, getElem!_pos (l ++ [m]) _ (show l.length < (l ++ [m]).length by simp)]
   simp only [List.getElem_concat_length]
   obtain ⟨k, hk, rfl⟩ : ∃ k, k < 3 ∧ j = l.length * 3 + k := ⟨j - l.length * 3, by omega, by omega⟩
   rw [Nat.add_sub_cancel_left]
   match k with
   | 0 => rw [if_pos (by omega)]; rfl
   | 1 => rw [if_neg (by omega), if_pos (by omega)]; rfl
   | 2 => rw [if_neg (by omega), if_neg (by omega)]; rfl
   | k + 3 => omega
  ·rw [List.getElem?_eq_none (by rw [mkCells_len]; simp; omega), List.getElem?_eq_none (by simp; omega)]
end
structure OwnM (w : World) (base : Nat) (v : Value) (n k : Nat) (l : List Mk) (vc vh : Nat → Value) (vr : Nat → Nat → Value) : Prop where
 row : Row w base 48 3 v l.length (mkCells l vc vh)
 kle : k ≤ l.length
 shp : ∀ i, i < k → l[i]!.closed.length = n ∧ l[i]!.chan.length = n
 clo : ∀ i, i < k → Row w base 4 1 (vc i) n (l[i]!.closed.map Value.bool)
 hdr : ∀ i, i < k → Row w base 25 1 (vh i) n ((List.range n).map (vr i))
 cha : ∀ i, i < k → ∀ j, j < n → RowI w base (vr i j) l[i]!.chan[j]!
 dc : ∀ i j, i < k → j < k → i ≠ j → Dis (vc i) (vc j)
 dh : ∀ i j, i < k → j < k → i ≠ j → Dis (vh i) (vh j)
 dr : ∀ i j a c, i < k → j < n → a < k → c < n → ¬ (i = a ∧ j = c) → Dis (vr i j) (vr a c)
def put2 (f : Nat → Nat → Value) (i j : Nat) (x : Value) : Nat → Nat → Value := fun a c => if a = i ∧ c = j then x else f a c
theorem put2_same {f : Nat → Nat → Value} {i j : Nat} {x : Value} : put2 f i j x i j = x := if_pos ⟨rfl, rfl⟩
theorem put2_ne {f : Nat → Nat → Value} {i j a c : Nat} {x : Value} (h : ¬ (a = i ∧ c = j)) : put2 f i j x a c = f a c := if_neg h
section
variable {w w' : World} {base n k : Nat} {v : Value} {l : List Mk} {vc vh : Nat → Value} {vr : Nat → Nat → Value}
theorem OwnM.ext (h : OwnM w base v n k l vc vh vr) (x : Ext w w') : OwnM w' base v n k l vc vh vr :=
 ⟨h.row.ext x, h.kle, h.shp, fun i hi => (h.clo i hi).ext x, fun i hi => (h.hdr i hi).ext x, fun i hi j hj => (h.cha i hi j hj).ext x, h.dc, h.dh, h.dr⟩
theorem OwnM.mono {base' : Nat} (h : OwnM w base v n k l vc vh vr) (x : base' ≤ base) : OwnM w base' v n k l vc vh vr :=
 ⟨h.row.mono x, h.kle, h.shp, fun i hi => (h.clo i hi).mono x, fun i hi => (h.hdr i hi).mono x, fun i hi j hj => (h.cha i hi j hj).mono x, h.dc, h.dh, h.dr⟩
theorem OwnM.stO {g o : Nat} {t : TypeId} {cs : Array Value} {fr : Nat × Nat} (h : OwnM w base v n k l vc vh vr) (hg : w.heap[g]? = some (.cells cs t fr)) (h1 : t ≠ 48) (h2 : t ≠ 4) (h3 : t ≠ 25) (h4 : t ≠ 3) (u : Value) : OwnM (w.setCell ⟨g, o, none⟩ u) base v n k l vc vh vr :=
 ⟨h.row.stO hg h1 u, h.kle, h.shp, fun i hi => (h.clo i hi).stO hg h2 u, fun i hi => (h.hdr i hi).stO hg h3 u, fun i hi j hj => (h.cha i hi j hj).stO hg h4 u, h.dc, h.dh, h.dr⟩
theorem OwnM.grownO {b2 m s : Nat} {e : TypeId} {u : Value} {xs : List Value} (h : OwnM w base v n k l vc vh vr) (hu : Row w b2 e s u m xs) (h1 : e ≠ 48) (h2 : e ≠ 4) (h3 : e ≠ 25) (h4 : e ≠ 3) (hg : w.grownBy w' u.ownBlock) : OwnM w' base v n k l vc vh vr :=
 ⟨h.row.grown hg (h.row.apart hu (Ne.symm h1)), h.kle, h.shp, fun i hi => (h.clo i hi).grown hg ((h.clo i hi).apart hu (Ne.symm h2)), fun i hi => (h.hdr i hi).grown hg ((h.hdr i hi).apart hu (Ne.symm h3)), fun i hi j hj => (h.cha i hi j hj).grown hg ((h.cha i hi j hj).apart hu (Ne.symm h4)), h.dc, h.dh, h.dr⟩
theorem OwnM.setN {g o m cap i : Nat} (h : OwnM w base (.slice (some ⟨g, o, none⟩) m cap) n k l vc vh vr) (hi : i < l.length) (c : Int) :
  OwnM (w.setCell ⟨g, o + i * 3, none⟩ (.int .i64 c)) base (.slice (some ⟨g, o, none⟩) m cap) n k (l.set i { l[i]! with cnt := c }) vc vh vr := by
 obtain ⟨cur, fr, hg⟩ := row_hp h.row
 have hm : m = l.length := by obtain ⟨a, c, e, _⟩ := h.row.any; simp only [Value.slice.injEq] at e; exact e.2.1
 subst hm
 have hc : ∀ j : Nat, (l.set i { l[i]! with cnt := c })[j]!.closed = l[j]!.closed ∧ (l.set i { l[i]! with cnt := c })[j]!.chan = l[j]!.chan := fun j => by
  by_cases e : j = i
  ·subst e; rw [setG_at hi]; exact ⟨rfl, rfl⟩
  ·rw [setG_ne e]; exact ⟨rfl, rfl⟩
 refine ⟨?_, by rw [List.length_set]; exact h.kle, fun j hj => ?_, fun j hj => ?_, fun j hj => (h.hdr j hj).stO hg (by decide) _, fun j hj q hq => ?_, h.dc, h.dh, h.dr⟩
 ·have := h.row.set (i * 3) (.int .i64 c) (by omega)
  rw [show i * 3 = i * 3 + 0 by omega, mkCells_set (by omega) hi (List.length_set ..) (fun j hj hne => by rw [setG_ne hne]; exact ⟨rfl, rfl, rfl⟩) (show Value.int .i64 (l.set i { l[i]! with cnt := c })[i]!.cnt = _ by rw [setG_at hi, if_pos rfl]) (by simp) (by simp)] at this
  rw [List.length_set]; exact this
 ·rw [(hc j).1, (hc j).2]; exact h.shp j hj
 ·rw [(hc j).1]; exact (h.clo j hj).stO hg (by decide) _
 ·rw [(hc j).2]; exact (h.cha j hj q hq).stO hg (by decide) _
theorem OwnM.setB {g o cap i j : Nat} (h : OwnM w base v n k l vc vh vr) (hi : i < k) (hj : j < n) (hv : vc i = .slice (some ⟨g, o, none⟩) n cap) :
  OwnM (w.setCell ⟨g, o + j, none⟩ (.bool true)) base v n k (closeK l i j) vc vh vr := by
 have hik : i < l.length := Nat.lt_of_lt_of_le hi h.kle
 have hci := h.clo i hi
 rw [hv] at hci
 obtain ⟨cur, fr, hg⟩ := row_hp hci
 have hne : ∀ q : Nat, (closeK l i j)[q]!.cnt = l[q]!.cnt ∧ (closeK l i j)[q]!.chan = l[q]!.chan := fun q => by
  by_cases e : q = i
  ·subst e; rw [closeK_at hik]; exact ⟨rfl, rfl⟩
  ·rw [closeK_ne e]; exact ⟨rfl, rfl⟩
 refine ⟨?_, by rw [closeK_len]; exact h.kle, fun q hq => ?_, fun q hq => ?_, fun q hq => (h.hdr q hq).stO hg (by decide) _, fun q hq s hs => ?_, h.dc, h.dh, h.dr⟩
 ·rw [closeK_len, mkCells_ext (closeK_len ..) (fun q _ => ⟨(hne q).1, rfl, rfl⟩)]
  exact h.row.stO hg (by decide) _
 ·rw [(hne q).2]
  refine ⟨?_, (h.shp q hq).2⟩
  by_cases e : q = i
  ·subst e; rw [closeK_at hik]; simpa using (h.shp q hq).1
  ·rw [closeK_ne e]; exact (h.shp q hq).1
 ·by_cases e : q = i
  ·subst e
   rw [closeK_at hik, hv, List.map_set]
   exact hci.set j _ (by omega)
  ·rw [closeK_ne e]
   refine (h.clo q hq).st (p := ⟨g, o + j, none⟩) ?_ _
   intro e2
   rcases h.dc q i hq hi e with h1 | h1
   ·rw [h1] at e2; cases e2
   ·rw [e2, hv] at h1; exact h1 rfl
 ·rw [(hne q).2]; exact (h.cha q hq s hs).stO hg (by decide) _
theorem OwnM.reco {g o m cap g2 o2 cap2 i : Nat} (h : OwnM w base (.slice (some ⟨g, o, none⟩) m cap) n k l vc vh vr) (hi : i < k) (hin : i < n) (c : Int) (hv : vc i = .slice (some ⟨g2, o2, none⟩) n cap2) :
  OwnM ((w.setCell ⟨g, o + i * 3, none⟩ (.int .i64 c)).setCell ⟨g2, o2 + i, none⟩ (.bool true)) base (.slice (some ⟨g, o, none⟩) m cap) n k (recL l i c) vc vh vr := by
 have hil : i < l.length := Nat.lt_of_lt_of_le hi h.kle
 have h2 := (h.setN hil c).setB hi hin hv
 have e : closeK (l.set i { l[i]! with cnt := c }) i i = recL l i c := by unfold closeK recL; rw [setG_at hil, List.set_set]
 rwa [e] at h2
theorem OwnM.setH {g o cap i j : Nat} {v' : Value} {x : List Int} (h : OwnM w base v n k l vc vh vr) (hi : i < k) (hj : j < n) (hv : vh i = .slice (some ⟨g, o, none⟩) n cap)
  (hold : ∀ a c, a < k → c < n → ¬ (a = i ∧ c = j) → RowI w' base (vr a c) l[a]!.chan[c]!) (hnew : RowI w' base v' x) (hd : ∀ a c, a < k → c < n → ¬ (a = i ∧ c = j) → Dis v' (vr a c))
  (hrow : Row w' base 48 3 v l.length (mkCells l vc vh)) (hclo : ∀ a, a < k → Row w' base 4 1 (vc a) n (l[a]!.closed.map Value.bool)) (hhdr : ∀ a, a < k → Row w' base 25 1 (vh a) n ((List.range n).map (vr a))) :
  OwnM (w'.setCell ⟨g, o + j, none⟩ v') base v n k (l.set i { l[i]! with chan := l[i]!.chan.set j x }) vc vh (put2 vr i j v') := by
 have hik : i < l.length := Nat.lt_of_lt_of_le hi h.kle
 have hhi := hhdr i hi
 rw [hv] at hhi
 obtain ⟨cur, fr, hg⟩ := row_hp hhi
 have hne : ∀ q : Nat, (l.set i { l[i]! with chan := l[i]!.chan.set j x })[q]!.cnt = l[q]!.cnt ∧ (l.set i { l[i]! with chan := l[i]!.chan.set j x })[q]!.closed = l[q]!.closed := fun q => by
  by_cases e : q = i
  ·subst e; rw [setG_at hik]; exact ⟨rfl, rfl⟩
  ·rw [setG_ne e]; exact ⟨rfl, rfl⟩
 have hch : ∀ a c : Nat, a < k → c < n → (l.set i { l[i]! with chan := l[i]!.chan.set j x })[a]!.chan[c]! = if a = i ∧ c = j then x else l[a]!.chan[c]! := fun a c ha hc => by
  by_cases e : a = i
  ·subst e
   rw [setG_at hik]
   by_cases e2 : c = j
   ·subst e2; rw [if_pos ⟨rfl, rfl⟩]; exact setG_at (by rw [(h.shp a ha).2]; exact hc) _
   ·rw [if_neg (fun h => e2 h.2)]; exact setG_ne e2 _
  ·rw [setG_ne e, if_neg (fun h => e h.1)]
 refine ⟨?_, by rw [List.length_set]; exact h.kle, fun q hq => ?_, fun q hq => ?_, fun q hq => ?_, fun q hq s hs => ?_, h.dc, h.dh, fun a c a' c' ha hc ha' hc' hn => ?_⟩
 ·rw [List.length_set, mkCells_ext (List.length_set ..) (fun q _ => ⟨(hne q).1, rfl, rfl⟩)]
  exact hrow.stO hg (by decide) _
 ·rw [(hne q).2]
  refine ⟨(h.shp q hq).1, ?_⟩
  by_cases e : q = i
  ·subst e; rw [setG_at hik]; simpa using (h.shp q hq).2
  ·rw [setG_ne e]; exact (h.shp q hq).2
 ·rw [(hne q).2]; exact (hclo q hq).stO hg (by decide) _
 ·by_cases e : q = i
  ·subst e
   have h2 := hhi.set j v' (by omega)
   rw [hv]
   have e3 : ((List.range n).map (vr q)).set j v' = (List.range n).map (put2 vr q j v' q) := by
    apply List.ext_getElem?
    intro s
    by_cases hs : s < n
    ·rw [List.getElem?_set, List.getElem?_map, List.getElem?_map, List.getElem?_range hs, List.length_map, List.length_range]
     by_cases e4 : j = s
     ·subst e4; rw [if_pos rfl, if_pos hs]; exact congrArg some put2_same.symm
     ·rw [if_neg e4]; exact congrArg some (put2_ne (fun h => e4 h.2.symm)).symm
    ·rw [List.getElem?_eq_none (by simp; omega), List.getElem?_eq_none (by simp; omega)]
   rw [e3] at h2; exact h2
  ·have e3 : (List.range n).map (put2 vr i j v' q) = (List.range n).map (vr q) := List.map_congr_left fun s _ => put2_ne (fun h => e h.1)
   rw [e3]
   refine (hhdr q hq).st (p := ⟨g, o + j, none⟩) ?_ _
   intro e2
   rcases h.dh q i hq hi e with h1 | h1
   ·rw [h1] at e2; cases e2
   ·rw [e2, hv] at h1; exact h1 rfl
 ·rw [hch q s hq hs]
  by_cases e : q = i ∧ s = j
  ·obtain ⟨rfl, rfl⟩ := e
   rw [put2_same, if_pos ⟨rfl, rfl⟩]
   exact Row.stO hnew hg (by decide) _
  ·rw [put2_ne e, if_neg e]
   exact Row.stO (hold q s hq hs e) hg (by decide) _
 ·by_cases e1 : a = i ∧ c = j
  ·by_cases e2 : a' = i ∧ c' = j
   ·omega
   ·obtain ⟨rfl, rfl⟩ := e1
    rw [put2_same, put2_ne e2]
    exact hd a' c' ha' hc' e2
  ·by_cases e2 : a' = i ∧ c' = j
   ·obtain ⟨rfl, rfl⟩ := e2
    rw [put2_same, put2_ne e1]
    exact (hd a c ha hc e1).symm
   ·rw [put2_ne e1, put2_ne e2]; exact h.dr a c a' c' ha hc ha' hc' hn
theorem OwnM.note {g o cap i j : Nat} {v' : Value} {x : Int} (h : OwnM w base v n k l vc vh vr) (hi : i < k) (hj : j < n) (hv : vh i = .slice (some ⟨g, o, none⟩) n cap) (hg : w.grownBy w' (vr i j).ownBlock)
  (hr : Row w' base 3 1 v' ((l[i]!.chan[j]!).length + 1) ((l[i]!.chan[j]!).map (Value.int .i64) ++ [.int .i64 x])) (hb : v'.ownBlock = (vr i j).ownBlock ∨ ∃ q, v'.ownBlock = some q ∧ w.heap.size ≤ q) :
  OwnM (w'.setCell ⟨g, o + j, none⟩ v') base v n k (noteL l i j x) vc vh (put2 vr i j v') := by
 have hij := h.cha i hi j hj
 refine h.setH hi hj hv (fun a c ha hc hne => (h.cha a ha c hc).grown hg (h.dr a c i j ha hc hi hj hne)) ?_ (fun a c ha hc hne => ?_) (h.row.grown hg (h.row.apart hij (by decide))) (fun a ha => (h.clo a ha).grown hg ((h.clo a ha).apart hij (by decide))) (fun a ha => (h.hdr a ha).grown hg ((h.hdr a ha).apart hij (by decide)))
 ·rw [RowI, List.length_append, List.length_singleton, List.map_append]; exact hr
 ·rcases hb with hb | ⟨q, hb, hq⟩
  ·rcases h.dr i j a c hi hj ha hc (fun h => hne ⟨h.1.symm, h.2.symm⟩) with h1 | h1
   ·exact .inl (hb.trans h1)
   ·exact .inr (by rw [hb]; exact h1)
  ·refine .inr fun e => ?_
   rw [hb] at e
   have := ((h.cha a ha c hc).lt q e.symm).2
   omega
theorem OwnM.newR {g o cap i j b2 : Nat} {v' : Value} {x : List Int} (h : OwnM w base v n k l vc vh vr) (hi : i < k) (hj : j < n) (hv : vh i = .slice (some ⟨g, o, none⟩) n cap) (hx : Ext w w') (hr : RowI w' b2 v' x) (hb : w.heap.size ≤ b2) (hb2 : base ≤ b2) :
  OwnM (w'.setCell ⟨g, o + j, none⟩ v') base v n k (l.set i { l[i]! with chan := l[i]!.chan.set j x }) vc vh (put2 vr i j v') :=
 h.setH hi hj hv (fun a c ha hc hne => (h.cha a ha c hc).ext hx) (Row.mono hr hb2) (fun a c ha hc hne => (dis_new (h.cha a ha c hc) hr hb).symm) (h.row.ext hx) (fun a ha => (h.clo a ha).ext hx) (fun a ha => (h.hdr a ha).ext hx)
theorem OwnM.sl (h : OwnM w base v n l.length l vc vh vr) : Sl RMk 3 w v l := by
 refine h.row.cells.sl fun i hi => ?_
 rw [mkCells_three hi]
 refine ⟨vc i, vh i, rfl, ?_, ?_⟩
 ·have := (h.clo i hi).cells
  unfold Bools; rw [(h.shp i hi).1]; exact this
 ·have h2 := (h.hdr i hi).cells
  rw [← (h.shp i hi).2] at h2
  refine CellsAt.sl h2 fun j hj => ?_
  have hjn : j < n := by rw [← (h.shp i hi).2]; exact hj
  refine ⟨vr i j, ?_, (h.cha i hi j hjn).ints⟩
  apply List.ext_getElem?
  intro s
  rw [List.getElem?_take, Nat.mul_one]
  match s with
  | 0 => rw [if_pos (by omega), List.getElem?_drop, Nat.add_zero, List.getElem?_map, List.getElem?_range hj]; rfl
  | s + 1 => rw [if_neg (by omega)]; rfl
theorem OwnM.shape (h : OwnM w base v n k l vc vh vr) (h0 : 0 < l.length) : ∃ g o c, v = .slice (some ⟨g, o, none⟩) l.length c ∧ base ≤ g ∧ g < w.heap.size ∧ l.length ≤ c := by
 obtain ⟨g, o, c, e, h1, h2, h3⟩ := h.row.shape h0
 exact ⟨g, o, c, e, h1, h2, h3⟩
theorem OwnM.cellsAt {g o m c i : Nat} (h : OwnM w base (.slice (some ⟨g, o, none⟩) m c) n k l vc vh vr) (hi : i < l.length) :
  w.cell? ⟨g, o + i * 3, none⟩ = some (.int .i64 l[i]!.cnt) ∧ w.cell? ⟨g, o + i * 3 + 1, none⟩ = some (vc i) ∧ w.cell? ⟨g, o + i * 3 + 2, none⟩ = some (vh i) ∧ ∀ q, w.frozen? ⟨g, q, none⟩ = false := by
 have hr := h.row
 have hm : m = l.length := by obtain ⟨a, c, e, _⟩ := hr.any; simp only [Value.slice.injEq] at e; exact e.2.1
 subst hm
 refine ⟨?_, ?_, ?_, fun q => hr.free q⟩
 ·rw [hr.cell (i * 3) (by omega), mkCells_0 hi]
 ·rw [Nat.add_assoc, hr.cell (i * 3 + 1) (by omega), mkCells_1 hi]
 ·rw [Nat.add_assoc, hr.cell (i * 3 + 2) (by omega), mkCells_2 hi]
theorem OwnM.boolAt (h : OwnM w base v n k l vc vh vr) {i j : Nat} (hi : i < k) (hj : j < n) : ∃ g o c, vc i = .slice (some ⟨g, o, none⟩) n c ∧ base ≤ g ∧ g < w.heap.size ∧ n ≤ c ∧ w.cell? ⟨g, o + j, none⟩ = some (.bool l[i]!.closed[j]!) ∧ (∀ q, w.frozen? ⟨g, q, none⟩ = false) := by
 have h3 := h.clo i hi
 obtain ⟨g, o, c, e, hb, hg, hc⟩ := h3.shape (by omega)
 rw [e] at h3
 refine ⟨g, o, c, e, hb, hg, hc, ?_, fun q => h3.free q⟩
 have hjl : j < l[i]!.closed.length := by rw [(h.shp i hi).1]; exact hj
 rw [h3.cell j (by omega), List.getElem?_map, List.getElem?_eq_getElem hjl, getElem!_pos _ j hjl]; rfl
theorem OwnM.hdrAt (h : OwnM w base v n k l vc vh vr) {i j : Nat} (hi : i < k) (hj : j < n) : ∃ g o c, vh i = .slice (some ⟨g, o, none⟩) n c ∧ base ≤ g ∧ g < w.heap.size ∧ n ≤ c ∧ w.cell? ⟨g, o + j, none⟩ = some (vr i j) ∧ (∀ q, w.frozen? ⟨g, q, none⟩ = false) := by
 have h3 := h.hdr i hi
 obtain ⟨g, o, c, e, hb, hg, hc⟩ := h3.shape (by omega)
 rw [e] at h3
 refine ⟨g, o, c, e, hb, hg, hc, ?_, fun q => h3.free q⟩
 rw [h3.cell j (by omega), List.getElem?_map, List.getElem?_range hj]; rfl
end
end Go.Proofs.Ytfagfooggcinoaa
