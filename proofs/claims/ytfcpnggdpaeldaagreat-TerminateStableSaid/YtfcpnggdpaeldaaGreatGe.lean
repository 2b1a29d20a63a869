import Derived.Test.YtfcpnggdpaeldaaGreatGd
/-
  What the central checker forgets is not needed: plain law. No program is named here.
-/
namespace Go.Proofs.YtfcpnggdpaeldaaGreat
set_option linter.unusedVariables false

theorem set_at {α : Type} [Inhabited α] (l : List α) (p q : Nat) (x : α) (hp : p < l.length) : (l.set p x)[q]! = if q = p then x else l[q]! := by
  by_cases h : q = p
  · subst h
    rw [if_pos rfl, getElem!_pos _ q (by simpa using hp), List.getElem_set_self]
  · rw [if_neg h]
    by_cases hq : q < l.length
    · rw [getElem!_pos _ q (by simpa using hq), List.getElem_set_ne (fun e => h e.symm), ← getElem!_pos l q hq]
    · rw [getElem!_neg _ q (by simpa using hq), getElem!_neg _ q (by simpa using hq)]
theorem drop_at {α : Type} [Inhabited α] (l : List α) (k i : Nat) (h : k + i < l.length) : (l.drop k)[i]! = l[k + i]! := by
  rw [getElem!_pos _ i (by rw [List.length_drop]; omega), getElem!_pos l (k + i) h, List.getElem_drop]
theorem snoc_at {α : Type} [Inhabited α] (l : List α) (x : α) (i : Nat) (h : i ≤ l.length) : (l ++ [x])[i]! = if i = l.length then x else l[i]! := by
  by_cases hi : i = l.length
  · subst hi
    rw [if_pos rfl, getElem!_pos _ _ (by simp), List.getElem_append_right (Nat.le_refl _)]
    simp
  · rw [if_neg hi, getElem!_pos _ i (by simp; omega), getElem!_pos l i (by omega), List.getElem_append_left (by omega)]

theorem queue_parts {n p : Nat} {q : List (List Int)} : queueB n p q = true ↔ q.length ≤ 65 ∧ ∀ i, i < q.length → stampB q[i]! n = true ∧ (i = 0 ∨ afterB q[i - 1]! q[i]! p = true) := by
  simp only [queueB, Bool.and_eq_true, decide_eq_true_eq, range_all, Bool.or_eq_true]
theorem queue_drop {n p : Nat} {q : List (List Int)} (h : queueB n p q = true) : queueB n p (q.drop 1) = true := by
  obtain ⟨h1, h2⟩ := queue_parts.1 h
  refine queue_parts.2 ⟨by rw [List.length_drop]; omega, fun i hi => ?_⟩
  rw [List.length_drop] at hi
  obtain ⟨g1, g2⟩ := h2 (1 + i) (by omega)
  rw [drop_at q 1 i (by omega)]
  refine ⟨g1, ?_⟩
  by_cases h0 : i = 0
  · exact .inl h0
  · right
    rw [drop_at q 1 (i - 1) (by omega), show 1 + (i - 1) = 1 + i - 1 from by omega]
    exact g2.resolve_left (by omega)
theorem queue_snoc {n p : Nat} {q : List (List Int)} {v : List Int} (h : queueB n p q = true) (hl : q.length < 65) (hv : stampB v n = true) (ha : q.length = 0 ∨ afterB q[q.length - 1]! v p = true) : queueB n p (q ++ [v]) = true := by
  obtain ⟨h1, h2⟩ := queue_parts.1 h
  refine queue_parts.2 ⟨by simp; omega, fun i hi => ?_⟩
  rw [List.length_append, List.length_singleton] at hi
  rw [snoc_at q v i (by omega)]
  by_cases e : i = q.length
  · subst e
    rw [if_pos rfl]
    refine ⟨hv, ?_⟩
    by_cases h0 : q.length = 0
    · exact .inl h0
    · rw [snoc_at q v _ (by omega), if_neg (by omega)]
      exact ha
  · rw [if_neg e]
    obtain ⟨g1, g2⟩ := h2 i (by omega)
    refine ⟨g1, g2.imp id fun h => ?_⟩
    by_cases h0 : i = 0
    · subst h0; rw [snoc_at q v (0 - 1) (by omega), if_neg (by omega)]; exact h
    · rw [snoc_at q v (i - 1) (by omega), if_neg (by omega)]; exact h

theorem form_parts {s : Ck} : formB s = true ↔ 1 ≤ s.qs.length ∧ s.qs.length ≤ 8 ∧ s.ended.length = s.qs.length ∧ ∀ p, p < s.qs.length → queueB s.qs.length p s.qs[p]! = true := by
  simp only [formB, Bool.and_eq_true, decide_eq_true_eq, range_all]
theorem valid_parts {s : Ck} : validC s = true ↔ formB s = true ∧ beatenL s.qs < 0 ∧ doneB s.qs s.ended = s.done ∧ cutB s.qs = s.cut := by
  simp only [validC, Bool.and_eq_true, decide_eq_true_eq]

theorem put_parts {s : Ck} {p : Int} {v : List Int} (h : putErr s p v = 0) : validC s = true ∧ 0 ≤ p ∧ p < s.qs.length ∧ stampB v s.qs.length = true ∧ s.done = false ∧ s.ended[p.toNat]! = false ∧ (s.qs[p.toNat]!.length = 0 ∨ afterB s.qs[p.toNat]![s.qs[p.toNat]!.length - 1]! v p.toNat = true) ∧ s.qs[p.toNat]!.length < 65 := by
  unfold putErr at h
  split at h
  · simp at h
  · split at h
    · simp at h
    · split at h
      · simp at h
      · split at h
        · simp at h
        · split at h
          · simp at h
          · rename_i h1 h2 h3 h4 h5
            simp only [not_or, not_and, Bool.not_eq_true, Bool.not_eq_false'] at h1 h2 h3 h4
            refine ⟨by simpa using h1, by omega, by omega, by simpa using h2.2.2, h3.1, h3.2, ?_, by omega⟩
            rcases Nat.eq_zero_or_pos s.qs[p.toNat]!.length with h0 | h0
            · exact .inl h0
            · exact .inr (by simpa using h4 h0)

section
variable {s : Ck} {p : Nat} {v : List Int} (h : putErr s p v = 0)
include h

theorem put_form : ∀ q, q < s.qs.length → queueB s.qs.length q (putQs s p v)[q]! = true := by
  obtain ⟨h1, h2, h3, h4, h5, h6, h7, h8⟩ := put_parts h
  obtain ⟨g1, g2, g3, g4⟩ := form_parts.1 (valid_parts.1 h1).1
  simp only [Int.toNat_natCast] at h6 h7 h8
  intro q hq
  unfold putQs
  rw [set_at _ _ _ _ (by omega)]
  split
  · rename_i e
    subst e
    exact queue_snoc (g4 q hq) h8 h4 h7
  · exact g4 q hq

/-- The queue of q, with what is put. -/
def allQ (s : Ck) (p : Nat) (v : List Int) (q : Nat) : List (List Int) := if q = p then s.qs[q]! ++ [v] else s.qs[q]!

theorem put_keeps : (reduceL (putQs s p v)).length = s.qs.length ∧ (∀ q, q < s.qs.length → queueB s.qs.length q (reduceL (putQs s p v))[q]! = true) ∧
    (∀ q, q < s.qs.length → ∃ k, k ≤ (allQ s p v q).length ∧ (reduceL (putQs s p v))[q]! = (allQ s p v q).drop k) ∧ total (reduceL (putQs s p v)) ≤ total s.qs + 1 ∧ beatenL (reduceL (putQs s p v)) < 0 := by
  have hf := put_form h
  obtain ⟨h1, h2, h3, h4, h5, h6, h7, h8⟩ := put_parts h
  have hp : p < s.qs.length := by omega
  have ht : total (putQs s p v) = total s.qs + 1 := by
    unfold total putQs
    rw [List.map_set]
    have := sum_set (s.qs.map List.length) p ((s.qs[p]! ++ [v]).length) (by simpa using hp)
    rw [getElem!_pos (s.qs.map List.length) p (by simpa using hp), List.getElem_map, ← getElem!_pos s.qs p hp, List.length_append, List.length_singleton] at this
    rw [List.length_append, List.length_singleton]
    omega
  have hl : (putQs s p v).length = s.qs.length := by simp [putQs]
  have key := reduce_keeps (fun qs => qs.length = s.qs.length ∧ (∀ q, q < s.qs.length → queueB s.qs.length q qs[q]! = true) ∧ (∀ q, q < s.qs.length → ∃ k, k ≤ (allQ s p v q).length ∧ qs[q]! = (allQ s p v q).drop k) ∧ total qs ≤ total s.qs + 1) ?_ (putQs s p v) ⟨hl, hf, ?_, by omega⟩
  · exact ⟨key.1.1, key.1.2.1, key.1.2.2.1, key.1.2.2.2, key.2⟩
  · rintro qs b ⟨k1, k2, k3, k4⟩ hb hbt
    refine ⟨by rw [drop_len]; exact k1, fun q hq => ?_, fun q hq => ?_, by have := total_drop qs b hb (beaten_pos _ _ hbt); omega⟩
    · unfold dropAt
      rw [set_at _ _ _ _ hb]
      split
      · rename_i e; subst e; exact queue_drop (k2 q hq)
      · exact k2 q hq
    · unfold dropAt
      rw [set_at _ _ _ _ hb]
      obtain ⟨k, g1, g2⟩ := k3 q hq
      split
      · rename_i e
        subst e
        have := beaten_pos _ _ hbt
        rw [g2, List.length_drop] at this
        exact ⟨k + 1, by omega, by rw [g2, List.drop_drop]⟩
      · exact ⟨k, g1, g2⟩
  · intro q hq
    refine ⟨0, Nat.zero_le _, ?_⟩
    unfold putQs allQ
    rw [set_at _ _ _ _ hp, List.drop_zero]
    split
    · rename_i e; subst e; rfl
    · rfl

theorem put_valid : validC (putC s p v) = true := by
  obtain ⟨k1, k2, k3, k4, k5⟩ := put_keeps h
  obtain ⟨h1, _⟩ := put_parts h
  obtain ⟨g1, g2, g3, g4⟩ := form_parts.1 (valid_parts.1 h1).1
  refine valid_parts.2 ⟨form_parts.2 ⟨?_, ?_, ?_, ?_⟩, k5, rfl, rfl⟩
  · show 1 ≤ (reduceL (putQs s p v)).length; omega
  · show (reduceL (putQs s p v)).length ≤ 8; omega
  · show s.ended.length = (reduceL (putQs s p v)).length; omega
  · show ∀ q, q < (reduceL (putQs s p v)).length → queueB (reduceL (putQs s p v)).length q (reduceL (putQs s p v))[q]! = true
    rw [k1]; exact k2
end

/-- The found cut is at least every stamp of its candidates. -/
theorem cut_over {s : Ck} (h : validC s = true) (hc : s.cut ≠ []) : s.done = true ∧ s.cut.length = s.qs.length ∧ ∀ q, q < s.qs.length → 0 < s.qs[q]!.length ∧ leqB s.qs[q]![0]! s.cut = true := by
  obtain ⟨h1, h2, h3, h4⟩ := valid_parts.1 h
  obtain ⟨g1, g2, g3, g4⟩ := form_parts.1 h1
  have ha : allB s.qs = true := by
    cases ha : allB s.qs with
    | true => rfl
    | false => rw [← h4] at hc; simp [cutB, ha] at hc
  have hcut : s.cut = cutOf s.qs := by rw [← h4, cutB, ha]; rfl
  have hall := (range_all _ _).1 ha
  refine ⟨by rw [← h3, doneB, ha]; rfl, by rw [hcut]; simp [cutOf], fun q hq => ?_⟩
  have hq0 := hall q hq
  rw [decide_eq_true_eq] at hq0
  refine ⟨hq0, (range_all _ _).2 fun i hi => ?_⟩
  obtain ⟨_, g5⟩ := queue_parts.1 (g4 q hq)
  have hst := (g5 0 hq0).1
  simp only [stampB, Bool.and_eq_true, decide_eq_true_eq] at hst
  rw [hst.1] at hi
  have hi0 := hall i hi
  rw [decide_eq_true_eq] at hi0
  have hci : s.cut[i]! = s.qs[i]![0]![i]! := by
    rw [hcut, getElem!_pos _ i (by simp [cutOf]; exact hi)]
    simp [cutOf]
  rw [hci, decide_eq_true_eq]
  by_cases e : q = i
  · subst e; exact Int.le_refl _
  have hb := (range_any_false _ _).1 (beaten_none s.qs h2 i hi) q hq
  simp only [beatsB, Bool.and_eq_false_iff, decide_eq_false_iff_not] at hb
  rcases hb with hb | hb | hb | hb
  · exact absurd e hb
  · exact absurd hi0 hb
  · exact absurd hq0 hb
  · omega
theorem cut_none {s : Ck} (h : validC s = true) (hd : s.done = false) : s.cut = [] := by
  obtain ⟨h1, h2, h3, h4⟩ := valid_parts.1 h
  rw [hd, doneB, Bool.or_eq_false_iff] at h3
  rw [← h4, cutB, h3.1]
  rfl

end Go.Proofs.YtfcpnggdpaeldaaGreat

/-
  Traces in plain words, and how they are read from memory. No program is named here.
-/
namespace Go.Proofs.YtfcpnggdpaeldaaGreat
open Go.RowKit
set_option linter.unusedVariables false

/-! ### Traces -/
structure Asg where
  var : Int
  value : Int
deriving Inhabited, DecidableEq
structure Ev where
  kind : Int
  peer : Int
  msg : Int
  time : Int
  asg : List Asg
deriving Inhabited, DecidableEq
structure Vr where
  name : ByteArray
  init : Int
deriving Inhabited
structure Pr where
  name : ByteArray
  vars : List Vr
  events : List Ev
deriving Inhabited
abbrev Tr := List Pr

/-! ### How they are read -/
def RAsg (w : World) (cs : List Value) (a : Asg) : Prop := cs = [.int .i64 a.var, .int .i64 a.value]
theorem rasg_lasts : Lasts RAsg := fun _ _ _ _ h _ => h
def REv (w : World) (cs : List Value) (e : Ev) : Prop := ∃ v, cs = [.int .i64 e.kind, .int .i64 e.peer, .int .i64 e.msg, .int .i64 e.time, v] ∧ Sl RAsg 2 w v e.asg
theorem rev_lasts : Lasts REv := fun _ _ _ _ ⟨v, h, hs⟩ e => ⟨v, h, hs.ext rasg_lasts e⟩
def RVr (w : World) (cs : List Value) (x : Vr) : Prop := cs = [.string x.name, .int .i64 x.init]
theorem rvr_lasts : Lasts RVr := fun _ _ _ _ h _ => h
def RPr (w : World) (cs : List Value) (x : Pr) : Prop := ∃ vv ve, cs = [.string x.name, vv, ve] ∧ Sl RVr 2 w vv x.vars ∧ Sl REv 5 w ve x.events
theorem rpr_lasts : Lasts RPr := fun _ _ _ _ ⟨a, b, h, h1, h2⟩ e => ⟨a, b, h, h1.ext rvr_lasts e, h2.ext rev_lasts e⟩
/-- The trace's one cell reads as t. -/
def TrAt (w : World) (v : Value) (t : Tr) : Prop := Sl RPr 3 w v t
theorem TrAt.ext {w w' : World} {v : Value} {t : Tr} (h : TrAt w v t) (e : Ext w w') : TrAt w' v t := Sl.ext rpr_lasts h e

/-- The cells of one element of several. -/
theorem Sl.cellsOf {α : Type} [Inhabited α] {R : World → List Value → α → Prop} {k : Nat} {w : World} {v : Value} {l : List α} (h : Sl R k w v l) (i : Nat) (hi : i < l.length) :
    ∃ b off c vs, v = .slice (some ⟨b, off, none⟩) l.length c ∧ l.length ≤ c ∧ b < w.heap.size ∧ vs.length = k ∧ R w vs l[i]! ∧ ∀ j, j < k → w.cell? ⟨b, off + i * k + j, none⟩ = some vs[j]! := by
  obtain ⟨a, c, rfl, hlc, h⟩ := h
  obtain ⟨b, off, rfl, hb, hc⟩ := h (by intro e; simp [e] at hi)
  obtain ⟨vs, h1, h2, h3⟩ := hc i hi
  exact ⟨b, off, c, vs, rfl, hlc, hb, h1, h2, h3⟩
theorem Sl.sh {α : Type} [Inhabited α] {R : World → List Value → α → Prop} {k : Nat} {w : World} {v : Value} {l : List α} (h : Sl R k w v l) : ∃ a c, v = .slice a l.length c ∧ l.length ≤ c := by
  obtain ⟨a, c, h1, h2, _⟩ := h; exact ⟨a, c, h1, h2⟩

/-- A process of a trace. -/
theorem proc_at {w : World} {v : Value} {t : Tr} (h : TrAt w v t) (p : Nat) (hp : p < t.length) :
    ∃ B O C vv ve, v = .slice (some ⟨B, O, none⟩) t.length C ∧ t.length ≤ C ∧ B < w.heap.size ∧ w.cell? ⟨B, O + p * 3, none⟩ = some (.string t[p]!.name) ∧ w.cell? ⟨B, O + p * 3 + 1, none⟩ = some vv ∧ w.cell? ⟨B, O + p * 3 + 2, none⟩ = some ve ∧ Sl RVr 2 w vv t[p]!.vars ∧ Sl REv 5 w ve t[p]!.events := by
  obtain ⟨B, O, C, vs, rfl, hlc, hB, h1, ⟨vv, ve, rfl, hv, he⟩, h3⟩ := Sl.cellsOf h p hp
  exact ⟨B, O, C, vv, ve, rfl, hlc, hB, by simpa using h3 0 (by omega), by simpa using h3 1 (by omega), by simpa using h3 2 (by omega), hv, he⟩
/-- An event of a process. -/
theorem event_at {w : World} {v : Value} {l : List Ev} (h : Sl REv 5 w v l) (i : Nat) (hi : i < l.length) :
    ∃ B O C va, v = .slice (some ⟨B, O, none⟩) l.length C ∧ l.length ≤ C ∧ B < w.heap.size ∧ w.cell? ⟨B, O + i * 5, none⟩ = some (.int .i64 l[i]!.kind) ∧ w.cell? ⟨B, O + i * 5 + 1, none⟩ = some (.int .i64 l[i]!.peer) ∧ w.cell? ⟨B, O + i * 5 + 2, none⟩ = some (.int .i64 l[i]!.msg) ∧
      w.cell? ⟨B, O + i * 5 + 3, none⟩ = some (.int .i64 l[i]!.time) ∧ w.cell? ⟨B, O + i * 5 + 4, none⟩ = some va ∧ Sl RAsg 2 w va l[i]!.asg := by
  obtain ⟨B, O, C, vs, rfl, hlc, hB, h1, ⟨va, rfl, ha⟩, h3⟩ := Sl.cellsOf h i hi
  exact ⟨B, O, C, va, rfl, hlc, hB, by simpa using h3 0 (by omega), by simpa using h3 1 (by omega), by simpa using h3 2 (by omega), by simpa using h3 3 (by omega), by simpa using h3 4 (by omega), ha⟩
theorem var_at {w : World} {v : Value} {l : List Vr} (h : Sl RVr 2 w v l) (i : Nat) (hi : i < l.length) :
    ∃ B O C, v = .slice (some ⟨B, O, none⟩) l.length C ∧ l.length ≤ C ∧ B < w.heap.size ∧ w.cell? ⟨B, O + i * 2, none⟩ = some (.string l[i]!.name) ∧ w.cell? ⟨B, O + i * 2 + 1, none⟩ = some (.int .i64 l[i]!.init) := by
  obtain ⟨B, O, C, vs, rfl, hlc, hB, h1, h2, h3⟩ := Sl.cellsOf h i hi
  have e : vs = [.string l[i]!.name, .int .i64 l[i]!.init] := h2
  subst e
  exact ⟨B, O, C, rfl, hlc, hB, by simpa using h3 0 (by omega), by simpa using h3 1 (by omega)⟩
theorem asg_at {w : World} {v : Value} {l : List Asg} (h : Sl RAsg 2 w v l) (i : Nat) (hi : i < l.length) :
    ∃ B O C, v = .slice (some ⟨B, O, none⟩) l.length C ∧ l.length ≤ C ∧ B < w.heap.size ∧ w.cell? ⟨B, O + i * 2, none⟩ = some (.int .i64 l[i]!.var) ∧ w.cell? ⟨B, O + i * 2 + 1, none⟩ = some (.int .i64 l[i]!.value) := by
  obtain ⟨B, O, C, vs, rfl, hlc, hB, h1, h2, h3⟩ := Sl.cellsOf h i hi
  have e : vs = [.int .i64 l[i]!.var, .int .i64 l[i]!.value] := h2
  subst e
  exact ⟨B, O, C, rfl, hlc, hB, by simpa using h3 0 (by omega), by simpa using h3 1 (by omega)⟩

/-! ### What makes a trace valid, but for its order -/
def letterB (c : UInt8) : Bool := (decide (97 ≤ c.toNat) && decide (c.toNat ≤ 122)) || (decide (65 ≤ c.toNat) && decide (c.toNat ≤ 90))
def digitB (c : UInt8) : Bool := decide (48 ≤ c.toNat) && decide (c.toNat ≤ 57)
def wordB (c : UInt8) : Bool := letterB c || digitB c || decide (c.toNat = 95)
def nameB (s : ByteArray) : Bool := decide (1 ≤ s.size) && (decide (s.size ≤ 16) && (letterB s[0]! && (List.range s.size).all fun i => wordB s[i]!))
def valueB (n : Int) : Bool := decide (-1073741824 ≤ n) && decide (n ≤ 1073741824)
def varB (l : List Vr) (i : Nat) : Bool := nameB l[i]!.name && ((List.range i).all fun j => !(l[j]!.name.toList == l[i]!.name.toList)) && valueB l[i]!.init
def headB (t : Tr) (p : Nat) : Bool :=
  nameB t[p]!.name && (((List.range p).all fun q => !(t[q]!.name.toList == t[p]!.name.toList)) && (decide (t[p]!.vars.length ≤ 8) && (((List.range t[p]!.vars.length).all fun i => varB t[p]!.vars i) && decide (t[p]!.events.length ≤ 64))))
def formedB (n p : Nat) (e : Ev) : Bool :=
  if e.kind = 1 then decide (e.peer = 0) && decide (e.msg = 0)
  else (decide (e.kind = 2) || decide (e.kind = 3)) && (decide (0 ≤ e.peer) && (decide (e.peer < n) && (decide (e.peer ≠ p) && (decide (0 ≤ e.msg) && decide (e.msg ≤ 199)))))
def asgB (nv : Nat) (l : List Asg) (i : Nat) : Bool := decide (0 ≤ l[i]!.var) && (decide (l[i]!.var < nv) && (valueB l[i]!.value && (List.range i).all fun j => !decide (l[j]!.var = l[i]!.var)))
def eventB (t : Tr) (p i : Nat) : Bool :=
  formedB t.length p t[p]!.events[i]! && (decide (0 ≤ t[p]!.events[i]!.time) && (decide (t[p]!.events[i]!.time ≤ 1099511627776) && (decide (i = 0 ∨ t[p]!.events[i - 1]!.time ≤ t[p]!.events[i]!.time) &&
    (decide (t[p]!.events[i]!.asg.length ≤ 8) && (List.range t[p]!.events[i]!.asg.length).all fun k => asgB t[p]!.vars.length t[p]!.events[i]!.asg k))))
/-- All but the messages and the order. -/
def shapeB (t : Tr) : Bool :=
  decide (1 ≤ t.length) && (decide (t.length ≤ 8) && (((List.range t.length).all fun p => headB t p) && (List.range t.length).all fun p => (List.range t[p]!.events.length).all fun i => eventB t p i))

end Go.Proofs.YtfcpnggdpaeldaaGreat

/-
  What makes a trace valid: its messages are paired, and no event happens before itself. No program is named here.
-/
namespace Go.Proofs.YtfcpnggdpaeldaaGreat
open Go.RowKit
set_option linter.unusedVariables false

/-! ### Events by their names: the process, and the place from 0 on -/
abbrev Eid := Nat × Nat
def Inn (t : Tr) (x : Eid) : Prop := x.1 < t.length ∧ x.2 < t[x.1]!.events.length
instance (t : Tr) (x : Eid) : Decidable (Inn t x) := inferInstanceAs (Decidable (_ ∧ _))
def ev (t : Tr) (x : Eid) : Ev := t[x.1]!.events[x.2]!
/-- The events ahead of (p, i), in order. -/
def idsTo (t : Tr) (p i : Nat) : List Eid := ((List.range p).flatMap fun q => (List.range t[q]!.events.length).map fun j => (q, j)) ++ (List.range i).map fun j => (p, j)
def ids (t : Tr) : List Eid := idsTo t t.length 0

theorem idsTo_zero (t : Tr) : idsTo t 0 0 = [] := rfl
theorem idsTo_succ (t : Tr) (p i : Nat) : idsTo t p (i + 1) = idsTo t p i ++ [(p, i)] := by
  simp [idsTo, List.range_succ, List.append_assoc]
theorem idsTo_next (t : Tr) (p : Nat) : idsTo t p t[p]!.events.length = idsTo t (p + 1) 0 := by
  simp [idsTo, List.range_succ, List.flatMap_append]
theorem mem_idsTo {t : Tr} {p i : Nat} {x : Eid} : x ∈ idsTo t p i ↔ (x.1 < p ∧ x.2 < t[x.1]!.events.length) ∨ (x.1 = p ∧ x.2 < i) := by
  obtain ⟨q, j⟩ := x
  simp only [idsTo, List.mem_append, List.mem_flatMap, List.mem_map, List.mem_range, Prod.mk.injEq]
  constructor
  · rintro (⟨q', h1, j', h2, rfl, rfl⟩ | ⟨j', h, rfl, rfl⟩)
    · exact .inl ⟨h1, h2⟩
    · exact .inr ⟨rfl, h⟩
  · rintro (⟨h1, h2⟩ | ⟨rfl, h⟩)
    · exact .inl ⟨q, h1, j, h2, rfl, rfl⟩
    · exact .inr ⟨j, h, rfl, rfl⟩
theorem mem_ids {t : Tr} {x : Eid} : x ∈ ids t ↔ Inn t x := by
  unfold ids; rw [mem_idsTo]; unfold Inn; omega

theorem idsTo_grow (t : Tr) (p i : Nat) : ∀ k, i ≤ k → idsTo t p i <+: idsTo t p k := by
  intro k hk
  induction k with
  | zero => obtain rfl : i = 0 := by omega
            exact List.prefix_rfl
  | succ k ih =>
    by_cases e : i = k + 1
    · subst e; exact List.prefix_rfl
    · rw [idsTo_succ]; exact (ih (by omega)).trans (List.prefix_append _ _)
theorem idsTo_row (t : Tr) (p : Nat) : ∀ q, p ≤ q → idsTo t p 0 <+: idsTo t q 0 := by
  intro q hq
  induction q with
  | zero => obtain rfl : p = 0 := by omega
            exact List.prefix_rfl
  | succ q ih =>
    by_cases e : p = q + 1
    · subst e; exact List.prefix_rfl
    · rw [← idsTo_next]; exact (ih (by omega)).trans (idsTo_grow t q 0 _ (by omega))
theorem idsTo_ids {t : Tr} {p i : Nat} (hp : p < t.length) (hi : i ≤ t[p]!.events.length) : idsTo t p i <+: ids t := by
  refine (idsTo_grow t p i _ hi).trans ?_
  rw [idsTo_next]
  exact idsTo_row t (p + 1) t.length (by omega)
/-- The order of the list. -/
def before (x y : Eid) : Prop := x.1 < y.1 ∨ (x.1 = y.1 ∧ x.2 < y.2)
theorem idsTo_sorted (t : Tr) : ∀ p i, (idsTo t p i).Pairwise before := by
  have inner : ∀ p i, (idsTo t p 0).Pairwise before → (idsTo t p i).Pairwise before := by
    intro p i h
    induction i with
    | zero => exact h
    | succ i ih =>
      rw [idsTo_succ, List.pairwise_append]
      refine ⟨ih, by simp, fun x hx y hy => ?_⟩
      rw [List.mem_singleton] at hy; subst hy
      rw [mem_idsTo] at hx
      unfold before; omega
  intro p i
  induction p generalizing i with
  | zero => exact inner 0 i (by simp [idsTo_zero])
  | succ p ih => exact inner (p + 1) i (by rw [← idsTo_next]; exact ih _)

/-! ### The first event of a kind with a number -/
def hit (t : Tr) (k m : Int) (x : Eid) : Bool := decide ((ev t x).kind = k) && decide ((ev t x).msg = m)
def firstIn (pre : List Eid) (t : Tr) (k m : Int) : Option Eid := pre.find? (hit t k m)
def findE (t : Tr) (k m : Int) : Option Eid := firstIn (ids t) t k m
theorem hit_iff {t : Tr} {k m : Int} {x : Eid} : hit t k m x = true ↔ (ev t x).kind = k ∧ (ev t x).msg = m := by
  simp only [hit, Bool.and_eq_true, decide_eq_true_eq]
theorem findE_some {t : Tr} {k m : Int} {x : Eid} (h : findE t k m = some x) : Inn t x ∧ (ev t x).kind = k ∧ (ev t x).msg = m := by
  unfold findE firstIn at h
  exact ⟨mem_ids.1 (List.mem_of_find?_eq_some h), hit_iff.1 (List.find?_some h)⟩
theorem findE_none {t : Tr} {k m : Int} (h : findE t k m = none) {x : Eid} (hx : Inn t x) : ¬ ((ev t x).kind = k ∧ (ev t x).msg = m) := by
  unfold findE firstIn at h
  intro e
  have := List.find?_eq_none.1 h x (mem_ids.2 hx)
  exact this (hit_iff.2 e)
theorem firstIn_snoc (pre : List Eid) (t : Tr) (k m : Int) (x : Eid) : firstIn (pre ++ [x]) t k m = (firstIn pre t k m).or (if (ev t x).kind = k ∧ (ev t x).msg = m then some x else none) := by
  unfold firstIn
  rw [List.find?_append]
  congr 1
  by_cases h : (ev t x).kind = k ∧ (ev t x).msg = m
  · rw [if_pos h]; simp [hit_iff.2 h]
  · rw [if_neg h]
    have : hit t k m x = false := by rw [Bool.eq_false_iff]; exact fun e => h (hit_iff.1 e)
    simp [this]

/-! ### Messages in pairs -/
/-- Process p sends number m to process q. -/
def sendsB (t : Tr) (p : Nat) (m q : Int) : Bool := t[p]!.events.any fun s => decide (s.kind = 2) && (decide (s.msg = m) && decide (s.peer = q))
/-- No event of the same kind with the same number is in the list; a receive has its send. -/
def pairStep (t : Tr) (pre : List Eid) (x : Eid) : Bool :=
  decide ((ev t x).kind = 1) || ((firstIn pre t (ev t x).kind (ev t x).msg).isNone && (decide ((ev t x).kind ≠ 3) || sendsB t (ev t x).peer.toNat (ev t x).msg x.1))
def pairOf (t : Tr) (x : Eid) : Bool :=
  decide ((ev t x).kind = 1) || (decide (findE t (ev t x).kind (ev t x).msg = some x) && (decide ((ev t x).kind ≠ 3) || sendsB t (ev t x).peer.toNat (ev t x).msg x.1))
def pairB (t : Tr) : Bool := (ids t).all (pairOf t)

theorem pairStep_of {t : Tr} {pre post : List Eid} {x : Eid} (h : ids t = pre ++ x :: post) : pairStep t pre x = pairOf t x := by
  have hs := idsTo_sorted t t.length 0
  have e : (firstIn pre t (ev t x).kind (ev t x).msg).isNone = decide (findE t (ev t x).kind (ev t x).msg = some x) := by
    unfold findE firstIn
    rw [h, List.find?_append, List.find?_cons, hit_iff.2 ⟨rfl, rfl⟩]
    cases hf : pre.find? (hit t (ev t x).kind (ev t x).msg) with
    | none => simp
    | some y =>
      have hy := List.mem_of_find?_eq_some hf
      have hl : ids t = pre ++ x :: post := h
      unfold ids at hl
      rw [hl, List.pairwise_append] at hs
      have hb := hs.2.2 y hy x (by simp)
      have hne : y ≠ x := by rintro rfl; unfold before at hb; omega
      simp [hne]
  unfold pairStep pairOf
  rw [e]

theorem pairB_no {t : Tr} {pre : List Eid} {x : Eid} (h : pre ++ [x] <+: ids t) (hb : pairStep t pre x = false) : pairB t = false := by
  obtain ⟨post, hp⟩ := h
  have hp : ids t = pre ++ x :: post := by rw [← hp]; simp
  rw [pairStep_of hp] at hb
  unfold pairB
  rw [List.all_eq_false]
  exact ⟨x, by rw [hp]; simp, by rw [hb]; simp⟩
/-- All steps of a list are good. -/
def okPre (t : Tr) (l : List Eid) : Prop := ∀ pre x, pre ++ [x] <+: l → pairStep t pre x = true
theorem okPre_nil (t : Tr) : okPre t [] := fun pre x h => by have := h.length_le; simp at this
theorem okPre_snoc {t : Tr} {l : List Eid} {x : Eid} (h : okPre t l) (hx : pairStep t l x = true) : okPre t (l ++ [x]) := by
  intro pre y hp
  rcases List.prefix_concat_iff.1 hp with e | hp
  · have := List.append_inj' e rfl
    obtain ⟨rfl, e2⟩ := this
    simp only [List.cons.injEq, and_true] at e2
    subst e2; exact hx
  · exact h pre y hp
theorem pairB_yes {t : Tr} (h : okPre t (ids t)) : pairB t = true := by
  unfold pairB
  rw [List.all_eq_true]
  intro x hx
  obtain ⟨pre, post, hp⟩ := List.append_of_mem hx
  rw [← pairStep_of hp]
  exact h pre x ⟨post, by rw [hp]; simp⟩

theorem pairB_at {t : Tr} (h : pairB t = true) {x : Eid} (hx : Inn t x) (hk : (ev t x).kind ≠ 1) :
    findE t (ev t x).kind (ev t x).msg = some x ∧ ((ev t x).kind = 3 → sendsB t (ev t x).peer.toNat (ev t x).msg x.1 = true) := by
  have := List.all_eq_true.1 h x (mem_ids.2 hx)
  unfold pairOf at this
  simp only [Bool.or_eq_true, Bool.and_eq_true, decide_eq_true_eq] at this
  rcases this with e | ⟨e, f⟩
  · exact absurd e hk
  · exact ⟨e, fun h3 => by rcases f with f | f; exact absurd h3 f; exact f⟩

/-! ### Directly before -/
def Dir (t : Tr) (y x : Eid) : Prop := Inn t x ∧ ((y.1 = x.1 ∧ y.2 + 1 = x.2) ∨ ((ev t x).kind = 3 ∧ findE t 2 (ev t x).msg = some y))
theorem Dir.inn {t : Tr} {y x : Eid} (h : Dir t y x) : Inn t y := by
  obtain ⟨hx, (⟨h1, h2⟩ | ⟨_, h⟩)⟩ := h
  · unfold Inn at *; rw [h1]; omega
  · exact (findE_some h).1
def Cyc (t : Tr) : Prop := ∃ x, Relation.TransGen (Dir t) x x
open Classical in
/-- A trace is valid. -/
noncomputable def validT (t : Tr) : Bool := shapeB t && (pairB t && decide (¬ Cyc t))

theorem tg_inn {t : Tr} {y x : Eid} (h : Relation.TransGen (Dir t) y x) : Inn t x := by
  induction h with
  | single h => exact h.1
  | tail _ h _ => exact h.1
theorem tg_inn_l {t : Tr} {y x : Eid} (h : Relation.TransGen (Dir t) y x) : Inn t y := by
  induction h with
  | single h => exact h.inn
  | tail _ _ ih => exact ih

/-- The reference's peeling: what was taken has an order. -/
theorem acc_no_cyc {t : Tr} (h : ∀ x, Inn t x → Acc (Dir t) x) : ¬ Cyc t := by
  rintro ⟨x, hx⟩
  have ha := (h x (tg_inn hx)).transGen
  induction ha with
  | intro y _ ih => exact ih y hx hx
theorem acc_step {t : Tr} {p i : Nat} (hprev : ∀ j, j < i → Acc (Dir t) (p, j)) (hs : ∀ s, (ev t (p, i)).kind = 3 → findE t 2 (ev t (p, i)).msg = some s → Acc (Dir t) s) : Acc (Dir t) (p, i) := by
  refine ⟨_, fun y hy => ?_⟩
  obtain ⟨_, (⟨h1, h2⟩ | ⟨h3, h⟩)⟩ := hy
  · obtain ⟨q, j⟩ := y
    simp only at h1 h2
    subst h1
    exact hprev j (by omega)
  · exact hs y h3 h

/-! ### Directly behind -/
/-- What the program takes for the events directly behind x. -/
def aft (t : Tr) (x : Eid) : List Eid :=
  (if x.2 + 1 < t[x.1]!.events.length then [(x.1, x.2 + 1)] else []) ++ (if (ev t x).kind = 2 then (findE t 3 (ev t x).msg).toList else [])
theorem mem_aft {t : Tr} (hp : pairB t = true) {x y : Eid} (hx : Inn t x) : y ∈ aft t x ↔ Dir t x y := by
  unfold aft
  rw [List.mem_append]
  constructor
  · rintro (h | h)
    · split at h
      · rename_i hlt
        rw [List.mem_singleton] at h; subst h
        exact ⟨⟨hx.1, hlt⟩, .inl ⟨rfl, rfl⟩⟩
      · simp at h
    · split at h
      · rename_i hk
        rw [Option.mem_toList] at h
        obtain ⟨h1, h2, h3⟩ := findE_some h
        refine ⟨h1, .inr ⟨h2, ?_⟩⟩
        rw [h3]
        have := (pairB_at hp hx (by rw [hk]; decide)).1
        rwa [hk] at this
      · simp at h
  · rintro ⟨hy, (⟨h1, h2⟩ | ⟨h3, h⟩)⟩
    · left
      have e : y = (x.1, x.2 + 1) := by obtain ⟨a, b⟩ := y; simp only at h1 h2; rw [← h2, ← h1]
      subst e
      rw [if_pos hy.2]; simp
    · right
      obtain ⟨_, h4, h5⟩ := findE_some h
      rw [if_pos h4, Option.mem_toList, h5]
      have := (pairB_at hp hy (by rw [h3]; decide)).1
      rwa [h3] at this

/-! ### The search for a way from an event to itself -/
/-- S: seen; R: still to be looked at; X: in work. -/
structure Srch (t : Tr) (a : Eid) (S R X : List Eid) : Prop where
  seen : ∀ y, y ∈ S → Relation.TransGen (Dir t) a y
  rest : ∀ y, y ∈ R → y = a ∨ y ∈ S
  work : ∀ y, y ∈ X → y = a ∨ y ∈ S
  none : a ∉ S
  all : ∀ z, z = a ∨ z ∈ S → z ∈ R ∨ z ∈ X ∨ ∀ y, Dir t z y → y ∈ S

theorem Srch.start (t : Tr) (a : Eid) : Srch t a [] [a] [] := ⟨by simp, by simp, by simp, by simp, by simp⟩
theorem Srch.take {t : Tr} {a x : Eid} {S R : List Eid} (h : Srch t a S (R ++ [x]) []) : Srch t a S R [x] where
  seen := h.seen
  rest := fun y hy => h.rest y (by simp [hy])
  work := fun y hy => h.rest y (by simp at hy; simp [hy])
  none := h.none
  all := fun z hz => by
    have := h.all z hz
    simp only [List.mem_append, List.mem_singleton, List.not_mem_nil, false_or] at this ⊢
    rcases this with (h | h) | h
    · exact .inl h
    · exact .inr (.inl h)
    · exact .inr (.inr h)
theorem Srch.push {t : Tr} {a x y : Eid} {S R : List Eid} (h : Srch t a S R [x]) (hd : Dir t x y) (hne : y ≠ a) : Srch t a (y :: S) (R ++ [y]) [x] where
  seen := fun z hz => by
    rcases List.mem_cons.1 hz with rfl | hz
    · rcases h.work x (by simp) with rfl | hx
      · exact .single hd
      · exact .tail (h.seen x hx) hd
    · exact h.seen z hz
  rest := fun z hz => by
    rcases List.mem_append.1 hz with hz | hz
    · rcases h.rest z hz with e | e
      · exact .inl e
      · exact .inr (by simp [e])
    · simp at hz; subst hz; exact .inr (by simp)
  work := fun z hz => by rcases h.work z hz with e | e; exact .inl e; exact .inr (by simp [e])
  none := fun hz => by
    rcases List.mem_cons.1 hz with e | e
    · exact hne e.symm
    · exact h.none e
  all := fun z hz => by
    have hz' : z = y ∨ (z = a ∨ z ∈ S) := by
      rcases hz with e | e
      · exact .inr (.inl e)
      · rcases List.mem_cons.1 e with e | e
        · exact .inl e
        · exact .inr (.inr e)
    rcases hz' with e | e
    · exact .inl (by simp [e])
    · rcases h.all z e with h1 | h1 | h1
      · exact .inl (by simp [h1])
      · exact .inr (.inl h1)
      · exact .inr (.inr fun v hv => by simp [h1 v hv])
theorem Srch.done {t : Tr} {a x : Eid} {S R : List Eid} (h : Srch t a S R [x]) (hall : ∀ y, Dir t x y → y ∈ S) : Srch t a S R [] where
  seen := h.seen
  rest := h.rest
  work := by simp
  none := h.none
  all := fun z hz => by
    rcases h.all z hz with h1 | h1 | h1
    · exact .inl h1
    · simp at h1; subst h1; exact .inr (.inr hall)
    · exact .inr (.inr h1)
theorem Srch.no {t : Tr} {a : Eid} {S : List Eid} (h : Srch t a S [] []) : ¬ Relation.TransGen (Dir t) a a := by
  have key : ∀ y, Relation.TransGen (Dir t) a y → y ∈ S := by
    intro y hy
    induction hy with
    | single hd => rcases h.all a (.inl rfl) with h1 | h1 | h1; simp at h1; simp at h1; exact h1 _ hd
    | tail _ hd ih => rcases h.all _ (.inr ih) with h1 | h1 | h1; simp at h1; simp at h1; exact h1 _ hd
  exact fun hc => h.none (key a hc)
theorem Srch.yes {t : Tr} {a x : Eid} {S R : List Eid} (h : Srch t a S R [x]) (hd : Dir t x a) : Relation.TransGen (Dir t) a a := by
  rcases h.work x (by simp) with rfl | hx
  · exact .single hd
  · exact .tail (h.seen x hx) hd

/-! ### What is not seen yet -/
def unseen (t : Tr) (S : List Eid) : Nat := ((ids t).filter fun y => !S.contains y).length
theorem filter_less {α : Type} (p q : α → Bool) (l : List α) (h : ∀ x, x ∈ l → q x = true → p x = true) : (l.filter q).length ≤ (l.filter p).length := by
  induction l with
  | nil => simp
  | cons a l ih =>
    have ih := ih fun x hx => h x (by simp [hx])
    have ha := h a (by simp)
    simp only [List.filter_cons]
    cases hq : q a with
    | true => rw [ha hq]; simpa using ih
    | false =>
      cases hp : p a with
      | true => simp; omega
      | false => simpa using ih
theorem filter_lt {α : Type} (p q : α → Bool) (l : List α) (h : ∀ x, x ∈ l → q x = true → p x = true) (a : α) (ha : a ∈ l) (h1 : p a = true) (h2 : q a = false) : (l.filter q).length < (l.filter p).length := by
  induction l with
  | nil => simp at ha
  | cons b l ih =>
    have hb := h b (by simp)
    have hl := filter_less p q l fun x hx => h x (by simp [hx])
    simp only [List.filter_cons]
    rcases List.mem_cons.1 ha with rfl | ha
    · rw [h1, h2]; simp; omega
    · have ih := ih (fun x hx => h x (by simp [hx])) ha
      cases hq : q b with
      | true => rw [hb hq]; simpa using ih
      | false =>
        cases hp : p b with
        | true => simp; omega
        | false => simpa using ih
theorem unseen_push {t : Tr} {S : List Eid} {y : Eid} (hy : Inn t y) (hn : y ∉ S) : unseen t (y :: S) < unseen t S := by
  refine filter_lt _ _ _ (fun x _ hx => ?_) y (mem_ids.2 hy) (by simpa using hn) (by simp)
  simp only [Bool.not_eq_true', List.contains_eq_mem, decide_eq_false_iff_not, List.mem_cons, not_or] at hx ⊢
  exact hx.2

/-! ### The search backwards, for the events before an event -/
structure Back (t : Tr) (a : Eid) (M Q : List Eid) : Prop where
  seen : ∀ y, y ∈ M → Relation.TransGen (Dir t) y a
  rest : ∀ y, y ∈ Q → Relation.TransGen (Dir t) y a
  all : ∀ z, z = a ∨ z ∈ M → ∀ y, Dir t y z → y ∈ M ∨ y ∈ Q
theorem Back.skip {t : Tr} {a x : Eid} {M Q : List Eid} (h : Back t a M (x :: Q)) (hx : x ∈ M) : Back t a M Q where
  seen := h.seen
  rest := fun y hy => h.rest y (by simp [hy])
  all := fun z hz y hy => by
    rcases h.all z hz y hy with e | e
    · exact .inl e
    · rcases List.mem_cons.1 e with rfl | e
      · exact .inl hx
      · exact .inr e
theorem Back.take {t : Tr} {a x : Eid} {M Q L : List Eid} (h : Back t a M (x :: Q)) (hL : ∀ y, y ∈ L ↔ Dir t y x) : Back t a (x :: M) (Q ++ L) where
  seen := fun y hy => by
    rcases List.mem_cons.1 hy with rfl | hy
    · exact h.rest _ (by simp)
    · exact h.seen y hy
  rest := fun y hy => by
    rcases List.mem_append.1 hy with hy | hy
    · exact h.rest y (by simp [hy])
    · exact .trans (.single ((hL y).1 hy)) (h.rest x (by simp))
  all := fun z hz y hy => by
    have hz' : z = x ∨ (z = a ∨ z ∈ M) := by
      rcases hz with e | e
      · exact .inr (.inl e)
      · rcases List.mem_cons.1 e with e | e
        · exact .inl e
        · exact .inr (.inr e)
    rcases hz' with e | e
    · subst e; exact .inr (by simp [(hL y).2 hy])
    · rcases h.all z e y hy with e | e
      · exact .inl (by simp [e])
      · rcases List.mem_cons.1 e with e | e
        · exact .inl (by simp [e])
        · exact .inr (by simp [e])
theorem Back.start {t : Tr} {a : Eid} {L : List Eid} (hL : ∀ y, y ∈ L ↔ Dir t y a) : Back t a [] L where
  seen := by simp
  rest := fun y hy => .single ((hL y).1 hy)
  all := fun z hz y hy => by
    simp at hz; subst hz; exact .inr ((hL y).2 hy)
theorem Back.fin {t : Tr} {a : Eid} {M : List Eid} (h : Back t a M []) (y : Eid) : y ∈ M ↔ Relation.TransGen (Dir t) y a := by
  refine ⟨h.seen y, fun hy => ?_⟩
  have key : ∀ x, Relation.TransGen (Dir t) y x → (x = a ∨ x ∈ M) → y ∈ M := by
    intro x hx
    induction hx with
    | single hd => intro hz; rcases h.all _ hz _ hd with e | e; exact e; simp at e
    | tail _ hd ih => intro hz; refine ih (.inr ?_); rcases h.all _ hz _ hd with e | e; exact e; simp at e
  exact key a hy (.inl rfl)

/-- What the reference takes for the events directly before x. -/
def bef (t : Tr) (x : Eid) : List Eid := (if 0 < x.2 then [(x.1, x.2 - 1)] else []) ++ (if (ev t x).kind = 3 then (findE t 2 (ev t x).msg).toList else [])
theorem mem_bef {t : Tr} {x y : Eid} (hx : Inn t x) : y ∈ bef t x ↔ Dir t y x := by
  unfold bef
  rw [List.mem_append]
  constructor
  · rintro (h | h)
    · split at h
      · rename_i hlt
        rw [List.mem_singleton] at h; subst h
        exact ⟨hx, .inl ⟨rfl, by simp; omega⟩⟩
      · simp at h
    · split at h
      · rename_i hk
        rw [Option.mem_toList] at h
        exact ⟨hx, .inr ⟨hk, h⟩⟩
      · simp at h
  · rintro ⟨_, (⟨h1, h2⟩ | ⟨h3, h⟩)⟩
    · left
      have e : y = (x.1, x.2 - 1) := by obtain ⟨a, b⟩ := y; simp only at h1 h2; rw [← h2, ← h1]; simp
      subst e
      rw [if_pos (by omega)]; simp
    · right
      rw [if_pos h3, Option.mem_toList]; exact h
/-- A receive of paired messages has its send. -/
theorem send_of {t : Tr} (hs : ∀ x, Inn t x → (ev t x).kind ≠ 1 → 0 ≤ (ev t x).peer ∧ (ev t x).peer < t.length) (hp : pairB t = true) {x : Eid} (hx : Inn t x) (hk : (ev t x).kind = 3) : ∃ s, findE t 2 (ev t x).msg = some s := by
  have h2 := (pairB_at hp hx (by rw [hk]; decide)).2 hk
  unfold sendsB at h2
  rw [List.any_eq_true] at h2
  obtain ⟨s, hs1, hs2⟩ := h2
  obtain ⟨j, hj, rfl⟩ := List.getElem_of_mem hs1
  simp only [Bool.and_eq_true, decide_eq_true_eq] at hs2
  have hpe := hs x hx (by rw [hk]; decide)
  cases hf : findE t 2 (ev t x).msg with
  | some s => exact ⟨s, rfl⟩
  | none =>
    have hI : Inn t ((ev t x).peer.toNat, j) := ⟨by simp only; omega, hj⟩
    exact absurd ⟨by simp only [ev]; rw [getElem!_pos _ j hj]; exact hs2.1, by simp only [ev]; rw [getElem!_pos _ j hj]; exact hs2.2.1⟩ (findE_none hf hI)

end Go.Proofs.YtfcpnggdpaeldaaGreat

/-
  Small words on traces: an error that is 0 just where a test holds; what a process's and an event's tests are; lists of a bearable length. No program is named here.
-/
namespace Go.Proofs.YtfcpnggdpaeldaaGreat
open Go.RowKit
set_option linter.unusedVariables false

/-- An error that is 0 just where b holds. -/
def ErrIff (w w' : World) (e : Ending) (b : Bool) : Prop := ∃ E : Int, e = .returned (.int .i64 E) ∧ (E = 0 ↔ b = true) ∧ Ext w w'
theorem any_take {α : Type} [Inhabited α] (l : List α) (k : Nat) (hk : k ≤ l.length) (f : α → Bool) : (l.take k).any f = (List.range k).any fun i => f l[i]! := by
  rw [Bool.eq_iff_iff, range_any, List.any_eq_true]
  constructor
  · rintro ⟨x, hx, h⟩
    obtain ⟨i, hi, rfl⟩ := List.getElem_of_mem hx
    rw [List.length_take] at hi
    exact ⟨i, by omega, by rw [getElem!_pos l i (by omega)]; simpa using h⟩
  · rintro ⟨i, hi, h⟩
    exact ⟨l[i]!, by rw [getElem!_pos l i (by omega)]; exact List.mem_take_iff_getElem.2 ⟨i, by omega, rfl⟩, h⟩
theorem headB_parts {t : Tr} {p : Nat} : headB t p = true ↔ nameB t[p]!.name = true ∧ (∀ q, q < p → (t[q]!.name.toList == t[p]!.name.toList) = false) ∧ t[p]!.vars.length ≤ 8 ∧ (∀ i, i < t[p]!.vars.length → varB t[p]!.vars i = true) ∧ t[p]!.events.length ≤ 64 := by
  simp only [headB, Bool.and_eq_true, decide_eq_true_eq, range_all, Bool.not_eq_true']
theorem varB_parts {l : List Vr} {i : Nat} : varB l i = true ↔ (nameB l[i]!.name = true ∧ ∀ j, j < i → (l[j]!.name.toList == l[i]!.name.toList) = false) ∧ valueB l[i]!.init = true := by
  simp only [varB, Bool.and_eq_true, range_all, Bool.not_eq_true']
/-- No list of a trace is longer than a machine can bear. -/
def SmallTr (t : Tr) : Prop := t.length ≤ 1000000 ∧ ∀ p, p < t.length → t[p]!.vars.length ≤ 1000000 ∧ t[p]!.events.length ≤ 1000000 ∧ ∀ i, i < t[p]!.events.length → t[p]!.events[i]!.asg.length ≤ 1000000
/-- The same, but for the events of a process: these may be any number (the law's own count of them may run over). -/
def LooseTr (t : Tr) : Prop := t.length ≤ 1000000 ∧ ∀ p, p < t.length → t[p]!.vars.length ≤ 1000000 ∧ ∀ i, i < t[p]!.events.length → t[p]!.events[i]!.asg.length ≤ 1000000
theorem SmallTr.loose {t : Tr} (h : SmallTr t) : LooseTr t := ⟨h.1, fun p hp => ⟨(h.2 p hp).1, (h.2 p hp).2.2⟩⟩
theorem LooseTr.small {t : Tr} (h : LooseTr t) (he : ∀ p, p < t.length → headB t p = true) : SmallTr t :=
  ⟨h.1, fun p hp => ⟨(h.2 p hp).1, by have := (headB_parts.1 (he p hp)).2.2.2.2; omega, (h.2 p hp).2⟩⟩

end Go.Proofs.YtfcpnggdpaeldaaGreat
