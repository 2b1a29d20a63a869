import Derived.Test.YtfcpnggdpaeldaaGa
import Derived.Test.YtfcpnggdpaeldaaProg
import Derived.Test.YtfcpnggdpaeldaaGl
import Derived.Test.YtfcpnggdpaeldaaGb
import Derived.BigQuiet
import Derived.Deep.QuietTactic
import Derived.Deep.LoopGhost
import Derived.Shelf.Abstract
import Derived.Deep.DeepCutAuto
/-
  The prefix of a trace at a consistent cut: it is valid, the cut is consistent in it, and its states are the old ones. No program is named here.
-/
namespace Go.Proofs.Ytfcpnggdpaeldaa
open Go.RowKit
set_option linter.unusedVariables false

def prefP (k : Nat) (x : Pr) : Pr := { x with events := x.events.take k }
def prefT (t : Tr) (c : List Int) : Tr := (List.range t.length).map fun p => prefP c[p]!.toNat t[p]!
variable {t : Tr} {c : List Int}
theorem prefT_len : (prefT t c).length = t.length := by simp [prefT]
theorem prefT_at {p : Nat} (h : p < t.length) : (prefT t c)[p]! = prefP c[p]!.toNat t[p]! := by
  rw [getElem!_pos _ p (by rw [prefT_len]; exact h)]; simp [prefT]
theorem prefT_name {p : Nat} (h : p < t.length) : (prefT t c)[p]!.name = t[p]!.name := by rw [prefT_at h]; rfl
theorem prefT_vars {p : Nat} (h : p < t.length) : (prefT t c)[p]!.vars = t[p]!.vars := by rw [prefT_at h]; rfl
theorem prefT_ev {p : Nat} (h : p < t.length) : (prefT t c)[p]!.events = t[p]!.events.take c[p]!.toNat := by rw [prefT_at h]; rfl
theorem prefT_events {p : Nat} (hr : RangeC t c) (h : p < t.length) : (prefT t c)[p]!.events.length = c[p]!.toNat := by
  rw [prefT_ev h, List.length_take]
  have := hr.at h
  omega
theorem take_at {α : Type} [Inhabited α] {l : List α} {k i : Nat} (hi : i < k) (hl : i < l.length) : (l.take k)[i]! = l[i]! := by
  rw [getElem!_pos _ i (by rw [List.length_take]; omega), getElem!_pos l i hl, List.getElem_take]
theorem pre_inn (hr : RangeC t c) {x : Eid} : Inn (prefT t c) x ↔ Inn t x ∧ InC c x := by
  unfold Inn InC
  rw [prefT_len]
  have hl := hr.1
  constructor
  · rintro ⟨h1, h2⟩
    rw [prefT_events hr h1] at h2
    have := hr.at h1
    exact ⟨⟨h1, by omega⟩, by omega, by omega⟩
  · rintro ⟨⟨h1, h2⟩, h3, h4⟩
    rw [prefT_events hr h1]
    exact ⟨h1, by omega⟩
theorem pre_ev (hr : RangeC t c) {x : Eid} (h : Inn (prefT t c) x) : ev (prefT t c) x = ev t x := by
  have h2 := (pre_inn hr).1 h
  unfold ev
  rw [prefT_ev h2.1.1, take_at (by have := h2.2.2; omega) h2.1.2]
/-- An event with a message is found in the prefix just where it is found in the trace, within the cut. -/
theorem pre_find (hr : RangeC t c) (hp : pairB t = true) {x : Eid} (hx : Inn (prefT t c) x) (hk : (ev t x).kind ≠ 1) : findE (prefT t c) (ev t x).kind (ev t x).msg = some x := by
  cases hf : findE (prefT t c) (ev t x).kind (ev t x).msg with
  | none =>
    exact absurd ⟨by rw [pre_ev hr hx], by rw [pre_ev hr hx]⟩ (findE_none hf hx)
  | some y =>
    obtain ⟨h1, h2, h3⟩ := findE_some hf
    rw [pre_ev hr h1] at h2 h3
    have hxi := ((pre_inn hr).1 hx).1
    have hyi := ((pre_inn hr).1 h1).1
    have e1 := (pairB_at hp hxi hk).1
    have e2 := (pairB_at hp hyi (by rw [h2]; exact hk)).1
    rw [h2, h3, e1] at e2
    exact e2.symm
theorem pre_dir (hr : RangeC t c) (hp : pairB t = true) {x y : Eid} (h : Dir (prefT t c) y x) : Dir t y x := by
  obtain ⟨h1, h2⟩ := h
  refine ⟨((pre_inn hr).1 h1).1, ?_⟩
  rcases h2 with h2 | ⟨h2, h3⟩
  · exact .inl h2
  · rw [pre_ev hr h1] at h2 h3
    obtain ⟨k1, k2, k3⟩ := findE_some h3
    rw [pre_ev hr k1] at k2 k3
    have := (pairB_at hp ((pre_inn hr).1 k1).1 (by rw [k2]; decide)).1
    rw [k2, k3] at this
    exact .inr ⟨h2, this⟩
theorem pre_cyc (hr : RangeC t c) (hp : pairB t = true) (h : ¬ Cyc t) : ¬ Cyc (prefT t c) := by
  rintro ⟨x, hx⟩
  refine h ⟨x, ?_⟩
  have key : ∀ {a b}, Relation.TransGen (Dir (prefT t c)) a b → Relation.TransGen (Dir t) a b := by
    intro a b hab
    induction hab with
    | single h => exact .single (pre_dir hr hp h)
    | tail _ h ih => exact .tail ih (pre_dir hr hp h)
  exact key hx
/-- A send, by its place. -/
theorem sends_at {p : Nat} {m q : Int} : sendsB t p m q = true ↔ ∃ j, j < t[p]!.events.length ∧ (ev t (p, j)).kind = 2 ∧ (ev t (p, j)).msg = m ∧ (ev t (p, j)).peer = q := by
  unfold sendsB
  rw [List.any_eq_true]
  constructor
  · rintro ⟨e, he, h⟩
    obtain ⟨j, hj, rfl⟩ := List.getElem_of_mem he
    simp only [Bool.and_eq_true, decide_eq_true_eq] at h
    refine ⟨j, hj, ?_⟩
    unfold ev
    rw [getElem!_pos t[p]!.events j hj]; exact h
  · rintro ⟨j, hj, h⟩
    unfold ev at h
    rw [getElem!_pos t[p]!.events j hj] at h
    exact ⟨_, List.getElem_mem hj, by simpa only [Bool.and_eq_true, decide_eq_true_eq] using h⟩
theorem inn_lt {p j : Nat} (h : j < t[p]!.events.length) : p < t.length := by
  by_cases hc : p < t.length
  · exact hc
  · rw [getElem!_neg t p hc] at h
    exact absurd h (Nat.not_lt_zero _)
theorem pre_pair (hc : ConsC t c) (hp : pairB t = true) : pairB (prefT t c) = true := by
  have hr := hc.1
  unfold pairB
  rw [List.all_eq_true]
  intro x hx
  have hi := mem_ids.1 hx
  have hi2 := (pre_inn hr).1 hi
  unfold pairOf
  rw [pre_ev hr hi]
  by_cases h1 : (ev t x).kind = 1
  · simp [h1]
  rw [pre_find hr hp hi h1]
  by_cases h3 : (ev t x).kind = 3
  · have hs := (pairB_at hp hi2.1 h1).2 h3
    obtain ⟨j, hj, g1, g2, g3⟩ := sends_at.1 hs
    have hpl := inn_lt hj
    have hf := (pairB_at hp (x := ((ev t x).peer.toNat, j)) ⟨hpl, hj⟩ (by rw [g1]; decide)).1
    rw [g1, g2] at hf
    have hm := missE_none.1 hc.2 x hi2.2
    rw [sentB_recv h3 hf, decide_eq_true_eq] at hm
    have hin : Inn (prefT t c) ((ev t x).peer.toNat, j) := (pre_inn hr).2 ⟨⟨hpl, hj⟩, ⟨by show _ < c.length; rw [hr.1]; exact hpl, by show (j : Int) < c[(ev t x).peer.toNat]!; have hm2 : (j : Int) + 1 ≤ c[(ev t x).peer.toNat]! := hm; omega⟩⟩
    have he := pre_ev hr hin
    have : sendsB (prefT t c) (ev t x).peer.toNat (ev t x).msg x.1 = true := sends_at.2 ⟨j, hin.2, by rw [he]; exact g1, by rw [he]; exact g2, by rw [he]; exact g3⟩
    simp [this]
  · simp [h3]
theorem pre_shape (hr : RangeC t c) (hs : shapeB t = true) : shapeB (prefT t c) = true := by
  unfold shapeB at hs ⊢
  simp only [Bool.and_eq_true, decide_eq_true_eq, range_all] at hs ⊢
  rw [prefT_len]
  refine ⟨hs.1, hs.2.1, fun p hp => ?_, fun p hp i hi => ?_⟩
  · obtain ⟨a1, a2, a3, a4, a5⟩ := headB_parts.1 (hs.2.2.1 p hp)
    have := hr.at hp
    rw [headB_parts, prefT_name hp, prefT_vars hp, prefT_events hr hp]
    exact ⟨a1, fun q hq => by rw [prefT_name (by omega)]; exact a2 q hq, a3, a4, by omega⟩
  · have hx : Inn (prefT t c) (p, i) := ⟨by rw [prefT_len]; exact hp, hi⟩
    have hx2 := ((pre_inn hr).1 hx).1
    have he := hs.2.2.2 p hp i hx2.2
    have e1 : (prefT t c)[p]!.events[i]! = t[p]!.events[i]! := pre_ev hr hx
    have e2 : (prefT t c)[p]!.events[i - 1]! = t[p]!.events[i - 1]! := pre_ev hr (x := (p, i - 1)) ⟨by rw [prefT_len]; exact hp, by show i - 1 < (prefT t c)[p]!.events.length; omega⟩
    unfold eventB at he ⊢
    rw [e1, e2, prefT_len, prefT_vars hp]
    exact he
theorem pre_valid (hv : validT t = true) (hc : ConsC t c) : validT (prefT t c) = true := by
  unfold validT at hv ⊢
  simp only [Bool.and_eq_true, decide_eq_true_eq] at hv ⊢
  exact ⟨pre_shape hc.1 hv.1, pre_pair hc hv.2.1, pre_cyc hc.1 hv.2.1 hv.2.2⟩
theorem pre_cons (hc : ConsC t c) : ConsC (prefT t c) c := by
  have hr := hc.1
  refine ⟨⟨by rw [prefT_len]; exact hr.1, rangeB_iff.2 fun p hp => ?_⟩, missE_none.2 fun x hx => ?_⟩
  · have hp2 : p < t.length := by rw [← hr.1]; exact hp
    rw [prefT_events hr hp2]
    have := hr.at hp2
    omega
  · cases hf : findE (prefT t c) 2 (ev (prefT t c) x).msg with
    | none => unfold sentB; rw [hf]; simp
    | some s =>
      by_cases h3 : (ev (prefT t c) x).kind = 3
      · rw [sentB_recv h3 hf, decide_eq_true_eq]
        have := ((pre_inn hr).1 (findE_some hf).1).2.2
        omega
      · exact sentB_other h3
theorem pre_states {p : Nat} (hr : RangeC t c) (hp : p < t.length) : ∀ k, k ≤ c[p]!.toNat → stV (prefT t c) p k = stV t p k := by
  intro k hk
  unfold stV initV
  rw [prefT_ev hp, prefT_vars hp, List.take_take, Nat.min_eq_left hk]

end Go.Proofs.Ytfcpnggdpaeldaa

/-
  Sends and receives within counts; when equal numbers announce that nothing is under way. No program is named here.
-/
namespace Go.Proofs.Ytfcpnggdpaeldaa
open Go.RowKit
set_option linter.unusedVariables false

theorem nodup_le {α : Type} [DecidableEq α] : ∀ {l m : List α}, l.Nodup → (∀ x ∈ l, x ∈ m) → l.length ≤ m.length := by
  intro l
  induction l with
  | nil => intro m _ _; exact Nat.zero_le _
  | cons a l ih =>
    intro m hn hs
    rw [List.nodup_cons] at hn
    have ha := hs a (by simp)
    have := ih (m := m.erase a) hn.2 fun x hx => (List.mem_erase_of_ne (by rintro rfl; exact hn.1 hx)).2 (hs x (by simp [hx]))
    rw [List.length_erase_of_mem ha] at this
    have hp := List.length_pos_of_mem ha
    rw [List.length_cons]; omega
theorem nodup_eq {α : Type} [DecidableEq α] {l m : List α} (hn : l.Nodup) (hs : ∀ x ∈ l, x ∈ m) (hl : m.length ≤ l.length) : ∀ x ∈ m, x ∈ l := by
  intro x hx
  by_cases h : x ∈ l
  · exact h
  · have := nodup_le (l := x :: l) (m := m) (List.nodup_cons.2 ⟨h, hn⟩) (by
      intro y hy
      rcases List.mem_cons.1 hy with rfl | hy
      · exact hx
      · exact hs y hy)
    rw [List.length_cons] at this; omega
theorem idsC_sorted (c : List Int) : ∀ p i, (idsCTo c p i).Pairwise before := by
  have inner : ∀ p i, (idsCTo c p 0).Pairwise before → (idsCTo c p i).Pairwise before := by
    intro p i h
    induction i with
    | zero => exact h
    | succ i ih =>
      rw [idsCTo_succ, List.pairwise_append]
      refine ⟨ih, by simp, fun x hx y hy => ?_⟩
      rw [List.mem_singleton] at hy; subst hy
      rw [mem_idsCTo] at hx
      unfold before; omega
  intro p i
  induction p generalizing i with
  | zero => exact inner 0 i (by simp [idsCTo_zero])
  | succ p ih => exact inner (p + 1) i (by rw [← idsCTo_next]; exact ih _)
theorem idsC_nodup (c : List Int) (p i : Nat) : (idsCTo c p i).Nodup := (idsC_sorted c p i).imp fun {a b} h => by rintro rfl; unfold before at h; omega
theorem mem_idsC {c : List Int} {x : Eid} : x ∈ idsCTo c c.length 0 ↔ InC c x := by
  rw [mem_idsCTo]; unfold InC; omega
/-- The events of a kind within counts. -/
def evsC (t : Tr) (kd : Int) (c : List Int) : List Eid := (idsCTo c c.length 0).filter fun x => decide ((ev t x).kind = kd)
theorem mem_evsC {t : Tr} {kd : Int} {c : List Int} {x : Eid} : x ∈ evsC t kd c ↔ InC c x ∧ (ev t x).kind = kd := by
  unfold evsC; rw [List.mem_filter, mem_idsC, decide_eq_true_eq]
theorem evsC_nodup (t : Tr) (kd : Int) (c : List Int) : (evsC t kd c).Nodup := (idsC_nodup c _ _).filter _
theorem inC_mono {c d : List Int} (hl : c.length = d.length) (h : LeC c d) {x : Eid} (hx : InC c x) : InC d x := ⟨by have := hx.1; omega, by have := h x.1 hx.1; have := hx.2; omega⟩
theorem evsC_sub {t : Tr} {kd : Int} {c d : List Int} (hl : c.length = d.length) (h : LeC c d) : ∀ x ∈ evsC t kd c, x ∈ evsC t kd d := by
  intro x hx
  rw [mem_evsC] at hx ⊢
  exact ⟨inC_mono hl h hx.1, hx.2⟩
theorem evsC_mono {t : Tr} {kd : Int} {c d : List Int} (hl : c.length = d.length) (h : LeC c d) : (evsC t kd c).length ≤ (evsC t kd d).length := nodup_le (evsC_nodup t kd c) (evsC_sub hl h)

/-- A receive's send. -/
theorem send_some {t : Tr} (hp : pairB t = true) {x : Eid} (hx : Inn t x) (h3 : (ev t x).kind = 3) : ∃ s, findE t 2 (ev t x).msg = some s := by
  have hs := (pairB_at hp hx (by rw [h3]; decide)).2 h3
  obtain ⟨j, hj, g1, g2, g3⟩ := sends_at.1 hs
  have hf := (pairB_at hp (x := ((ev t x).peer.toNat, j)) ⟨inn_lt hj, hj⟩ (by rw [g1]; decide)).1
  rw [g1, g2] at hf
  exact ⟨_, hf⟩
def sendOf (t : Tr) (x : Eid) : Eid := (findE t 2 (ev t x).msg).getD x
theorem sendOf_eq {t : Tr} {x s : Eid} (h : findE t 2 (ev t x).msg = some s) : sendOf t x = s := by unfold sendOf; rw [h]; rfl
theorem sends_nodup {t : Tr} {c : List Int} (hp : pairB t = true) (hr : RangeC t c) : ((evsC t 3 c).map (sendOf t)).Nodup := by
  unfold List.Nodup
  rw [List.pairwise_map]
  refine List.Pairwise.imp_of_mem ?_ (evsC_nodup t 3 c)
  intro a b ha hb hne e
  rw [mem_evsC] at ha hb
  have ia := hr.inn ha.1
  have ib := hr.inn hb.1
  obtain ⟨sa, hsa⟩ := send_some hp ia ha.2
  obtain ⟨sb, hsb⟩ := send_some hp ib hb.2
  rw [sendOf_eq hsa, sendOf_eq hsb] at e
  subst e
  have m1 := (findE_some hsa).2.2
  have m2 := (findE_some hsb).2.2
  have fa := (pairB_at hp ia (by rw [ha.2]; decide)).1
  have fb := (pairB_at hp ib (by rw [hb.2]; decide)).1
  rw [ha.2] at fa
  rw [hb.2, ← m2, m1, fa] at fb
  exact hne (Option.some.inj fb)
theorem sends_in {t : Tr} {c : List Int} (hp : pairB t = true) (hc : ConsC t c) : ∀ x ∈ (evsC t 3 c).map (sendOf t), x ∈ evsC t 2 c := by
  intro s hs
  obtain ⟨x, hx, rfl⟩ := List.mem_map.1 hs
  rw [mem_evsC] at hx
  have hi := hc.1.inn hx.1
  obtain ⟨s, hf⟩ := send_some hp hi hx.2
  have hm := missE_none.1 hc.2 x hx.1
  rw [sentB_recv hx.2 hf, decide_eq_true_eq] at hm
  obtain ⟨k1, k2, k3⟩ := findE_some hf
  rw [sendOf_eq hf, mem_evsC]
  exact ⟨⟨by rw [hc.1.1]; exact k1.1, by omega⟩, k2⟩
theorem recv_le {t : Tr} {c : List Int} (hp : pairB t = true) (hc : ConsC t c) : (evsC t 3 c).length ≤ (evsC t 2 c).length := by
  have := nodup_le (sends_nodup hp hc.1) (sends_in hp hc)
  rwa [List.length_map] at this
/-- Where as many are received as are sent, each send's receive is within the cut. -/
theorem recv_all {t : Tr} {c : List Int} (hp : pairB t = true) (hc : ConsC t c) (he : (evsC t 2 c).length ≤ (evsC t 3 c).length) {s : Eid} (hs : InC c s) (h2 : (ev t s).kind = 2) :
    ∃ x, InC c x ∧ (ev t x).kind = 3 ∧ (ev t x).msg = (ev t s).msg := by
  have := nodup_eq (sends_nodup hp hc.1) (sends_in hp hc) (by rw [List.length_map]; exact he) s (mem_evsC.2 ⟨hs, h2⟩)
  obtain ⟨x, hx, e⟩ := List.mem_map.1 this
  rw [mem_evsC] at hx
  obtain ⟨s', hf⟩ := send_some hp (hc.1.inn hx.1) hx.2
  rw [sendOf_eq hf] at e
  subst e
  exact ⟨x, hx.1, hx.2, (findE_some hf).2.2.symm⟩

/-! ### Driven by messages -/
/-- I p k: process p is passive in state k. -/
def DrivenI (t : Tr) (I : Nat → Nat → Prop) : Prop := ∀ p i, Inn t (p, i) → I p i → (ev t (p, i)).kind ≠ 2 ∧ ((ev t (p, i)).kind ≠ 3 → I p (i + 1))
theorem idle_stays {t : Tr} {I : Nat → Nat → Prop} (hd : DrivenI t I) {p : Nat} (a : Nat) (ha : I p a) : ∀ b, a ≤ b → (∀ i, a ≤ i → i < b → Inn t (p, i) ∧ (ev t (p, i)).kind ≠ 3) → I p b := by
  intro b hb
  induction b with
  | zero => intro _; obtain rfl : a = 0 := by omega
            exact ha
  | succ b ih =>
    intro h
    by_cases e : a = b + 1
    · subst e; exact ha
    · have := ih (by omega) (fun i h1 h2 => h i h1 (by omega))
      have hb2 := h b (by omega) (by omega)
      exact (hd p b hb2.1 this).2 hb2.2
/-- Two waves: between them all has terminated. -/
theorem wave_done {t : Tr} {I : Nat → Nat → Prop} {w0 w1 x : List Int} (hp : pairB t = true) (hd : DrivenI t I) (h0 : RangeC t w0) (h1 : RangeC t w1) (hx : ConsC t x) (l0 : LeC w0 x) (l1 : LeC x w1)
    (hi : ∀ p, p < t.length → I p w0[p]!.toNat) (he : (evsC t 3 w0).length = (evsC t 2 w1).length) : (∀ p, p < t.length → I p x[p]!.toNat) ∧ (evsC t 2 x).length = (evsC t 3 x).length := by
  have e0 : w0.length = x.length := h0.1.trans hx.1.1.symm
  have e1 : x.length = w1.length := hx.1.1.trans h1.1.symm
  have m1 := evsC_mono (t := t) (kd := 3) e0 l0
  have m2 := evsC_mono (t := t) (kd := 2) e1 l1
  have m3 := recv_le hp hx
  refine ⟨fun p hpl => ?_, by omega⟩
  have hx2 := hx.1.at hpl
  have h02 := h0.at hpl
  have hle := l0 p (by rw [h0.1]; exact hpl)
  refine idle_stays hd _ (hi p hpl) _ (by omega) fun i hi1 hi2 => ?_
  have hin : Inn t (p, i) := ⟨hpl, by show i < t[p]!.events.length; omega⟩
  refine ⟨hin, fun h3 => ?_⟩
  have hic : InC x (p, i) := ⟨by show p < x.length; rw [hx.1.1]; exact hpl, by show (i : Int) < x[p]!; omega⟩
  have := nodup_eq (evsC_nodup t 3 w0) (evsC_sub e0 l0) (by omega) (p, i) (mem_evsC.2 ⟨hic, h3⟩)
  have h9 := (mem_evsC.1 this).1.2
  have h8 : (i : Int) < w0[p]! := h9
  omega

/-! ### Termination is stable -/
/-- All that stands before an event. -/
noncomputable def below (t : Tr) (x : Eid) : List Eid := (ids t).filter fun y => @decide (Relation.TransGen (Dir t) y x) (Classical.propDecidable _)
theorem ids_nodup (t : Tr) : (ids t).Nodup := (idsTo_sorted t t.length 0).imp fun {a b} h => by rintro rfl; unfold before at h; omega
theorem mem_below {t : Tr} {x y : Eid} : y ∈ below t x ↔ Relation.TransGen (Dir t) y x := by
  unfold below
  rw [List.mem_filter, mem_ids]
  exact ⟨fun h => @of_decide_eq_true _ (Classical.propDecidable _) h.2, fun h => ⟨tg_inn_l h, @decide_eq_true _ (Classical.propDecidable _) h⟩⟩
theorem below_nodup (t : Tr) (x : Eid) : (below t x).Nodup := (ids_nodup t).filter _
theorem below_lt {t : Tr} (hc : ¬ Cyc t) {x y : Eid} (h : Relation.TransGen (Dir t) y x) : (below t y).length < (below t x).length := by
  have hn : (y :: below t y).Nodup := List.nodup_cons.2 ⟨fun e => hc ⟨y, mem_below.1 e⟩, below_nodup t y⟩
  have := nodup_le (m := below t x) hn (by
    intro z hz
    rcases List.mem_cons.1 hz with rfl | hz
    · exact mem_below.2 h
    · exact mem_below.2 ((mem_below.1 hz).trans h))
  rw [List.length_cons] at this; omega
theorem tg_row {t : Tr} {p j : Nat} : ∀ i, j < i → Inn t (p, i) → Relation.TransGen (Dir t) (p, j) (p, i) := by
  intro i
  induction i with
  | zero => intro h _; exact absurd h (Nat.not_lt_zero _)
  | succ i ih =>
    intro h hi
    have hd : Dir t (p, i) (p, i + 1) := ⟨hi, .inl ⟨rfl, rfl⟩⟩
    by_cases e : j = i
    · subst e; exact .single hd
    · exact .tail (ih (by omega) hd.inn) hd
/-- No event with a message lies behind a terminated cut. -/
theorem no_more {t : Tr} {I : Nat → Nat → Prop} {c e : List Int} (hp : pairB t = true) (hy : ¬ Cyc t) (hd : DrivenI t I) (hc : ConsC t c) (he : ConsC t e)
    (hi : ∀ p, p < t.length → I p c[p]!.toNat) (hq : (evsC t 2 c).length ≤ (evsC t 3 c).length) :
    ∀ n x, (below t x).length < n → InC e x → ¬ InC c x → I x.1 x.2 ∧ (ev t x).kind ≠ 2 ∧ (ev t x).kind ≠ 3 := by
  intro n
  induction n with
  | zero => intro x h; exact absurd h (Nat.not_lt_zero _)
  | succ n ih =>
    intro x hb hx hxc
    have hin := he.1.inn hx
    obtain ⟨p, i⟩ := x
    have hpl : p < t.length := hin.1
    have hcp := hc.1.at hpl
    have hle : c[p]! ≤ (i : Int) := by
      by_cases h : c[p]! ≤ (i : Int)
      · exact h
      · exact absurd ⟨by show p < c.length; rw [hc.1.1]; exact hpl, by show (i : Int) < c[p]!; omega⟩ hxc
    have hIi : I p i := by
      refine idle_stays hd _ (hi p hpl) i (by omega) fun j h1 h2 => ?_
      have hjn : Inn t (p, j) := ⟨hpl, by have := hin.2; show j < t[p]!.events.length; simp only at this; omega⟩
      have hlt := below_lt hy (tg_row i h2 hin)
      refine ⟨hjn, (ih (p, j) (by omega) ⟨hx.1, by have := hx.2; show (j : Int) < e[p]!; simp only at this; omega⟩ ?_).2.2⟩
      rintro ⟨_, h⟩
      have : (j : Int) < c[p]! := h
      omega
    refine ⟨hIi, (hd p i hin hIi).1, fun h3 => ?_⟩
    obtain ⟨s, hf⟩ := send_some hp hin h3
    have hlt := below_lt hy (.single (show Dir t s (p, i) from ⟨hin, .inr ⟨h3, hf⟩⟩))
    have hm := missE_none.1 he.2 _ hx
    rw [sentB_recv h3 hf, decide_eq_true_eq] at hm
    obtain ⟨k1, k2, k3⟩ := findE_some hf
    by_cases hsc : InC c s
    · obtain ⟨x', g1, g2, g3⟩ := recv_all hp hc hq hsc k2
      have f1 := (pairB_at hp (hc.1.inn g1) (by rw [g2]; decide)).1
      have f2 := (pairB_at hp hin (by rw [h3]; decide)).1
      rw [g2, g3, k3] at f1
      rw [h3, f1] at f2
      obtain rfl := Option.some.inj f2
      exact hxc g1
    · exact (ih s (by omega) ⟨by rw [he.1.1]; exact k1.1, by omega⟩ hsc).2.1 k2
/-- A later consistent cut has terminated, too. -/
theorem stable {t : Tr} {I : Nat → Nat → Prop} {c e : List Int} (hp : pairB t = true) (hy : ¬ Cyc t) (hd : DrivenI t I) (hc : ConsC t c) (he : ConsC t e) (hl : LeC c e)
    (hi : ∀ p, p < t.length → I p c[p]!.toNat) (hq : (evsC t 2 c).length = (evsC t 3 c).length) :
    (∀ p, p < t.length → I p e[p]!.toNat) ∧ (evsC t 2 e).length = (evsC t 3 e).length := by
  have hn := fun x => no_more hp hy hd hc he hi (by omega) ((below t x).length + 1) x (Nat.lt_succ_self _)
  have hlen : c.length = e.length := hc.1.1.trans he.1.1.symm
  have same : ∀ kd : Int, (kd = 2 ∨ kd = 3) → (evsC t kd e).length = (evsC t kd c).length := by
    intro kd hk
    refine Nat.le_antisymm (nodup_le (evsC_nodup t kd e) fun x hx => ?_) (evsC_mono hlen hl)
    rw [mem_evsC] at hx ⊢
    refine ⟨?_, hx.2⟩
    by_cases h : InC c x
    · exact h
    · have := hn x hx.1 h
      rcases hk with rfl | rfl
      · exact absurd hx.2 this.2.1
      · exact absurd hx.2 this.2.2
  refine ⟨fun p hpl => ?_, by rw [same 2 (.inl rfl), same 3 (.inr rfl)]; exact hq⟩
  have hcp := hc.1.at hpl
  have hep := he.1.at hpl
  have hle := hl p (by rw [hc.1.1]; exact hpl)
  refine idle_stays hd _ (hi p hpl) _ (by omega) fun i h1 h2 => ?_
  have hin : Inn t (p, i) := ⟨hpl, by show i < t[p]!.events.length; omega⟩
  refine ⟨hin, (hn (p, i) ⟨by show p < e.length; rw [he.1.1]; exact hpl, by show (i : Int) < e[p]!; omega⟩ ?_).2.2⟩
  rintro ⟨_, h⟩
  have : (i : Int) < c[p]! := h
  omega

end Go.Proofs.Ytfcpnggdpaeldaa

/-
  Cuts of a trace in the reference: Cut and Consistent; the error of a cut, and the values there.
-/
namespace Go.Proofs.Ytfcpnggdpaeldaa
open Go.RowKit
set_option linter.unusedVariables false

set_option maxHeartbeats 4000000 in
set_option maxRecDepth 100000 in
theorem cutR_calls (v vc : Value) (t : Tr) (c : List Int) (w : World) (h : TrAt w v t) (hs : SmallTr t) (hc : Ints w vc c) :
    Calls Try.prog 66 #[.agg #[v], vc] w fun e w' => e = .returned (.bool (fitsB t c && rangeB t c)) ∧ Ext w w' := by
  have HT := Lib.hid h
  have HC := Lib.hid hc
  have HS := Lib.hid hs
  obtain ⟨ta, tc, rfl, htc⟩ := h.sh
  obtain ⟨ca, cc, rfl, hlc, _⟩ := hc
  have hn1 := hs.1
  obtain ⟨rb, hrb⟩ : ∃ b, rangeB t c = b := ⟨_, rfl⟩
  have HRB := Lib.hid hrb
  obtain ⟨R, hR⟩ : ∃ R, (fitsB t c && rangeB t c) = R := ⟨_, rfl⟩
  rw [hR]
  have HR : Hid (R = (decide (c.length = t.length) && rb)) := Lib.hid (by rw [← hR, hrb]; rfl)
  generalize hln : t.length = n at *
  generalize hlm : c.length = m at *
  have HL := Lib.hid hln
  have HM := Lib.hid hlm
  have HX0 := Lib.hid (heap_alloc_new w (.cells #[.slice ta n tc] 24))
  have HE1 := Lib.hid ((Ext.rf w).al (.cells #[.slice ta n tc] 24))
  clear h hs hln hlm hrb hR
  by_cases hmn : m = n
  case neg =>
    have d0 : ((m : Int) != (n : Int)) = true := by simp; omega
    obtain rfl : R = false := by rw [HR.out, decide_eq_false hmn]; rfl
    clear hmn
    go_enter Try.func66, Try.ntmps66
    go_wp2
    go_ret
    exact ⟨rfl, HE1.out⟩
  case pos =>
  subst hmn
  have d0 : ((m : Int) != (m : Int)) = false := by simp
  have HRR : Hid (R = rb) := Lib.hid (by rw [HR.out, decide_eq_true rfl]; rfl)
  go_enter Try.func66, Try.ntmps66
  go_wp2
  generalize hw2 : w.alloc (.cells #[.slice ta m tc] 24) = w2 at *
  clear hw2
  go_loopg [5] m (fun g s5 wr => ∃ p : Nat, p ≤ m ∧ m - p ≤ g ∧ s5 = .int .i64 p ∧ Aside (∀ q, q < p → 0 ≤ c[q]! ∧ c[q]! ≤ (t[q]!.events.length : Int)) ∧ Aside (Ext w2 wr))
  case atStart => exact ⟨0, Nat.zero_le _, by omega, rfl, (fun j hj => absurd hj (Nat.not_lt_zero _)), Ext.rf _⟩
  case round =>
    obtain ⟨p, hp, hg, rfl, A, HEK⟩ := hrel
    have HEW := Lib.hid (HE1.out.trans' HEK.out)
    have HY0 := Lib.hid (HEK.out.hp HX0.out)
    have t0 := cellOf HY0.out 0
    simp only [List.getElem?_toArray, List.getElem?_cons_zero] at t0
    by_cases hlt : p < m
    · have hltz : (p : Int) < (m : Int) := by omega
      have hpz : (0 : Int) ≤ (p : Int) := by omega
      obtain ⟨B, O, C, vv, ve, hve, hlC, hB, hn0, hv0, he0, hV, hE0⟩ := proc_at HT.out p (by rw [HL.out]; exact hlt)
      simp only [Value.slice.injEq] at hve
      obtain ⟨rfl, hzz, rfl⟩ := hve
      obtain ⟨ea, ec, rfl, hec⟩ := hE0.sh
      obtain ⟨cb, co, rfl, hcb, hcp⟩ := ints_at HC.out p (by rw [HM.out]; exact hlt)
      have he1 := HEW.out.cl he0
      have hc1 := HEW.out.cl hcp
      have hen := (HS.out.2 p (by rw [HL.out]; exact hlt)).2.1
      generalize hne : t[p]!.events.length = ne at *
      have HNE := Lib.hid hne
      generalize hk : c[p]! = k at *
      have HK := Lib.hid hk
      clear hn0 hv0 hV hE0 hzz hne he0 hk hcp
      have HNO : Hid (¬ (0 ≤ k ∧ k ≤ (ne : Int)) → rb = false) := Lib.hid (fun hno => by
        rw [← HRB.out, Bool.eq_false_iff]
        intro hr
        have := rangeB_iff.1 hr p (by rw [HM.out]; exact hlt)
        rw [HNE.out, HK.out] at this
        exact hno this)
      by_cases h1 : k < 0
      · have d1 : decide (k < 0) = true := decide_eq_true h1
        have HF := Lib.hid (HNO.out (by omega))
        obtain rfl : R = false := HRR.out.trans HF.out
        clear h1
        go_wp2
        go_quiet (fail)
        go_wp2
        go_ret
        exact ⟨rfl, HEW.out.drN _⟩
      · have d1 : decide (k < 0) = false := decide_eq_false h1
        by_cases h2 : (ne : Int) < k
        · have d2 : decide ((ne : Int) < k) = true := decide_eq_true h2
          have HF := Lib.hid (HNO.out (by omega))
          obtain rfl : R = false := HRR.out.trans HF.out
          clear h1 h2
          go_wp2
          go_quiet (fail)
          go_wp2
          go_ret
          exact ⟨rfl, HEW.out.drN _⟩
        · have d2 : decide ((ne : Int) < k) = false := decide_eq_false h2
          have HOK := Lib.hid (show 0 ≤ k ∧ k ≤ (ne : Int) by omega)
          clear h1 h2
          go_wp2
          go_quiet (fail)
          go_wp2
          go_roundg (m - (p + 1))
          case measure => omega
          case rel =>
            refine ⟨p + 1, by omega, by omega, by go_num, (show Aside _ from fun j hj => ?_), (show Ext _ _ from HEK.out.drN _)⟩
            by_cases e : j = p
            · subst e; rw [HNE.out, HK.out]; exact HOK.out
            · exact A.out j (by omega)
    · have hltz : ¬ (p : Int) < (m : Int) := by omega
      obtain rfl : m = p := by omega
      have e : rangeB t c = true := rangeB_iff.2 (fun q hq => A.out q (by rw [HM.out] at hq; exact hq))
      obtain rfl : R = true := by rw [HRR.out, ← HRB.out, e]
      clear e
      go_wp2
      go_ret
      exact ⟨rfl, HEW.out⟩

set_option maxHeartbeats 8000000 in
set_option maxRecDepth 100000 in
theorem consR_calls (v vc : Value) (t : Tr) (c : List Int) (w : World) (h : TrAt w v t) (hv : validT t = true) (hc : Ints w vc c) (hr : RangeC t c) :
    Calls Try.prog 67 #[.agg #[v], vc] w fun e w' => e = .returned (.bool (missE t c).isNone) ∧ Ext w w' := by
  have HT := Lib.hid h
  have HC := Lib.hid hc
  have hs := valid_small hv
  have HS := Lib.hid hs
  have HRC := Lib.hid hr
  have HPB := Lib.hid (validT_parts.1 hv).2.1
  have HFI := Lib.hid (fun W (hW : Ext w W) m => findR_calls v t 2 m W (h.ext hW) hs)
  obtain ⟨ta, tc, rfl, htc⟩ := h.sh
  obtain ⟨ca, cc, rfl, hlc, _⟩ := hc
  have hn1 := hs.1
  obtain ⟨R, hR⟩ : ∃ R, (missE t c).isNone = R := ⟨_, rfl⟩
  rw [hR]
  have HR := Lib.hid hR
  have HM0 : Hid (missE t c = missTo t c c.length 0) := Lib.hid rfl
  have hcl := hr.1
  rw [hcl] at hlc ⊢
  generalize hln : t.length = n at *
  have HL := Lib.hid hln
  have HCL := Lib.hid hcl
  have HX0 := Lib.hid (heap_alloc_new w (.cells #[.slice ta n tc] 24))
  have HE1 := Lib.hid ((Ext.rf w).al (.cells #[.slice ta n tc] 24))
  clear h hs hln hR hv hr hcl
  go_enter Try.func67, Try.ntmps67
  go_wp2
  generalize hw2 : w.alloc (.cells #[.slice ta n tc] 24) = w2 at *
  clear hw2
  go_loopg [5] n (fun g s5 wr => ∃ p : Nat, p ≤ n ∧ n - p ≤ g ∧ s5 = .int .i64 p ∧ Aside (missTo t c p 0 = none) ∧ Aside (Ext w2 wr))
  case atStart => exact ⟨0, Nat.zero_le _, by omega, rfl, (show Aside _ from by unfold missTo; rw [idsCTo_zero]; rfl), Ext.rf _⟩
  case round =>
    obtain ⟨p, hp, hg, rfl, HMI, HEK⟩ := hrel
    have HEW := Lib.hid (HE1.out.trans' HEK.out)
    by_cases hlt : p < n
    · have hltz : (p : Int) < (n : Int) := by omega
      have hpz : (0 : Int) ≤ (p : Int) := by omega
      have HQ := Lib.hid (show p < t.length from by rw [HL.out]; exact hlt)
      obtain ⟨B, O, C, vv, ve, hve, hlC, hB, hn0, hv0, he0, hV, hE0⟩ := proc_at HT.out p HQ.out
      simp only [Value.slice.injEq] at hve
      obtain ⟨rfl, hzz, rfl⟩ := hve
      have HEE := Lib.hid hE0
      obtain ⟨ea, ec, rfl, hec⟩ := hE0.sh
      obtain ⟨cb, co, rfl, hcb, hcp⟩ := ints_at HC.out p (by rw [HCL.out]; exact hlt)
      have HE0 := Lib.hid he0
      have HCP := Lib.hid hcp
      have hkr := HRC.out.at HQ.out
      obtain ⟨k, hk⟩ : ∃ k : Nat, c[p]! = (k : Int) := ⟨c[p]!.toNat, by omega⟩
      have HK := Lib.hid hk
      rw [hk] at HCP hkr
      have hkn : k ≤ t[p]!.events.length := by omega
      have hel := (HS.out.2 p HQ.out).2.1
      generalize hnee : t[p]!.events.length = ne at *
      have HNE := Lib.hid hnee
      clear hn0 hv0 he0 hV hE0 hzz hcp hnee hk hkr
      go_wp2
      obtain ⟨wo, rfl⟩ : ∃ x, x = wr := ⟨_, rfl⟩
      go_loopg [6] k (fun g s6 wr => ∃ i : Nat, i ≤ k ∧ k - i ≤ g ∧ s6 = .int .i64 i ∧ Aside (missTo t c p i = none) ∧ Aside (Ext w2 wr))
      case atStart => exact ⟨0, Nat.zero_le _, by omega, rfl, (show Aside _ from HMI.out), (show Ext _ _ from HEK.out)⟩
      case round =>
        obtain ⟨i, hi, hg2, rfl, HMJ, HEJ⟩ := hrel
        have HEV := Lib.hid (HE1.out.trans' HEJ.out)
        have HY1 := Lib.hid (HEJ.out.hp HX0.out)
        have t0 := cellOf HY1.out 0
        simp only [List.getElem?_toArray, List.getElem?_cons_zero] at t0
        have e1 := HEV.out.cl HE0.out
        have c1 := HEV.out.cl HCP.out
        by_cases hlti : i < k
        · have hltzi : (i : Int) < (k : Int) := by omega
          have hiz : (0 : Int) ≤ (i : Int) := by omega
          have hine : (i : Int) < (ne : Int) := by omega
          obtain ⟨EB, EO, EC, va, hee, hlE, hEB, k0, k1, k2, k3, k4, hA⟩ := event_at HEE.out i (by rw [HNE.out]; omega)
          simp only [Value.slice.injEq] at hee
          obtain ⟨rfl, hzz, rfl⟩ := hee
          obtain ⟨ua, uc, rfl, huc⟩ := hA.sh
          have m0 := HEV.out.cl k0
          have m1 := HEV.out.cl k1
          have m2 := HEV.out.cl k2
          have m3 := HEV.out.cl k3
          have m4 := HEV.out.cl k4
          have HEVI : Hid (ev t (p, i) = t[p]!.events[i]!) := Lib.hid rfl
          generalize hev : t[p]!.events[i]! = y at *
          generalize y.asg.length = na at *
          have hsz := HEJ.out.sz
          clear k0 k1 k2 k3 k4 hA hzz hev
          by_cases hk3 : y.kind = 3
          · have d1 : (y.kind == 3) = true := by simp [hk3]
            have HK3 := Lib.hid (show (ev t (p, i)).kind = 3 from by rw [HEVI.out]; exact hk3)
            have HMS : Hid ((ev t (p, i)).msg = y.msg) := Lib.hid (by rw [HEVI.out])
            obtain ⟨sd, hsd⟩ := send_some HPB.out (x := (p, i)) ⟨HQ.out, by show i < t[p]!.events.length; rw [HNE.out]; omega⟩ HK3.out
            have hin := (findE_some hsd).1
            have HSB := Lib.hid (sentB_recv (c := c) HK3.out hsd)
            rw [HMS.out] at hsd
            have HFC := Lib.hid (HFI.out _ (HEV.out.al (evO y.kind y.peer y.msg y.time (.slice ua na uc))) y.msg)
            rw [hsd] at HFC
            simp only [eidA, eidB] at HFC
            obtain ⟨sp, si⟩ := sd
            simp only at HFC HSB hin
            have hspn : sp < n := by have := hin.1; rw [HL.out] at this; exact this
            have hsil : si + 1 ≤ 1000000 := by
              have h1 := (HS.out.2 sp hin.1).2.1
              have h2 := hin.2
              simp only at h2; omega
            obtain ⟨cb2, co2, hcc, hcb2, hcp2⟩ := ints_at HC.out sp (by rw [HCL.out]; exact hspn)
            simp only [Option.some.injEq, Addr.mk.injEq, and_true] at hcc
            obtain ⟨rfl, rfl⟩ := hcc
            have c2 := HEV.out.cl hcp2
            generalize hks : c[sp]! = ks at *
            have hspz : (0 : Int) ≤ (sp : Int) := by omega
            have hspi : (sp : Int) < (n : Int) := by omega
            have HEB2 := Lib.hid (heap_alloc_new wr (evO y.kind y.peer y.msg y.time (.slice ua na uc)))
            have HEA := Lib.hid ((Ext.rf wr).al (evO y.kind y.peer y.msg y.time (.slice ua na uc)))
            have HSO := Lib.hid (@missTo_succ t c p i HMJ.out)
            have HHT := Lib.hid (fun h => missTo_hit (t := t) (c := c) (p := p) (i := i) HMJ.out h (by rw [HCL.out]; exact hlt) (by rw [HK.out]; exact hltzi))
            have hw0 : w.heap.size < wr.heap.size := (Array.getElem?_eq_some_iff.1 HY1.out).1
            have hw1 : w.heap.size ≠ wr.heap.size := by omega
            clear hin hsd hcp2 hks hk3
            go_wp2_with fail
            refine HFC.out.mono ?_
            rintro e w5 ⟨rfl, hX5⟩
            have HX5 := Lib.hid (HEA.out.trans' hX5)
            have c5 := HX5.out.cl c2
            have hs5 := HX5.out.sz
            have hcw : cb < w5.heap.size := by have := HEV.out.sz; omega
            have hcn : cb ≠ w5.heap.size := by omega
            clear hX5 t0 e1 c1 m0 m1 m2 m3 m4 c2
            by_cases hcmp : ks < (si : Int) + 1
            · have d2 : decide (ks < (si : Int) + 1) = true := decide_eq_true hcmp
              have HF := Lib.hid (HHT.out (by rw [HSB.out, decide_eq_false (by omega)]))
              obtain rfl : R = false := by rw [← HR.out, HF.out]; rfl
              clear hcmp
              go_wp2
              go_quiet (fail)
              go_wp2
              go_ret
              exact ⟨rfl, ((HEV.out.trans' HX5.out).al _).drN _⟩
            · have d2 : decide (ks < (si : Int) + 1) = false := decide_eq_false hcmp
              have HF := Lib.hid (HSO.out (by rw [HSB.out, decide_eq_true (by omega)]))
              clear hcmp
              go_wp2
              go_quiet (fail)
              go_wp2
              go_roundg (k - (i + 1))
              case measure => omega
              case rel => exact ⟨i + 1, by omega, by omega, by go_num, (show Aside _ from HF.out), (show Ext _ _ from ((HEJ.out.trans' HX5.out).al _).drN _)⟩
          · have d1 : (y.kind == 3) = false := by simp [hk3]
            have HS1 := Lib.hid (missTo_succ HMJ.out (sentB_other (t := t) (c := c) (x := (p, i)) (by rw [HEVI.out]; exact hk3)))
            clear hk3
            go_wp2
            go_roundg (k - (i + 1))
            case measure => omega
            case rel => exact ⟨i + 1, by omega, by omega, by go_num, (show Aside _ from HS1.out), (show Ext _ _ from HEJ.out.al _)⟩
        · have hltzi : ¬ (i : Int) < (k : Int) := by omega
          obtain rfl : i = k := by omega
          have HMN : Hid (missTo t c (p + 1) 0 = none) := Lib.hid (by
            have := HMJ.out
            unfold missTo at this ⊢
            rw [← idsCTo_next, HK.out, Int.toNat_natCast]
            exact this)
          go_wp2
          go_roundg (n - (p + 1))
          case measure => omega
          case rel => exact ⟨p + 1, by omega, by omega, by go_num, (show Aside _ from HMN.out), (show Ext _ _ from HEJ.out)⟩
    · have hltz : ¬ (p : Int) < (n : Int) := by omega
      obtain rfl : n = p := by omega
      have HF := Lib.hid (show missE t c = none from by rw [HM0.out, HCL.out]; exact HMI.out)
      obtain rfl : R = true := by rw [← HR.out, HF.out]; rfl
      go_wp2
      go_ret
      exact ⟨rfl, HEW.out⟩

end Go.Proofs.Ytfcpnggdpaeldaa

/-
  The error of a cut, the values at a cut, and equal lists of lists, in the reference.
-/
namespace Go.Proofs.Ytfcpnggdpaeldaa
open Go.RowKit
set_option linter.unusedVariables false

theorem given_steps (t : Tr) (c : List Int) : givenE t [c] [] = if (validT t && fitsB t c) = true then (if rangeB t c = true then (if (missE t c).isNone = true then 0 else 18) else 2) else 1 := by
  unfold givenE
  simp only [List.all_cons, List.all_nil, Bool.and_true, if_true]

theorem enters_33 : ∀ args w, (callFunc 33 args).run Try.prog w = .ok (.enter 33 args) w := enters_of Try.func33 (by kernel_rfl) rfl

set_option maxHeartbeats 4000000 in
set_option maxRecDepth 100000 in
theorem cutFaultR_calls (v vc : Value) (t : Tr) (c : List Int) (w : World) (h : TrAt w v t) (hs : LooseTr t) (hc : Ints w vc c) :
    Calls Try.prog 34 #[.agg #[v], vc] w fun e w' => e = .returned (.int .i64 (givenE t [c] [])) ∧ Ext w w' := by
  have HVC := Lib.hid (fun W (hW : Ext w W) => validR_calls v t W (h.ext hW) hs)
  have HRC := Lib.hid (fun W (hW : Ext w W) (hv : validT t = true) => cutR_calls v vc t c W (h.ext hW) (valid_small hv) (hc.ext hW))
  have HCC := Lib.hid (fun W (hW : Ext w W) (hv : validT t = true) (hf : fitsB t c = true) (hr : rangeB t c = true) => consR_calls v vc t c W (h.ext hW) hv (hc.ext hW) ⟨of_decide_eq_true hf, hr⟩)
  obtain ⟨ta, tc, rfl, htc⟩ := h.sh
  obtain ⟨ca, cc, rfl, hlc, _⟩ := hc
  have HST := Lib.hid (given_steps t c)
  have HFT : Hid (fitsB t c = decide (c.length = t.length)) := Lib.hid rfl
  obtain ⟨ge, hge⟩ : ∃ E, givenE t [c] [] = E := ⟨_, rfl⟩
  rw [hge] at HST ⊢
  obtain ⟨vv, hvb⟩ : ∃ b, validT t = b := ⟨_, rfl⟩
  obtain ⟨fa, hfa⟩ : ∃ b, fitsB t c = b := ⟨_, rfl⟩
  obtain ⟨ra, hra⟩ : ∃ b, rangeB t c = b := ⟨_, rfl⟩
  obtain ⟨ma, hma⟩ : ∃ b, (missE t c).isNone = b := ⟨_, rfl⟩
  rw [hvb] at HVC HRC HCC HST
  rw [hfa] at HRC HCC HST HFT
  rw [hra] at HRC HCC HST
  rw [hma] at HCC HST
  generalize t.length = n at *
  generalize c.length = m at *
  have HY1 := Lib.hid (heap_alloc_new w (.cells #[.slice ta n tc] 24))
  have HE1 := Lib.hid ((Ext.rf w).al (.cells #[.slice ta n tc] 24))
  clear h hs hge hvb hfa hra hma hlc htc
  go_enter Try.func34, Try.ntmps34
  go_wp2_with fail
  refine (HVC.out _ HE1.out).mono ?_
  rintro e w2 ⟨rfl, hX⟩
  have HE2 := Lib.hid (HE1.out.trans' hX)
  have HY2 := Lib.hid (hX.hp HY1.out)
  have t2 := cellOf HY2.out 0
  simp only [List.getElem?_toArray, List.getElem?_cons_zero] at t2
  clear hX
  cases vv with
  | false =>
    obtain rfl : ge = 1 := HST.out
    go_wp2
    go_ret
    exact ⟨rfl, HE2.out⟩
  | true =>
  cases fa with
  | false =>
    obtain rfl : ge = 1 := HST.out
    have d0 : ((m : Int) != (n : Int)) = true := by have := of_decide_eq_false HFT.out.symm; simp; omega
    go_wp2
    go_ret
    exact ⟨rfl, HE2.out⟩
  | true =>
  obtain rfl : m = n := of_decide_eq_true HFT.out.symm
  have d0 : ((m : Int) != (m : Int)) = false := by simp
  go_wp2_with fail
  refine (HRC.out _ HE2.out (by first | rfl | trivial)).mono ?_
  rintro e w3 ⟨rfl, hX⟩
  have HE3 := Lib.hid (HE2.out.trans' hX)
  have HY3 := Lib.hid (hX.hp HY2.out)
  have t3 := cellOf HY3.out 0
  simp only [List.getElem?_toArray, List.getElem?_cons_zero] at t3
  clear hX
  cases ra with
  | false =>
    obtain rfl : ge = 2 := HST.out
    go_wp2
    go_ret
    exact ⟨rfl, HE3.out⟩
  | true =>
  clear t2
  go_wp2_with fail
  refine (HCC.out _ HE3.out (by first | rfl | trivial) (by first | rfl | trivial) (by first | rfl | trivial)).mono ?_
  rintro e w4 ⟨rfl, hX⟩
  have HE4 := Lib.hid (HE3.out.trans' hX)
  have HY4 := Lib.hid (hX.hp HY3.out)
  have t4 := cellOf HY4.out 0
  simp only [List.getElem?_toArray, List.getElem?_cons_zero] at t4
  clear hX
  cases ma with
  | false =>
    obtain rfl : ge = 18 := HST.out
    go_wp2
    go_ret
    exact ⟨rfl, HE4.out⟩
  | true =>
    obtain rfl : ge = 0 := HST.out
    go_wp2
    go_ret
    exact ⟨rfl, HE4.out⟩

set_option maxHeartbeats 8000000 in
set_option maxRecDepth 100000 in
theorem atF_calls (v vc : Value) (t : Tr) (c : List Int) (w : World) (h : TrAt w v t) (hv : validT t = true) (hc : Ints w vc c) (hr : RangeC t c) :
    Calls Try.prog 36 #[.agg #[v], vc] w fun e w' => RowsOut w w' e (atL t c) := by
  have HCC := Lib.hid hc
  obtain ⟨i2, hi2, iz0, iz1, iz2⟩ := info_parts info_slI
  have HRG := Lib.hid hr
  have HSF := Lib.hid (fun W (hW : Ext w W) p k hp hk => stateF_calls v t p k W (h.ext hW) hv hp hk)
  have hn1 := (valid_small hv).1
  have hcl := hr.1
  obtain ⟨ta, tc, rfl, htc⟩ := h.sh
  obtain ⟨ca, cc, rfl, hlc, _⟩ := hc
  have HAT : Hid (atL t c = atTo t c c.length) := Lib.hid rfl
  rw [hcl] at hlc HAT
  generalize atL t c = rr at *
  rw [hcl]
  generalize hN : t.length = N at *
  have HN := Lib.hid hN
  have HCL := Lib.hid hcl
  have HX0 := Lib.hid (heap_alloc_new w (.cells #[.slice ta N tc] 24))
  have HE1 := Lib.hid ((Ext.rf w).al (.cells #[.slice ta N tc] 24))
  clear h hv hr hN hcl
  go_enter Try.func36, Try.ntmps36
  go_wp2
  have HC00 := Lib.hid (cell_new w #[.slice ta N tc] 24 0 _ rfl)
  generalize hw2 : w.alloc (.cells #[.slice ta N tc] 24) = w2 at *
  clear hw2
  go_loopg [5, 6] N (fun g s5 s6 wr => ∃ p : Nat, p ≤ N ∧ N - p ≤ g ∧ s6 = .int .i64 p ∧ Aside (RowsOf wr w2.heap.size s5 (atTo t c p)) ∧ Aside (Ext w2 wr))
  case atStart => exact ⟨0, Nat.zero_le _, by omega, rfl, (show RowsOf _ _ _ _ from RowsOf.nil _ _), Ext.rf _⟩
  case round =>
    obtain ⟨p, hp, hg, rfl, HRO, HEK⟩ := hrel
    have HEW := Lib.hid (HE1.out.trans' HEK.out)
    have HY1 := Lib.hid (HEK.out.hp HX0.out)
    by_cases hlt : p < N
    · have hltz : (p : Int) < (N : Int) := by omega
      have hpz : (0 : Int) ≤ (p : Int) := by omega
      obtain ⟨cb, co, rfl, hcb, hcp⟩ := ints_at HCC.out p (by rw [HCL.out]; exact hlt)
      have cp1 := HEW.out.cl hcp
      have t0 := cellOf HY1.out 0
      simp only [List.getElem?_toArray, List.getElem?_cons_zero] at t0
      have hkr := HRG.out.at (p := p) (by rw [HN.out]; exact hlt)
      obtain ⟨k, hk⟩ : ∃ k : Nat, c[p]! = (k : Int) := ⟨c[p]!.toNat, by omega⟩
      rw [hk] at cp1 hkr
      have hkn : k ≤ t[p]!.events.length := by omega
      have HST := Lib.hid (HSF.out _ HEW.out p k (by first | exact hlt | (rw [HN.out]; exact hlt)) hkn)
      have HSL := Lib.hid (stV_len t p k hkn)
      have HAS : Hid (atTo t c (p + 1) = atTo t c p ++ [stV t p k]) := Lib.hid (by rw [atTo_succ, hk, Int.toNat_natCast])
      have HAL := Lib.hid (atTo_len t c p)
      have HCP := Lib.hid hcp
      rw [hk] at HCP
      have HKN := Lib.hid hkn
      clear hcp hkr hkn hk
      generalize t[p]!.vars.length = nv at *
      go_wp2
      have HET := Lib.hid (show Ext wr wr.drew from (Ext.rf wr).dr)
      have HWT := Lib.hid (show Ext w wr.drew from HEW.out.dr)
      have hb1 := World.block_lt_of_cell? wr _ cp1
      refine wp_region_tail (fun w' => w'.cell? ⟨w.heap.size, 0, none⟩ = some (.slice ta N tc) ∧ w'.cell? ⟨cb, co + p, none⟩ = some (.int .i64 k)) 10 (by kernel_rfl) ⟨HET.out.cl t0, HET.out.cl cp1⟩ (fun hHeld => ?_)
      generalize wr.drew = wT at *
      refine wpAnyT_take (i := 0) (d := some 13) (v := ?_) rfl rfl (by kernel_rfl) (by kernel_rfl) (by kernel_rfl) (by kernel_rfl) (fun _ _ _ h => h) (Or.inl ⟨by rfl, ?_⟩) (by assumption) ?_
      rotate_left
      · (intro w hSw; (try dsimp only at hSw); go_simp; try (with_reducible rfl))
      try simp only [Act.put]
      try simp only [List.setIfInBounds_toArray]
      try simp only [List.set_cons_zero, List.set_cons_succ]
      refine wpAnyT_take (i := 1) (d := some 14) (v := ?_) rfl rfl (by kernel_rfl) (by kernel_rfl) (by kernel_rfl) (by kernel_rfl) (fun _ _ _ h => h) (Or.inl ⟨by rfl, ?_⟩) (by assumption) ?_
      rotate_left
      · (intro w hSw; (try dsimp only at hSw); go_simp; try (with_reducible rfl))
      try simp only [Act.put]
      try simp only [List.setIfInBounds_toArray]
      try simp only [List.set_cons_zero, List.set_cons_succ]
      refine wpAnyT_take (i := 2) (d := some 15) (v := ?_) rfl rfl (by kernel_rfl) (by kernel_rfl) (by kernel_rfl) (by kernel_rfl) (fun _ _ _ h => h) (Or.inl ⟨by rfl, ?_⟩) (by assumption) ?_
      rotate_left
      · (intro w hSw; (try dsimp only at hSw); go_simp; try (with_reducible rfl))
      try simp only [Act.put]
      try simp only [List.setIfInBounds_toArray]
      try simp only [List.set_cons_zero, List.set_cons_succ]
      refine wpAnyT_take (i := 3) (d := some 16) (v := ?_) rfl rfl (by kernel_rfl) (by kernel_rfl) (by kernel_rfl) (by kernel_rfl) (fun _ _ _ h => h) (Or.inl ⟨by rfl, ?_⟩) (by assumption) ?_
      rotate_left
      · (intro w hSw; (try dsimp only at hSw); go_simp; try (with_reducible rfl))
      try simp only [Act.put]
      try simp only [List.setIfInBounds_toArray]
      try simp only [List.set_cons_zero, List.set_cons_succ]
      refine wpAnyT_take (i := 4) (d := some 17) (v := ?_) rfl rfl (by kernel_rfl) (by kernel_rfl) (by kernel_rfl) (by kernel_rfl) (fun _ _ _ h => h) (Or.inl ⟨by rfl, ?_⟩) (by assumption) ?_
      rotate_left
      · (intro w hSw; (try dsimp only at hSw); go_simp; try (with_reducible rfl))
      try simp only [Act.put]
      try simp only [List.setIfInBounds_toArray]
      try simp only [List.set_cons_zero, List.set_cons_succ]
      refine wpAnyT_take (i := 5) (d := some 18) (v := ?_) rfl rfl (by kernel_rfl) (by kernel_rfl) (by kernel_rfl) (by kernel_rfl) (fun _ _ _ h => h) (Or.inl ⟨by rfl, ?_⟩) (by assumption) ?_
      rotate_left
      · (intro w hSw; (try dsimp only at hSw); go_simp; try (with_reducible rfl))
      try simp only [Act.put]
      try simp only [List.setIfInBounds_toArray]
      try simp only [List.set_cons_zero, List.set_cons_succ]
      refine wpAnyT_take (i := 6) (d := some 19) (v := ?_) rfl rfl (by kernel_rfl) (by kernel_rfl) (by kernel_rfl) (by kernel_rfl) (fun _ _ _ h => h) (Or.inl ⟨by rfl, ?_⟩) (by assumption) ?_
      rotate_left
      · (intro w hSw; (try dsimp only at hSw); go_simp; try (with_reducible rfl))
      try simp only [Act.put]
      try simp only [List.setIfInBounds_toArray]
      try simp only [List.set_cons_zero, List.set_cons_succ]
      refine wpAnyT_step (i := 7) (by kernel_rfl) rfl (fun K hK => ?_)
      refine step_call rfl 33 _ _ rfl enters_33 [.agg #[.slice ta N tc], .int .i64 p, .int .i64 k] (by first | rfl | kernel_rfl | go_simp) (HSF.out _ HWT.out p k (by first | exact hlt | (rw [HN.out]; exact hlt)) HKN.out) ?_
      rintro e w3 ⟨u, rfl, hR3, hX3⟩
      refine ⟨_, rfl, ?_⟩
      have HE3 := Lib.hid ((HEK.out.trans' HET.out).trans' hX3)
      have HRO3 := Lib.hid ((HRO.out.ext HET.out).ext hX3)
      rw [HSL.out] at hR3
      have HR3 := Lib.hid (hR3.mono (show w2.heap.size ≤ wT.heap.size from (HEK.out.trans' HET.out).sz))
      obtain ⟨au, cu, rfl, _⟩ := hR3.any
      obtain ⟨xs, hxr, hxe⟩ := HRO3.out
      rw [HAL.out] at hxr hxe
      have HXR := Lib.hid hxr
      have HXE := Lib.hid hxe
      have hsz := HE3.out.sz
      have z0 := hX3.cl (HET.out.cl t0)
      have z1 := hX3.cl (HET.out.cl cp1)
      clear hR3 hX3 hxr hxe cp1 t0
      refine hK.out _ _ ?_ (fun hHeld => ?_)
      · (try dsimp only)
        exact ⟨z0, z1⟩
      clear hK K
      try simp only [Act.put]
      try simp only [List.setIfInBounds_toArray]
      try simp only [List.set_cons_zero, List.set_cons_succ]
      refine wpAnyT_step (i := 8) (by kernel_rfl) rfl (fun K hK => ?_)
      go_simp
      refine hK.out _ _ ?_ (fun hHeld => ?_)
      · (try dsimp only)
        go_keep
      clear hK K
      try simp only [Act.put]
      try simp only [List.setIfInBounds_toArray]
      try simp only [List.set_cons_zero, List.set_cons_succ]
      refine wpAnyT_step (i := 9) (by kernel_rfl) rfl (fun K hK => ?_)
      refine step_append_rowN rfl _ _ 49 rfl w2.heap.size 30 i2 (.slice none 0 0) 1 24 Try.underlying49 hi2 iz0 iz1 iz2 rfl (by decide) u5 p xs rfl (HXR.out.al _) w3.heap.size 1 [.slice au nv cu] rfl rfl ⟨_, heap_alloc_new _ _⟩ (by simp [Value.oneCell']) (by unfold maxLen; omega) (by omega) (by simp; omega) ?_
      intro v8 w8 hown8 hgrow8 hblk8
      have HOWN := Lib.hid hown8
      have HG8 := Lib.hid hgrow8
      have hx8 := (HE3.out.al (.cells #[.slice au nv cu] 30)).gr hgrow8 (fun q hq => (HXR.out.lt q hq).1)
      have HX8 := Lib.hid hx8
      have y0 := hx8.cl HC00.out
      have y1 := (HE1.out.trans' hx8).cl HCP.out
      clear hown8 hgrow8 hblk8 hx8
      refine hK.out _ _ ?_ (fun hHeld => ?_)
      · (try dsimp only)
        exact ⟨y0, y1⟩
      clear hK K
      try simp only [Act.put]
      try simp only [List.setIfInBounds_toArray]
      try simp only [List.set_cons_zero, List.set_cons_succ]
      refine wpAnyT_last (by kernel_rfl) rfl (by kernel_rfl) (fun K hK => ?_)
      go_simp
      refine hK.out _ _ ?_
      go_wp2_with fail
      go_roundg (N - (p + 1))
      case measure => omega
      case rel =>
        refine ⟨p + 1, by omega, by omega, by go_num, (show RowsOf _ _ _ _ from ?_), (show Ext _ _ from HX8.out)⟩
        rw [HAS.out]
        exact RowsOf.snoc (by rw [HAL.out]; exact HXR.out.al _) (by rw [HAL.out]; exact fun i hi => by obtain ⟨z, g1, g2⟩ := HXE.out i hi; exact ⟨z, g1, g2.al _⟩) (by rw [HSL.out]; exact HR3.out.al _) HG8.out (by rw [HAL.out]; exact HOWN.out)
    · have hltz : ¬ (p : Int) < (N : Int) := by omega
      obtain rfl : N = p := by omega
      go_wp2
      go_ret
      refine ⟨_, rfl, ?_, HEW.out⟩
      rw [HAT.out]
      exact HRO.out.sl

set_option maxHeartbeats 8000000 in
set_option maxRecDepth 100000 in
theorem sameLists_calls (va vb : Value) (l : List (List Int)) (w : World) (ha : Sl RInts 1 w va l) (hb : Sl RInts 1 w vb l) (hn : l.length ≤ 1000000) (hm : ∀ i, i < l.length → l[i]!.length ≤ 1000000) :
    Calls Try.prog 35 #[va, vb] w fun e w' => e = .returned (.bool true) ∧ Ext w w' := by
  have HA := Lib.hid ha
  have HB := Lib.hid hb
  have HM := Lib.hid hm
  obtain ⟨aa, ac, rfl, hac⟩ := ha.sh
  obtain ⟨ba, bc, rfl, hbc⟩ := hb.sh
  generalize hN : l.length = N at *
  have HN := Lib.hid hN
  have d0 : ((N : Int) != (N : Int)) = false := by simp
  clear ha hb hN hm
  go_enter Try.func35, Try.ntmps35
  go_wp2
  go_loopg [5] N (fun g s5 wr => ∃ p : Nat, p ≤ N ∧ N - p ≤ g ∧ s5 = .int .i64 p ∧ Aside (Ext w wr))
  case atStart => exact ⟨0, Nat.zero_le _, by omega, rfl, Ext.rf _⟩
  case round =>
    obtain ⟨p, hp, hg, rfl, HEK⟩ := hrel
    by_cases hlt : p < N
    · have hltz : (p : Int) < (N : Int) := by omega
      have hpz : (0 : Int) ≤ (p : Int) := by omega
      obtain ⟨b1, o1, c1, u1, he1, hl1, hb1, hc1, x1, hx1, hI1⟩ := HA.out.at1 p (by rw [HN.out]; exact hlt)
      obtain ⟨b2, o2, c2, u2, he2, hl2, hb2, hc2, x2, hx2, hI2⟩ := HB.out.at1 p (by rw [HN.out]; exact hlt)
      simp only [Value.slice.injEq] at he1 he2
      obtain ⟨rfl, hz1, rfl⟩ := he1
      obtain ⟨rfl, hz2, rfl⟩ := he2
      obtain rfl : u1 = x1 := by simpa using hx1
      obtain rfl : u2 = x2 := by simpa using hx2
      have HI1 := Lib.hid hI1
      have HI2 := Lib.hid hI2
      obtain ⟨y1, z1, rfl, hy1, _⟩ := hI1
      obtain ⟨y2, z2, rfl, hy2, _⟩ := hI2
      have HC1 := Lib.hid hc1
      have HC2 := Lib.hid hc2
      have hm1 := HM.out p hlt
      generalize hx : l[p]! = x at *
      generalize hk : x.length = k at *
      have HK := Lib.hid hk
      have d1 : ((k : Int) != (k : Int)) = false := by simp
      have e1 := HEK.out.cl hc1
      have e2 := HEK.out.cl hc2
      clear hx hk hc1 hc2 hx1 hx2 hz1 hz2 hl1 hl2
      go_wp2
      go_quiet (fail)
      go_wp2
      obtain ⟨wo, rfl⟩ : ∃ x, x = wr := ⟨_, rfl⟩
      go_loopg [6] k (fun g s6 wr => ∃ j : Nat, j ≤ k ∧ k - j ≤ g ∧ s6 = .int .i64 j ∧ Aside (Ext w wr))
      case atStart => exact ⟨0, Nat.zero_le _, by omega, rfl, (show Ext _ _ from HEK.out.drN _)⟩
      case round =>
        obtain ⟨j, hj, hg2, rfl, HEJ⟩ := hrel
        have e1 := HEJ.out.cl HC1.out
        have e2 := HEJ.out.cl HC2.out
        by_cases hltj : j < k
        · have hltzj : (j : Int) < (k : Int) := by omega
          have hjz : (0 : Int) ≤ (j : Int) := by omega
          obtain ⟨q1, r1, rfl, hq1, hf1⟩ := ints_at HI1.out j (by rw [HK.out]; exact hltj)
          obtain ⟨q2, r2, rfl, hq2, hf2⟩ := ints_at HI2.out j (by rw [HK.out]; exact hltj)
          have f1 := HEJ.out.cl hf1
          have f2 := HEJ.out.cl hf2
          generalize x[j]! = y at *
          have d3 : (y != y) = false := by simp
          clear hf1 hf2
          go_wp2
          go_quiet (fail)
          go_wp2
          go_roundg (k - (j + 1))
          case measure => omega
          case rel => exact ⟨j + 1, by omega, by omega, by go_num, (show Ext _ _ from HEJ.out.drN _)⟩
        · have hltzj : ¬ (j : Int) < (k : Int) := by omega
          obtain rfl : j = k := by omega
          go_wp2
          go_roundg (N - (p + 1))
          case measure => omega
          case rel => exact ⟨p + 1, by omega, by omega, by go_num, (show Ext _ _ from HEJ.out)⟩
    · have hltz : ¬ (p : Int) < (N : Int) := by omega
      go_wp2
      go_ret
      exact ⟨rfl, HEK.out⟩

end Go.Proofs.Ytfcpnggdpaeldaa

/-
  A call within a region that draws its order, where the call is guarded and wanted. No program is named here.
-/
namespace Go.Proofs.Ytfcpnggdpaeldaa
open Go.RowKit
set_option linter.unusedVariables false

theorem step_callW {P : Program} {ops : Array Oper} {o : Oper} {a : Act} {w : World} {K : Act → World → Prop} {Q : Exit → Act → World → Prop} {E : Prop}
    (hw : Region.wanted o (yielded ops a.tmps) = true) (f : FuncId) (args : Array Operand) (tys : Array TypeId) (ho : o.op = .call { callee := .value (.func f), args := args, argTypes := tys })
    (eg : ∀ args w, (callFunc f args).run P w = .ok (.enter f args) w) (vals : List Value) (hv : args.toList.map a.eval = vals) {R : Ending → World → Prop} (hc : Calls P f vals.toArray w R)
    (hK : ∀ e w', R e w' → ∃ v, e = .returned v ∧ K (a.put o.dst v) w') :
    if Region.wanted o (yielded ops a.tmps) = true then Oper.wp P o a w K Q else E := by
  rw [if_pos hw]
  have hr : (execOp a.eval o).run P w = .ok (.enter f vals.toArray) w := by
    have hv' : args.map a.eval = vals.toArray := by rw [← hv]; cases args; simp
    have he : a.eval (.func f) = .func (.func f) #[] #[] := rfl
    unfold execOp
    simp only [ho, resolve, he, Deferred.ofValue, Sem.run_bind, Sem.run_pure, Result.andThen_ok, invoke, Array.append_empty, hv']
    simp [eg]
  unfold Oper.wp
  rw [hr, Oper.upon_enter]
  refine hc.mono fun e w' h => ?_
  obtain ⟨v, rfl, hk⟩ := hK e w' h
  exact hk

end Go.Proofs.Ytfcpnggdpaeldaa
