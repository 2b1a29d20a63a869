import Derived.Test.YtfcpnggdpaeldaaGa
import Derived.Test.YtfcpnggdpaeldaaGk
import Derived.Test.YtfcpnggdpaeldaaProg
import Derived.Test.YtfcpnggdpaeldaaGe
import Derived.Test.YtfcpnggdpaeldaaGj
import Derived.Deep.RegionHeld3
import Derived.BigQuiet
import Derived.Deep.QuietTactic
import Derived.Deep.LoopGhost
import Derived.Shelf.Abstract
import Derived.BigRegion
import Derived.Laws.EntriesVeiled
import Derived.Deep.DeepCutAuto
/-
  A region that draws its order, of which some operations write what others read: the loads may be taken first all the same, where the writing ones wait for them. No program is named here.
-/
namespace Go.Proofs.Ytfcpnggdpaeldaa
set_option linter.unusedVariables false

section
variable {P : Program} {ops : Array Oper} {Q : Exit → Act → World → Prop} {md : Region.Mode} {S : World → Prop} {st : List Nat}

/-- Whatever order is picked from here on, and S holds behind every operation but st. -/
def wpAnyU (P : Program) (md : Region.Mode) (ops : Array Oper) (Q : Exit → Act → World → Prop) (S : World → Prop) (st : List Nat) : Nat → Array Bool → Act → World → Prop
  | 0, listed, a, w => Region.ready md ops listed = [] ∧ Q .normal a w
  | fuel + 1, listed, a, w =>
    (Region.ready md ops listed = [] → Q .normal a w) ∧
    ∀ i ∈ Region.ready md ops listed, wpOp P ops Q i (fun a' w' => (i ∈ st ∨ S w') ∧ wpAnyU P md ops Q S st fuel (listed.setIfInBounds i true) a' w') a w

theorem wpAny_of_U : ∀ (fuel : Nat) (listed : Array Bool) (a : Act) (w : World), wpAnyU P md ops Q S st fuel listed a w → wpAny P md ops Q fuel listed a w
  | 0, _, _, _, h => h
  | fuel + 1, _, _, _, h => ⟨h.1, fun i hi => wpOp_mono (fun a' w' h' => wpAny_of_U fuel _ a' w' h'.2) (h.2 i hi)⟩

theorem wpAnyU_first {i : Nat} {oi : Oper} {v : Value} (hi : ops[i]? = some oi) (hsel : ∀ (j : Nat) (o : Oper) cs b, ops[j]? = some o → o.op ≠ .select cs b)
    (hQ : ∀ c a w, Q (.panic c) (a.put oi.dst v) w → Q (.panic c) a w) (D : List Nat) (hst : ∀ s ∈ st, s ∈ D)
    (hD : ∀ d ∈ D, d ≠ i → ∃ od, ops[d]? = some od ∧ ∃ e ∈ od.after, Region.binds md e = true ∧ e.on ∈ D) :
    ∀ (fuel : Nat) (listed : Array Bool) (a : Act) (w : World),
      (∀ j oj, ops[j]? = some oj → j ≠ i → listed.getD j true = false → (∀ e ∈ oj.after, Region.binds md e = true → e.on ≠ i) → oi.apart ops oj = true) →
      i ∈ Region.ready md ops listed → (∀ d ∈ D, listed.getD d true = false) → YieldsIf P ops S oi v a → S w →
      wpAnyU P md ops Q S st fuel (listed.setIfInBounds i true) (a.put oi.dst v) w → wpAnyU P md ops Q S st (fuel + 1) listed a w := by
  intro fuel
  induction fuel with
  | zero =>
    intro listed a w _ hr _ hy hS H
    refine ⟨fun h => (by rw [h] at hr; cases hr), fun j hj => ?_⟩
    by_cases hji : j = i
    · subst hji; exact hy.wpOp hi hS ⟨.inr hS, H⟩
    · have := ready_mono hj hji
      rw [H.1] at this
      cases this
  | succ fuel ih =>
    intro listed a w hfree hr hun hy hS H
    refine ⟨fun h => (by rw [h] at hr; cases hr), fun j hj => ?_⟩
    by_cases hji : j = i
    · subst hji; exact hy.wpOp hi hS ⟨.inr hS, H⟩
    · have h1 := H.2 j (ready_mono hj hji)
      obtain ⟨hjun, oj, hoj, hall⟩ := mem_ready.1 hj
      have flip : ∀ k, listed.getD k true = false → listed.getD k false = true → False := fun k h0 h1 => by
        rcases Nat.lt_or_ge k listed.size with h' | h'
        · simp [h'] at h0 h1; rw [h0] at h1; cases h1
        · simp [Array.getElem?_eq_none h'] at h1
      have hnot : ∀ e ∈ oj.after, Region.binds md e = true → e.on ≠ i := fun e he hb heq => by
        have h1 := hall e he hb
        rw [heq] at h1
        exact flip i (mem_ready.1 hr).1 h1
      have hjD : j ∉ D := fun hjd => by
        obtain ⟨od, hod, e, he, hb, hed⟩ := hD j hjd hji
        rw [hoj] at hod
        cases hod
        exact flip e.on (hun e.on hed) (hall e he hb)
      have hjst : j ∉ st := fun e => hjD (hst j e)
      have h2 := wpOp_putIf hoj (hfree j oj hoj hji hjun hnot) (fun cs b => hsel i oi cs b hi) (fun cs b => hsel j oj cs b hoj) hQ hy h1
      have hfree' : ∀ k ok, ops[k]? = some ok → k ≠ i → (listed.setIfInBounds j true).getD k true = false →
          (∀ e ∈ ok.after, Region.binds md e = true → e.on ≠ i) → oi.apart ops ok = true := fun k ok hk hki hun hno => by
        refine hfree k ok hk hki ?_ hno
        by_cases hjk : j = k
        · subst hjk; exact hjun
        · rw [getD_set_ne true hjk] at hun; exact hun
      have hun' : ∀ d ∈ D, (listed.setIfInBounds j true).getD d true = false := fun d hd => by
        rw [getD_set_ne true (fun e => hjD (by rw [e]; exact hd))]; exact hun d hd
      refine wpOp_mono (fun a' w' h3 => ?_) h2
      have hSw : S w' := h3.2.1.resolve_left hjst
      refine ⟨.inr hSw, ih (listed.setIfInBounds j true) a' w' hfree' (ready_mono hr (Ne.symm hji)) hun' h3.1 hSw ?_⟩
      rw [Array.setIfInBounds_comm _ _ hji]
      exact h3.2.2

/-- What waits for number i, itself included. -/
def upOfU (md : Region.Mode) (ops : Array Oper) (i : Nat) : List Nat :=
  (List.range ops.size).foldl (fun D j => if j == i || ((ops[j]?).map (·.after.any fun e => Region.binds md e && D.contains e.on)).getD false then D ++ [j] else D) []
def upOkU (md : Region.Mode) (ops : Array Oper) (listed : Array Bool) (st : List Nat) (i : Nat) : Bool :=
  (st.all fun s => (upOfU md ops i).contains s) && (upOfU md ops i).all fun d => !(listed.getD d true) && (d == i || ((ops[d]?).map (·.after.any fun e => Region.binds md e && (upOfU md ops i).contains e.on)).getD false)

/-- Take number i first, slot d := v. -/
theorem wpAnyU_take {i : Nat} {oi : Oper} {v : Value} {d : Option Tmp} {fuel : Nat} {listed : Array Bool} {a : Act} {w : World} (hi : ops[i]? = some oi) (hd : oi.dst = d)
    (hs : Region.noSelect ops = true) (hf : Region.free md ops listed i = true) (hr : (Region.ready md ops listed).contains i = true) (hu : upOkU md ops listed st i = true)
    (hQ : ∀ c a w, Q (.panic c) (a.put d v) w → Q (.panic c) a w) (hy : YieldsIf P ops S oi v a) (hS : S w)
    (h : wpAnyU P md ops Q S st fuel (listed.setIfInBounds i true) (a.put d v) w) : wpAnyU P md ops Q S st (fuel + 1) listed a w := by
  subst hd
  unfold upOkU at hu
  simp only [Bool.and_eq_true, List.all_eq_true, Bool.not_eq_true', Bool.or_eq_true, beq_iff_eq] at hu
  obtain ⟨h1, h2⟩ := hu
  refine wpAnyU_first hi (Region.noSelect_spec hs) hQ (upOfU md ops i) (by simpa using h1) (fun d hd hne => ?_) fuel listed a w (Region.free_spec hi hf) (by simpa using hr) (fun d hd => (h2 d hd).1) hy hS h
  have h3 := (h2 d hd).2.resolve_left hne
  cases hod : ops[d]? with
  | none => rw [hod] at h3; simp at h3
  | some od =>
    rw [hod] at h3
    simp only [Option.map_some, Option.getD_some] at h3
    obtain ⟨e, he, hb⟩ := Array.any_eq_true'.1 h3
    rw [Bool.and_eq_true] at hb
    exact ⟨od, rfl, e, he, hb.1, by simpa using hb.2⟩

theorem wp_region_tails (S : World → Prop) (st : List Nat) {id : Nat} {a : Act} {w : World} (hm : P.follows .mixedOrders = true) (hS : S w.drew)
    (h : S w.drew → wpAnyU P .any ops Q S st ops.size (Array.replicate ops.size false) a w.drew) : (Code.region id ops true).wp P Q a w :=
  wp_region_any hm (wpAny_of_U _ _ _ _ (h hS))

/-- The one operation that may come up is carried out. -/
theorem wpAnyU_step {i : Nat} {o : Oper} {fuel : Nat} {listed : Array Bool} {a : Act} {w : World} (hr : Region.ready md ops listed = [i]) (ho : ops[i]? = some o)
    (h : ∀ K' : Act → World → Prop, Shut (∀ a w, S w → (S w → wpAnyU P md ops Q S st fuel (listed.setIfInBounds i true) a w) → K' a w) → if Region.wanted o (yielded ops a.tmps) = true then Oper.wp P o a w K' Q else K' (a.put o.dst undef) w) :
    wpAnyU P md ops Q S st (fuel + 1) listed a w :=
  ⟨fun h0 => (by rw [hr] at h0; cases h0), fun j hj => by
    rw [hr] at hj
    obtain rfl : j = i := by simpa using hj
    exact wpOp_step ho (fun K' hK => h K' (fun a w hS hW => hK a w ⟨.inr hS, hW hS⟩))⟩

/-- One that writes, the only one that may come up. -/
theorem wpAnyU_store {i : Nat} {o : Oper} {fuel : Nat} {listed : Array Bool} {a : Act} {w : World} (hr : Region.ready md ops listed = [i]) (ho : ops[i]? = some o) (hi : i ∈ st)
    (h : ∀ K' : Act → World → Prop, Shut (∀ a w, wpAnyU P md ops Q S st fuel (listed.setIfInBounds i true) a w → K' a w) → if Region.wanted o (yielded ops a.tmps) = true then Oper.wp P o a w K' Q else K' (a.put o.dst undef) w) :
    wpAnyU P md ops Q S st (fuel + 1) listed a w :=
  ⟨fun h0 => (by rw [hr] at h0; cases h0), fun j hj => by
    rw [hr] at hj
    obtain rfl : j = i := by simpa using hj
    exact wpOp_step ho (fun K' hK => h K' (fun a w hW => hK a w ⟨.inl hi, hW⟩))⟩
/-- Nothing is left. -/
theorem wpAnyU_done {fuel : Nat} {listed : Array Bool} {a : Act} {w : World} (hr : Region.ready md ops listed = []) (hq : Q .normal a w) : wpAnyU P md ops Q S st fuel listed a w := by
  cases fuel with
  | zero => exact ⟨hr, hq⟩
  | succ n => exact ⟨fun _ => hq, by rw [hr]; simp⟩

/-! ### Several that may come up -/
def AllU (P : Program) (md : Region.Mode) (ops : Array Oper) (Q : Exit → Act → World → Prop) (S : World → Prop) (st : List Nat) (fuel : Nat) (listed : Array Bool) (a : Act) (w : World) (rs : List Nat) : Prop :=
  ∀ i ∈ rs, wpOp P ops Q i (fun a' w' => (i ∈ st ∨ S w') ∧ wpAnyU P md ops Q S st fuel (listed.setIfInBounds i true) a' w') a w
theorem AllU.nil {fuel : Nat} {listed : Array Bool} {a : Act} {w : World} : AllU P md ops Q S st fuel listed a w [] := fun _ h => by cases h
theorem AllU.cons {fuel : Nat} {listed : Array Bool} {a : Act} {w : World} {i : Nat} {o : Oper} {rs : List Nat} (ho : ops[i]? = some o)
    (h : ∀ K' : Act → World → Prop, Shut (∀ a w, S w → (S w → wpAnyU P md ops Q S st fuel (listed.setIfInBounds i true) a w) → K' a w) → if Region.wanted o (yielded ops a.tmps) = true then Oper.wp P o a w K' Q else K' (a.put o.dst undef) w)
    (hs : AllU P md ops Q S st fuel listed a w rs) : AllU P md ops Q S st fuel listed a w (i :: rs) := fun j hj => by
  rcases List.mem_cons.1 hj with rfl | hj
  · exact wpOp_step ho (fun K' hK => h K' (fun a w hS hW => hK a w ⟨.inr hS, hW hS⟩))
  · exact hs j hj
theorem AllU.consS {fuel : Nat} {listed : Array Bool} {a : Act} {w : World} {i : Nat} {o : Oper} {rs : List Nat} (ho : ops[i]? = some o) (hi : i ∈ st)
    (h : ∀ K' : Act → World → Prop, Shut (∀ a w, wpAnyU P md ops Q S st fuel (listed.setIfInBounds i true) a w → K' a w) → if Region.wanted o (yielded ops a.tmps) = true then Oper.wp P o a w K' Q else K' (a.put o.dst undef) w)
    (hs : AllU P md ops Q S st fuel listed a w rs) : AllU P md ops Q S st fuel listed a w (i :: rs) := fun j hj => by
  rcases List.mem_cons.1 hj with rfl | hj
  · exact wpOp_step ho (fun K' hK => h K' (fun a w hW => hK a w ⟨.inl hi, hW⟩))
  · exact hs j hj
theorem wpAnyU_ready {rs : List Nat} {fuel : Nat} {listed : Array Bool} {a : Act} {w : World} (hr : Region.ready md ops listed = rs) (hne : rs ≠ [])
    (h : AllU P md ops Q S st fuel listed a w rs) : wpAnyU P md ops Q S st (fuel + 1) listed a w :=
  ⟨fun h0 => absurd (hr ▸ h0) hne, hr ▸ h⟩
end

end Go.Proofs.Ytfcpnggdpaeldaa

/-
  A trace with a further variable: it is valid, and its states are the old ones with the given value behind. No program is named here.
-/
namespace Go.Proofs.Ytfcpnggdpaeldaa
open Go.RowKit
set_option linter.unusedVariables false

def withE (nv : Nat) (l : List Int) (k : Nat) (e : Ev) : Ev := { e with asg := if l[k + 1]! = l[k]! then e.asg else e.asg ++ [⟨(nv : Int), l[k + 1]!⟩] }
def withP (s : ByteArray) (l : List Int) (x : Pr) : Pr := { x with vars := x.vars ++ [⟨s, l[0]!⟩], events := (List.range x.events.length).map fun k => withE x.vars.length l k x.events[k]! }
def withT (s : ByteArray) (l : List (List Int)) (t : Tr) : Tr := (List.range t.length).map fun p => withP s l[p]! t[p]!
structure WithOk (t : Tr) (s : ByteArray) (l : List (List Int)) : Prop where
  rng : ∀ p, p < t.length → ∀ k, k ≤ t[p]!.events.length → valueB l[p]![k]! = true
  nm : nameB s = true
  once : ∀ p, p < t.length → ∀ v, v < t[p]!.vars.length → (t[p]!.vars[v]!.name.toList == s.toList) = false
  roomV : ∀ p, p < t.length → t[p]!.vars.length < 8
  roomA : ∀ p, p < t.length → ∀ k, k < t[p]!.events.length → l[p]![k + 1]! ≠ l[p]![k]! → t[p]!.events[k]!.asg.length < 8

variable {t : Tr} {s : ByteArray} {l : List (List Int)}
theorem withT_len : (withT s l t).length = t.length := by simp [withT]
theorem withT_at {p : Nat} (h : p < t.length) : (withT s l t)[p]! = withP s l[p]! t[p]! := by
  rw [getElem!_pos _ p (by rw [withT_len]; exact h)]; simp [withT]
theorem withT_events {p : Nat} (h : p < t.length) : (withT s l t)[p]!.events.length = t[p]!.events.length := by rw [withT_at h]; simp [withP]
theorem withT_vars {p : Nat} (h : p < t.length) : (withT s l t)[p]!.vars = t[p]!.vars ++ [⟨s, l[p]![0]!⟩] := by rw [withT_at h]; rfl
theorem withT_name {p : Nat} (h : p < t.length) : (withT s l t)[p]!.name = t[p]!.name := by rw [withT_at h]; rfl
theorem withT_event {p k : Nat} (h : p < t.length) (hk : k < t[p]!.events.length) : (withT s l t)[p]!.events[k]! = withE t[p]!.vars.length l[p]! k t[p]!.events[k]! := by
  rw [withT_at h]
  show ((List.range t[p]!.events.length).map fun k => withE t[p]!.vars.length l[p]! k t[p]!.events[k]!)[k]! = _
  rw [getElem!_pos _ k (by simpa using hk)]; simp
theorem with_inn {x : Eid} : Inn (withT s l t) x ↔ Inn t x := by
  unfold Inn
  rw [withT_len]
  constructor
  · rintro ⟨h1, h2⟩; rw [withT_events h1] at h2; exact ⟨h1, h2⟩
  · rintro ⟨h1, h2⟩; rw [withT_events h1]; exact ⟨h1, h2⟩
theorem with_ev {x : Eid} (h : Inn t x) : (ev (withT s l t) x).kind = (ev t x).kind ∧ (ev (withT s l t) x).peer = (ev t x).peer ∧ (ev (withT s l t) x).msg = (ev t x).msg ∧ (ev (withT s l t) x).time = (ev t x).time := by
  unfold ev; rw [withT_event h.1 h.2]; exact ⟨rfl, rfl, rfl, rfl⟩
theorem with_ids : ids (withT s l t) = ids t := by
  unfold ids idsTo
  rw [withT_len]
  congr 1
  rw [List.flatMap_def, List.flatMap_def]
  congr 1
  refine List.map_congr_left fun q hq => ?_
  rw [List.mem_range] at hq
  rw [withT_events hq]
theorem find_congr {α : Type} {f g : α → Bool} : ∀ {l : List α}, (∀ x ∈ l, f x = g x) → l.find? f = l.find? g := by
  intro l
  induction l with
  | nil => intro _; rfl
  | cons a l ih =>
    intro h
    rw [List.find?_cons, List.find?_cons, h a (by simp), ih fun x hx => h x (by simp [hx])]
theorem with_hit {k m : Int} {x : Eid} (h : Inn t x) : hit (withT s l t) k m x = hit t k m x := by
  unfold hit; rw [(with_ev h).1, (with_ev h).2.2.1]
theorem with_find (k m : Int) : findE (withT s l t) k m = findE t k m := by
  unfold findE firstIn
  rw [with_ids]
  exact find_congr fun x hx => with_hit (mem_ids.1 hx)
theorem with_dir {x y : Eid} : Dir (withT s l t) y x ↔ Dir t y x := by
  unfold Dir
  rw [with_inn]
  constructor
  · rintro ⟨h, r⟩; rw [(with_ev h).1, (with_ev h).2.2.1, with_find] at r; exact ⟨h, r⟩
  · rintro ⟨h, r⟩; rw [(with_ev h).1, (with_ev h).2.2.1, with_find]; exact ⟨h, r⟩
theorem with_cyc : Cyc (withT s l t) ↔ Cyc t := by
  have e : Dir (withT s l t) = Dir t := by funext y x; exact propext with_dir
  unfold Cyc; rw [e]
theorem with_sends {p : Nat} {m q : Int} (h : p < t.length) : sendsB (withT s l t) p m q = sendsB t p m q := by
  unfold sendsB
  rw [withT_at h]
  show ((List.range t[p]!.events.length).map fun k => withE t[p]!.vars.length l[p]! k t[p]!.events[k]!).any _ = _
  rw [List.any_map, ← List.take_length (l := t[p]!.events), any_take _ _ (Nat.le_refl _)]
  simp only [List.take_length]
  rfl

theorem with_sends' {p : Nat} {m q : Int} : sendsB (withT s l t) p m q = sendsB t p m q := by
  by_cases h : p < t.length
  · exact with_sends h
  · unfold sendsB
    rw [getElem!_neg _ p (by rw [withT_len]; exact h), getElem!_neg t p h]
theorem with_pair : pairB (withT s l t) = pairB t := by
  unfold pairB
  rw [with_ids, Bool.eq_iff_iff, List.all_eq_true, List.all_eq_true]
  have key : ∀ x ∈ ids t, pairOf (withT s l t) x = pairOf t x := by
    intro x hx
    have hi := mem_ids.1 hx
    obtain ⟨e1, e2, e3, _⟩ := with_ev (s := s) (l := l) hi
    unfold pairOf
    rw [e1, e2, e3, with_find, with_sends']
  constructor <;> intro h x hx
  · rw [← key x hx]; exact h x hx
  · rw [key x hx]; exact h x hx
theorem get_append_left {α : Type} [Inhabited α] {a b : List α} {i : Nat} (h : i < a.length) : (a ++ b)[i]! = a[i]! := by
  rw [getElem!_pos _ i (by rw [List.length_append]; omega), getElem!_pos a i h, List.getElem_append_left h]
theorem get_append_end {α : Type} [Inhabited α] {a : List α} {x : α} {i : Nat} (h : i = a.length) : (a ++ [x])[i]! = x := by
  subst h
  rw [getElem!_pos _ _ (by simp)]; simp
theorem with_varB {v : List Vr} {z : Int} (h : ∀ i, i < v.length → varB v i = true) (hn : nameB s = true) (ho : ∀ i, i < v.length → (v[i]!.name.toList == s.toList) = false) (hz : valueB z = true) :
    ∀ i, i < (v ++ [Vr.mk s z]).length → varB (v ++ [Vr.mk s z]) i = true := by
  intro i hi
  rw [List.length_append, List.length_singleton] at hi
  rw [varB_parts]
  by_cases e : i < v.length
  · have := varB_parts.1 (h i e)
    rw [get_append_left e]
    exact ⟨⟨this.1.1, fun j hj => by rw [get_append_left (by omega)]; exact this.1.2 j hj⟩, this.2⟩
  · have ei : i = v.length := by omega
    rw [get_append_end ei]
    exact ⟨⟨hn, fun j hj => by rw [get_append_left (by omega)]; exact ho j (by omega)⟩, hz⟩
theorem with_asgB {nv nv' : Nat} {a : List Asg} {z : Int} (hlt : nv < nv') (h : ∀ i, i < a.length → asgB nv a i = true) (hz : valueB z = true) :
    ∀ i, i < (a ++ [Asg.mk (nv : Int) z]).length → asgB nv' (a ++ [Asg.mk (nv : Int) z]) i = true := by
  intro i hi
  rw [List.length_append, List.length_singleton] at hi
  have key : ∀ i, i < a.length → 0 ≤ a[i]!.var ∧ a[i]!.var < nv ∧ valueB a[i]!.value = true ∧ ∀ j, j < i → a[j]!.var ≠ a[i]!.var := by
    intro i hi
    have := h i hi
    unfold asgB at this
    simp only [Bool.and_eq_true, decide_eq_true_eq, range_all, Bool.not_eq_true', decide_eq_false_iff_not] at this
    exact this
  unfold asgB
  simp only [Bool.and_eq_true, decide_eq_true_eq, range_all, Bool.not_eq_true', decide_eq_false_iff_not]
  by_cases e : i < a.length
  · obtain ⟨k1, k2, k3, k4⟩ := key i e
    rw [get_append_left e]
    exact ⟨k1, by omega, k3, fun j hj => by rw [get_append_left (by omega)]; exact k4 j hj⟩
  · have ei : i = a.length := by omega
    rw [get_append_end ei]
    refine ⟨by simp, by simp only; omega, hz, fun j hj => ?_⟩
    rw [get_append_left (by omega)]
    have := (key j (by omega)).2.1
    simp only; omega
theorem asgB_more {nv nv' : Nat} {a : List Asg} (hlt : nv < nv') (h : ∀ i, i < a.length → asgB nv a i = true) : ∀ i, i < a.length → asgB nv' a i = true := by
  intro i hi
  have := h i hi
  unfold asgB at this ⊢
  simp only [Bool.and_eq_true, decide_eq_true_eq] at this ⊢
  exact ⟨this.1, by omega, this.2.2⟩
theorem formedB_same {n p : Nat} {e f : Ev} (h1 : e.kind = f.kind) (h2 : e.peer = f.peer) (h3 : e.msg = f.msg) : formedB n p e = formedB n p f := by
  unfold formedB; rw [h1, h2, h3]
theorem with_shape (hs : shapeB t = true) (h : WithOk t s l) : shapeB (withT s l t) = true := by
  unfold shapeB at hs ⊢
  simp only [Bool.and_eq_true, decide_eq_true_eq, range_all] at hs ⊢
  rw [withT_len]
  refine ⟨hs.1, hs.2.1, fun p hp => ?_, fun p hp i hi => ?_⟩
  · obtain ⟨a1, a2, a3, a4, a5⟩ := headB_parts.1 (hs.2.2.1 p hp)
    have hv := with_varB a4 h.nm (h.once p hp) (h.rng p hp 0 (Nat.zero_le _))
    have hr := h.roomV p hp
    rw [headB_parts, withT_name hp, withT_vars hp, withT_events hp]
    refine ⟨a1, fun q hq => ?_, by rw [List.length_append, List.length_singleton]; omega, hv, a5⟩
    rw [withT_name (by omega)]; exact a2 q hq
  · rw [withT_events hp] at hi
    have he := hs.2.2.2 p hp i hi
    unfold eventB at he ⊢
    simp only [Bool.and_eq_true, decide_eq_true_eq, range_all] at he ⊢
    obtain ⟨b1, b2, b3, b4, b5, b6⟩ := he
    have hev := with_ev (s := s) (l := l) (x := (p, i)) ⟨hp, hi⟩
    have ht : (withT s l t)[p]!.events[i]!.time = t[p]!.events[i]!.time := hev.2.2.2
    rw [withT_len, ht, formedB_same (e := (withT s l t)[p]!.events[i]!) (f := t[p]!.events[i]!) hev.1 hev.2.1 hev.2.2.1]
    refine ⟨b1, b2, b3, ?_, ?_, ?_⟩
    · by_cases e : i = 0
      · exact .inl e
      · have ht' : (withT s l t)[p]!.events[i - 1]!.time = t[p]!.events[i - 1]!.time := (with_ev (s := s) (l := l) (x := (p, i - 1)) ⟨hp, by show i - 1 < t[p]!.events.length; omega⟩).2.2.2
        rw [ht']; exact b4
    · rw [withT_event hp hi]
      unfold withE
      simp only
      split
      · exact b5
      · rename_i hne
        have := h.roomA p hp i hi hne
        rw [List.length_append, List.length_singleton]; omega
    · rw [withT_event hp hi, withT_vars hp, List.length_append, List.length_singleton]
      unfold withE
      simp only
      split
      · exact asgB_more (by omega) b6
      · exact with_asgB (by omega) b6 (h.rng p hp (i + 1) (by omega))
theorem with_valid (hv : validT t = true) (h : WithOk t s l) : validT (withT s l t) = true := by
  unfold validT at hv ⊢
  simp only [Bool.and_eq_true, decide_eq_true_eq] at hv ⊢
  exact ⟨with_shape hv.1 h, by rw [with_pair]; exact hv.2.1, fun hc => hv.2.2 (with_cyc.1 hc)⟩

/-- The states: the old ones, with the given value behind. -/
theorem fold_keep {nv : Nat} {z : Int} : ∀ (a : List Asg) (now : List Int), now.length = nv → (∀ x ∈ a, 0 ≤ x.var ∧ x.var < (nv : Int)) → a.foldl putA (now ++ [z]) = a.foldl putA now ++ [z] := by
  intro a
  induction a with
  | nil => intro now _ _; rfl
  | cons x a ih =>
    intro now hn hx
    have h0 := hx x (by simp)
    rw [List.foldl_cons, List.foldl_cons]
    have : putA (now ++ [z]) x = putA now x ++ [z] := by
      unfold putA; rw [List.set_append_left _ _ (by omega)]
    rw [this]
    exact ih _ (by unfold putA; rw [List.length_set]; exact hn) (fun y hy => hx y (by simp [hy]))
theorem with_states (hs : shapeB t = true) (h : WithOk t s l) {p : Nat} (hp : p < t.length) : ∀ k, k ≤ t[p]!.events.length → stV (withT s l t) p k = stV t p k ++ [l[p]![k]!] := by
  intro k hk
  induction k with
  | zero =>
    rw [stV_zero, stV_zero]; unfold initV
    rw [withT_vars hp, List.map_append]; rfl
  | succ k ih =>
    rw [stV_succ _ p k (by rw [withT_events hp]; omega), stV_succ t p k (by omega), ih (by omega), withT_event hp (by omega)]
    have hl := stV_len t p k (by omega)
    have ho := (once_valid hs hp (show k < t[p]!.events.length by omega)).2
    have hf := fold_keep (z := l[p]![k]!) t[p]!.events[k]!.asg (stV t p k) hl (fun x hx => ⟨(ho x hx).1, (ho x hx).2.1⟩)
    unfold withE stepV
    simp only
    split
    · rename_i e; rw [hf, e]
    · rw [List.foldl_append, hf]
      have hll : (t[p]!.events[k]!.asg.foldl putA (stV t p k)).length = t[p]!.vars.length := by rw [foldl_putA_len, hl]
      simp only [List.foldl_cons, List.foldl_nil]
      generalize t[p]!.events[k]!.asg.foldl putA (stV t p k) = Z at *
      unfold putA
      simp only [Int.toNat_natCast]
      rw [List.set_append_right _ _ (by omega), hll, Nat.sub_self]; rfl

end Go.Proofs.Ytfcpnggdpaeldaa

/-
  A further variable: when it is refused, and with which error; that it may be added otherwise. No function is named here.
-/
namespace Go.Proofs.Ytfcpnggdpaeldaa
open Go.RowKit
set_option linter.unusedVariables false

def fitsW (t : Tr) (l : List (List Int)) : Bool := decide (l.length = t.length) && (List.range l.length).all fun p => decide (l[p]!.length = t[p]!.events.length + 1)
theorem fitsW_iff {t : Tr} {l : List (List Int)} : fitsW t l = true ↔ l.length = t.length ∧ ∀ p, p < l.length → l[p]!.length = t[p]!.events.length + 1 := by
  simp only [fitsW, Bool.and_eq_true, decide_eq_true_eq, List.all_eq_true, List.mem_range]
def rangR (x : List Int) : Bool := x.all valueB
def rangW (l : List (List Int)) : Bool := l.all rangR
def twiceP (s : ByteArray) (x : Pr) : Bool := decide (0 ≤ idxV x s)
def twiceW (t : Tr) (s : ByteArray) : Bool := t.any (twiceP s)
def fullE (l : List Int) (x : Pr) (k : Nat) : Bool := (l[k + 1]! != l[k]!) && decide (8 ≤ x.events[k]!.asg.length)
def fullP (l : List Int) (x : Pr) : Bool := decide (8 ≤ x.vars.length) || (List.range x.events.length).any (fullE l x)
def fullW (t : Tr) (l : List (List Int)) : Bool := (List.range t.length).any fun p => fullP l[p]! t[p]!
noncomputable def wiE (t : Tr) (s : ByteArray) (l : List (List Int)) : Int :=
  if validT t = true then (if fitsW t l = true then (if rangW l = true then (if nameB s = true then (if twiceW t s = true then 8 else if fullW t l = true then 5 else 0) else 13) else 2) else 3) else 1
/-- What With hands back. -/
noncomputable def wiT (t : Tr) (s : ByteArray) (l : List (List Int)) : Tr := if wiE t s l = 0 then withT s l t else []

theorem wi_ok {t : Tr} {s : ByteArray} {l : List (List Int)} (h : wiE t s l = 0) : validT t = true ∧ fitsW t l = true ∧ rangW l = true ∧ nameB s = true ∧ twiceW t s = false ∧ fullW t l = false := by
  unfold wiE at h
  split at h
  · rename_i h1
    split at h
    · rename_i h2
      split at h
      · rename_i h3
        split at h
        · rename_i h4
          split at h
          · cases h
          · rename_i h5
            split at h
            · cases h
            · rename_i h6; exact ⟨h1, h2, h3, h4, by simpa using h5, by simpa using h6⟩
        · cases h
      · cases h
    · cases h
  · cases h
theorem idx_neg {x : Pr} {s : ByteArray} (h : idxV x s < 0) : ∀ v, v < x.vars.length → (x.vars[v]!.name.toList == s.toList) = false := by
  intro v hv
  have h1 := firstAt_any (isV s) x.vars
  have h2 : x.vars.any (isV s) = false := by rw [← h1, decide_eq_false_iff_not]; unfold idxV at h; omega
  have := List.any_eq_false.1 h2 _ (mem_at x.vars v hv)
  simpa [isV] using this
theorem wi_with {t : Tr} {s : ByteArray} {l : List (List Int)} (h : wiE t s l = 0) : validT t = true ∧ fitsW t l = true ∧ WithOk t s l := by
  obtain ⟨h1, h2, h3, h4, h5, h6⟩ := wi_ok h
  obtain ⟨f1, f2⟩ := fitsW_iff.1 h2
  refine ⟨h1, h2, ?_, h4, fun p hp v hv => ?_, fun p hp => ?_, fun p hp k hk hne => ?_⟩
  · intro p hp k hk
    have := List.all_eq_true.1 h3 _ (mem_at l p (by omega))
    exact List.all_eq_true.1 this _ (mem_at l[p]! k (by have := f2 p (by omega); omega))
  · have := List.any_eq_false.1 h5 _ (mem_at t p hp)
    unfold twiceP at this
    rw [decide_eq_true_eq] at this
    exact idx_neg (by omega) v hv
  · have := List.any_eq_false.1 h6 p (List.mem_range.2 hp)
    unfold fullP at this
    rw [Bool.or_eq_true, decide_eq_true_eq, not_or] at this
    omega
  · have := List.any_eq_false.1 h6 p (List.mem_range.2 hp)
    unfold fullP at this
    rw [Bool.or_eq_true, decide_eq_true_eq, not_or] at this
    have h9 := this.2
    rw [Bool.not_eq_true, List.any_eq_false] at h9
    have := h9 k (List.mem_range.2 hk)
    unfold fullE at this
    rw [Bool.and_eq_true, bne_iff_ne, decide_eq_true_eq, not_and] at this
    have := this hne
    omega

/-! ### Least and greatest -/
theorem lowF_le (f : Nat → Int) : ∀ n i, i ≤ n → lowF f n ≤ f i := by
  intro n
  induction n with
  | zero => intro i hi; obtain rfl : i = 0 := by omega
            exact Int.le_refl _
  | succ n ih =>
    intro i hi
    show (if f (n + 1) < lowF f n then f (n + 1) else lowF f n) ≤ f i
    by_cases e : i = n + 1
    · subst e; split <;> omega
    · have := ih i (by omega); split <;> omega
theorem lowF_is (f : Nat → Int) : ∀ n, ∃ i, i ≤ n ∧ lowF f n = f i := by
  intro n
  induction n with
  | zero => exact ⟨0, by omega, rfl⟩
  | succ n ih =>
    obtain ⟨i, hi, he⟩ := ih
    show ∃ i, i ≤ n + 1 ∧ (if f (n + 1) < lowF f n then f (n + 1) else lowF f n) = f i
    split
    · exact ⟨n + 1, by omega, rfl⟩
    · exact ⟨i, by omega, he⟩
theorem highF_ge (f : Nat → Int) : ∀ n i, i ≤ n → f i ≤ highF f n := by
  intro n
  induction n with
  | zero => intro i hi; obtain rfl : i = 0 := by omega
            exact Int.le_refl _
  | succ n ih =>
    intro i hi
    show f i ≤ (if highF f n < f (n + 1) then f (n + 1) else highF f n)
    by_cases e : i = n + 1
    · subst e; split <;> omega
    · have := ih i (by omega); split <;> omega
theorem highF_is (f : Nat → Int) : ∀ n, ∃ i, i ≤ n ∧ highF f n = f i := by
  intro n
  induction n with
  | zero => exact ⟨0, by omega, rfl⟩
  | succ n ih =>
    obtain ⟨i, hi, he⟩ := ih
    show ∃ i, i ≤ n + 1 ∧ (if highF f n < f (n + 1) then f (n + 1) else highF f n) = f i
    split
    · exact ⟨n + 1, by omega, rfl⟩
    · exact ⟨i, by omega, he⟩
theorem rangR_mm {x : List Int} {n : Nat} (h : x.length = n + 1) : (!rangR x) = (decide (lowF (fun i => x[i]!) n < -1073741824) || decide (1073741824 < highF (fun i => x[i]!) n)) := by
  rw [Bool.eq_iff_iff, Bool.not_eq_true', Bool.eq_false_iff, Bool.or_eq_true, decide_eq_true_eq, decide_eq_true_eq]
  unfold rangR
  rw [ne_eq, List.all_eq_true]
  have hv : ∀ z, valueB z = true ↔ -1073741824 ≤ z ∧ z ≤ 1073741824 := fun z => by unfold valueB; simp
  constructor
  · intro hn
    by_cases hl : lowF (fun i => x[i]!) n < -1073741824
    · exact .inl hl
    · by_cases hh : 1073741824 < highF (fun i => x[i]!) n
      · exact .inr hh
      · refine absurd (fun z hz => ?_) hn
        obtain ⟨i, hi, rfl⟩ := List.getElem_of_mem hz
        have a := lowF_le (fun i => x[i]!) n i (by omega)
        have b := highF_ge (fun i => x[i]!) n i (by omega)
        simp only [getElem!_pos x i hi] at a b
        exact (hv _).2 ⟨by omega, by omega⟩
  · rintro (hl | hh) hall
    · obtain ⟨i, hi, e⟩ := lowF_is (fun i => x[i]!) n
      have := (hv _).1 (hall _ (mem_at x i (by omega)))
      have e2 : lowF (fun i => x[i]!) n = x[i]! := e
      omega
    · obtain ⟨i, hi, e⟩ := highF_is (fun i => x[i]!) n
      have := (hv _).1 (hall _ (mem_at x i (by omega)))
      have e2 : highF (fun i => x[i]!) n = x[i]! := e
      omega

/-! ### A trace whose one variable has a name -/
def nmT (s : ByteArray) : Tr := [⟨⟨#[112]⟩, [⟨s, 0⟩], []⟩]
theorem nmT_valid (s : ByteArray) : validT (nmT s) = nameB s := by
  have hp : nameB ⟨#[112]⟩ = true := by decide +kernel
  have hshape : shapeB (nmT s) = nameB s := by
    unfold shapeB nmT headB varB
    simp [hp, valueB, List.range_succ]
  have hid : ids (nmT s) = [] := by unfold ids idsTo nmT; simp [List.range_succ]
  have hpair : pairB (nmT s) = true := by unfold pairB; rw [hid]; rfl
  have hninn : ∀ x, ¬ Inn (nmT s) x := fun x h => by have := mem_ids.2 h; rw [hid] at this; cases this
  have hcyc : ¬ Cyc (nmT s) := by
    rintro ⟨x, hx⟩
    exact hninn x (tg_inn_l hx)
  rw [Bool.eq_iff_iff, validT_parts, hshape, hpair]
  simp [hcyc]

end Go.Proofs.Ytfcpnggdpaeldaa

/-
  A further variable: the program's fits, name and full, and what it hands to ContainsFunc.
-/
namespace Go.Proofs.Ytfcpnggdpaeldaa
open Go.RowKit
set_option linter.unusedVariables false
attribute [local go_sem ↓] Go.wp_at_zero Go.wp_at_succ

theorem rowl_at {w : World} {a : Option Addr} {m c : Nat} {q : List (List Int)} (h : Sl RInts 1 w (.slice a m c) q) (i : Nat) (hi : i < q.length) :
    ∃ b o sv sc, a = some ⟨b, o, none⟩ ∧ w.cell? ⟨b, o + i, none⟩ = some (.slice sv q[i]!.length sc) ∧ Ints w (.slice sv q[i]!.length sc) q[i]! := by
  obtain ⟨b, o, sv, h1, h2, h3⟩ := stamp_at' h i hi
  obtain ⟨x, c, rfl, _⟩ := id h3
  exact ⟨b, o, x, c, h1, h2, h3⟩

set_option maxHeartbeats 4000000 in
set_option maxRecDepth 100000 in
theorem fitsP_calls (v vl : Value) (t : Tr) (l : List (List Int)) (w : World) (h : TrAt w v t) (hs : SmallTr t) (hl : Sl RInts 1 w vl l) :
    Calls Try.prog 50 #[.agg #[v], vl] w fun e w' => e = .returned (.bool (fitsW t l)) ∧ Ext w w' := by
  have HT := Lib.hid h
  have HW := Lib.hid hl
  have HS := Lib.hid hs
  obtain ⟨ta, tc, rfl, htc⟩ := h.sh
  obtain ⟨wa, wc, rfl, hwc⟩ := hl.shape
  have hn1 := hs.1
  obtain ⟨R, hR⟩ : ∃ R, fitsW t l = R := ⟨_, rfl⟩
  rw [hR]
  have HN0 : Hid (l.length ≠ t.length → R = false) := Lib.hid (fun h => by rw [← hR, Bool.eq_false_iff]; intro e; exact h (fitsW_iff.1 e).1)
  have HNO : Hid (∀ p, p < l.length → l[p]!.length ≠ t[p]!.events.length + 1 → R = false) := Lib.hid (fun p hp h => by rw [← hR, Bool.eq_false_iff]; intro e; exact h ((fitsW_iff.1 e).2 p hp))
  have HYES : Hid (l.length = t.length → (∀ p, p < l.length → l[p]!.length = t[p]!.events.length + 1) → R = true) := Lib.hid (fun h h2 => hR.symm.trans (fitsW_iff.2 ⟨h, h2⟩))
  generalize hwl : l.length = m at *
  have HWL := Lib.hid hwl
  generalize htn : t.length = n at *
  have HTN := Lib.hid htn
  have HX0 := Lib.hid (heap_alloc_new w (.cells #[.slice ta n tc] 24))
  have HE1 := Lib.hid ((Ext.rf w).al (.cells #[.slice ta n tc] 24))
  clear h hs hl hR htn hwl
  by_cases hmn : m = n
  case neg =>
    have d0 : ((m : Int) != (n : Int)) = true := by simp; omega
    obtain rfl : R = false := HN0.out hmn
    clear hmn
    go_enter Try.func50, Try.ntmps50
    go_wp2
    go_ret
    exact ⟨rfl, HE1.out⟩
  case pos =>
  subst hmn
  have d0 : ((m : Int) != (m : Int)) = false := by simp
  go_enter Try.func50, Try.ntmps50
  go_wp2
  generalize hw2 : w.alloc (.cells #[.slice ta m tc] 24) = w2 at *
  clear hw2 d0
  go_loopg [15] m (fun g s15 wr => ∃ p : Nat, p ≤ m ∧ m - p ≤ g ∧ s15 = .int .i64 p ∧ Aside (∀ q, q < p → l[q]!.length = t[q]!.events.length + 1) ∧ Aside (Ext w2 wr))
  case atStart => exact ⟨0, Nat.zero_le _, by omega, rfl, (fun j hj => absurd hj (Nat.not_lt_zero _)), Ext.rf _⟩
  case round =>
    obtain ⟨p, hp, hg, rfl, A, HEK⟩ := hrel
    have HEW := Lib.hid (HE1.out.trans' HEK.out)
    have HY0 := Lib.hid (HEK.out.hp HX0.out)
    have t0 := cellOf HY0.out 0
    simp only [List.getElem?_toArray, List.getElem?_cons_zero] at t0
    by_cases hlt : p < m
    · have hltz : (p : Int) < (m : Int) := by omega
      have hpz : (0 : Int) ≤ (p : Int) := by omega
      obtain ⟨B, O, C, vv, ve, hve, hlC, hB, hn0, hv0, he0, hV, hE0⟩ := proc_at HT.out p (by rw [HTN.out]; exact hlt)
      simp only [Value.slice.injEq] at hve
      obtain ⟨rfl, hzz, rfl⟩ := hve
      obtain ⟨ea, ec, rfl, hec⟩ := hE0.sh
      obtain ⟨rb, ro, sv, sc, rfl, hr0, hi0⟩ := rowl_at HW.out p (by rw [HWL.out]; exact hlt)
      have he1 := HEW.out.cl he0
      have r1 := HEW.out.cl hr0
      have hen := (HS.out.2 p (by rw [HTN.out]; exact hlt)).2.1
      have HNP := Lib.hid (HNO.out p hlt)
      have HP : Hid (l[p]!.length = t[p]!.events.length + 1 → ∀ q, q < p + 1 → l[q]!.length = t[q]!.events.length + 1) := Lib.hid (fun h q hq => by
        by_cases e : q = p
        · subst e; exact h
        · exact A.out q (by omega))
      generalize t[p]!.events.length = ne at *
      generalize l[p]!.length = k at *
      clear hn0 hv0 hV hE0 hzz he0 hr0 hi0
      by_cases hk : k = ne + 1
      · have d1 : ((k : Int) != (ne : Int) + 1) = false := by rw [bne_eq_false_iff_eq]; omega
        have HPP := Lib.hid (HP.out hk)
        clear hk
        go_wp2
        go_roundg (m - (p + 1))
        case measure => omega
        case rel => exact ⟨p + 1, by omega, by omega, by go_num, (show Aside _ from HPP.out), (show Ext _ _ from HEK.out)⟩
      · have d1 : ((k : Int) != (ne : Int) + 1) = true := by rw [bne_iff_ne]; omega
        obtain rfl : R = false := HNP.out hk
        clear hk
        go_wp2
        go_ret
        exact ⟨rfl, HEW.out⟩
    · have hltz : ¬ (p : Int) < (m : Int) := by omega
      obtain rfl : m = p := by omega
      obtain rfl : R = true := HYES.out (by trivial) A.out
      go_wp2
      go_ret
      exact ⟨rfl, HEW.out⟩

theorem enters_51 : ∀ args w, (callFunc 51 args).run Try.prog w = .ok (.enter 51 args) w := enters_of Try.func51 (by kernel_rfl) rfl
theorem enters_53 : ∀ args w, (callFunc 53 args).run Try.prog w = .ok (.enter 53 args) w := enters_of Try.func53 (by kernel_rfl) rfl
set_option maxHeartbeats 1000000 in
theorem with1_calls (vs : List Value) (x : List Int) (n : Nat) (w : World) (hx : RInts w vs x) (hn : x.length = n + 1) (hb : n ≤ 1000000) :
    Calls Try.prog 51 #[encOne vs] w fun e w' => e = .returned (.bool (!rangR x)) ∧ Ext w w' := by
  obtain ⟨u, rfl, hi⟩ := hx
  have HMI := Lib.hid (fun W (hW : Ext w W) => minP_calls u x W (hi.ext hW) n hn hb)
  have HMA := Lib.hid (fun W (hW : Ext w W) => maxP_calls u x W (hi.ext hW) n hn hb)
  have HRM := Lib.hid (rangR_mm hn)
  unfold encOne
  simp only [List.headD_cons]
  rw [HRM.out]
  generalize lowF (fun i => x[i]!) n = a at *
  generalize highF (fun i => x[i]!) n = b at *
  obtain ⟨xa, xc, rfl, hlc, _⟩ := hi
  generalize x.length = k at *
  clear hn
  obtain ⟨r, hr⟩ : ∃ r, decide (1073741824 < b) = r := ⟨_, rfl⟩
  rw [hr]
  go_enter Try.func51, Try.ntmps51
  go_wp2_with fail
  refine (HMI.out _ (Ext.rf _)).mono ?_
  rintro e w2 ⟨rfl, hX2⟩
  have HE2 := Lib.hid hX2
  clear hX2
  by_cases h1 : a < -1073741824
  · have d1 : decide (a < -1073741824) = true := decide_eq_true h1
    clear h1
    go_wp2
    go_ret
    exact ⟨by rw [d1]; rfl, HE2.out⟩
  · have d1 : decide (a < -1073741824) = false := decide_eq_false h1
    clear h1
    go_wp2_with fail
    refine (HMA.out _ HE2.out).mono ?_
    rintro e w3 ⟨rfl, hX3⟩
    have HE3 := Lib.hid (HE2.out.trans' hX3)
    clear hX3
    go_wp2
    go_ret
    exact ⟨by rw [d1]; rfl, HE3.out⟩

set_option maxHeartbeats 1000000 in
theorem with2_calls (vs : List Value) (x : Pr) (b : Nat) (s : ByteArray) (w : World) (hx : RPr w vs x) (hn : x.vars.length ≤ 1000000) (hc : w.cell? ⟨b, 0, none⟩ = some (.string s)) :
    Calls Try.prog 53 #[.agg vs.toArray, .pointer (some ⟨b, 0, none⟩)] w fun e w' => e = .returned (.bool (twiceP s x)) ∧ Ext w w' := by
  have HIX := Lib.hid (fun W (hW : Ext w W) => indexP_calls vs x s W (rpr_lasts _ _ _ _ hx hW) hn)
  obtain ⟨vv, ve, rfl, hV, hE⟩ := hx
  obtain ⟨va, vc, rfl, hvc⟩ := hV.sh
  obtain ⟨ea, ec, rfl, hec⟩ := hE.sh
  have hbl := World.block_lt_of_cell? w _ hc
  have hbn : b ≠ w.heap.size := Nat.ne_of_lt hbl
  have HD : Hid (twiceP s x = decide (0 ≤ idxV x s)) := Lib.hid rfl
  rw [HD.out]
  generalize idxV x s = ix at *
  generalize x.name = nm at *
  generalize x.vars.length = nv at *
  generalize x.events.length = ne at *
  have HE1 : Hid (Ext w (w.alloc (.cells #[.string nm, .slice va nv vc, .slice ea ne ec] 47))) := Lib.hid (by repeat (first | refine Ext.st ?_ (by first | exact Nat.le_refl _ | exact Nat.le_succ _ | assumption | omega) _ | refine Ext.al ?_ _ | refine Ext.dr ?_ | refine Ext.drN ?_ _ | exact Ext.rf _))
  clear hV hE
  go_enter Try.func53, Try.ntmps53
  go_wp2_with fail
  refine (HIX.out _ HE1.out).mono ?_
  rintro e w2 ⟨rfl, hX⟩
  go_wp2
  go_ret
  exact ⟨rfl, HE1.out.trans' hX⟩

theorem nmT_at {W : World} {n : Nat} {s : ByteArray} {a b : TypeId} (h0 : W.heap[n]? = some (.cells #[.string s, .int .i64 0] a)) (h1 : W.heap[n + 1]? = some (.cells #[.string ⟨#[112]⟩, .slice (some ⟨n, 0, none⟩) 1 1, .slice none 0 0] b)) :
    TrAt W (.slice (some ⟨n + 1, 0, none⟩) 1 1) (nmT s) := by
  refine (cells_laid 3 1 (xs := [_, _, _]) h1 rfl).sl (l := nmT s) ?_
  intro i hi
  match i, hi with
  | 0, _ =>
    refine ⟨_, _, rfl, ?_, ⟨none, 0, rfl, Nat.le_refl _, fun h => absurd rfl h⟩⟩
    refine (cells_laid 2 1 (xs := [_, _]) h0 rfl).sl (l := [Vr.mk s 0]) ?_
    intro j hj
    match j, hj with
    | 0, _ => rfl
theorem nmT_loose (s : ByteArray) : LooseTr (nmT s) := by
  refine ⟨by simp [nmT], fun p hp => ?_⟩
  obtain rfl : p = 0 := by simp [nmT] at hp; omega
  exact ⟨by simp [nmT], fun i hi => absurd hi (by simp [nmT])⟩

set_option maxHeartbeats 2000000 in
theorem nameP_calls (s : ByteArray) (w : World) : Calls Try.prog 52 #[.string s] w fun e w' => e = .returned (.bool (nameB s)) ∧ Ext w w' := by
  have HVC := Lib.hid (fun u W (hu : TrAt W u (nmT s)) => validP_calls u (nmT s) W hu (nmT_loose s))
  rw [nmT_valid] at HVC
  generalize nameB s = r at *
  go_enter Try.func52, Try.ntmps52
  go_wp2_with fail
  refine (HVC.out _ _ (nmT_at (n := w.heap.size) (((Ext.rf _).al _).hp (heap_new_eq rfl)) (heap_new_eq (by simp)))).mono ?_
  rintro e w2 ⟨rfl, hX⟩
  go_wp2
  go_ret
  exact ⟨rfl, (((Ext.rf w).al _).al _).trans' hX⟩

end Go.Proofs.Ytfcpnggdpaeldaa

/-
  A further variable: the program's full.
-/
namespace Go.Proofs.Ytfcpnggdpaeldaa
open Go.RowKit
set_option linter.unusedVariables false
attribute [local go_sem ↓] Go.wp_at_zero Go.wp_at_succ

set_option maxHeartbeats 8000000 in
set_option maxRecDepth 100000 in
theorem fullP_calls (v vl : Value) (t : Tr) (l : List (List Int)) (w : World) (h : TrAt w v t) (hs : SmallTr t) (hl : Sl RInts 1 w vl l) (hf : fitsW t l = true) :
    Calls Try.prog 55 #[.agg #[v], vl] w fun e w' => e = .returned (.bool (fullW t l)) ∧ Ext w w' := by
  have HT := Lib.hid h
  have HW := Lib.hid hl
  have HS := Lib.hid hs
  obtain ⟨hf1, hf2⟩ := fitsW_iff.1 hf
  have HFL := Lib.hid hf2
  obtain ⟨ta, tc, rfl, htc⟩ := h.sh
  obtain ⟨wa, wc, rfl, hwc⟩ := hl.shape
  have hn1 := hs.1
  obtain ⟨R, hR⟩ : ∃ R, fullW t l = R := ⟨_, rfl⟩
  rw [hR]
  have HYES : Hid (∀ p, p < t.length → 8 ≤ t[p]!.vars.length → R = true) := Lib.hid (fun p hp h => by
    rw [← hR]; unfold fullW; rw [List.any_eq_true]
    exact ⟨p, List.mem_range.2 hp, by unfold fullP; rw [decide_eq_true h]; rfl⟩)
  have HYE : Hid (∀ p, p < t.length → ∀ k, k < t[p]!.events.length → fullE l[p]! t[p]! k = true → R = true) := Lib.hid (fun p hp k hk h => by
    rw [← hR]; unfold fullW; rw [List.any_eq_true]
    refine ⟨p, List.mem_range.2 hp, ?_⟩
    unfold fullP
    rw [Bool.or_eq_true, List.any_eq_true]
    exact .inr ⟨k, List.mem_range.2 hk, h⟩)
  have HNO : Hid ((∀ p, p < t.length → t[p]!.vars.length < 8 ∧ ∀ k, k < t[p]!.events.length → fullE l[p]! t[p]! k = false) → R = false) := Lib.hid (fun h => by
    rw [← hR]; unfold fullW; rw [List.any_eq_false]
    intro p hp
    obtain ⟨h1, h2⟩ := h p (List.mem_range.1 hp)
    unfold fullP
    rw [Bool.or_eq_true, decide_eq_true_eq, List.any_eq_true]
    rintro (h3 | ⟨k, hk, h3⟩)
    · omega
    · rw [h2 k (List.mem_range.1 hk)] at h3; cases h3)
  generalize hwl : l.length = m at *
  have HWL := Lib.hid hwl
  subst hf1
  have HTN := Lib.hid hwl
  generalize htn : t.length = n at *
  have HTL := Lib.hid htn
  have HX0 := Lib.hid (heap_alloc_new w (.cells #[.slice ta n tc] 24))
  have HE1 := Lib.hid ((Ext.rf w).al (.cells #[.slice ta n tc] 24))
  clear h hs hl hR htn hwl hf hf2
  go_enter Try.func55, Try.ntmps55
  go_wp2
  generalize hw2 : w.alloc (.cells #[.slice ta n tc] 24) = w2 at *
  clear hw2
  go_loopg [12] n (fun g s12 wr => ∃ p : Nat, p ≤ n ∧ n - p ≤ g ∧ s12 = .int .i64 p ∧ Aside (∀ q, q < p → t[q]!.vars.length < 8 ∧ ∀ k, k < t[q]!.events.length → fullE l[q]! t[q]! k = false) ∧ Aside (Ext w2 wr))
  case atStart => exact ⟨0, Nat.zero_le _, by omega, rfl, (fun j hj => absurd hj (Nat.not_lt_zero _)), Ext.rf _⟩
  case round =>
    obtain ⟨p, hp, hg, rfl, A, HEK⟩ := hrel
    have HEW := Lib.hid (HE1.out.trans' HEK.out)
    by_cases hlt : p < n
    · have hltz : (p : Int) < (n : Int) := by omega
      have hpz : (0 : Int) ≤ (p : Int) := by omega
      obtain ⟨B, O, C, vv, ve, hve, hlC, hB, hn0, hv0, he0, hV, hE0⟩ := proc_at HT.out p (by rw [HTL.out]; exact hlt)
      simp only [Value.slice.injEq] at hve
      obtain ⟨rfl, hzz, rfl⟩ := hve
      have HEE := Lib.hid hE0
      obtain ⟨va, vc, rfl, hvc⟩ := hV.sh
      obtain ⟨ea, ec, rfl, hec⟩ := hE0.sh
      obtain ⟨rb, ro, sv, sc, rfl, hr0, hi0⟩ := rowl_at HW.out p (by rw [HWL.out]; exact hlt)
      have HI0 := Lib.hid hi0
      have HR0 := Lib.hid hr0
      have n1 := HEW.out.cl hn0
      have v1 := HEW.out.cl hv0
      have e1 := HEW.out.cl he0
      have hen := (HS.out.2 p (by rw [HTL.out]; exact hlt)).2.1
      have HFP := Lib.hid (HFL.out p hlt)
      have HYP := Lib.hid (HYES.out p hlt)
      have HYK := Lib.hid (HYE.out p hlt)
      have HFE : Hid (∀ k, fullE l[p]! t[p]! k = ((l[p]![k + 1]! != l[p]![k]!) && decide (8 ≤ t[p]!.events[k]!.asg.length))) := Lib.hid (fun k => rfl)
      have HPA : Hid ((t[p]!.vars.length < 8 ∧ ∀ k, k < t[p]!.events.length → fullE l[p]! t[p]! k = false) → ∀ q, q < p + 1 → t[q]!.vars.length < 8 ∧ ∀ k, k < t[q]!.events.length → fullE l[q]! t[q]! k = false) := Lib.hid (fun h q hq => by
        by_cases e : q = p
        · subst e; exact h
        · exact A.out q (by omega))
      generalize hfe : fullE l[p]! t[p]! = fe at *
      generalize t[p]!.name = nm at *
      generalize t[p]!.vars.length = nv at *
      generalize hne : t[p]!.events.length = ne at *
      have HNE := Lib.hid hne
      generalize hlp : l[p]! = lp at *
      generalize hml : lp.length = ml at *
      have HML := Lib.hid hml
      have hmle : ml = ne + 1 := HFP.out
      have HXT := Lib.hid ((Ext.rf wr).al (.cells #[.string nm, .slice va nv vc, .slice ea ne ec] 47))
      have HBX := Lib.hid (heap_alloc_new wr (.cells #[.string nm, .slice va nv vc, .slice ea ne ec] 47))
      clear hn0 hv0 he0 hV hE0 hzz hfe hne hlp hml hr0 hi0
      by_cases h8 : 8 ≤ nv
      · have d8 : decide (8 ≤ (nv : Int)) = true := decide_eq_true (by omega)
        have d8p : (8 : Int) ≤ (nv : Int) := by omega
        obtain rfl : R = true := HYP.out h8
        clear h8
        go_wp2
        go_ret
        exact ⟨rfl, HEW.out.trans' HXT.out⟩
      · have d8 : decide (8 ≤ (nv : Int)) = false := decide_eq_false (by omega)
        have d8p : ¬ (8 : Int) ≤ (nv : Int) := by omega
        have H8 := Lib.hid (show nv < 8 from by omega)
        clear h8
        go_wp2
        clear n1 v1 e1 d8 d8p
        obtain ⟨wo, rfl⟩ : ∃ x, x = wr := ⟨_, rfl⟩
        generalize hw3 : wo.alloc (.cells #[.string nm, .slice va nv vc, .slice ea ne ec] 47) = w3 at *
        clear hw3
        go_loopg [24] ne (fun g2 s24 wr => ∃ k : Nat, k ≤ ne ∧ ne - k ≤ g2 ∧ s24 = .int .i64 k ∧ Aside (∀ j, j < k → fe j = false) ∧ Aside (Ext w3 wr))
        case atStart => exact ⟨0, Nat.zero_le _, by omega, rfl, (fun j hj => absurd hj (Nat.not_lt_zero _)), Ext.rf _⟩
        case round =>
          obtain ⟨k, hk, hg2, rfl, A2, HEK2⟩ := hrel
          have HEW2 := Lib.hid ((HEW.out.trans' HXT.out).trans' HEK2.out)
          by_cases hlk : k < ne
          · have hlkz : (k : Int) < (ne : Int) := by omega
            have hkz : (0 : Int) ≤ (k : Int) := by omega
            have hk1z : (0 : Int) ≤ (k : Int) + 1 := by omega
            have hkm : (k : Int) < (ml : Int) := by omega
            have hk1m : (k : Int) + 1 < (ml : Int) := by omega
            have hk1q : ((k + 1 : Nat) : Int) = (k : Int) + 1 := by omega
            have hwk : IntKind.i64.wrap ((k : Int) + 1) = (k : Int) + 1 := IntWalk.i64_in _ (by omega)
            obtain ⟨EB, EO, EC, ua, hee, hlE, hEB, k0, k1, k2, k3, k4, ha⟩ := event_at HEE.out k (by rw [HNE.out]; exact hlk)
            simp only [Value.slice.injEq] at hee
            obtain ⟨rfl, hzz, rfl⟩ := hee
            obtain ⟨va1, va2, rfl, _⟩ := ha.sh
            obtain ⟨cb, co, rfl, hcb, hc0⟩ := ints_at HI0.out k (by rw [HML.out]; omega)
            obtain ⟨cb', co', hcc, _, hc1⟩ := ints_at HI0.out (k + 1) (by rw [HML.out]; omega)
            simp only [Option.some.injEq, Addr.mk.injEq, and_true] at hcc
            obtain ⟨rfl, rfl⟩ := hcc
            have m0 := HEW2.out.cl k0
            have m1 := HEW2.out.cl k1
            have m2 := HEW2.out.cl k2
            have m3 := HEW2.out.cl k3
            have m4 := HEW2.out.cl k4
            have r0 := HEW2.out.cl HR0.out
            have x0 := HEW2.out.cl hc0
            have x1 := HEW2.out.cl hc1
            have HFK := Lib.hid (HFE.out k)
            have HYJ := Lib.hid (HYK.out k hlk)
            have HPJ : Hid (fe k = false → ∀ j, j < k + 1 → fe j = false) := Lib.hid (fun h j hj => by
              by_cases e : j = k
              · subst e; exact h
              · exact A2.out j (by omega))
            generalize fe k = fk at *
            generalize t[p]!.events[k]! = y at *
            generalize lp[k]! = a at *
            generalize lp[k + 1]! = b at *
            generalize y.asg.length = nb at *
            have HXY := Lib.hid ((Ext.rf wr).al (evO y.kind y.peer y.msg y.time (.slice va1 nb va2)))
            have hb1 := World.block_lt_of_cell? wr _ x0
            have hb2 := World.block_lt_of_cell? wr _ r0
            have hb3 : cb ≠ wr.heap.size := Nat.ne_of_lt hb1
            have hb4 : rb ≠ wr.heap.size := Nat.ne_of_lt hb2
            clear k0 k1 k2 k3 k4 hzz ha hc0 hc1
            obtain ⟨q, hq⟩ : ∃ q, (b != a) = q := ⟨_, rfl⟩
            rw [hq] at HFK
            cases q with
            | false =>
              have HPP := Lib.hid (HPJ.out HFK.out)
              go_wp2
              go_quiet (fail)
              go_wp2
              go_roundg (ne - (k + 1))
              case measure => omega
              case rel => exact ⟨k + 1, by omega, by omega, by go_num, (show Aside _ from HPP.out), (show Ext _ _ from (HEK2.out.trans' HXY.out).drN _)⟩
            | true =>
              by_cases hn8 : 8 ≤ nb
              · have d8 : decide (8 ≤ (nb : Int)) = true := decide_eq_true (by omega)
                have d8p : (8 : Int) ≤ (nb : Int) := by omega
                obtain rfl : R = true := HYJ.out (HFK.out.trans (by rw [decide_eq_true hn8]; rfl))
                clear hn8
                go_wp2
                go_quiet (fail)
                go_wp2
                go_ret
                exact ⟨rfl, (HEW2.out.trans' HXY.out).drN _⟩
              · have d8 : decide (8 ≤ (nb : Int)) = false := decide_eq_false (by omega)
                have d8p : ¬ (8 : Int) ≤ (nb : Int) := by omega
                have HPP := Lib.hid (HPJ.out (HFK.out.trans (by rw [decide_eq_false hn8]; rfl)))
                clear hn8
                go_wp2
                go_quiet (fail)
                go_wp2
                go_roundg (ne - (k + 1))
                case measure => omega
                case rel => exact ⟨k + 1, by omega, by omega, by go_num, (show Aside _ from HPP.out), (show Ext _ _ from (HEK2.out.trans' HXY.out).drN _)⟩
          · have hlkz : ¬ (k : Int) < (ne : Int) := by omega
            obtain rfl : ne = k := by omega
            have HPP := Lib.hid (HPA.out ⟨H8.out, A2.out⟩)
            go_wp2
            go_roundg (n - (p + 1))
            case measure => omega
            case rel => exact ⟨p + 1, by omega, by omega, by go_num, (show Aside _ from HPP.out), (show Ext _ _ from (HEK.out.trans' HXT.out).trans' HEK2.out)⟩
    · have hltz : ¬ (p : Int) < (n : Int) := by omega
      obtain rfl : n = p := by omega
      obtain rfl : R = false := HNO.out A.out
      go_wp2
      go_ret
      exact ⟨rfl, HEW.out⟩

end Go.Proofs.Ytfcpnggdpaeldaa
