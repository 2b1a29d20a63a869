import Derived.Test.YtfcpnggdpaeldaaGreatJa
import Derived.Test.YtfcpnggdpaeldaaGreatProg
import Derived.Test.YtfcpnggdpaeldaaGreatGi
import Derived.Test.YtfcpnggdpaeldaaGreatGt
import Derived.Test.YtfcpnggdpaeldaaGreatGj
import Derived.Test.YtfcpnggdpaeldaaGreatGf
import Derived.Test.YtfcpnggdpaeldaaGreatGo
import Derived.Test.YtfcpnggdpaeldaaGreatGb
import Derived.BigQuiet
import Derived.Deep.QuietTactic
import Derived.Deep.LoopGhost
import Derived.Shelf.Abstract
/-
  Which variable has a name, and where: the program's index and find.
-/
namespace Go.Proofs.YtfcpnggdpaeldaaGreat
open Go.RowKit
set_option linter.unusedVariables false

def isV (s : ByteArray) (x : Vr) : Bool := x.name.toList == s.toList
/-- The index of the variable with a name; -1. -/
def idxV (x : Pr) (s : ByteArray) : Int := firstAt (isV s) x.vars
theorem idxV_range (x : Pr) (s : ByteArray) : -1 ≤ idxV x s ∧ idxV x s < x.vars.length := by
  unfold idxV firstAt
  cases h : x.vars.findIdx? (isV s) with
  | none => simp only; omega
  | some i => have := (List.findIdx?_eq_some_iff_getElem.1 h).1; simp only; omega
/-- The error of a trace, a process and a name; the index. -/
noncomputable def fndE (t : Tr) (p : Int) (s : ByteArray) : Int := if validT t = true then (if 0 ≤ p ∧ p < (t.length : Int) then (if idxV t[p.toNat]! s < 0 then 13 else 0) else 2) else 1
noncomputable def fndI (t : Tr) (p : Int) (s : ByteArray) : Int := if fndE t p s = 0 then idxV t[p.toNat]! s else 0

theorem enters_120 : ∀ args w, (callFunc 120 args).run Tryz.prog w = .ok (.enter 120 args) w := enters_of Tryz.func120 (by kernel_rfl) rfl
set_option maxHeartbeats 1000000 in
theorem index1_calls (vs : List Value) (x : Vr) (b : Nat) (s : ByteArray) (w : World) (hx : RVr w vs x) (hc : w.cell? ⟨b, 0, none⟩ = some (.string s)) :
    Calls Tryz.prog 120 #[.agg vs.toArray, .pointer (some ⟨b, 0, none⟩)] w fun e w' => e = .returned (.bool (isV s x)) ∧ Ext w w' := by
  have e : vs = [.string x.name, .int .i64 x.init] := hx
  subst e
  have hbl := World.block_lt_of_cell? w _ hc
  have hbn : b ≠ w.heap.size := Nat.ne_of_lt hbl
  have hx0 := cell_new w #[.string x.name, .int .i64 x.init] 96 0 _ rfl
  unfold isV
  go_enter Tryz.func120, Tryz.ntmps120
  go_wp2
  go_ret
  exact ⟨rfl, (by repeat (first | refine Ext.st ?_ (by first | exact Nat.le_refl _ | exact Nat.le_succ _ | assumption | omega) _ | refine Ext.al ?_ _ | refine Ext.dr ?_ | refine Ext.drN ?_ _ | exact Ext.rf _))⟩

set_option maxHeartbeats 1000000 in
theorem indexP_calls (vs : List Value) (x : Pr) (s : ByteArray) (w : World) (hx : RPr w vs x) (hn : x.vars.length ≤ 1000000) :
    Calls Tryz.prog 107 #[.agg vs.toArray, .string s] w fun e w' => e = .returned (.int .i64 (idxV x s)) ∧ Ext w w' := by
  obtain ⟨vv, ve, rfl, hV, hE⟩ := hx
  have HX := Lib.hid (fun k o => allocs_at [.cells #[.string x.name, vv, ve] 58, .cells #[.string s] 9] w k o)
  have HE2 : Hid (Ext w ((w.alloc (.cells #[.string x.name, vv, ve] 58)).alloc (.cells #[.string s] 9))) := Lib.hid (by repeat (first | refine Ext.st ?_ (by first | exact Nat.le_refl _ | exact Nat.le_succ _ | assumption | omega) _ | refine Ext.al ?_ _ | refine Ext.dr ?_ | refine Ext.drN ?_ _ | exact Ext.rf _))
  obtain ⟨va, vc, rfl, hvc⟩ := hV.sh
  obtain ⟨ea, ec, rfl, hec⟩ := hE.sh
  have hcs := cellOf (HX.out 1 _ rfl) 0
  simp only [List.getElem?_toArray, List.getElem?_cons_zero] at hcs
  have HI := Lib.hid (indexFunc_vars RVr rvr_lasts 120 #[.pointer (some ⟨w.heap.size + 1, 0, none⟩)] enters_120 (isV s) _ x.vars _ (hV.ext rvr_lasts HE2.out) hn
    (fun y _ W vs hW hR => index1_calls vs y (w.heap.size + 1) s W hR (hW.cl hcs)))
  unfold idxV
  generalize firstAt (isV s) x.vars = r at *
  generalize x.vars.length = nv at *
  generalize x.events.length = ne at *
  clear hV hE HX hcs
  go_enter Tryz.func107, Tryz.ntmps107
  go_wp2_with fail
  refine HI.out.mono ?_
  rintro e w' ⟨rfl, hX⟩
  go_wp2
  go_ret
  exact ⟨rfl, HE2.out.trans' hX⟩

theorem proc_rpr {w : World} {v : Value} {t : Tr} (h : TrAt w v t) (p : Nat) (hp : p < t.length) :
    ∃ B O C vv ve, v = .slice (some ⟨B, O, none⟩) t.length C ∧ t.length ≤ C ∧ B < w.heap.size ∧ w.cell? ⟨B, O + p * 3, none⟩ = some (.string t[p]!.name) ∧ w.cell? ⟨B, O + p * 3 + 1, none⟩ = some vv ∧ w.cell? ⟨B, O + p * 3 + 2, none⟩ = some ve ∧ RPr w [.string t[p]!.name, vv, ve] t[p]! ∧ (∃ a c, vv = .slice a t[p]!.vars.length c) ∧ ∃ a c, ve = .slice a t[p]!.events.length c := by
  obtain ⟨B, O, C, vv, ve, h1, h2, h3, h4, h5, h6, h7, h8⟩ := proc_at h p hp
  obtain ⟨a1, c1, e1, _⟩ := h7.sh
  obtain ⟨a2, c2, e2, _⟩ := h8.sh
  exact ⟨B, O, C, vv, ve, h1, h2, h3, h4, h5, h6, ⟨vv, ve, rfl, h7, h8⟩, ⟨a1, c1, e1⟩, a2, c2, e2⟩

set_option maxHeartbeats 4000000 in
set_option maxRecDepth 100000 in
theorem findV_calls (v : Value) (t : Tr) (p : Int) (s : ByteArray) (w : World) (h : TrAt w v t) (hs : LooseTr t) :
    Calls Tryz.prog 89 #[.agg #[v], .int .i64 p, .string s] w fun e w' => e = .returned (.tuple #[.int .i64 (fndI t p s), .int .i64 (fndE t p s)]) ∧ Ext w w' := by
  have HT := Lib.hid h
  have HVC := Lib.hid (fun W (hW : Ext w W) => validP_calls v t W (h.ext hW) hs)
  obtain ⟨ta, tc, rfl, htc⟩ := h.sh
  have hn1 := hs.1
  obtain ⟨vt, hvt⟩ : ∃ b, validT t = b := ⟨_, rfl⟩
  rw [hvt] at HVC
  have HVT := Lib.hid hvt
  obtain ⟨E, hE⟩ : ∃ E, fndE t p s = E := ⟨_, rfl⟩
  obtain ⟨I, hI⟩ : ∃ I, fndI t p s = I := ⟨_, rfl⟩
  have HEa := Lib.hid (hE.symm.trans (show fndE t p s = if validT t = true then (if 0 ≤ p ∧ p < (t.length : Int) then (if idxV t[p.toNat]! s < 0 then 13 else 0) else 2) else 1 from rfl))
  have HI := Lib.hid (hI.symm.trans (show fndI t p s = if fndE t p s = 0 then idxV t[p.toNat]! s else 0 from rfl))
  rw [hvt] at HEa
  rw [hE] at HI
  rw [hE, hI]
  generalize hln : t.length = n at *
  have HL := Lib.hid hln
  have HX0 := Lib.hid (heap_alloc_new w (.cells #[.slice ta n tc] 24))
  have HE1 := Lib.hid ((Ext.rf w).al (.cells #[.slice ta n tc] 24))
  clear h hs hln hvt hE hI
  go_enter Tryz.func89, Tryz.ntmps89
  go_wp2_with fail
  refine (HVC.out _ HE1.out).mono ?_
  rintro e w2 ⟨rfl, hX⟩
  have HE2 := Lib.hid (HE1.out.trans' hX)
  have HY0 := Lib.hid (hX.hp HX0.out)
  clear hX
  have t0 := cellOf HY0.out 0
  simp only [List.getElem?_toArray, List.getElem?_cons_zero] at t0
  cases vt with
  | false =>
    obtain rfl : E = 1 := by rw [HEa.out]; exact if_neg (by decide)
    obtain rfl : I = 0 := by rw [HI.out]; exact if_neg (by decide)
    go_wp2
    go_ret2
    exact ⟨rfl, HE2.out⟩
  | true =>
    have HEb := Lib.hid (HEa.out.trans (if_pos rfl))
    have HSM := Lib.hid (valid_small HVT.out)
    by_cases hp : 0 ≤ p ∧ p < (n : Int)
    · have HEc := Lib.hid (HEb.out.trans (if_pos hp))
      obtain ⟨hp0, hpn⟩ := hp
      obtain ⟨q, rfl⟩ : ∃ q : Nat, p = (q : Int) := ⟨p.toNat, by omega⟩
      rw [Int.toNat_natCast] at HEc HI
      have hqn : q < n := by omega
      obtain ⟨B, O, C, vv, ve, hve, hlC, hB, hn0, hv0, he0, hR, ⟨a1, c1, rfl⟩, a2, c2, rfl⟩ := proc_rpr HT.out q (by rw [HL.out]; exact hqn)
      simp only [Value.slice.injEq] at hve
      obtain ⟨rfl, hzz, rfl⟩ := hve
      have n1 := HE2.out.cl hn0
      have v1 := HE2.out.cl hv0
      have e1 := HE2.out.cl he0
      have hnv := (HSM.out.2 q (by rw [HL.out]; exact hqn)).1
      have HIX := Lib.hid (fun W (hW : Ext w W) => indexP_calls _ t[q]! s W (rpr_lasts _ _ _ _ hR hW) (by omega))
      have d1 : decide ((q : Int) < 0) = false := decide_eq_false (by omega)
      have d2 : decide ((n : Int) ≤ (q : Int)) = false := decide_eq_false (by omega)
      have d2n : decide (n ≤ q) = false := decide_eq_false (by omega)
      generalize idxV t[q]! s = ix at *
      generalize t[q]!.name = nm at *
      generalize t[q]!.vars.length = nv at *
      generalize t[q]!.events.length = ne at *
      clear hn0 hv0 he0 hR hzz
      go_wp2_with fail
      refine (HIX.out _ HE2.out).mono ?_
      rintro e w3 ⟨rfl, hX3⟩
      have HE3 := Lib.hid (HE2.out.trans' hX3)
      clear hX3 n1 v1 e1 t0
      by_cases hix : ix < 0
      · obtain rfl : E = 13 := HEc.out.trans (if_pos hix)
        obtain rfl : I = 0 := HI.out.trans (if_neg (by decide))
        have d3 : decide (ix < 0) = true := decide_eq_true hix
        clear hix
        go_wp2
        go_ret2
        exact ⟨rfl, HE3.out⟩
      · obtain rfl : E = 0 := HEc.out.trans (if_neg hix)
        obtain rfl : I = ix := HI.out.trans (if_pos rfl)
        have d3 : decide (I < 0) = false := decide_eq_false hix
        clear hix
        go_wp2
        go_ret2
        exact ⟨rfl, HE3.out⟩
    · obtain rfl : E = 2 := HEb.out.trans (if_neg hp)
      obtain rfl : I = 0 := HI.out.trans (if_neg (by decide))
      by_cases hp0 : p < 0
      · have d1 : decide (p < 0) = true := decide_eq_true hp0
        clear hp hp0
        go_wp2
        go_ret2
        exact ⟨rfl, HE2.out⟩
      · have d1 : decide (p < 0) = false := decide_eq_false hp0
        have d2 : decide ((n : Int) ≤ p) = true := decide_eq_true (by omega)
        clear hp hp0
        go_wp2
        go_ret2
        exact ⟨rfl, HE2.out⟩

end Go.Proofs.YtfcpnggdpaeldaaGreat

/-
  The value of a variable in a state of a valid trace.
-/
namespace Go.Proofs.YtfcpnggdpaeldaaGreat
open Go.RowKit
set_option linter.unusedVariables false

theorem stOk_valid {t : Tr} (h : validT t = true) {p : Nat} (hp : p < t.length) : StOk t p := by
  have hsh := (validT_parts.1 h).1
  have hq := shapeB_parts.1 hsh
  obtain ⟨_, _, a3, _, a5⟩ := headB_parts.1 (hq.2.2.1 p hp)
  refine ⟨a3, a5, fun i hi => ?_, fun i hi j hj => ?_⟩
  · have := hq.2.2.2 p hp i hi
    unfold eventB at this
    simp only [Bool.and_eq_true, decide_eq_true_eq] at this
    exact this.2.2.2.2.1
  have := (once_valid hsh hp hi).2 t[p]!.events[i]!.asg[j]! (mem_at _ j hj)
  exact ⟨this.1, this.2.1⟩
/-- The value of a variable in state k. -/
def valF (t : Tr) (p i k : Nat) : Int := (stV t p k)[i]!
theorem vals_low (t : Tr) (p i n : Nat) : lowF (fun j => (valsTo t p i (n + 1))[j]!) n = lowF (valF t p i) n := lowF_congr n fun j hj => valsTo_at (by omega)
theorem vals_high (t : Tr) (p i n : Nat) : highF (fun j => (valsTo t p i (n + 1))[j]!) n = highF (valF t p i) n := highF_congr n fun j hj => valsTo_at (by omega)
theorem valF_in {t : Tr} (h : validT t = true) {p i : Nat} (hp : p < t.length) (hi : i < t[p]!.vars.length) {k : Nat} (hk : k ≤ t[p]!.events.length) : -1073741824 ≤ valF t p i k ∧ valF t p i k ≤ 1073741824 := by
  have hsh := (validT_parts.1 h).1
  have := valR_in hsh hp hi k hk
  rw [valR_stV (fun j hj => (once_valid hsh hp hj).1) hi k hk] at this
  unfold valueB at this
  simpa [valF] using this

end Go.Proofs.YtfcpnggdpaeldaaGreat

/-
  The prefix of a trace at a consistent cut: it is valid, the cut is consistent in it, and its states are the old ones. No program is named here.
-/
namespace Go.Proofs.YtfcpnggdpaeldaaGreat
open Go.RowKit
set_option linter.unusedVariables false

def prefP (k : Nat) (x : Pr) : Pr := { x with events := x.events.take k }
def prefT (t : Tr) (c : List Int) : Tr := (List.range t.length).map fun p => prefP c[p]!.toNat t[p]!
variable {t : Tr} {c : List Int}
theorem prefT_len : (prefT t c).length = t.length := by simp [prefT]
theorem prefT_at {p : Nat} (h : p < t.length) : (prefT t c)[p]! = prefP c[p]!.toNat t[p]! := by
  rw [getElem!_pos _ p (by rw [prefT_len]; exact h)]; simp [prefT]
theorem prefT_name {p : Nat} (h : p < t.length) : (prefT t c)[p]!.name = t[p]!.name := by rw [prefT_at h]; rfl
theorem prefT_vars {p : Nat} (h : p < t.length) : (prefT t c)[p]!.vars = t[p]!.vars := by rw [prefT_at h]; rfl
theorem prefT_ev {p : Nat} (h : p < t.length) : (prefT t c)[p]!.events = t[p]!.events.take c[p]!.toNat := by rw [prefT_at h]; rfl
theorem prefT_events {p : Nat} (hr : RangeC t c) (h : p < t.length) : (prefT t c)[p]!.events.length = c[p]!.toNat := by
  rw [prefT_ev h, List.length_take]
  have := hr.at h
  omega
theorem take_at {α : Type} [Inhabited α] {l : List α} {k i : Nat} (hi : i < k) (hl : i < l.length) : (l.take k)[i]! = l[i]! := by
  rw [getElem!_pos _ i (by rw [List.length_take]; omega), getElem!_pos l i hl, List.getElem_take]
theorem pre_inn (hr : RangeC t c) {x : Eid} : Inn (prefT t c) x ↔ Inn t x ∧ InC c x := by
  unfold Inn InC
  rw [prefT_len]
  have hl := hr.1
  constructor
  · rintro ⟨h1, h2⟩
    rw [prefT_events hr h1] at h2
    have := hr.at h1
    exact ⟨⟨h1, by omega⟩, by omega, by omega⟩
  · rintro ⟨⟨h1, h2⟩, h3, h4⟩
    rw [prefT_events hr h1]
    exact ⟨h1, by omega⟩
theorem pre_ev (hr : RangeC t c) {x : Eid} (h : Inn (prefT t c) x) : ev (prefT t c) x = ev t x := by
  have h2 := (pre_inn hr).1 h
  unfold ev
  rw [prefT_ev h2.1.1, take_at (by have := h2.2.2; omega) h2.1.2]
/-- An event with a message is found in the prefix just where it is found in the trace, within the cut. -/
theorem pre_find (hr : RangeC t c) (hp : pairB t = true) {x : Eid} (hx : Inn (prefT t c) x) (hk : (ev t x).kind ≠ 1) : findE (prefT t c) (ev t x).kind (ev t x).msg = some x := by
  cases hf : findE (prefT t c) (ev t x).kind (ev t x).msg with
  | none =>
    exact absurd ⟨by rw [pre_ev hr hx], by rw [pre_ev hr hx]⟩ (findE_none hf hx)
  | some y =>
    obtain ⟨h1, h2, h3⟩ := findE_some hf
    rw [pre_ev hr h1] at h2 h3
    have hxi := ((pre_inn hr).1 hx).1
    have hyi := ((pre_inn hr).1 h1).1
    have e1 := (pairB_at hp hxi hk).1
    have e2 := (pairB_at hp hyi (by rw [h2]; exact hk)).1
    rw [h2, h3, e1] at e2
    exact e2.symm
theorem pre_dir (hr : RangeC t c) (hp : pairB t = true) {x y : Eid} (h : Dir (prefT t c) y x) : Dir t y x := by
  obtain ⟨h1, h2⟩ := h
  refine ⟨((pre_inn hr).1 h1).1, ?_⟩
  rcases h2 with h2 | ⟨h2, h3⟩
  · exact .inl h2
  · rw [pre_ev hr h1] at h2 h3
    obtain ⟨k1, k2, k3⟩ := findE_some h3
    rw [pre_ev hr k1] at k2 k3
    have := (pairB_at hp ((pre_inn hr).1 k1).1 (by rw [k2]; decide)).1
    rw [k2, k3] at this
    exact .inr ⟨h2, this⟩
theorem pre_cyc (hr : RangeC t c) (hp : pairB t = true) (h : ¬ Cyc t) : ¬ Cyc (prefT t c) := by
  rintro ⟨x, hx⟩
  refine h ⟨x, ?_⟩
  have key : ∀ {a b}, Relation.TransGen (Dir (prefT t c)) a b → Relation.TransGen (Dir t) a b := by
    intro a b hab
    induction hab with
    | single h => exact .single (pre_dir hr hp h)
    | tail _ h ih => exact .tail ih (pre_dir hr hp h)
  exact key hx
/-- A send, by its place. -/
theorem sends_at {p : Nat} {m q : Int} : sendsB t p m q = true ↔ ∃ j, j < t[p]!.events.length ∧ (ev t (p, j)).kind = 2 ∧ (ev t (p, j)).msg = m ∧ (ev t (p, j)).peer = q := by
  unfold sendsB
  rw [List.any_eq_true]
  constructor
  · rintro ⟨e, he, h⟩
    obtain ⟨j, hj, rfl⟩ := List.getElem_of_mem he
    simp only [Bool.and_eq_true, decide_eq_true_eq] at h
    refine ⟨j, hj, ?_⟩
    unfold ev
    rw [getElem!_pos t[p]!.events j hj]; exact h
  · rintro ⟨j, hj, h⟩
    unfold ev at h
    rw [getElem!_pos t[p]!.events j hj] at h
    exact ⟨_, List.getElem_mem hj, by simpa only [Bool.and_eq_true, decide_eq_true_eq] using h⟩
theorem inn_lt {p j : Nat} (h : j < t[p]!.events.length) : p < t.length := by
  by_cases hc : p < t.length
  · exact hc
  · rw [getElem!_neg t p hc] at h
    exact absurd h (Nat.not_lt_zero _)
theorem pre_pair (hc : ConsC t c) (hp : pairB t = true) : pairB (prefT t c) = true := by
  have hr := hc.1
  unfold pairB
  rw [List.all_eq_true]
  intro x hx
  have hi := mem_ids.1 hx
  have hi2 := (pre_inn hr).1 hi
  unfold pairOf
  rw [pre_ev hr hi]
  by_cases h1 : (ev t x).kind = 1
  · simp [h1]
  rw [pre_find hr hp hi h1]
  by_cases h3 : (ev t x).kind = 3
  · have hs := (pairB_at hp hi2.1 h1).2 h3
    obtain ⟨j, hj, g1, g2, g3⟩ := sends_at.1 hs
    have hpl := inn_lt hj
    have hf := (pairB_at hp (x := ((ev t x).peer.toNat, j)) ⟨hpl, hj⟩ (by rw [g1]; decide)).1
    rw [g1, g2] at hf
    have hm := missE_none.1 hc.2 x hi2.2
    rw [sentB_recv h3 hf, decide_eq_true_eq] at hm
    have hin : Inn (prefT t c) ((ev t x).peer.toNat, j) := (pre_inn hr).2 ⟨⟨hpl, hj⟩, ⟨by show _ < c.length; rw [hr.1]; exact hpl, by show (j : Int) < c[(ev t x).peer.toNat]!; have hm2 : (j : Int) + 1 ≤ c[(ev t x).peer.toNat]! := hm; omega⟩⟩
    have he := pre_ev hr hin
    have : sendsB (prefT t c) (ev t x).peer.toNat (ev t x).msg x.1 = true := sends_at.2 ⟨j, hin.2, by rw [he]; exact g1, by rw [he]; exact g2, by rw [he]; exact g3⟩
    simp [this]
  · simp [h3]
theorem pre_shape (hr : RangeC t c) (hs : shapeB t = true) : shapeB (prefT t c) = true := by
  unfold shapeB at hs ⊢
  simp only [Bool.and_eq_true, decide_eq_true_eq, range_all] at hs ⊢
  rw [prefT_len]
  refine ⟨hs.1, hs.2.1, fun p hp => ?_, fun p hp i hi => ?_⟩
  · obtain ⟨a1, a2, a3, a4, a5⟩ := headB_parts.1 (hs.2.2.1 p hp)
    have := hr.at hp
    rw [headB_parts, prefT_name hp, prefT_vars hp, prefT_events hr hp]
    exact ⟨a1, fun q hq => by rw [prefT_name (by omega)]; exact a2 q hq, a3, a4, by omega⟩
  · have hx : Inn (prefT t c) (p, i) := ⟨by rw [prefT_len]; exact hp, hi⟩
    have hx2 := ((pre_inn hr).1 hx).1
    have he := hs.2.2.2 p hp i hx2.2
    have e1 : (prefT t c)[p]!.events[i]! = t[p]!.events[i]! := pre_ev hr hx
    have e2 : (prefT t c)[p]!.events[i - 1]! = t[p]!.events[i - 1]! := pre_ev hr (x := (p, i - 1)) ⟨by rw [prefT_len]; exact hp, by show i - 1 < (prefT t c)[p]!.events.length; omega⟩
    unfold eventB at he ⊢
    rw [e1, e2, prefT_len, prefT_vars hp]
    exact he
theorem pre_valid (hv : validT t = true) (hc : ConsC t c) : validT (prefT t c) = true := by
  unfold validT at hv ⊢
  simp only [Bool.and_eq_true, decide_eq_true_eq] at hv ⊢
  exact ⟨pre_shape hc.1 hv.1, pre_pair hc hv.2.1, pre_cyc hc.1 hv.2.1 hv.2.2⟩
theorem pre_cons (hc : ConsC t c) : ConsC (prefT t c) c := by
  have hr := hc.1
  refine ⟨⟨by rw [prefT_len]; exact hr.1, rangeB_iff.2 fun p hp => ?_⟩, missE_none.2 fun x hx => ?_⟩
  · have hp2 : p < t.length := by rw [← hr.1]; exact hp
    rw [prefT_events hr hp2]
    have := hr.at hp2
    omega
  · cases hf : findE (prefT t c) 2 (ev (prefT t c) x).msg with
    | none => unfold sentB; rw [hf]; simp
    | some s =>
      by_cases h3 : (ev (prefT t c) x).kind = 3
      · rw [sentB_recv h3 hf, decide_eq_true_eq]
        have := ((pre_inn hr).1 (findE_some hf).1).2.2
        omega
      · exact sentB_other h3
theorem pre_states {p : Nat} (hr : RangeC t c) (hp : p < t.length) : ∀ k, k ≤ c[p]!.toNat → stV (prefT t c) p k = stV t p k := by
  intro k hk
  unfold stV initV
  rw [prefT_ev hp, prefT_vars hp, List.take_take, Nat.min_eq_left hk]

end Go.Proofs.YtfcpnggdpaeldaaGreat

/-
  Sends and receives within counts; when equal numbers announce that nothing is under way. No program is named here.
-/
namespace Go.Proofs.YtfcpnggdpaeldaaGreat
open Go.RowKit
set_option linter.unusedVariables false

theorem nodup_le {α : Type} [DecidableEq α] : ∀ {l m : List α}, l.Nodup → (∀ x ∈ l, x ∈ m) → l.length ≤ m.length := by
  intro l
  induction l with
  | nil => intro m _ _; exact Nat.zero_le _
  | cons a l ih =>
    intro m hn hs
    rw [List.nodup_cons] at hn
    have ha := hs a (by simp)
    have := ih (m := m.erase a) hn.2 fun x hx => (List.mem_erase_of_ne (by rintro rfl; exact hn.1 hx)).2 (hs x (by simp [hx]))
    rw [List.length_erase_of_mem ha] at this
    have hp := List.length_pos_of_mem ha
    rw [List.length_cons]; omega
theorem nodup_eq {α : Type} [DecidableEq α] {l m : List α} (hn : l.Nodup) (hs : ∀ x ∈ l, x ∈ m) (hl : m.length ≤ l.length) : ∀ x ∈ m, x ∈ l := by
  intro x hx
  by_cases h : x ∈ l
  · exact h
  · have := nodup_le (l := x :: l) (m := m) (List.nodup_cons.2 ⟨h, hn⟩) (by
      intro y hy
      rcases List.mem_cons.1 hy with rfl | hy
      · exact hx
      · exact hs y hy)
    rw [List.length_cons] at this; omega
theorem idsC_sorted (c : List Int) : ∀ p i, (idsCTo c p i).Pairwise before := by
  have inner : ∀ p i, (idsCTo c p 0).Pairwise before → (idsCTo c p i).Pairwise before := by
    intro p i h
    induction i with
    | zero => exact h
    | succ i ih =>
      rw [idsCTo_succ, List.pairwise_append]
      refine ⟨ih, by simp, fun x hx y hy => ?_⟩
      rw [List.mem_singleton] at hy; subst hy
      rw [mem_idsCTo] at hx
      unfold before; omega
  intro p i
  induction p generalizing i with
  | zero => exact inner 0 i (by simp [idsCTo_zero])
  | succ p ih => exact inner (p + 1) i (by rw [← idsCTo_next]; exact ih _)
theorem idsC_nodup (c : List Int) (p i : Nat) : (idsCTo c p i).Nodup := (idsC_sorted c p i).imp fun {a b} h => by rintro rfl; unfold before at h; omega
theorem mem_idsC {c : List Int} {x : Eid} : x ∈ idsCTo c c.length 0 ↔ InC c x := by
  rw [mem_idsCTo]; unfold InC; omega
/-- The events of a kind within counts. -/
def evsC (t : Tr) (kd : Int) (c : List Int) : List Eid := (idsCTo c c.length 0).filter fun x => decide ((ev t x).kind = kd)
theorem mem_evsC {t : Tr} {kd : Int} {c : List Int} {x : Eid} : x ∈ evsC t kd c ↔ InC c x ∧ (ev t x).kind = kd := by
  unfold evsC; rw [List.mem_filter, mem_idsC, decide_eq_true_eq]
theorem evsC_nodup (t : Tr) (kd : Int) (c : List Int) : (evsC t kd c).Nodup := (idsC_nodup c _ _).filter _
theorem inC_mono {c d : List Int} (hl : c.length = d.length) (h : LeC c d) {x : Eid} (hx : InC c x) : InC d x := ⟨by have := hx.1; omega, by have := h x.1 hx.1; have := hx.2; omega⟩
theorem evsC_sub {t : Tr} {kd : Int} {c d : List Int} (hl : c.length = d.length) (h : LeC c d) : ∀ x ∈ evsC t kd c, x ∈ evsC t kd d := by
  intro x hx
  rw [mem_evsC] at hx ⊢
  exact ⟨inC_mono hl h hx.1, hx.2⟩
theorem evsC_mono {t : Tr} {kd : Int} {c d : List Int} (hl : c.length = d.length) (h : LeC c d) : (evsC t kd c).length ≤ (evsC t kd d).length := nodup_le (evsC_nodup t kd c) (evsC_sub hl h)

/-- A receive's send. -/
theorem send_some {t : Tr} (hp : pairB t = true) {x : Eid} (hx : Inn t x) (h3 : (ev t x).kind = 3) : ∃ s, findE t 2 (ev t x).msg = some s := by
  have hs := (pairB_at hp hx (by rw [h3]; decide)).2 h3
  obtain ⟨j, hj, g1, g2, g3⟩ := sends_at.1 hs
  have hf := (pairB_at hp (x := ((ev t x).peer.toNat, j)) ⟨inn_lt hj, hj⟩ (by rw [g1]; decide)).1
  rw [g1, g2] at hf
  exact ⟨_, hf⟩
def sendOf (t : Tr) (x : Eid) : Eid := (findE t 2 (ev t x).msg).getD x
theorem sendOf_eq {t : Tr} {x s : Eid} (h : findE t 2 (ev t x).msg = some s) : sendOf t x = s := by unfold sendOf; rw [h]; rfl
theorem sends_nodup {t : Tr} {c : List Int} (hp : pairB t = true) (hr : RangeC t c) : ((evsC t 3 c).map (sendOf t)).Nodup := by
  unfold List.Nodup
  rw [List.pairwise_map]
  refine List.Pairwise.imp_of_mem ?_ (evsC_nodup t 3 c)
  intro a b ha hb hne e
  rw [mem_evsC] at ha hb
  have ia := hr.inn ha.1
  have ib := hr.inn hb.1
  obtain ⟨sa, hsa⟩ := send_some hp ia ha.2
  obtain ⟨sb, hsb⟩ := send_some hp ib hb.2
  rw [sendOf_eq hsa, sendOf_eq hsb] at e
  subst e
  have m1 := (findE_some hsa).2.2
  have m2 := (findE_some hsb).2.2
  have fa := (pairB_at hp ia (by rw [ha.2]; decide)).1
  have fb := (pairB_at hp ib (by rw [hb.2]; decide)).1
  rw [ha.2] at fa
  rw [hb.2, ← m2, m1, fa] at fb
  exact hne (Option.some.inj fb)
theorem sends_in {t : Tr} {c : List Int} (hp : pairB t = true) (hc : ConsC t c) : ∀ x ∈ (evsC t 3 c).map (sendOf t), x ∈ evsC t 2 c := by
  intro s hs
  obtain ⟨x, hx, rfl⟩ := List.mem_map.1 hs
  rw [mem_evsC] at hx
  have hi := hc.1.inn hx.1
  obtain ⟨s, hf⟩ := send_some hp hi hx.2
  have hm := missE_none.1 hc.2 x hx.1
  rw [sentB_recv hx.2 hf, decide_eq_true_eq] at hm
  obtain ⟨k1, k2, k3⟩ := findE_some hf
  rw [sendOf_eq hf, mem_evsC]
  exact ⟨⟨by rw [hc.1.1]; exact k1.1, by omega⟩, k2⟩
theorem recv_le {t : Tr} {c : List Int} (hp : pairB t = true) (hc : ConsC t c) : (evsC t 3 c).length ≤ (evsC t 2 c).length := by
  have := nodup_le (sends_nodup hp hc.1) (sends_in hp hc)
  rwa [List.length_map] at this
/-- Where as many are received as are sent, each send's receive is within the cut. -/
theorem recv_all {t : Tr} {c : List Int} (hp : pairB t = true) (hc : ConsC t c) (he : (evsC t 2 c).length ≤ (evsC t 3 c).length) {s : Eid} (hs : InC c s) (h2 : (ev t s).kind = 2) :
    ∃ x, InC c x ∧ (ev t x).kind = 3 ∧ (ev t x).msg = (ev t s).msg := by
  have := nodup_eq (sends_nodup hp hc.1) (sends_in hp hc) (by rw [List.length_map]; exact he) s (mem_evsC.2 ⟨hs, h2⟩)
  obtain ⟨x, hx, e⟩ := List.mem_map.1 this
  rw [mem_evsC] at hx
  obtain ⟨s', hf⟩ := send_some hp (hc.1.inn hx.1) hx.2
  rw [sendOf_eq hf] at e
  subst e
  exact ⟨x, hx.1, hx.2, (findE_some hf).2.2.symm⟩

/-! ### Driven by messages -/
/-- I p k: process p is passive in state k. -/
def DrivenI (t : Tr) (I : Nat → Nat → Prop) : Prop := ∀ p i, Inn t (p, i) → I p i → (ev t (p, i)).kind ≠ 2 ∧ ((ev t (p, i)).kind ≠ 3 → I p (i + 1))
theorem idle_stays {t : Tr} {I : Nat → Nat → Prop} (hd : DrivenI t I) {p : Nat} (a : Nat) (ha : I p a) : ∀ b, a ≤ b → (∀ i, a ≤ i → i < b → Inn t (p, i) ∧ (ev t (p, i)).kind ≠ 3) → I p b := by
  intro b hb
  induction b with
  | zero => intro _; obtain rfl : a = 0 := by omega
            exact ha
  | succ b ih =>
    intro h
    by_cases e : a = b + 1
    · subst e; exact ha
    · have := ih (by omega) (fun i h1 h2 => h i h1 (by omega))
      have hb2 := h b (by omega) (by omega)
      exact (hd p b hb2.1 this).2 hb2.2
/-- Two waves: between them all has terminated. -/
theorem wave_done {t : Tr} {I : Nat → Nat → Prop} {w0 w1 x : List Int} (hp : pairB t = true) (hd : DrivenI t I) (h0 : RangeC t w0) (h1 : RangeC t w1) (hx : ConsC t x) (l0 : LeC w0 x) (l1 : LeC x w1)
    (hi : ∀ p, p < t.length → I p w0[p]!.toNat) (he : (evsC t 3 w0).length = (evsC t 2 w1).length) : (∀ p, p < t.length → I p x[p]!.toNat) ∧ (evsC t 2 x).length = (evsC t 3 x).length := by
  have e0 : w0.length = x.length := h0.1.trans hx.1.1.symm
  have e1 : x.length = w1.length := hx.1.1.trans h1.1.symm
  have m1 := evsC_mono (t := t) (kd := 3) e0 l0
  have m2 := evsC_mono (t := t) (kd := 2) e1 l1
  have m3 := recv_le hp hx
  refine ⟨fun p hpl => ?_, by omega⟩
  have hx2 := hx.1.at hpl
  have h02 := h0.at hpl
  have hle := l0 p (by rw [h0.1]; exact hpl)
  refine idle_stays hd _ (hi p hpl) _ (by omega) fun i hi1 hi2 => ?_
  have hin : Inn t (p, i) := ⟨hpl, by show i < t[p]!.events.length; omega⟩
  refine ⟨hin, fun h3 => ?_⟩
  have hic : InC x (p, i) := ⟨by show p < x.length; rw [hx.1.1]; exact hpl, by show (i : Int) < x[p]!; omega⟩
  have := nodup_eq (evsC_nodup t 3 w0) (evsC_sub e0 l0) (by omega) (p, i) (mem_evsC.2 ⟨hic, h3⟩)
  have h9 := (mem_evsC.1 this).1.2
  have h8 : (i : Int) < w0[p]! := h9
  omega

/-! ### Termination is stable -/
/-- All that stands before an event. -/
noncomputable def below (t : Tr) (x : Eid) : List Eid := (ids t).filter fun y => @decide (Relation.TransGen (Dir t) y x) (Classical.propDecidable _)
theorem ids_nodup (t : Tr) : (ids t).Nodup := (idsTo_sorted t t.length 0).imp fun {a b} h => by rintro rfl; unfold before at h; omega
theorem mem_below {t : Tr} {x y : Eid} : y ∈ below t x ↔ Relation.TransGen (Dir t) y x := by
  unfold below
  rw [List.mem_filter, mem_ids]
  exact ⟨fun h => @of_decide_eq_true _ (Classical.propDecidable _) h.2, fun h => ⟨tg_inn_l h, @decide_eq_true _ (Classical.propDecidable _) h⟩⟩
theorem below_nodup (t : Tr) (x : Eid) : (below t x).Nodup := (ids_nodup t).filter _
theorem below_lt {t : Tr} (hc : ¬ Cyc t) {x y : Eid} (h : Relation.TransGen (Dir t) y x) : (below t y).length < (below t x).length := by
  have hn : (y :: below t y).Nodup := List.nodup_cons.2 ⟨fun e => hc ⟨y, mem_below.1 e⟩, below_nodup t y⟩
  have := nodup_le (m := below t x) hn (by
    intro z hz
    rcases List.mem_cons.1 hz with rfl | hz
    · exact mem_below.2 h
    · exact mem_below.2 ((mem_below.1 hz).trans h))
  rw [List.length_cons] at this; omega
theorem tg_row {t : Tr} {p j : Nat} : ∀ i, j < i → Inn t (p, i) → Relation.TransGen (Dir t) (p, j) (p, i) := by
  intro i
  induction i with
  | zero => intro h _; exact absurd h (Nat.not_lt_zero _)
  | succ i ih =>
    intro h hi
    have hd : Dir t (p, i) (p, i + 1) := ⟨hi, .inl ⟨rfl, rfl⟩⟩
    by_cases e : j = i
    · subst e; exact .single hd
    · exact .tail (ih (by omega) hd.inn) hd
/-- No event with a message lies behind a terminated cut. -/
theorem no_more {t : Tr} {I : Nat → Nat → Prop} {c e : List Int} (hp : pairB t = true) (hy : ¬ Cyc t) (hd : DrivenI t I) (hc : ConsC t c) (he : ConsC t e)
    (hi : ∀ p, p < t.length → I p c[p]!.toNat) (hq : (evsC t 2 c).length ≤ (evsC t 3 c).length) :
    ∀ n x, (below t x).length < n → InC e x → ¬ InC c x → I x.1 x.2 ∧ (ev t x).kind ≠ 2 ∧ (ev t x).kind ≠ 3 := by
  intro n
  induction n with
  | zero => intro x h; exact absurd h (Nat.not_lt_zero _)
  | succ n ih =>
    intro x hb hx hxc
    have hin := he.1.inn hx
    obtain ⟨p, i⟩ := x
    have hpl : p < t.length := hin.1
    have hcp := hc.1.at hpl
    have hle : c[p]! ≤ (i : Int) := by
      by_cases h : c[p]! ≤ (i : Int)
      · exact h
      · exact absurd ⟨by show p < c.length; rw [hc.1.1]; exact hpl, by show (i : Int) < c[p]!; omega⟩ hxc
    have hIi : I p i := by
      refine idle_stays hd _ (hi p hpl) i (by omega) fun j h1 h2 => ?_
      have hjn : Inn t (p, j) := ⟨hpl, by have := hin.2; show j < t[p]!.events.length; simp only at this; omega⟩
      have hlt := below_lt hy (tg_row i h2 hin)
      refine ⟨hjn, (ih (p, j) (by omega) ⟨hx.1, by have := hx.2; show (j : Int) < e[p]!; simp only at this; omega⟩ ?_).2.2⟩
      rintro ⟨_, h⟩
      have : (j : Int) < c[p]! := h
      omega
    refine ⟨hIi, (hd p i hin hIi).1, fun h3 => ?_⟩
    obtain ⟨s, hf⟩ := send_some hp hin h3
    have hlt := below_lt hy (.single (show Dir t s (p, i) from ⟨hin, .inr ⟨h3, hf⟩⟩))
    have hm := missE_none.1 he.2 _ hx
    rw [sentB_recv h3 hf, decide_eq_true_eq] at hm
    obtain ⟨k1, k2, k3⟩ := findE_some hf
    by_cases hsc : InC c s
    · obtain ⟨x', g1, g2, g3⟩ := recv_all hp hc hq hsc k2
      have f1 := (pairB_at hp (hc.1.inn g1) (by rw [g2]; decide)).1
      have f2 := (pairB_at hp hin (by rw [h3]; decide)).1
      rw [g2, g3, k3] at f1
      rw [h3, f1] at f2
      obtain rfl := Option.some.inj f2
      exact hxc g1
    · exact (ih s (by omega) ⟨by rw [he.1.1]; exact k1.1, by omega⟩ hsc).2.1 k2
/-- A later consistent cut has terminated, too. -/
theorem stable {t : Tr} {I : Nat → Nat → Prop} {c e : List Int} (hp : pairB t = true) (hy : ¬ Cyc t) (hd : DrivenI t I) (hc : ConsC t c) (he : ConsC t e) (hl : LeC c e)
    (hi : ∀ p, p < t.length → I p c[p]!.toNat) (hq : (evsC t 2 c).length = (evsC t 3 c).length) :
    (∀ p, p < t.length → I p e[p]!.toNat) ∧ (evsC t 2 e).length = (evsC t 3 e).length := by
  have hn := fun x => no_more hp hy hd hc he hi (by omega) ((below t x).length + 1) x (Nat.lt_succ_self _)
  have hlen : c.length = e.length := hc.1.1.trans he.1.1.symm
  have same : ∀ kd : Int, (kd = 2 ∨ kd = 3) → (evsC t kd e).length = (evsC t kd c).length := by
    intro kd hk
    refine Nat.le_antisymm (nodup_le (evsC_nodup t kd e) fun x hx => ?_) (evsC_mono hlen hl)
    rw [mem_evsC] at hx ⊢
    refine ⟨?_, hx.2⟩
    by_cases h : InC c x
    · exact h
    · have := hn x hx.1 h
      rcases hk with rfl | rfl
      · exact absurd hx.2 this.2.1
      · exact absurd hx.2 this.2.2
  refine ⟨fun p hpl => ?_, by rw [same 2 (.inl rfl), same 3 (.inr rfl)]; exact hq⟩
  have hcp := hc.1.at hpl
  have hep := he.1.at hpl
  have hle := hl p (by rw [hc.1.1]; exact hpl)
  refine idle_stays hd _ (hi p hpl) _ (by omega) fun i h1 h2 => ?_
  have hin : Inn t (p, i) := ⟨hpl, by show i < t[p]!.events.length; omega⟩
  refine ⟨hin, (hn (p, i) ⟨by show p < e.length; rw [he.1.1]; exact hpl, by show (i : Int) < e[p]!; omega⟩ ?_).2.2⟩
  rintro ⟨_, h⟩
  have : (i : Int) < c[p]! := h
  omega

end Go.Proofs.YtfcpnggdpaeldaaGreat

/-
  Closing counts by rounds (the reference's Closed): after as many rounds as there are events, and one more, it is the least consistent cut that contains them. No program is named here.
-/
namespace Go.Proofs.YtfcpnggdpaeldaaGreat
open Go.RowKit
set_option linter.unusedVariables false

/-- What each step keeps. -/
structure Up (t : Tr) (k c : List Int) : Prop where
  rng : RangeC t c
  le : LeC k c
  len : k.length = c.length
  least : ∀ e, ConsC t e → LeC k e → LeC c e
variable {t : Tr} {k c c0 : List Int}
theorem Up.start (h : RangeC t k) : Up t k k := ⟨h, LeC.refl _, rfl, fun _ _ h => h⟩
/-- One step: a receive within the counts asks for its send. -/
def stepC (c : List Int) (s : Eid) : List Int := c.set s.1 (max c[s.1]! ((s.2 : Int) + 1))
theorem stepC_len (c : List Int) (s : Eid) : (stepC c s).length = c.length := by simp [stepC]
theorem stepC_at {s : Eid} (h : s.1 < c.length) : (stepC c s)[s.1]! = max c[s.1]! ((s.2 : Int) + 1) := setC_at h
theorem stepC_ne {s : Eid} {q : Nat} (h : q ≠ s.1) : (stepC c s)[q]! = c[q]! := setC_ne h
theorem stepC_same {s : Eid} (hs : s.1 < c.length) (h : (s.2 : Int) + 1 ≤ c[s.1]!) : stepC c s = c := by
  refine list_ext (stepC_len c s) fun p hp => ?_
  by_cases e : p = s.1
  · subst e; rw [stepC_at hs]; omega
  · rw [stepC_ne e]
theorem Up.step (h : Up t k c) {x s : Eid} (hx : InC c x) (h3 : (ev t x).kind = 3) (hf : findE t 2 (ev t x).msg = some s) : Up t k (stepC c s) := by
  have hi := (findE_some hf).1
  have hsl : s.1 < c.length := by have := hi.1; have := h.rng.1; omega
  have hsr := h.rng.at hi.1
  refine ⟨set_range h.rng (by omega) (by have := hi.2; omega), fun p hp => ?_, by rw [stepC_len]; exact h.len, fun e he hke p hp => ?_⟩
  · have := h.le p hp
    by_cases e : p = s.1
    · subst e; rw [stepC_at hsl]; omega
    · rw [stepC_ne e]; exact this
  · rw [stepC_len] at hp
    have hce := h.least e he hke
    by_cases ep : p = s.1
    · subst ep
      rw [stepC_at hsl]
      have hin : InC e x := ⟨by have := hx.1; have := h.rng.1; have := he.1.1; omega, by have := hce x.1 hx.1; have := hx.2; omega⟩
      have hm := missE_none.1 he.2 x hin
      rw [sentB_recv h3 hf, decide_eq_true_eq] at hm
      have := hce s.1 hp
      omega
    · rw [stepC_ne ep]; exact hce p hp

/-! ### How many rounds are enough -/
def pot (t : Tr) (c : List Int) : Nat := sumTo (fun p => c[p]!.toNat) t.length
theorem pot_le (h : RangeC t c) : pot t c ≤ sumTo (fun p => t[p]!.events.length) t.length := sumTo_le _ fun p hp => by have := h.at hp; omega
theorem pot_step (hr : RangeC t c) {s : Eid} (hs : s.1 < t.length) (h : c[s.1]! < (s.2 : Int) + 1) : pot t c < pot t (stepC c s) := by
  have hsl : s.1 < c.length := by have := hr.1; omega
  have h0 := hr.at hs
  refine sumTo_lt _ (fun p hp => ?_) ⟨s.1, hs, ?_⟩
  · by_cases e : p = s.1
    · subst e; rw [stepC_at hsl]; omega
    · rw [stepC_ne e]; exact Nat.le_refl _
  · rw [stepC_at hsl]; omega
theorem pot_up (hr : RangeC t c) {s : Eid} (hs : s.1 < t.length) : pot t c ≤ pot t (stepC c s) := by
  have hsl : s.1 < c.length := by have := hr.1; omega
  refine sumTo_le _ fun p hp => ?_
  by_cases e : p = s.1
  · subst e; rw [stepC_at hsl]; omega
  · rw [stepC_ne e]; exact Nat.le_refl _
/-- Within a round that began at c0: nothing was changed and nothing is missing so far, or the counts have grown. -/
def RInv (t : Tr) (c0 c : List Int) (p i : Nat) : Prop := (c = c0 ∧ missTo t c p i = none) ∨ (pot t c0 < pot t c ∧ missE t c0 ≠ none)
theorem RInv.start (t : Tr) (c : List Int) : RInv t c c 0 0 := .inl ⟨rfl, missTo_zero t c⟩
theorem RInv.keep {p i : Nat} (h : RInv t c0 c p i) (hs : sentB t c (p, i) = true) : RInv t c0 c p (i + 1) := by
  rcases h with ⟨h1, h2⟩ | h
  · exact .inl ⟨h1, missTo_succ h2 hs⟩
  · exact .inr h
theorem RInv.step {p i : Nat} {s : Eid} (h : RInv t c0 c p i) (hr : RangeC t c) (hx : InC c (p, i)) (h3 : (ev t (p, i)).kind = 3) (hf : findE t 2 (ev t (p, i)).msg = some s) : RInv t c0 (stepC c s) p (i + 1) := by
  have hi := (findE_some hf).1
  have hsl : s.1 < c.length := by have := hi.1; have := hr.1; omega
  by_cases hle : (s.2 : Int) + 1 ≤ c[s.1]!
  · rw [stepC_same hsl hle]
    exact h.keep (by rw [sentB_recv h3 hf]; exact decide_eq_true hle)
  · rcases h with ⟨h1, h2⟩ | ⟨h1, h2⟩
    · subst h1
      refine .inr ⟨pot_step hr hi.1 (by omega), fun hm => ?_⟩
      have := missE_none.1 hm _ hx
      rw [sentB_recv h3 hf, decide_eq_true_eq] at this
      exact hle this
    · exact .inr ⟨Nat.lt_of_lt_of_le h1 (pot_up hr hi.1), h2⟩
theorem RInv.next {p n : Nat} (h : RInv t c0 c p n) (hn : n = c[p]!.toNat) : RInv t c0 c (p + 1) 0 := by
  rcases h with ⟨h1, h2⟩ | h
  · exact .inl ⟨h1, missTo_next h2 hn⟩
  · exact .inr h
/-- Between rounds: nothing is missing, or each round has made the counts greater. -/
def OInv (t : Tr) (k c : List Int) (r : Nat) : Prop := missE t c = none ∨ pot t k + r ≤ pot t c
theorem OInv.start (t : Tr) (k : List Int) : OInv t k k 0 := .inr (by omega)
theorem OInv.round {r : Nat} (h : OInv t k c0 r) (hr : RInv t c0 c c.length 0) : OInv t k c (r + 1) := by
  rcases hr with ⟨rfl, h2⟩ | ⟨h1, h2⟩
  · exact .inl h2
  · rcases h with h | h
    · exact absurd h h2
    · exact .inr (by omega)
theorem OInv.done {r : Nat} (h : OInv t k c r) (hu : Up t k c) (hr : sumTo (fun p => t[p]!.events.length) t.length < r) : ConsC t c ∧ LeC k c ∧ ∀ e, ConsC t e → LeC k e → LeC c e := by
  refine ⟨⟨hu.rng, ?_⟩, hu.le, hu.least⟩
  rcases h with h | h
  · exact h
  · have := pot_le hu.rng; omega

end Go.Proofs.YtfcpnggdpaeldaaGreat

/-
  Numbers that a call hands back, with an error or without. No program is named here.
-/
namespace Go.Proofs.YtfcpnggdpaeldaaGreat
open Go.RowKit

def IntsRes (w w' : World) (e : Ending) (E : Int) (l : List Int) : Prop := ∃ v, e = .returned (.tuple #[v, .int .i64 E]) ∧ Row w' w.heap.size 3 1 v l.length (l.map (Value.int .i64)) ∧ Ext w w'
theorem IntsRes.none {w w' : World} {E : Int} (h : Ext w w') : IntsRes w w' (.returned (.tuple #[.slice none 0 0, .int .i64 E])) E [] := ⟨_, rfl, Row.mkNil _ _ _ _, h⟩
def IntsOut (w w' : World) (e : Ending) (l : List Int) : Prop := ∃ v, e = .returned v ∧ Row w' w.heap.size 3 1 v l.length (l.map (Value.int .i64)) ∧ Ext w w'

end Go.Proofs.YtfcpnggdpaeldaaGreat
