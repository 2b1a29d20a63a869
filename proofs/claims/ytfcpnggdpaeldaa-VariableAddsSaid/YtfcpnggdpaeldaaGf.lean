import Derived.Test.YtfcpnggdpaeldaaGa
import Derived.Test.YtfcpnggdpaeldaaProg
import Derived.Test.YtfcpnggdpaeldaaGb
import Derived.BigQuiet
import Derived.Deep.QuietTactic
import Derived.Deep.LoopGhost
import Derived.Shelf.Abstract
import Derived.Laws.EntriesVeiled
import Derived.BigRegion
/-
  What the reference's Past hands back: for each process which of its events happen before an event. No function is named here.
-/
namespace Go.Proofs.Ytfcpnggdpaeldaa
open Go.RowKit
set_option linter.unusedVariables false

open Classical in
/-- A row of rows of marks: the mark of event (q, i) lies at place i + 1 of row q. -/
noncomputable def PastOut (t : Tr) (x : Eid) (w w' : World) (e : Ending) : Prop :=
  ∃ (b off c : Nat) (Bs : List Nat), e = .returned (.slice (some ⟨b, off, none⟩) t.length c) ∧ t.length ≤ c ∧ b < w'.heap.size ∧ Ext w w' ∧
    ∀ q, q < t.length → w'.cell? ⟨b, off + q, none⟩ = some (.slice (some ⟨Bs[q]!, 0, none⟩) (t[q]!.events.length + 1) (t[q]!.events.length + 1)) ∧ Bs[q]! < w'.heap.size ∧
      ∀ i, i < t[q]!.events.length → w'.cell? ⟨Bs[q]!, i + 1, none⟩ = some (.bool (decide (Relation.TransGen (Dir t) (q, i) x)))

end Go.Proofs.Ytfcpnggdpaeldaa

/-
  Rows of rows of marks, as the reference's Past makes them. No function is named here.
-/
namespace Go.Proofs.Ytfcpnggdpaeldaa
open Go.RowKit
set_option linter.unusedVariables false

/-- The marks of process q: those in M; place 0 is not used. -/
def marksV (t : Tr) (M : List Eid) (q : Nat) : List Value := Value.bool false :: (List.range t[q]!.events.length).map fun i => Value.bool (decide ((q, i) ∈ M))
theorem marksV_len (t : Tr) (M : List Eid) (q : Nat) : (marksV t M q).length = t[q]!.events.length + 1 := by simp [marksV]
theorem marksV_at {t : Tr} {M : List Eid} {q i : Nat} (hi : i < t[q]!.events.length) : (marksV t M q)[i + 1]? = some (.bool (decide ((q, i) ∈ M))) := by
  unfold marksV
  rw [List.getElem?_cons_succ, List.getElem?_map, List.getElem?_range hi]
  rfl
theorem marksV_other {t : Tr} {M : List Eid} {x : Eid} {q : Nat} (h : x.1 ≠ q) : marksV t (x :: M) q = marksV t M q := by
  unfold marksV
  congr 1
  apply List.map_congr_left
  intro i _
  congr 1
  rw [decide_eq_decide]
  constructor
  · intro h1
    rcases List.mem_cons.1 h1 with e | e
    · exact absurd (by rw [← e]) h
    · exact e
  · exact List.mem_cons_of_mem _
theorem marksV_set {t : Tr} {M : List Eid} {q i : Nat} (hi : i < t[q]!.events.length) : (marksV t M q).set (i + 1) (.bool true) = marksV t ((q, i) :: M) q := by
  apply List.ext_getElem
  · simp [marksV]
  · intro j h1 h2
    rw [List.getElem_set]
    cases j with
    | zero => simp [marksV]
    | succ j =>
      by_cases e : j = i
      · subst e; simp [marksV]
      · rw [if_neg (by omega)]
        simp [marksV, e]
/-- The headers of the rows. -/
def hdrs (t : Tr) (Bs : List Nat) : List Value := (List.range Bs.length).map fun q => Value.slice (some ⟨Bs[q]!, 0, none⟩) (t[q]!.events.length + 1) (t[q]!.events.length + 1)
theorem hdrs_at {t : Tr} {Bs : List Nat} {q : Nat} (hq : q < Bs.length) : (hdrs t Bs)[q]? = some (Value.slice (some ⟨Bs[q]!, 0, none⟩) (t[q]!.events.length + 1) (t[q]!.events.length + 1)) := by
  unfold hdrs
  rw [List.getElem?_map, List.getElem?_range hq]
  rfl
theorem hdrs_snoc {t : Tr} {Bs : List Nat} {b : Nat} : hdrs t (Bs ++ [b]) = hdrs t Bs ++ [Value.slice (some ⟨b, 0, none⟩) (t[Bs.length]!.events.length + 1) (t[Bs.length]!.events.length + 1)] := by
  unfold hdrs
  rw [List.length_append, List.length_cons, List.length_nil, List.range_succ, List.map_append]
  congr 1
  · apply List.map_congr_left
    intro q hq
    have hq := List.mem_range.1 hq
    rw [getElem!_pos (Bs ++ [b]) q (by simp; omega), getElem!_pos Bs q hq, List.getElem_append_left hq]
  · simp
/-- v is a row of rows of the marks M; its blocks are the call's own. -/
def Marks (w : World) (base : Nat) (eo ei : TypeId) (v : Value) (t : Tr) (n : Nat) (M : List Eid) (Bs : List Nat) : Prop :=
  Bs.length = n ∧ (∀ p q, p < n → q < n → Bs[p]! = Bs[q]! → p = q) ∧ Row w base eo 1 v n (hdrs t Bs) ∧
    ∀ q, q < n → Row w base ei 1 (.slice (some ⟨Bs[q]!, 0, none⟩) (t[q]!.events.length + 1) (t[q]!.events.length + 1)) (t[q]!.events.length + 1) (marksV t M q)
theorem Marks.ext {w w' : World} {base : Nat} {eo ei : TypeId} {v : Value} {t : Tr} {n : Nat} {M : List Eid} {Bs : List Nat} (h : Marks w base eo ei v t n M Bs) (x : Ext w w') : Marks w' base eo ei v t n M Bs :=
  ⟨h.1, h.2.1, h.2.2.1.ext x, fun q hq => (h.2.2.2 q hq).ext x⟩
/-- A mark is set. -/
theorem Marks.set {w : World} {base : Nat} {eo ei : TypeId} {v : Value} {t : Tr} {n : Nat} {M : List Eid} {Bs : List Nat} (h : Marks w base eo ei v t n M Bs) (hne : eo ≠ ei) {q i : Nat} (hq : q < n) (hi : i < t[q]!.events.length) :
    Marks (w.setCell ⟨Bs[q]!, i + 1, none⟩ (.bool true)) base eo ei v t n ((q, i) :: M) Bs := by
  refine ⟨h.1, h.2.1, ?_, fun p hp => ?_⟩
  · refine h.2.2.1.st ?_ _
    intro e
    rcases h.2.2.1.2 with ⟨rfl, _⟩ | ⟨g, off, cap, cur, rfl, _, hg, _⟩
    · simp [Value.ownBlock] at e
    · have e : g = Bs[q]! := Option.some.inj e
      rcases (h.2.2.2 q hq).2 with ⟨h1, _⟩ | ⟨g', off', cap', cur', h1, _, hg', _⟩
      · simp at h1
      · simp only [Value.slice.injEq, Option.some.injEq, Addr.mk.injEq] at h1
        rw [← h1.1.1, ← e, hg] at hg'
        simp only [Option.some.injEq, Obj.cells.injEq] at hg'
        exact hne hg'.2.1
  · by_cases e : p = q
    · subst e
      have := (h.2.2.2 p hp).set (i + 1) (.bool true) (by omega)
      rw [Nat.zero_add, marksV_set hi] at this
      exact this
    · rw [marksV_other (fun e2 => e e2.symm)]
      refine (h.2.2.2 p hp).st ?_ _
      intro e2
      exact e (h.2.1 p q hp hq (Option.some.inj e2))

end Go.Proofs.Ytfcpnggdpaeldaa

/-
  Which events happen before an event: the reference's Past.
-/
namespace Go.Proofs.Ytfcpnggdpaeldaa
open Go.RowKit
set_option linter.unusedVariables false
attribute [local go_sem ↓] Go.wp_at_zero Go.wp_at_succ

theorem info_bool3 : (Try.prog.info? 4).map (fun i => (i.zero, i.size, i.bytes)) = some (some (.bool false), 1, 1) := by kernel_rfl
theorem info_bools3 : (Try.prog.info? 50).map (fun i => (i.zero, i.size, i.bytes)) = some (some (.slice none 0 0), 1, 24) := by kernel_rfl
/-- One more row of marks, all of them off. -/
theorem Marks.more {w : World} {base : Nat} {v v' : Value} {eo ei : TypeId} {t : Tr} {n b : Nat} {Bs : List Nat} (h : ∀ q, q < n → Row w base ei 1 (.slice (some ⟨Bs[q]!, 0, none⟩) (t[q]!.events.length + 1) (t[q]!.events.length + 1)) (t[q]!.events.length + 1) (marksV t [] q)) (hl : Bs.length = n) (hd : ∀ p q, p < n → q < n → Bs[p]! = Bs[q]! → p = q) (hb : ∀ q, q < n → Bs[q]! ≠ b)
    (hr : Row w base ei 1 (.slice (some ⟨b, 0, none⟩) (t[n]!.events.length + 1) (t[n]!.events.length + 1)) (t[n]!.events.length + 1) (marksV t [] n)) (ho : Row w base eo 1 v' (n + 1) (hdrs t Bs ++ [Value.slice (some ⟨b, 0, none⟩) (t[n]!.events.length + 1) (t[n]!.events.length + 1)])) :
    Marks w base eo ei v' t (n + 1) [] (Bs ++ [b]) := by
  have g1 : ∀ q, q < n → (Bs ++ [b])[q]! = Bs[q]! := fun q hq => by
    rw [getElem!_pos (Bs ++ [b]) q (by simp; omega), getElem!_pos Bs q (by omega), List.getElem_append_left (by omega)]
  have g2 : (Bs ++ [b])[n]! = b := by
    subst hl; rw [getElem!_pos (Bs ++ [b]) Bs.length (by simp)]; simp
  refine ⟨by simp [hl], fun p q hp hq e => ?_, by rw [hdrs_snoc, hl]; exact ho, fun q hq => ?_⟩
  · by_cases e1 : p = n
    · by_cases e2 : q = n
      · omega
      · subst e1; rw [g2, g1 q (by omega)] at e; exact absurd e.symm (hb q (by omega))
    · by_cases e2 : q = n
      · subst e2; rw [g2, g1 p (by omega)] at e; exact absurd e (hb p (by omega))
      · rw [g1 p (by omega), g1 q (by omega)] at e; exact hd p q (by omega) (by omega) e
  · by_cases e1 : q = n
    · subst e1; rw [g2]; exact hr
    · rw [g1 q (by omega)]; exact h q (by omega)

/-- An append to a row of other elements leaves the marks. -/
theorem Marks.grown {w w' : World} {base : Nat} {eo ei : TypeId} {v : Value} {t : Tr} {n : Nat} {M : List Eid} {Bs : List Nat} (h : Marks w base eo ei v t n M Bs) {base' : Nat} {e' : TypeId} {size' : Nat} {v' : Value} {n' : Nat} {xs : List Value} (hr : Row w base' e' size' v' n' xs) (hg : w.grownBy w' v'.ownBlock) (h1 : eo ≠ e') (h2 : ei ≠ e') : Marks w' base eo ei v t n M Bs :=
  ⟨h.1, h.2.1, h.2.2.1.grown hg (h.2.2.1.apart hr h1), fun q hq => (h.2.2.2 q hq).grown hg ((h.2.2.2 q hq).apart hr h2)⟩
theorem ids_small {t : Tr} (hs : SmallTr t) : (ids t).length ≤ 1000000 * 1000000 := by
  have key : ∀ p, p ≤ t.length → (idsTo t p 0).length ≤ p * 1000000 := by
    intro p
    induction p with
    | zero => intro _; simp [idsTo_zero]
    | succ p ih =>
      intro hp
      rw [← idsTo_next]
      have e : idsTo t p t[p]!.events.length = idsTo t p 0 ++ (List.range t[p]!.events.length).map fun j => (p, j) := by simp [idsTo]
      rw [e, List.length_append, List.length_map, List.length_range, Nat.add_mul]
      have := ih (by omega)
      have := (hs.2 p (by omega)).2.1
      omega
  have := key t.length (Nat.le_refl _)
  exact Nat.le_trans this (Nat.mul_le_mul_right _ hs.1)
theorem unseen_le (t : Tr) (M : List Eid) : unseen t M ≤ (ids t).length := List.length_filter_le _ _
theorem bef_len (t : Tr) (x : Eid) : (bef t x).length ≤ 2 := by
  unfold bef
  rw [List.length_append]
  have h1 : (if 0 < x.2 then [(x.1, x.2 - 1)] else []).length ≤ 1 := by split <;> simp
  have h2 : (if (ev t x).kind = 3 then (findE t 2 (ev t x).msg).toList else []).length ≤ 1 := by
    split
    · cases findE t 2 (ev t x).msg <;> simp
    · simp
  omega

theorem eids_at : ∀ (L : List Eid) (j : Nat), j < L.length → (L.flatMap eidC)[j * 2]? = some (.int .i64 (L[j]!.1 : Int)) ∧ (L.flatMap eidC)[j * 2 + 1]? = some (.int .i64 ((L[j]!.2 : Int) + 1))
  | [], j, h => absurd h (Nat.not_lt_zero _)
  | x :: L, 0, _ => by simp [eidC]
  | x :: L, j + 1, h => by
    have ih := eids_at L j (by simpa using h)
    rw [List.flatMap_cons, show (j + 1) * 2 = j * 2 + 1 + 1 from by omega]
    simp only [eidC, List.cons_append, List.nil_append, List.getElem?_cons_succ, List.getElem!_cons_succ]
    exact ih

theorem marksV_nil {t : Tr} {q : Nat} : marksV t [] q = List.replicate (t[q]!.events.length + 1) (.bool false) := by
  unfold marksV
  rw [List.replicate_succ]
  congr 1
  apply List.ext_getElem
  · simp
  · intro j h1 h2; simp
set_option maxHeartbeats 8000000 in
set_option maxRecDepth 100000 in
theorem pastR_calls (v : Value) (t : Tr) (p i : Nat) (w : World) (h : TrAt w v t) (hs : SmallTr t) (hx : Inn t (p, i)) (hsd : ∀ y, Inn t y → (ev t y).kind = 3 → ∃ s, findE t 2 (ev t y).msg = some s) :
    Calls Try.prog 75 #[.agg #[v], .agg #[.int .i64 p, .int .i64 ((i : Int) + 1)]] w fun e w' => PastOut t (p, i) w w' e := by
  have HDI := Lib.hid (fun W (hW : Ext w W) (y : Eid) (hy : Inn t y) => directlyR_calls v t y.1 y.2 W (h.ext hW) hs hy (hsd y hy))
  have HD0 := Lib.hid (fun W (hW : Ext w W) => directlyR_calls v t p i W (h.ext hW) hs hx (hsd _ hx))
  obtain ⟨ix, hix⟩ : ∃ x : Int, (i : Int) + 1 = x := ⟨_, rfl⟩
  rw [hix]
  rw [hix] at HD0
  obtain ⟨ie, hie, iz0, iz1, iz2⟩ := info_parts info_eid
  obtain ⟨ib, hib, bz0, bz1, bz2⟩ := info_parts info_bool3
  obtain ⟨io, hio, oz0, oz1, oz2⟩ := info_parts info_bools3
  have HT := Lib.hid h
  have HS := Lib.hid hs
  have HXI := Lib.hid hx
  have HSM := Lib.hid (ids_small hs)
  obtain ⟨ta, tc, rfl, htc⟩ := h.sh
  have hn1 := hs.1
  generalize hln : t.length = n at *
  have HL := Lib.hid hln
  have HX0 := Lib.hid (((Ext.rf _).al (.cells #[.int .i64 p, .int .i64 ix] 87)).hp (heap_alloc_new w (.cells #[.slice ta n tc] 24)))
  have HX1 := Lib.hid (heap_new_eq (w := w.alloc (.cells #[.slice ta n tc] 24)) (o := .cells #[.int .i64 p, .int .i64 ix] 87) (b := w.heap.size + 1) (by simp))
  have HE2 : Hid (Ext w ((w.alloc (.cells #[.slice ta n tc] 24)).alloc (.cells #[.int .i64 p, .int .i64 ix] 87))) := Lib.hid (((Ext.rf w).al _).al _)
  clear h hs hx hsd hln hix
  go_enter Try.func75, Try.ntmps75
  go_wp2
  generalize hw2 : (w.alloc (.cells #[.slice ta n tc] 24)).alloc (.cells #[.int .i64 p, .int .i64 ix] 87) = w2 at *
  clear hw2
  go_loopg [5, 6] n (fun g s5 s6 wr => ∃ (q : Nat) (Bs : List Nat), q ≤ n ∧ n - q ≤ g ∧ s6 = .int .i64 q ∧ Aside (Marks wr w2.heap.size 50 4 s5 t q [] Bs) ∧ Aside (Ext w2 wr))
  case atStart => exact ⟨0, [], Nat.zero_le _, by omega, rfl, (show Marks _ _ _ _ _ _ _ _ _ from ⟨rfl, fun p q hp => absurd hp (Nat.not_lt_zero _), Row.mkNil _ _ _ _, fun q hq => absurd hq (Nat.not_lt_zero _)⟩), Ext.rf _⟩
  case round =>
    obtain ⟨q, Bs, hq, hg, rfl, HM, HEK⟩ := hrel
    have HEW := Lib.hid (HE2.out.trans' HEK.out)
    have HY0 := Lib.hid (HEK.out.hp HX0.out)
    have HY1 := Lib.hid (HEK.out.hp HX1.out)
    have t0 := cellOf HY0.out 0
    simp only [List.getElem?_toArray, List.getElem?_cons_zero] at t0
    by_cases hlt : q < n
    · have hltz : (q : Int) < (n : Int) := by omega
      have hqz : (0 : Int) ≤ (q : Int) := by omega
      obtain ⟨B, O, C, vv, ve, hve, hlC, hB, hn0, hv0, he0, hV, hE0⟩ := proc_at HT.out q (by rw [HL.out]; exact hlt)
      simp only [Value.slice.injEq] at hve
      obtain ⟨rfl, hzz, rfl⟩ := hve
      obtain ⟨ea, ec, rfl, hec⟩ := hE0.sh
      have hen := (HS.out.2 q (by rw [HL.out]; exact hlt)).2.1
      have he1 := HEW.out.cl he0
      generalize hne : t[q]!.events.length = ne at *
      have HNE := Lib.hid hne
      have hsz1 := HEK.out.sz
      clear hn0 hv0 hV hE0 hzz hne he0
      go_wp2_with (first | (at_make; refine wpList_make_full _ rfl _ _ 50 rfl w2.heap.size 4 ib (.bool false) 1 Try.underlying50 hib bz0 bz1 .i64 .i64 _ _ (ne + 1) rfl rfl rfl rfl (by rw [bz2]; omega) (by unfold maxLen; omega) hsz1 ?_; intro w3 hown3 hgrow3; have HRN := Lib.hid (show Row w3 w2.heap.size 4 1 (.slice (some ⟨wr.heap.size, 0, none⟩) (ne + 1) (ne + 1)) (ne + 1) (marksV t [] q) from by have := Row.ofOwns hown3; rw [show (Value.bool false).cells = #[.bool false] from rfl, Nat.mul_one, toList_madeCells_one] at this; rw [marksV_nil, HNE.out]; exact this); have HX3 := Lib.hid ((Ext.rf wr).gr hgrow3 (by simp)); clear hown3 hgrow3) | (at_builtin; refine wpList_append_one rfl _ _ 111 rfl w2.heap.size 50 io (.slice none 0 0) 1 24 Try.underlying111 hio oz0 oz1 oz2 rfl (by decide) _ q _ rfl ((HM.out.2.2.1.ext HX3.out).al _) w3.heap.size 1 [.slice (some ⟨wr.heap.size, 0, none⟩) (ne + 1) (ne + 1)] rfl rfl ⟨_, heap_alloc_new _ _⟩ (by simp [Value.oneCell']) (by unfold maxLen; omega) (by omega) (by have := HX3.out.sz; simp; omega) ?_; intro v6 w6 hown6 hgrow6 hblk6; have HOWN := Lib.hid hown6; have HG6 := Lib.hid hgrow6; clear hown6 hgrow6 hblk6))
      go_roundg (n - (q + 1))
      case measure => omega
      case rel =>
        have hX6 : Ext w3 (w3.alloc (.cells #[.slice (some ⟨wr.heap.size, 0, none⟩) (ne + 1) (ne + 1)] 50)) := (Ext.rf w3).al _
        have hO := (HM.out.2.2.1.ext HX3.out).ext hX6
        have hnb : ∀ (base : Nat) (vv : Value) (k : Nat) (xs : List Value), Row w3 base 4 1 vv k xs → Row w6 base 4 1 vv k xs := fun base vv k xs hr => (hr.ext hX6).grown HG6.out ((hr.ext hX6).apart hO (by decide))
        refine ⟨q + 1, Bs ++ [wr.heap.size], by omega, by omega, by go_num, (show Marks _ _ _ _ _ _ _ _ _ from Marks.more (v := v6) (fun r hr => hnb _ _ _ _ ((HM.out.2.2.2 r hr).ext HX3.out)) HM.out.1 HM.out.2.1 (fun r hr => by have := ((HM.out.2.2.2 r hr).lt Bs[r]! rfl).2; omega) (hnb _ _ _ _ (by rw [HNE.out]; exact HRN.out)) (by rw [HNE.out]; exact HOWN.out)), ?_⟩
        exact (((HEK.out.trans' HX3.out).al _).gr HG6.out (fun k hk => (hO.lt k hk).1) : Ext w2 w6)
    · have hltz : ¬ (q : Int) < (n : Int) := by omega
      obtain rfl : n = q := by omega
      have j0 := cellOf HY1.out 0
      have j1 := cellOf HY1.out 1
      simp only [List.getElem?_toArray, List.getElem?_cons_zero, List.getElem?_cons_succ] at j0 j1
      go_wp2_with fail
      clear j0 j1
      refine (HD0.out _ HEW.out).mono ?_
      rintro e w3 ⟨v7, rfl, hR7, hE7⟩
      have HR7 := Lib.hid (hR7.mono HEK.out.sz)
      have HM7 := Lib.hid (HM.out.ext hE7)
      have HE7 := Lib.hid (HEK.out.trans' hE7)
      have hpn : 0 < n := by have := HXI.out.1; rw [HL.out] at this; omega
      obtain ⟨og, oo, oc, rfl, hog, hog2, hoc⟩ := HM7.out.2.2.1.shape hpn
      have HB0 := Lib.hid (Back.start (t := t) (a := (p, i)) (L := bef t (p, i)) (fun y => mem_bef HXI.out))
      have HN0 := Lib.hid (And.intro (bef_len t (p, i)) (unseen_le t []))
      clear hR7 hE7 t0 HM HEK HEW HY0 HY1 HX1 hog hog2 hltz hlt
      generalize bef t (p, i) = L0 at *
      go_wp2
      go_loopg [7] (L0.length + 3 * unseen t []) (fun g s7 wr => ∃ (M Q : List Eid), Q.length + 3 * unseen t M ≤ g ∧ Aside (Q.length + 3 * unseen t M ≤ L0.length + 3 * unseen t []) ∧ Aside (Row wr w2.heap.size 87 2 s7 Q.length (Q.flatMap eidC)) ∧ Aside (Marks wr w2.heap.size 50 4 (.slice (some ⟨og, oo, none⟩) n oc) t n M Bs) ∧ Aside (Back t (p, i) M Q) ∧ Aside (Ext w2 wr))
      case atStart => exact ⟨[], L0, Nat.le_refl _, (show Aside _ from Nat.le_refl _), HR7, HM7, HB0, HE7⟩
      case round =>
        obtain ⟨M, Q, hg2, HQB, HRQ, HMK, HBK, HEQ⟩ := hrel
        have HEW := Lib.hid (HE2.out.trans' HEQ.out)
        cases Q with
        | nil =>
          obtain ⟨a7, c7, rfl⟩ := HRQ.out.nil_of rfl
          go_wp2
          go_ret
          obtain ⟨hB1, hB2, hB3, hB4⟩ := HMK.out
          have hsl := hB3.shape hpn
          refine ⟨og, oo, oc, Bs, by rw [HL.out]; rfl, by rw [HL.out]; exact hoc, ?_, HEW.out, fun q hq => ?_⟩
          · obtain ⟨x1, x2, x3, hx1, _, hx3, _⟩ := hsl
            simp only [Value.slice.injEq, Option.some.injEq, Addr.mk.injEq] at hx1
            rw [hx1.1.1]; exact hx3
          · rw [HL.out] at hq
            refine ⟨(hB3.cell q (by omega)).trans (hdrs_at (by rw [hB1]; exact hq)), ((hB4 q hq).lt Bs[q]! rfl).2, fun j hj => ?_⟩
            have hc := ((hB4 q hq).cell (j + 1) (by omega)).trans (marksV_at hj)
            rw [Nat.zero_add] at hc
            rw [hc]
            have hbk := HBK.out.fin (q, j)
            congr 2
            by_cases hm : (q, j) ∈ M
            · rw [decide_eq_true hm]; exact (@decide_eq_true _ (Classical.propDecidable _) (hbk.1 hm)).symm
            · rw [decide_eq_false hm]; exact (@decide_eq_false _ (Classical.propDecidable _) (fun h => hm (hbk.2 h))).symm
        | cons y T =>
          obtain ⟨y1, y2⟩ := y
          have HIN := Lib.hid (tg_inn_l (HBK.out.rest (y1, y2) (by simp)))
          have hy1 : y1 < n := by have := HIN.out.1; rw [HL.out] at this; exact this
          have hy2 : y2 < t[y1]!.events.length := HIN.out.2
          have hlc : ((y1, y2) :: T).length = T.length + 1 := rfl
          rw [hlc] at hg2 HQB HRQ
          obtain ⟨g7, o7, c7, rfl, hb7, hl7, hc7⟩ := HRQ.out.shape (Nat.succ_pos _)
          have e0 := HRQ.out.cell 0 (by omega)
          have e1 := HRQ.out.cell 1 (by omega)
          have htl := HRQ.out.tail
          simp only [eidC, List.flatMap_cons, List.cons_append, List.nil_append, List.getElem?_cons_zero, List.getElem?_cons_succ, Nat.add_zero, List.drop_succ_cons, List.drop_zero] at e0 e1 htl
          have HTL := Lib.hid htl
          have hh := (HMK.out.2.2.1.cell y1 (by omega)).trans (hdrs_at (by rw [HMK.out.1]; exact hy1))
          have hm := ((HMK.out.2.2.2 y1 hy1).cell (y2 + 1) (by omega)).trans (marksV_at hy2)
          have fm := (HMK.out.2.2.2 y1 hy1).free (y2 + 1)
          rw [Nat.zero_add] at hm
          have hen := (HS.out.2 y1 (by rw [HL.out]; exact hy1)).2.1
          have HBL := Lib.hid ((HMK.out.2.2.2 y1 hy1).lt Bs[y1]! rfl)
          generalize hbq : Bs[y1]! = bq at *
          generalize hne : t[y1]!.events.length = ne at *
          generalize hbm : decide ((y1, y2) ∈ M) = bm at *
          generalize hk : T.length = k at *
          have HK := Lib.hid hk
          have HBM := Lib.hid hbm
          have HBQ := Lib.hid hbq
          have HNE := Lib.hid hne
          have HKB := Lib.hid (show k ≤ 4000000000000 from by have := HQB.out; have := HN0.out; have := HSM.out; omega)
          have hg7 : g7 < wr.heap.size := hl7
          clear htl hbq hne hbm hk hlc hl7
          have hc7e : Hid (c7 ≠ 1 → 1 < c7) := Lib.hid (fun h => by omega)
          have hk0 : Hid (c7 = 1 → k = 0) := Lib.hid (fun h => by omega)
          have hy1z : (0 : Int) ≤ (y1 : Int) := by omega
          have hy1i : (y1 : Int) < (n : Int) := by omega
          have hy2z : (0 : Int) ≤ (y2 : Int) + 1 := by omega
          have hy2i : (y2 : Int) + 1 < ((ne + 1 : Nat) : Int) := by omega
          go_upto_region 9 with (fail)
          go_cut [7, 8] (fun s7 s8 wx => ∃ (a7 : Option Addr) (c9 : Nat), s7 = .slice a7 k c9 ∧ s8 = .pointer (some ⟨wr.heap.size, 0, none⟩) ∧ Aside (Row wx w2.heap.size 87 2 (.slice a7 k c9) k (T.flatMap eidC)) ∧ Aside (wx = wr.alloc (idO y1 ((y2 : Int) + 1))))
          case first =>
            by_cases hc1 : c7 = 1
            · have hk1 := hk0.out hc1
              subst hc1
              subst hk1
              go_wp2
              go_meet
              have hT := List.eq_nil_of_length_eq_zero HK.out
              exact ⟨_, _, rfl, rfl, (show Row _ _ _ _ _ _ _ from by rw [hT]; exact HTL.out.2.al _), (show _ = _ from rfl)⟩
            · have hc2 := hc7e.out hc1
              go_wp2
              go_meet
              exact ⟨_, _, rfl, rfl, (show Row _ _ _ _ _ _ _ from HTL.out.1.al _), (show _ = _ from rfl)⟩
          case rest =>
            obtain ⟨a7, c9, rfl, rfl, HR, HWX⟩ := hcut
            obtain rfl := HWX.out
            obtain ⟨wx, hwx⟩ : ∃ wx, wr.alloc (idO y1 ((y2 : Int) + 1)) = wx := ⟨_, rfl⟩
            rw [hwx] at HR HWX ⊢
            have HX3 := Lib.hid (show Ext wr wx from by rw [← hwx]; exact (Ext.rf wr).al _)
            have HBX := Lib.hid (show wx.heap[wr.heap.size]? = some (idO y1 ((y2 : Int) + 1)) from by rw [← hwx]; exact heap_alloc_new wr _)
            clear hwx HWX
            have hh3 := HX3.out.cl hh
            have hm3 := HX3.out.cl hm
            have HMK3 := Lib.hid (HMK.out.ext HX3.out)
            have HEQ3 := Lib.hid (HEQ.out.trans' HX3.out)
            have HEW3 := Lib.hid (HEW.out.trans' HX3.out)
            have fm3 := (HMK3.out.2.2.2 y1 hy1).free (y2 + 1)
            rw [HBQ.out] at fm3
            have b0 := cellOf HBX.out 0
            have b1 := cellOf HBX.out 1
            simp only [List.getElem?_toArray, List.getElem?_cons_zero, List.getElem?_cons_succ] at b0 b1
            have HHM := Lib.hid (And.intro hk0 hc7e)
            clear hh hm fm e0 e1 HTL HRQ HMK HEQ HX3 hk0 hc7e
            cases bm with
            | true =>
              go_wp2
              go_quiet (fail)
              go_wp2
              go_roundg (k + 3 * unseen t M)
              case measure => omega
              case rel => exact ⟨M, T, by rw [HK.out]; exact Nat.le_refl _, (show Aside _ from (show T.length + 3 * unseen t M ≤ L0.length + 3 * unseen t [] from by have := HQB.out; have := HK.out; omega)), (show Row _ _ _ _ _ _ _ from by rw [HK.out]; exact HR.out.ext ((Ext.rf wx).drN _)), (show Marks _ _ _ _ _ _ _ _ _ from HMK3.out.ext ((Ext.rf wx).drN _)), (show Back _ _ _ _ from HBK.out.skip (of_decide_eq_true HBM.out)), HEQ3.out.drN _⟩
            | false =>
              go_wp2
              go_quiet (fail)
              have HEQ4 := Lib.hid (HEQ3.out.drN nq)
              have HMK4 := Lib.hid (HMK3.out.ext ((Ext.rf wx).drN nq))
              have HR4 := Lib.hid (HR.out.ext ((Ext.rf wx).drN nq))
              have HBX4 := Lib.hid (((Ext.rf wx).drN nq).hp HBX.out)
              generalize wx.drewN nq = w4 at *
              clear hh3 hm3 fm3 b0 b1 HMK3 HEQ3 HEW3 HR HBX
              have hh4 := (HMK4.out.2.2.1.cell y1 (by omega)).trans (hdrs_at (by rw [HMK4.out.1]; exact hy1))
              have hm4 := ((HMK4.out.2.2.2 y1 hy1).cell (y2 + 1) (by rw [HNE.out]; omega)).trans (marksV_at (by rw [HNE.out]; exact hy2))
              have fm4 := (HMK4.out.2.2.2 y1 hy1).free (y2 + 1)
              rw [Nat.zero_add] at hm4
              rw [HBQ.out, HNE.out] at hh4
              rw [HBQ.out] at hm4 fm4
              have b0 := cellOf HBX4.out 0
              have b1 := cellOf HBX4.out 1
              simp only [List.getElem?_toArray, List.getElem?_cons_zero, List.getElem?_cons_succ] at b0 b1
              go_wp2
              go_region
              clear hh4 hm4 fm4 b0 b1
              have HMK5 := Lib.hid (show Marks (w4.setCell ⟨bq, y2 + 1, none⟩ (.bool true)).drew w2.heap.size 50 4 (.slice (some ⟨og, oo, none⟩) n oc) t n ((y1, y2) :: M) Bs from by
                have := HMK4.out.set (by decide) hy1 (i := y2) (by rw [HNE.out]; exact hy2)
                rw [HBQ.out] at this
                exact this.ext ((Ext.rf _).dr))
              have HR5 := Lib.hid (show Row (w4.setCell ⟨bq, y2 + 1, none⟩ (.bool true)).drew w2.heap.size 87 2 (.slice a7 k c9) k (T.flatMap eidC) from by
                refine (HR4.out.st (p := ⟨bq, y2 + 1, none⟩) (fun e => ?_) (.bool true)).ext ((Ext.rf _).dr)
                rcases HR4.out.apart (HMK4.out.2.2.2 y1 hy1) (by decide) with h | h
                · rw [h] at e; cases e
                · rw [HBQ.out] at h; exact h e)
              have HBX5 := Lib.hid (show (w4.setCell ⟨bq, y2 + 1, none⟩ (.bool true)).drew.heap[wr.heap.size]? = some (idO y1 ((y2 : Int) + 1)) from by
                refine ((Ext.rf _).dr).hp ?_
                rw [Below.heap_setCell _ ⟨bq, y2 + 1, none⟩ _ _ (by have := HBL.out.2; simp only; omega)]; exact HBX4.out)
              have HEQ5 := Lib.hid ((HEQ4.out.st (p := ⟨bq, y2 + 1, none⟩) HBL.out.1 (.bool true)).dr)
              generalize (w4.setCell ⟨bq, y2 + 1, none⟩ (.bool true)).drew = w5 at *
              have HEW5 := Lib.hid (HE2.out.trans' HEQ5.out)
              have HX5 := Lib.hid (HEQ5.out.hp HX0.out)
              have t0 := cellOf HX5.out 0
              have b0 := cellOf HBX5.out 0
              have b1 := cellOf HBX5.out 1
              simp only [List.getElem?_toArray, List.getElem?_cons_zero, List.getElem?_cons_succ] at t0 b0 b1
              clear HMK4 HR4 HBX4 HEQ4
              have HDY := Lib.hid (HDI.out w5 HEW5.out (y1, y2) HIN.out)
              simp only at HDY
              go_wp2_with fail
              clear t0 b0 b1
              refine (HDY.out).mono ?_
              rintro e w6 ⟨v9, rfl, hR9, hE9⟩
              have HB1 := Lib.hid (HBK.out.take (L := bef t (y1, y2)) (fun y => mem_bef HIN.out))
              have HUN := Lib.hid (unseen_push HIN.out (of_decide_eq_false HBM.out))
              have HLB := Lib.hid (bef_len t (y1, y2))
              generalize bef t (y1, y2) = L at *
              have HNE9 := Lib.hid (show v9.ownBlock = none ∨ v9.ownBlock ≠ (Value.slice a7 k c9).ownBlock from by
                cases h9 : v9.ownBlock with
                | none => exact .inl rfl
                | some b9 =>
                  refine .inr fun e => ?_
                  have h1 := (hR9.lt b9 h9).1
                  have h2 := (HR5.out.lt b9 e.symm).2
                  omega)
              have HR9 := Lib.hid (hR9.mono HEQ5.out.sz)
              have HR6 := Lib.hid (HR5.out.ext hE9)
              have HMK6 := Lib.hid (HMK5.out.ext hE9)
              have HEQ6 := Lib.hid (HEQ5.out.trans' hE9)
              obtain ⟨a9, l9, rfl, hl9, hs9⟩ := hR9.any
              have HS9 := Lib.hid hs9
              generalize hll : L.length = ll at *
              have HLL := Lib.hid hll
              have hll2 : ll ≤ 2 := HLB.out
              clear hR9 hE9 hs9 hll HMK5 HR5 HBX5 HEQ5
              go_wp2
              obtain ⟨wq, rfl⟩ : ∃ x, x = wr := ⟨_, rfl⟩
              go_loopg [7, 10] ll (fun g3 s7 s10 wr => ∃ (j : Nat), j ≤ ll ∧ ll - j ≤ g3 ∧ s10 = .int .i64 j ∧ Aside (Row wr w2.heap.size 87 2 s7 (k + j) ((T ++ L.take j).flatMap eidC)) ∧ Aside (Row wr w2.heap.size 87 2 (.slice a9 ll l9) ll (L.flatMap eidC)) ∧ Aside ((Value.slice a9 ll l9).ownBlock = none ∨ (Value.slice a9 ll l9).ownBlock ≠ s7.ownBlock) ∧ Aside (Marks wr w2.heap.size 50 4 (.slice (some ⟨og, oo, none⟩) n oc) t n ((y1, y2) :: M) Bs) ∧ Aside (Ext w2 wr))
              case atStart => exact ⟨0, Nat.zero_le _, by omega, rfl, (show Row _ _ _ _ _ _ _ from by rw [List.take_zero, List.append_nil]; exact HR6.out), HR9, HNE9, HMK6, HEQ6⟩
              case round =>
                obtain ⟨j, hj, hg3, rfl, HRT, HRL, HNB, HMJ, HEJ⟩ := hrel
                by_cases hjl : j < ll
                · obtain ⟨g9, o9, rfl, hg9, hg9s, hl9'⟩ := HS9.out (by omega)
                  have hjz : (0 : Int) ≤ (j : Int) := by omega
                  have hji : (j : Int) < (ll : Int) := by omega
                  have hjL : j < L.length := by rw [HLL.out]; exact hjl
                  have c0 := (HRL.out.cell (j * 2) (by omega)).trans (eids_at L j hjL).1
                  have c1 := (HRL.out.cell (j * 2 + 1) (by omega)).trans (eids_at L j hjL).2
                  have HTK := Lib.hid (take_snoc' L j hjL)
                  have hkb := HKB.out
                  have hszj := HEJ.out.sz
                  obtain ⟨z1, hz1⟩ : ∃ z : Int, (L[j]!.1 : Int) = z := ⟨_, rfl⟩
                  obtain ⟨z2, hz2⟩ : ∃ z : Int, (L[j]!.2 : Int) + 1 = z := ⟨_, rfl⟩
                  rw [hz1] at c0
                  rw [← Nat.add_assoc, hz2] at c1
                  have HZ := Lib.hid (show eidC L[j]! = [.int .i64 z1, .int .i64 z2] from by unfold eidC; rw [hz1, hz2])
                  clear hz1 hz2 hjL
                  go_wp2_with ((at_builtin; go_loud (refine wpList_append_one rfl _ _ 101 rfl w2.heap.size 87 ie (.agg #[.int .i64 0, .int .i64 0]) 2 16 Try.underlying101 hie iz0 iz1 iz2 rfl (by decide) _ (k + j) _ rfl (HRT.out.al _) wr.heap.size 1 [.int .i64 z1, .int .i64 z2] rfl rfl ⟨_, heap_alloc_new _ _⟩ (by simp [Value.oneCell']) (by unfold maxLen; omega) (by omega) (by simp; omega) ?_; intro v8 w8 hown8 hgrow8 hblk8; have HOWN := Lib.hid hown8; have HG8 := Lib.hid hgrow8; have HK8 := Lib.hid hblk8; clear hown8 hgrow8 hblk8)))
                  go_roundg (ll - (j + 1))
                  case measure => omega
                  case rel =>
                    refine ⟨j + 1, by omega, by omega, by go_num, (show Row _ _ _ _ _ _ _ from ?_), (show Row _ _ _ _ _ _ _ from (HRL.out.al _).grown HG8.out HNB.out), (show Aside _ from ?_), (show Marks _ _ _ _ _ _ _ _ _ from (HMJ.out.ext ((Ext.rf _).al _)).grown (HRT.out.al _) HG8.out (by decide) (by decide)), (HEJ.out.al _).gr HG8.out (fun q hq => (HRT.out.lt q hq).1)⟩
                    · have := HOWN.out
                      rw [HTK.out, ← List.append_assoc, List.flatMap_append, List.flatMap_singleton, HZ.out]
                      exact this
                    · show _ ∨ _
                      rcases HK8.out with e | ⟨kk, e, hkk⟩
                      · rw [e]; exact HNB.out
                      · refine .inr fun e2 => ?_
                        rw [e] at e2
                        have := (HRL.out.lt kk e2).2
                        rw [World.size_alloc] at hkk
                        omega
                · have hltz : ¬ (j : Int) < (ll : Int) := by omega
                  obtain rfl : ll = j := by omega
                  go_wp2
                  go_roundg (k + ll + 3 * unseen t ((y1, y2) :: M))
                  case measure => have := HUN.out; omega
                  case rel =>
                    have e1 : L.take ll = L := List.take_of_length_le (by rw [HLL.out]; exact Nat.le_refl _)
                    have e2 : (T ++ L).length = k + ll := by rw [List.length_append, HK.out, HLL.out]
                    refine ⟨(y1, y2) :: M, T ++ L, by rw [e2]; exact Nat.le_refl _, (show _ ≤ _ from ?_), (show Row _ _ _ _ _ _ _ from ?_), HMJ, HB1, HEJ⟩
                    · rw [e2]; have := HQB.out; have := HUN.out; omega
                    · rw [e2]; have := HRT.out; rw [e1] at this; exact this

end Go.Proofs.Ytfcpnggdpaeldaa

/-
  The events can be taken away one after the other: the reference's acyclic.
-/
namespace Go.Proofs.Ytfcpnggdpaeldaa
open Go.RowKit
set_option linter.unusedVariables false
attribute [local go_sem ↓] Go.wp_at_zero Go.wp_at_succ

/-- How many events of each process were taken: none of them happens before itself. -/
def Peel (t : Tr) (D : List Nat) : Prop := D.length = t.length ∧ ∀ q, q < t.length → D[q]! ≤ t[q]!.events.length ∧ ∀ i, i < D[q]! → Acc (Dir t) (q, i)
/-- What is left. -/
def remT (t : Tr) (D : List Nat) : Nat := ((List.range t.length).map fun q => t[q]!.events.length - D[q]!).sum
theorem sum_lt {l : List Nat} {f g : Nat → Nat} (h : ∀ x, x ∈ l → f x ≤ g x) {a : Nat} (ha : a ∈ l) (hlt : f a < g a) : (l.map f).sum < (l.map g).sum := by
  induction l with
  | nil => simp at ha
  | cons b l ih =>
    simp only [List.map_cons, List.sum_cons]
    have hb := h b (by simp)
    have hle : ∀ (l : List Nat), (∀ x, x ∈ l → f x ≤ g x) → (l.map f).sum ≤ (l.map g).sum := by
      intro l
      induction l with
      | nil => intro _; simp
      | cons c l ih => intro h; simp only [List.map_cons, List.sum_cons]; have := h c (by simp); have := ih fun x hx => h x (by simp [hx]); omega
    have hl := hle l fun x hx => h x (by simp [hx])
    rcases List.mem_cons.1 ha with rfl | ha
    · omega
    · have := ih (fun x hx => h x (by simp [hx])) ha; omega
theorem get_set {D : List Nat} {p q v : Nat} (hp : p < D.length) : (D.set p v)[q]! = if q = p then v else D[q]! := by
  by_cases e : q = p
  · subst e; rw [if_pos rfl, getElem!_pos (D.set q v) q (by simpa using hp)]; simp
  · rw [if_neg e]
    by_cases hq : q < D.length
    · rw [getElem!_pos (D.set p v) q (by simpa using hq), getElem!_pos D q hq, List.getElem_set_ne (fun h => e h.symm)]
    · rw [getElem!_neg (D.set p v) q (by simpa using hq), getElem!_neg D q hq]
theorem Peel.start (t : Tr) : Peel t (List.replicate t.length 0) := ⟨by simp, fun q hq => by
  have e : (List.replicate t.length 0)[q]! = 0 := by rw [getElem!_pos (List.replicate t.length 0) q (by simpa using hq)]; simp
  rw [e]; exact ⟨by omega, fun i hi => by omega⟩⟩
theorem Peel.step {t : Tr} {D : List Nat} (h : Peel t D) {p : Nat} (hp : p < t.length) (hi : D[p]! < t[p]!.events.length) (hs : ∀ s, (ev t (p, D[p]!)).kind = 3 → findE t 2 (ev t (p, D[p]!)).msg = some s → s.2 < D[s.1]!) :
    Peel t (D.set p (D[p]! + 1)) ∧ remT t (D.set p (D[p]! + 1)) < remT t D := by
  have hpD : p < D.length := by rw [h.1]; exact hp
  refine ⟨⟨by rw [List.length_set]; exact h.1, fun q hq => ?_⟩, ?_⟩
  · rw [get_set hpD]
    by_cases e : q = p
    · subst e
      rw [if_pos rfl]
      refine ⟨by omega, fun i hi2 => ?_⟩
      by_cases e2 : i = D[q]!
      · subst e2
        refine acc_step (fun j hj => (h.2 q hq).2 j hj) (fun s h1 h2 => ?_)
        exact (h.2 s.1 (findE_some h2).1.1).2 s.2 (hs s h1 h2)
      · exact (h.2 q hq).2 i (by omega)
    · rw [if_neg e]; exact h.2 q hq
  · refine sum_lt (fun q hq => ?_) (List.mem_range.2 hp) ?_
    · rw [get_set hpD]; split
      · rename_i e; subst e; omega
      · omega
    · rw [get_set hpD, if_pos rfl]; omega
theorem Peel.all {t : Tr} {D : List Nat} (h : Peel t D) (hd : ∀ q, q < t.length → ¬ D[q]! < t[q]!.events.length) : ¬ Cyc t := by
  refine acc_no_cyc fun x hx => ?_
  have := (h.2 x.1 hx.1)
  exact this.2 x.2 (by have := hd x.1 hx.1; have := hx.2; omega)

def AcyOut (t : Tr) (w w' : World) (e : Ending) : Prop := ∃ c : Bool, e = .returned (.bool c) ∧ (c = true → ¬ Cyc t) ∧ Ext w w'
/-- The counts as they lie in memory. -/
abbrev natsV (D : List Nat) : List Value := D.map fun (k : Nat) => Value.int .i64 (k : Int)
theorem natsV_at {D : List Nat} {q : Nat} (hq : q < D.length) : (natsV D)[q]? = some (.int .i64 (D[q]! : Int)) := by
  rw [List.getElem?_map, List.getElem?_eq_getElem hq, getElem!_pos D q hq]; rfl
theorem natsV_set {D : List Nat} {q v : Nat} : (natsV D).set q (.int .i64 (v : Int)) = natsV (D.set q v) := by
  simp [natsV, List.map_set]
theorem info_int3 : (Try.prog.info? 3).map (fun i => (i.zero, i.size, i.bytes)) = some (some (.int .i64 0), 1, 8) := by kernel_rfl

set_option maxHeartbeats 8000000 in
set_option maxRecDepth 100000 in
theorem acyclicR_calls (v : Value) (t : Tr) (w : World) (h : TrAt w v t) (hs : SmallTr t) : Calls Try.prog 74 #[.agg #[v]] w fun e w' => AcyOut t w w' e := by
  have HT := Lib.hid h
  have HS := Lib.hid hs
  have HFI := Lib.hid (fun W (hW : Ext w W) m => findR_calls v t 2 m W (h.ext hW) hs)
  obtain ⟨ta, tc, rfl, htc⟩ := h.sh
  have hn1 := hs.1
  have HPS := Lib.hid (Peel.start t)
  generalize hln : t.length = n at *
  have HL := Lib.hid hln
  obtain ⟨ii, hii, iz0, iz1, iz2⟩ := info_parts info_int3
  have HX0 := Lib.hid (heap_alloc_new w (.cells #[.slice ta n tc] 24))
  have HE1 := Lib.hid ((Ext.rf w).al (.cells #[.slice ta n tc] 24))
  clear h hs hln
  go_enter Try.func74, Try.ntmps74
  go_wp2_with ((at_make; refine wpList_make_full _ rfl _ _ 30 rfl w.heap.size 3 ii (.int .i64 0) 1 Try.underlying30 hii iz0 iz1 .i64 .i64 _ _ n rfl rfl rfl rfl (by rw [iz2]; omega) (by unfold maxLen; omega) (by simp) ?_; intro w3 hown3 hgrow3))
  have HROW := Lib.hid (show Row w3 w.heap.size 3 1 (.slice (some ⟨w.heap.size + 1, 0, none⟩) n n) n (natsV (List.replicate n 0)) from by
    have := Row.ofOwns hown3
    rw [show (Value.int .i64 0).cells = #[.int .i64 0] from rfl, Nat.mul_one, toList_madeCells_one] at this
    simpa [natsV] using this)
  have HX3 := Lib.hid (show w3.heap[w.heap.size]? = some (.cells #[.slice ta n tc] 24) from by
    rw [hgrow3.block _ (by simp) (by simp)]; exact HX0.out)
  have HE3 := Lib.hid (HE1.out.gr hgrow3 (by simp))
  clear hown3 hgrow3 HX0 HE1
  go_loopg [] (remT t (List.replicate n 0)) (fun g wr => ∃ D : List Nat, remT t D ≤ g ∧ Aside (Peel t D) ∧ Aside (Row wr w.heap.size 3 1 (.slice (some ⟨w.heap.size + 1, 0, none⟩) n n) n (natsV D)) ∧ Aside (wr.heap[w.heap.size]? = some (.cells #[.slice ta n tc] 24)) ∧ Aside (Ext w wr))
  case atStart => exact ⟨_, Nat.le_refl _, HPS, HROW, HX3, HE3⟩
  case round =>
    obtain ⟨D, hg, HP, HR, HX, HE⟩ := hrel
    clear HPS HROW HX3 HE3
    go_wp2
    obtain ⟨wo, rfl⟩ : ∃ x, x = wr := ⟨_, rfl⟩
    go_loopg [4, 5] n (fun g2 s4 s5 wr => ∃ (p : Nat) (E : List Nat) (b : Bool), p ≤ n ∧ n - p ≤ g2 ∧ s5 = .int .i64 p ∧ s4 = .bool b ∧ Aside (Peel t E) ∧ Aside (remT t E ≤ remT t D ∧ (b = true → remT t E < remT t D)) ∧ Aside (Row wr w.heap.size 3 1 (.slice (some ⟨w.heap.size + 1, 0, none⟩) n n) n (natsV E)) ∧ Aside (wr.heap[w.heap.size]? = some (.cells #[.slice ta n tc] 24)) ∧ Aside (Ext w wr))
    case atStart => exact ⟨0, D, false, Nat.zero_le _, by omega, rfl, rfl, HP, (show Aside _ from ⟨Nat.le_refl _, fun h => absurd h (by decide)⟩), HR, HX, HE⟩
    case round =>
      obtain ⟨p, E, b, hp, hg2, rfl, rfl, HPE, HRM, HRE, HXE, HEE⟩ := hrel
      have t0 := cellOf HXE.out 0
      simp only [List.getElem?_toArray, List.getElem?_cons_zero] at t0
      by_cases hlt : p < n
      · have hltz : (p : Int) < (n : Int) := by omega
        have hpz : (0 : Int) ≤ (p : Int) := by omega
        obtain ⟨B, O, C, vv, ve, hve, hlC, hB, hn0, hv0, he0, hV, hE0⟩ := proc_at HT.out p (by rw [HL.out]; exact hlt)
        simp only [Value.slice.injEq] at hve
        obtain ⟨rfl, hzz, rfl⟩ := hve
        obtain ⟨ea, ec, rfl, hec⟩ := hE0.sh
        have hen := (HS.out.2 p (by rw [HL.out]; exact hlt)).2.1
        have HEV := Lib.hid hE0
        have HE00 := Lib.hid he0
        have HPL := Lib.hid (show p < t.length from by rw [HL.out]; exact hlt)
        generalize hxx : t[p]! = x at *
        generalize hne : x.events.length = ne at *
        have HXX := Lib.hid hxx
        have HNE := Lib.hid hne
        clear hn0 hv0 hV hE0 hzz hxx hne he0
        go_wp2
        clear t0
        obtain ⟨wq, rfl⟩ : ∃ x, x = wr := ⟨_, rfl⟩
        go_loopg [4] (remT t E) (fun g3 s4 wr => ∃ (G : List Nat) (b : Bool), remT t G ≤ g3 ∧ s4 = .bool b ∧ Aside (Peel t G) ∧ Aside (remT t G ≤ remT t D ∧ (b = true → remT t G < remT t D)) ∧ Aside (Row wr w.heap.size 3 1 (.slice (some ⟨w.heap.size + 1, 0, none⟩) n n) n (natsV G)) ∧ Aside (wr.heap[w.heap.size]? = some (.cells #[.slice (some ⟨B, O, none⟩) n tc] 24)) ∧ Aside (Ext w wr))
        case atStart => exact ⟨E, b, Nat.le_refl _, rfl, HPE, HRM, HRE, HXE, HEE⟩
        case round =>
          obtain ⟨G, c, hg3, rfl, HPG, HRG, HRR, HXG, HEG⟩ := hrel
          clear HPE HRM HRE HXE HEE HP HR HX HE
          have HGL := Lib.hid (show G.length = n from by rw [HPG.out.1, HL.out])
          have dp := (HRR.out.cell p (by omega)).trans (natsV_at (by rw [HGL.out]; exact hlt))
          have t0 := cellOf HXG.out 0
          simp only [List.getElem?_toArray, List.getElem?_cons_zero, Nat.zero_add] at t0 dp
          have he1 := HEG.out.cl HE00.out
          generalize hd : G[p]! = d at *
          have HD := Lib.hid hd
          have HDL := Lib.hid (show d ≤ ne from by have := (HPG.out.2 p HPL.out).1; rw [HXX.out, HNE.out, HD.out] at this; exact this)
          clear hd
          by_cases hdl : d < ne
          · have d1 : decide ((d : Int) < (ne : Int)) = true := decide_eq_true (by omega)
            have d1n : decide (d < ne) = true := decide_eq_true (by omega)
            have HDN := Lib.hid hdl
            obtain ⟨EB, EO, EC, va, hee, hlE, hEB, k0, k1, k2, k3, k4, ha⟩ := event_at HEV.out d (by rw [HNE.out]; exact hdl)
            simp only [Value.slice.injEq] at hee
            obtain ⟨rfl, hzz, rfl⟩ := hee
            obtain ⟨va1, va2, rfl, _⟩ := ha.sh
            have HK := Lib.hid (And.intro k0 (And.intro k1 (And.intro k2 (And.intro k3 k4))))
            have HEVE : Hid (ev t (p, d) = x.events[d]!) := Lib.hid (by show t[p]!.events[d]! = _; rw [HXX.out])
            generalize x.events[d]! = y at *
            generalize y.asg.length = nb at *
            clear k0 k1 k2 k3 k4 hzz ha hdl
            go_wp2
            go_quiet (fail)
            clear d1 d1n
            have HRR := Lib.hid (HRR.out.ext ((Ext.rf wr).drN nq))
            have HXG := Lib.hid (((Ext.rf wr).drN nq).hp HXG.out)
            have HEG := Lib.hid (HEG.out.drN nq)
            have dp5 : (wr.drewN nq).cell? ⟨w.heap.size + 1, p, none⟩ = some (.int .i64 (d : Int)) := dp
            have t05 : (wr.drewN nq).cell? ⟨w.heap.size, 0, none⟩ = some (.slice (some ⟨B, O, none⟩) n tc) := t0
            have he5 : (wr.drewN nq).cell? ⟨B, O + p * 3 + 2, none⟩ = some (.slice (some ⟨EB, EO, none⟩) ne ec) := he1
            generalize wr.drewN nq = w5 at *
            clear dp t0 he1
            have m0 := HEG.out.cl HK.out.1
            have m1 := HEG.out.cl HK.out.2.1
            have m2 := HEG.out.cl HK.out.2.2.1
            have m3 := HEG.out.cl HK.out.2.2.2.1
            have m4 := HEG.out.cl HK.out.2.2.2.2
            have hdz : (0 : Int) ≤ (d : Int) := by omega
            have hdi : (d : Int) < (ne : Int) := by have := HDN.out; omega
            have l1 : w.heap.size + 1 < w5.heap.size := World.block_lt_of_cell? w5 _ dp5
            have l2 : w.heap.size + 1 ≠ w5.heap.size := by omega
            have l3 : w.heap.size < w5.heap.size := by omega
            have l4 : w.heap.size ≠ w5.heap.size := by omega
            have l5 : B < w5.heap.size := by omega
            have l6 : B ≠ w5.heap.size := by omega
            have l7 : EB < w5.heap.size := by omega
            have l8 : EB ≠ w5.heap.size := by omega
            go_wp2
            go_region
            have HXT := Lib.hid (((Ext.rf w5).al (.cells #[.int .i64 y.kind, .int .i64 y.peer, .int .i64 y.msg, .int .i64 y.time, .slice va1 nb va2] 55)).dr)
            have HB6 := Lib.hid (show ((w5.alloc (.cells #[.int .i64 y.kind, .int .i64 y.peer, .int .i64 y.msg, .int .i64 y.time, .slice va1 nb va2] 55)).drew).heap[w5.heap.size]? = some (.cells #[.int .i64 y.kind, .int .i64 y.peer, .int .i64 y.msg, .int .i64 y.time, .slice va1 nb va2] 55) from heap_alloc_new w5 _)
            generalize (w5.alloc (.cells #[.int .i64 y.kind, .int .i64 y.peer, .int .i64 y.msg, .int .i64 y.time, .slice va1 nb va2] 55)).drew = w6 at *
            have HR6 := Lib.hid (HRR.out.ext HXT.out)
            have HX6 := Lib.hid (HXT.out.hp HXG.out)
            have HE6 := Lib.hid (HEG.out.trans' HXT.out)
            have HDP := Lib.hid (And.intro hdz hdi)
            clear dp5 t05 he5 m0 m1 m2 m3 m4 l1 l2 l3 l4 l5 l6 l7 l8
            have hdb : (d : Int) ≤ 1000000 := by have := HDL.out; omega
            have y0 := cellOf HB6.out 0
            have y2 := cellOf HB6.out 2
            simp only [List.getElem?_toArray, List.getElem?_cons_zero, List.getElem?_cons_succ] at y0 y2
            obtain ⟨ck, hck⟩ : ∃ b, (y.kind == 3) = b := ⟨_, rfl⟩
            have HCK := Lib.hid hck
            cases ck with
            | false =>
              have HPS := Lib.hid (HPG.out.step HPL.out (by rw [HXX.out, HNE.out, HD.out]; exact HDN.out) (fun s h9 _ => by
                rw [HD.out, HEVE.out] at h9; have := HCK.out; rw [h9] at this; exact absurd this (by decide)))
              have dp6 := (HR6.out.cell p (by omega)).trans (natsV_at (by rw [HGL.out]; exact hlt))
              have fp6 := HR6.out.free p
              rw [Nat.zero_add] at dp6
              rw [HD.out] at dp6
              have HSET := Lib.hid (show Row (w6.setCell ⟨w.heap.size + 1, p, none⟩ (.int .i64 ((d : Int) + 1))) w.heap.size 3 1 (.slice (some ⟨w.heap.size + 1, 0, none⟩) n n) n (natsV (G.set p (d + 1))) from by
                have := HR6.out.set p (.int .i64 ((d : Int) + 1)) (by omega)
                rw [Nat.zero_add, show ((d : Int) + 1) = ((d + 1 : Nat) : Int) from by omega, natsV_set] at this
                exact this)
              go_wp2
              go_roundg (remT t (G.set p (d + 1)))
              case measure => have := HPS.out.2; rw [HD.out] at this; omega
              case rel =>
                refine ⟨G.set p (d + 1), true, Nat.le_refl _, rfl, (show Peel t _ from by have := HPS.out.1; rw [HD.out] at this; exact this), (show Aside _ from ?_), HSET, (show _ = _ from ?_), HE6.out.st (p := ⟨w.heap.size + 1, p, none⟩) (by simp) _⟩
                · have h9 := HPS.out.2; rw [HD.out] at h9; have := HRG.out.1; exact ⟨by omega, fun _ => by omega⟩
                · rw [Below.heap_setCell _ ⟨w.heap.size + 1, p, none⟩ _ _ (by simp)]; exact HX6.out
            | true =>
              have HK3 := Lib.hid (show y.kind = 3 from by have := HCK.out; simpa using this)
              obtain ⟨fe, hfe⟩ : ∃ f, findE t 2 y.msg = f := ⟨_, rfl⟩
              have HFW := Lib.hid (HFI.out w6 HE6.out y.msg)
              rw [hfe] at HFW
              have HFE := Lib.hid hfe
              clear hfe
              have t6 := cellOf HX6.out 0
              simp only [List.getElem?_toArray, List.getElem?_cons_zero] at t6
              obtain ⟨sp, zb, hsp, hspn, hA, hB2, hsm⟩ : ∃ (sp : Nat) (zb : Int), sp < n ∧ eidA fe = (sp : Int) ∧ eidB fe = zb ∧ (fe = none ∨ ∃ s, fe = some s ∧ s.1 = sp ∧ zb = (s.2 : Int) + 1) ∧ True := by
                cases hfo : fe with
                | none => exact ⟨0, 0, by omega, rfl, rfl, .inl rfl, trivial⟩
                | some s => exact ⟨s.1, _, by have := (findE_some (HFE.out.trans hfo)).1.1; rw [HL.out] at this; exact this, rfl, rfl, .inr ⟨s, rfl, rfl, rfl⟩, trivial⟩
              rw [hspn, hA] at HFW
              have HSF := Lib.hid hB2
              clear hspn hA hB2 hsm
              go_wp2_with fail
              clear y0 y2 t6
              refine HFW.out.mono ?_
              rintro e w7 ⟨rfl, hE7⟩
              have HXI := Lib.hid ((Ext.rf w7).al (idO sp zb))
              have HB8 := Lib.hid (heap_alloc_new w7 (idO sp zb))
              have HR8 := Lib.hid ((HR6.out.ext hE7).al (idO sp zb))
              have HX8 := Lib.hid (HXI.out.hp (hE7.hp HX6.out))
              have HE8 := Lib.hid ((HE6.out.trans' hE7).al (idO sp zb))
              have y8 := (HE6.out.trans' hE7).sz
              clear hE7
              have s0 := cellOf HB8.out 0
              have s1 := cellOf HB8.out 1
              simp only [List.getElem?_toArray, List.getElem?_cons_zero, List.getElem?_cons_succ] at s0 s1
              have dsp := (HR8.out.cell sp (by omega)).trans (natsV_at (by rw [HGL.out]; exact hsp))
              rw [Nat.zero_add] at dsp
              generalize hdg : G[sp]! = dg at *
              have HDG := Lib.hid hdg
              have hspz : (0 : Int) ≤ (sp : Int) := by omega
              have hspi : (sp : Int) < (n : Int) := by omega
              clear hdg
              go_wp2
              generalize hw8 : w7.alloc (idO sp zb) = w8 at *
              clear hw8
              by_cases hcmp : (dg : Int) < zb
              · have d1 : decide ((dg : Int) < zb) = true := decide_eq_true hcmp
                clear hcmp
                go_quiet (fail)
                clear d1
                go_wp2
                go_roundg (n - (p + 1))
                case measure => omega
                case rel => exact ⟨p + 1, G, c, by omega, by omega, by go_num, rfl, HPG, HRG, HR8.out.ext ((Ext.rf w8).drN _), ((Ext.rf w8).drN _).hp HX8.out, HE8.out.drN _⟩
              · have d1 : decide ((dg : Int) < zb) = false := decide_eq_false hcmp
                have HCM := Lib.hid hcmp
                clear hcmp
                have HPS := Lib.hid (HPG.out.step HPL.out (by rw [HXX.out, HNE.out, HD.out]; exact HDN.out) (fun s h9 h10 => by
                  rw [HD.out, HEVE.out, HFE.out] at h10
                  rcases HSF.out with h11 | ⟨s', h11, h12, h13⟩
                  · rw [h11] at h10; cases h10
                  · rw [h11] at h10; cases h10
                    rw [h12, HDG.out]; have := HCM.out; omega))
                go_quiet (fail)
                clear d1 dsp s0 s1
                have HR6 := Lib.hid (HR8.out.ext ((Ext.rf w8).drN nq))
                have HX6 := Lib.hid (((Ext.rf w8).drN nq).hp HX8.out)
                have HE6 := Lib.hid (HE8.out.drN nq)
                generalize w8.drewN nq = w6 at *
                have dp6 := (HR6.out.cell p (by omega)).trans (natsV_at (by rw [HGL.out]; exact hlt))
                have fp6 := HR6.out.free p
                rw [Nat.zero_add] at dp6
                rw [HD.out] at dp6
                have HSET := Lib.hid (show Row (w6.setCell ⟨w.heap.size + 1, p, none⟩ (.int .i64 ((d : Int) + 1))) w.heap.size 3 1 (.slice (some ⟨w.heap.size + 1, 0, none⟩) n n) n (natsV (G.set p (d + 1))) from by
                  have := HR6.out.set p (.int .i64 ((d : Int) + 1)) (by omega)
                  rw [Nat.zero_add, show ((d : Int) + 1) = ((d + 1 : Nat) : Int) from by omega, natsV_set] at this
                  exact this)
                go_wp2
                go_roundg (remT t (G.set p (d + 1)))
                case measure => have := HPS.out.2; rw [HD.out] at this; omega
                case rel =>
                  refine ⟨G.set p (d + 1), true, Nat.le_refl _, rfl, (show Peel t _ from by have := HPS.out.1; rw [HD.out] at this; exact this), (show Aside _ from ?_), HSET, (show _ = _ from ?_), HE6.out.st (p := ⟨w.heap.size + 1, p, none⟩) (by simp) _⟩
                  · have h9 := HPS.out.2; rw [HD.out] at h9; have := HRG.out.1; exact ⟨by omega, fun _ => by omega⟩
                  · rw [Below.heap_setCell _ ⟨w.heap.size + 1, p, none⟩ _ _ (by simp)]; exact HX6.out
          · have d1 : decide ((d : Int) < (ne : Int)) = false := decide_eq_false (by omega)
            have d1n : decide (d < ne) = false := decide_eq_false (by omega)
            clear hdl
            go_wp2
            go_quiet (fail)
            clear d1 d1n
            go_wp2
            go_roundg (n - (p + 1))
            case measure => omega
            case rel => exact ⟨p + 1, G, c, by omega, by omega, by go_num, rfl, HPG, HRG, HRR.out.ext ((Ext.rf wr).drN _), ((Ext.rf wr).drN _).hp HXG.out, HEG.out.drN _⟩
      · have hltz : ¬ (p : Int) < (n : Int) := by omega
        obtain rfl : n = p := by omega
        cases b with
        | true =>
          go_wp2
          go_roundg (remT t E)
          case measure => have := HRM.out.2 (by first | rfl | trivial); omega
          case rel => exact ⟨E, Nat.le_refl _, HPE, HRE, HXE, HEE⟩
        | false =>
          clear HP HR HX HE
          have HEL := Lib.hid (show E.length = n from by rw [HPE.out.1, HL.out])
          go_wp2
          obtain ⟨wq, rfl⟩ : ∃ x, x = wr := ⟨_, rfl⟩
          go_loopg [8] n (fun g2 s8 wr => ∃ q : Nat, q ≤ n ∧ n - q ≤ g2 ∧ s8 = .int .i64 q ∧ Aside (∀ j, j < q → ¬ E[j]! < t[j]!.events.length) ∧ Aside (Ext wq wr))
          case atStart => exact ⟨0, Nat.zero_le _, by omega, rfl, (fun j hj => absurd hj (Nat.not_lt_zero _)), Ext.rf _⟩
          case round =>
            obtain ⟨q, hq, hg3, rfl, A, HEQ⟩ := hrel
            have HEW := Lib.hid (HEE.out.trans' HEQ.out)
            have HXW := Lib.hid (HEQ.out.hp HXE.out)
            have HRW := Lib.hid (HRE.out.ext HEQ.out)
            have t0 := cellOf HXW.out 0
            simp only [List.getElem?_toArray, List.getElem?_cons_zero] at t0
            by_cases hltq : q < n
            · have hltz : (q : Int) < (n : Int) := by omega
              have hqz : (0 : Int) ≤ (q : Int) := by omega
              obtain ⟨B, O, C, vv, ve, hve, hlC, hB, hn0, hv0, he0, hV, hE0⟩ := proc_at HT.out q (by rw [HL.out]; exact hltq)
              simp only [Value.slice.injEq] at hve
              obtain ⟨rfl, hzz, rfl⟩ := hve
              obtain ⟨ea, ec, rfl, hec⟩ := hE0.sh
              have he1 := HEW.out.cl he0
              have dp := (HRW.out.cell q (by omega)).trans (natsV_at (by rw [HEL.out]; exact hltq))
              rw [Nat.zero_add] at dp
              generalize hne : t[q]!.events.length = ne at *
              generalize hd : E[q]! = d at *
              have HNE := Lib.hid hne
              have HD := Lib.hid hd
              clear hn0 hv0 hV hE0 hzz hne hd he0
              by_cases hdl : d < ne
              · have d1 : decide ((d : Int) < (ne : Int)) = true := decide_eq_true (by omega)
                have d1n : decide (d < ne) = true := decide_eq_true (by omega)
                clear hdl
                go_wp2
                go_quiet (fail)
                go_wp2
                go_ret
                exact ⟨false, rfl, fun h => absurd h (by decide), HEW.out.drN _⟩
              · have d1 : decide ((d : Int) < (ne : Int)) = false := decide_eq_false (by omega)
                have d1n : decide (d < ne) = false := decide_eq_false (by omega)
                have HDL := Lib.hid hdl
                clear hdl
                go_wp2
                go_quiet (fail)
                go_wp2
                go_roundg (n - (q + 1))
                case measure => omega
                case rel =>
                  refine ⟨q + 1, by omega, by omega, by go_num, (show Aside _ from fun j hj => ?_), (show Ext _ _ from HEQ.out.drN _)⟩
                  by_cases e : j = q
                  · subst e; rw [HD.out, HNE.out]; exact HDL.out
                  · exact A.out j (by omega)
            · have hltz : ¬ (q : Int) < (n : Int) := by omega
              obtain rfl : n = q := by omega
              have HFIN := Lib.hid (HPE.out.all (fun j hj => A.out j (by rw [HL.out] at hj; exact hj)))
              go_wp2
              go_ret
              exact ⟨true, rfl, fun _ => HFIN.out, HEW.out⟩

end Go.Proofs.Ytfcpnggdpaeldaa
