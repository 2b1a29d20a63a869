import Derived.Test.YtfagfooggcinoaaGreatGo
namespace Go.Proofs.YtfagfooggcinoaaGreat
open Go.RowKit
set_option linter.unusedVariables false
theorem cons_send {t : Tr} {O : List Int} (h : ConsC t O) {P k f j : Nat} (hP : P < t.length) (hk : (k : Int) < O[P]!) (h3 : (ev t (P, k)).kind = 3) (hf : findE t 2 (ev t (P, k)).msg = some (f, j)) : (j : Int) < O[f]! := by
 have h1 := missE_none.1 h.2 (P, k) ⟨by rw [h.1.1]; exact hP, hk⟩
 rw [sentB_recv h3 hf, decide_eq_true_eq] at h1
 simp only at h1
 omega
section
variable {t : Tr} {r : List (List Int)} {d : Int} {base O : List Int} {p a b i : Nat} {A : Sn}
theorem aFold_id {i : Nat} {A : Sn} : ∀ l : List (Nat × Nat), (∀ x ∈ l, condA t r d A i x.1 x.2 = false) → l.foldl (aStep t r d i) (A, false) = (A, false) := by
 intro l
 induction l with
 | nil => intro _; rfl
 | cons x l ih =>
   intro h
   rw [List.foldl_cons]
   have h1 : aStep t r d i (A, false) x = (A, false) := by
    unfold aStep
    rw [if_neg (by rw [h x (by simp)]; simp)]
   rw [h1]
   exact ih fun y hy => h y (by simp [hy])
theorem aFold_set {i : Nat} : ∀ (l : List (Nat × Nat)) (X : Sn × Bool), X.2 = true → (l.foldl (aStep t r d i) X).2 = true := by
 intro l
 induction l with
 | nil => exact fun X h => h
 | cons x l ih =>
   intro X h
   rw [List.foldl_cons]
   refine ih _ ?_
   unfold aStep
   split
   ·rfl
   ·exact h
theorem aFold_none {i : Nat} {A : Sn} : ∀ l : List (Nat × Nat), (l.foldl (aStep t r d i) (A, false)).2 = false → ∀ x ∈ l, condA t r d A i x.1 x.2 = false := by
 intro l
 induction l with
 | nil => intro _ x hx; cases hx
 | cons y l ih =>
   intro h x hx
   rw [List.foldl_cons] at h
   cases hc : condA t r d A i y.1 y.2 with
   | true =>
     have h1 : (aStep t r d i (A, false) y).2 = true := by unfold aStep; rw [if_pos hc]
     rw [aFold_set l _ h1] at h
     cases h
   | false =>
     have h1 : aStep t r d i (A, false) y = (A, false) := by unfold aStep; rw [if_neg (by rw [hc]; simp)]
     rw [h1] at h
     rcases List.mem_cons.1 hx with rfl | hx
     ·exact hc
     ·exact ih h x hx
theorem aAll_last {i : Nat} (hr : RunIn t r) (hi : i < r.length) : ∀ (k : Nat) (A : Sn), InvA t A b → opens A < k → (aPass t r d i (aAll t r d i k A)).2 = false := by
 intro k
 induction k with
 | zero => intro A _ hk; exact absurd hk (Nat.not_lt_zero _)
 | succ k ih =>
   intro A h hk
   obtain ⟨h1, h2⟩ := aPass_ok (d := d) h hr hi
   rw [aAll]
   by_cases hm : (aPass t r d i A).2 = true
   ·rw [if_pos hm]
    rcases h2 with ⟨_, h2⟩ | h2
    ·exact ih _ h1 (by omega)
    ·rw [h2] at hm; cases hm
   ·rw [if_neg hm]
    rcases h2 with ⟨h2, _⟩ | h2
    ·exact absurd h2 hm
    ·rw [h2]; rw [h2]
theorem mem_prs {n f q : Nat} (hf : f < n) (hq : q < n) : (f, q) ∈ prsTo n n 0 := by
 unfold prsTo
 rw [List.mem_append]
 left
 exact List.mem_flatMap.2 ⟨f, List.mem_range.2 hf, List.mem_map.2 ⟨q, List.mem_range.2 hq, rfl⟩⟩
theorem aAll'_none {i : Nat} (h : InvA t A b) (hr : RunIn t r) (hi : i < r.length) {f q : Nat} (hf : f < t.length) (hq : q < t.length) : condA t r d (aAll' t r d i A) i f q = false := by
 have h1 : (aPass t r d i (aAll' t r d i A)).2 = false := aAll_last hr hi _ A h (Nat.lt_succ_self _)
 have h2 : (aAll' t r d i A).l.length = t.length := (aAll'_inv h hr hi).ll
 unfold aPass aPassTo at h1
 rw [h2] at h1
 exact aFold_none _ h1 (f, q) (mem_prs hf hq)
def InvO (t : Tr) (O : List Int) (A : Sn) : Prop := ∀ q, q < t.length → A.l[q]!.cnt ≠ -1 → O[q]! ≤ A.l[q]!.cnt
theorem late_none (h : InvA t A b) (hd : (i : Int) < d) {f q : Nat} (hf : f < t.length) : condA t r d A i f q = false := by
 cases hc : condA t r d A i f q with
 | false => rfl
 | true =>
   obtain ⟨_, _, _, h4, _⟩ := condA_parts hc
   have := (h.at_ f hf).1
   omega
theorem late_all (h : InvA t A b) (hr : RunIn t r) (hi : i < r.length) (hd : (i : Int) < d) : aAll' t r d i A = A := by
 have h1 : aPass t r d i A = (A, false) := by
  unfold aPass aPassTo
  refine aFold_id _ fun x hx => ?_
  have := mem_prsTo (n := A.l.length) (f := A.l.length) (k := 0) (Nat.le_refl _) (Nat.zero_le _) (.inl rfl) hx
  rw [h.ll] at this
  exact late_none h hd this.1
 exact (aAll'_done h hr hi (by rw [h1])).1
theorem InvO.note {l : List Mk} {at' : List Int} {q f : Nat} {x : Int} (h : InvO t O ⟨l, at'⟩) : InvO t O ⟨noteL l q f x, at'⟩ := by
 intro y hy hn
 have e : (noteL l q f x)[y]!.cnt = l[y]!.cnt := by
  by_cases hq : q < l.length
  ·by_cases e : y = q
   ·subst e; rw [noteL_at hq]
   ·rw [noteL_ne e]
  ·unfold noteL; rw [setG_out hq]
 show O[y]! ≤ (noteL l q f x)[y]!.cnt
 rw [e]
 refine h y hy ?_
 have h2 : (noteL l q f x)[y]!.cnt ≠ -1 := hn
 rwa [e] at h2
theorem arr_cnt (h : InvA t A b) {f q : Nat} (hq : q < t.length) (x : Nat) : (aArr r A f q i).l[x]!.cnt = if x = q ∧ A.l[q]!.cnt = -1 then rAt r i q else A.l[x]!.cnt := by
 have hql : q < A.l.length := by rw [h.ll]; exact hq
 show (closeK (aRec? r A q i).l q f)[x]!.cnt = _
 unfold aRec?
 by_cases hc : A.l[q]!.cnt = -1
 ·rw [if_pos hc]
  show (closeK (recL A.l q (rAt r i q)) q f)[x]!.cnt = _
  by_cases e : x = q
  ·subst e; rw [closeK_at (by rw [recL_len]; exact hql), recL_at hql, if_pos ⟨rfl, hc⟩]
  ·rw [closeK_ne e, recL_ne e, if_neg (fun hh => e hh.1)]
 ·rw [if_neg hc, if_neg (fun hh => hc hh.2)]
  by_cases e : x = q
  ·subst e; rw [closeK_at hql]
  ·rw [closeK_ne e]
theorem InvO.event (g : GivC t r base p a) (hO : ConsC t O) (h : InvC t r[i]! base p A b) (k : InvO t O A) (hai : a ≤ i) (hi : i + 1 < r.length) (hd : (i : Int) < d) : InvO t O (aEvent t r d A i) := by
 obtain ⟨P, hP, hset, h0, hlt, hsent⟩ := run_step g.run hi
 have hl := (run_rangeC g.run (show i < r.length by omega)).1
 obtain ⟨K, hk⟩ : ∃ K : Nat, rAt r i P = (K : Int) := ⟨(rAt r i P).toNat, by omega⟩
 have hmv := moves_eq hl hP hset
 have hin : Inn t (P, K) := ⟨hP, by show K < t[P]!.events.length; omega⟩
 by_cases h3 : (ev t (P, K)).kind = 3
 case neg =>
  rw [aEvent_other hmv (by rw [hk]; exact h3)]
  exact k
 case pos =>
  rw [aEvent_recv hmv (by rw [hk]; exact h3), hk, Int.toNat_natCast]
  obtain ⟨f, j, g1, g2, g3, g4, g5, g6, g7⟩ := rcv_send g.val hin h3
  have hf : f < t.length := g3.1
  obtain ⟨B, hBe, hB⟩ : ∃ B, (if (decide (f ≠ P) && (decide (A.l[f]!.cnt ≠ -1) && (!A.l[P]!.closed[f]! && decide (A.l[f]!.cnt < (j : Int) + 1)))) = true then aAll' t r d i (aArr r A f P i) else A) = B ∧ InvO t O B := by
   refine ⟨_, rfl, ?_⟩
   split
   ·rename_i hc
    simp only [Bool.and_eq_true, decide_eq_true_eq, Bool.not_eq_true'] at hc
    obtain ⟨k1, k2, k3, k4⟩ := hc
    have hia := h.inv.arr g.rin (i := i) hf hP (by omega) k2 k1
    rw [late_all hia g.rin (by omega) hd]
    intro x hx hn
    rw [arr_cnt h.inv hP] at hn ⊢
    split
    ·rename_i hxe
     rw [hxe.1]
     rcases Int.lt_or_le (K : Int) O[P]! with hh | hh
     ·have h5 := cons_send hO hP hh h3 g6
      have h6 := k f hf k2
      omega
     ·rw [hk]; exact hh
    ·rename_i hxe
     rw [if_neg hxe] at hn
     exact k x hx hn
   ·exact k
  have hR : aRecv t r d A P (ev t (P, K)) i = if (decide (B.l[P]!.cnt ≠ -1) && !B.l[P]!.closed[f]!) = true then ⟨noteL B.l P f (ev t (P, K)).msg, B.at_⟩ else B := by
   unfold aRecv
   rw [g1, Int.toNat_natCast, g6]
   simp only [hBe]
  rw [hR]
  split
  ·exact hB.note
  ·exact hB
theorem InvO.runs (g : GivC t r base p a) (hO : ConsC t O) (hd : (r.length : Int) ≤ d) : ∀ (k i b : Nat) (A : Sn), a ≤ i → i + k = r.length → 0 < k → InvC t r[i]! base p A b → InvO t O A → InvO t O (aRun t r d k i A) := by
 intro k
 induction k with
 | zero => intro i b A _ _ h0; omega
 | succ k ih =>
   intro i b A hai hik _ h ho
   have hia : aAll' t r d i A = A := late_all h.inv g.rin (by omega) (by omega)
   by_cases e : i + 1 = r.length
   ·rw [aRun_last e, hia]; exact ho
   ·rw [aRun_next e, hia]
    obtain ⟨b', h'⟩ := h.event (d := d) g hai (by omega)
    exact ih (i + 1) b' _ (by omega) (by omega) (by omega) h' (ho.event g hO h hai (by omega) (by omega))
def Stay (t : Tr) (A B : List Mk) : Prop := ∀ q : Nat, q < t.length → A[q]!.cnt ≠ -1 → B[q]!.cnt = A[q]!.cnt
theorem Stay.rf (A : List Mk) : Stay t A A := fun _ _ _ => rfl
theorem Stay.tr {A B C : List Mk} (h : Stay t A B) (k : Stay t B C) : Stay t A C := fun q hq hn => by
 have h1 := h q hq hn
 rw [k q hq (by rw [h1]; exact hn), h1]
theorem stay_arr (h : InvA t A b) {f q : Nat} (hq : q < t.length) : Stay t A.l (aArr r A f q i).l := fun x hx hn => by
 rw [arr_cnt h hq, if_neg]
 rintro ⟨rfl, hh⟩; exact hn hh
theorem stay_fold (hr : RunIn t r) (hi : i < r.length) : ∀ (l : List (Nat × Nat)) (X : Sn × Bool), (∀ x ∈ l, x.1 < t.length ∧ x.2 < t.length) → InvA t X.1 b → Stay t X.1.l (l.foldl (aStep t r d i) X).1.l := by
 intro l
 induction l with
 | nil => exact fun X _ _ => Stay.rf _
 | cons x l ih =>
   intro X hl h
   obtain ⟨k1, _⟩ := aStep_ok (d := d) h hr hi (hl x (by simp)).1 (hl x (by simp)).2
   rw [List.foldl_cons]
   refine Stay.tr ?_ (ih _ (fun y hy => hl y (by simp [hy])) k1)
   unfold aStep
   split
   ·exact stay_arr h (hl x (by simp)).2
   ·exact Stay.rf _
theorem stay_pass (hr : RunIn t r) (hi : i < r.length) (h : InvA t A b) : Stay t A.l (aPass t r d i A).1.l := by
 unfold aPass aPassTo
 refine stay_fold hr hi _ (A, false) (fun x hx => ?_) h
 have := mem_prsTo (n := A.l.length) (f := A.l.length) (k := 0) (Nat.le_refl _) (Nat.zero_le _) (.inl rfl) hx
 rw [h.ll] at this
 exact this
theorem stay_alls (hr : RunIn t r) (hi : i < r.length) : ∀ (k : Nat) (A : Sn), InvA t A b → Stay t A.l (aAll t r d i k A).l := by
 intro k
 induction k with
 | zero => exact fun A _ => Stay.rf _
 | succ k ih =>
   intro A h
   have h1 := (aPass_ok (d := d) h hr hi).1
   unfold aAll
   split
   ·exact (stay_pass hr hi h).tr (ih _ h1)
   ·exact stay_pass hr hi h
theorem stay_all (hr : RunIn t r) (hi : i < r.length) (h : InvA t A b) : Stay t A.l (aAll' t r d i A).l := stay_alls hr hi _ A h
theorem stay_note {l : List Mk} {q f : Nat} {x : Int} : Stay t l (noteL l q f x) := fun y hy hn => by
 by_cases hq : q < l.length
 ·by_cases e : y = q
  ·subst e; rw [noteL_at hq]
  ·rw [noteL_ne e]
 ·unfold noteL; rw [setG_out hq]
theorem stay_event (g : GivC t r base p a) (h : InvC t r[i]! base p A b) (hi : i + 1 < r.length) : Stay t A.l (aEvent t r d A i).l := by
 obtain ⟨P, hP, hset, h0, hlt, hsent⟩ := run_step g.run hi
 have hl := (run_rangeC g.run (show i < r.length by omega)).1
 obtain ⟨K, hk⟩ : ∃ K : Nat, rAt r i P = (K : Int) := ⟨(rAt r i P).toNat, by omega⟩
 have hmv := moves_eq hl hP hset
 have hin : Inn t (P, K) := ⟨hP, by show K < t[P]!.events.length; omega⟩
 by_cases h3 : (ev t (P, K)).kind = 3
 case neg =>
  rw [aEvent_other hmv (by rw [hk]; exact h3)]
  exact Stay.rf _
 case pos =>
  rw [aEvent_recv hmv (by rw [hk]; exact h3), hk, Int.toNat_natCast]
  obtain ⟨f, j, g1, g2, g3, g4, g5, g6, g7⟩ := rcv_send g.val hin h3
  have hf : f < t.length := g3.1
  obtain ⟨B, hBe, hB⟩ : ∃ B, (if (decide (f ≠ P) && (decide (A.l[f]!.cnt ≠ -1) && (!A.l[P]!.closed[f]! && decide (A.l[f]!.cnt < (j : Int) + 1)))) = true then aAll' t r d i (aArr r A f P i) else A) = B ∧ Stay t A.l B.l := by
   refine ⟨_, rfl, ?_⟩
   split
   ·rename_i hc
    simp only [Bool.and_eq_true, decide_eq_true_eq, Bool.not_eq_true'] at hc
    obtain ⟨k1, k2, k3, k4⟩ := hc
    have hia := h.inv.arr g.rin (i := i) hf hP (by omega) k2 k1
    exact (stay_arr h.inv hP).tr (stay_all g.rin (by omega) hia)
   ·exact Stay.rf _
  have hR : aRecv t r d A P (ev t (P, K)) i = if (decide (B.l[P]!.cnt ≠ -1) && !B.l[P]!.closed[f]!) = true then ⟨noteL B.l P f (ev t (P, K)).msg, B.at_⟩ else B := by
   unfold aRecv
   rw [g1, Int.toNat_natCast, g6]
   simp only [hBe]
  rw [hR]
  split
  ·exact hB.tr stay_note
  ·exact hB
theorem stay_runs (g : GivC t r base p a) : ∀ (k i b : Nat) (A : Sn), a ≤ i → i + k = r.length → 0 < k → InvC t r[i]! base p A b → Stay t (aAll' t r d i A).l (aRun t r d k i A).l := by
 intro k
 induction k with
 | zero => intro i b A _ _ h0; omega
 | succ k ih =>
   intro i b A hai hik _ h
   by_cases e : i + 1 = r.length
   ·rw [aRun_last e]; exact Stay.rf _
   ·rw [aRun_next e]
    have ha := h.all (d := d) g hai (by omega)
    obtain ⟨b', h'⟩ := ha.event (d := d) g hai (by omega)
    exact (stay_event g ha (by omega)).tr ((stay_all g.rin (by omega) h'.inv).tr (ih (i + 1) b' _ (by omega) (by omega) (by omega) h'))
theorem end_cnt {l : List Mk} {last : Nat} (hl : l.length = t.length) : ∀ k q, q < t.length → (endRec r l last k)[q]!.cnt = if q < k ∧ l[q]!.cnt = -1 then rAt r last q else l[q]!.cnt := by
 intro k
 induction k with
 | zero => intro q _; rw [if_neg (fun h => absurd h.1 (Nat.not_lt_zero _))]; rfl
 | succ k ih =>
   intro q hq
   rw [endRec_succ]
   by_cases e : q = k
   ·subst e
    have h1 := ih q hq
    rw [if_neg (fun h => absurd h.1 (Nat.lt_irrefl _))] at h1
    by_cases hc : l[q]!.cnt = -1
    ·rw [if_pos (by rw [h1]; exact hc), recL_at (by rw [endRec_len, hl]; exact hq), if_pos ⟨Nat.lt_succ_self _, hc⟩]
    ·rw [if_neg (by rw [h1]; exact hc), if_neg (fun h => hc h.2), h1]
   ·have h1 := ih q hq
    have h2 : (q < k + 1 ∧ l[q]!.cnt = -1) = (q < k ∧ l[q]!.cnt = -1) := by rw [eq_iff_iff]; omega
    simp only [h2]
    split
    ·rw [recL_ne e]; exact h1
    ·exact h1
end
theorem chan_late {t : Tr} {r : List (List Int)} {p a : Nat} {d : Int} {C O cs : List Int} (hv : validT t = true) (hfi : fifoB t = true) (hrun : runB t r = true) (hrl : r.length ≤ 1000000) (hp : p < t.length) (ha : a < r.length) (hd : (r.length : Int) ≤ d)
  (hC : ConsC t C) (hCp : C[p]! = rAt r a p) (hCe : cntsL (endRec r (aRun t r d (r.length - a) a (aRec r ⟨begL t.length, List.replicate t.length 0⟩ p a)).l (r.length - 1) t.length) = C)
  (hO : ConsC t O) (hOle : LeC O cs) (hOg : ∀ e, ConsC t e → LeC e cs → LeC e O) (hcs : cs.length = t.length) (hcp : cs[p]! = rAt r a p) (hcq : ∀ q, q < t.length → q ≠ p → cs[q]! = (t[q]!.events.length : Int)) : C = O := by
 have g : GivC t r r[a]! p a := ⟨hv, hfi, hrun, hrl, hp, ha, rfl⟩
 have hCcs : LeC C cs := fun q hq => by
  rw [hC.1.1] at hq
  by_cases e : q = p
  ·subst e; rw [hcp, hCp]; exact Int.le_refl _
  ·rw [hcq q hq e]; exact (hC.1.at hq).2
 have h1 : LeC C O := hOg C hC hCcs
 have hbeg := InvC.beg g
 obtain ⟨b1, h2⟩ := InvC.runs (d := d) g (r.length - a) a 0 _ (Nat.le_refl _) (by omega) (by omega) hbeg
 have hob : InvO t O (aRec r ⟨begL t.length, List.replicate t.length 0⟩ p a) := fun q hq hn => by
  have hpl : p < (begL t.length).length := by simp [begL]; exact hp
  have e0 : ((aRec r ⟨begL t.length, List.replicate t.length 0⟩ p a).l[q]!).cnt = if q = p then rAt r a p else -1 := by
   show (recL (begL t.length) p (rAt r a p))[q]!.cnt = _
   by_cases e : q = p
   ·subst e; rw [recL_at hpl, if_pos rfl]
   ·rw [recL_ne e, if_neg e, begL_get0 hq]; rfl
  rw [e0] at hn ⊢
  by_cases e : q = p
  ·subst e
   rw [if_pos rfl, ← hcp]
   exact hOle q (by rw [hO.1.1]; exact hq)
  ·rw [if_neg e] at hn; exact absurd rfl hn
 have h3 := InvO.runs g hO hd (r.length - a) a 0 _ (Nat.le_refl _) (by omega) (by omega) hbeg hob
 generalize aRun t r d (r.length - a) a (aRec r ⟨begL t.length, List.replicate t.length 0⟩ p a) = B at *
 have hBl : B.l.length = t.length := h2.inv.ll
 have hlast := (run_parts hrun).2.2.1
 have h4 : LeC O C := fun q hq => by
  rw [hO.1.1] at hq
  rw [← hCe, cnts_at (by rw [endRec_len, hBl]; exact hq), end_cnt hBl _ q hq]
  split
  ·have e : rAt r (r.length - 1) q = (t[q]!.events.length : Int) := by
    show (r[r.length - 1]!)[q]! = _
    rw [hlast]; unfold lenT; rw [mapR_at _ hq]
   rw [e]; exact (hO.1.at hq).2
  ·rename_i hc
   exact h3 q hq (fun hh => hc ⟨hq, hh⟩)
 exact h1.antisymm h4 (by rw [hC.1.1, hO.1.1])
theorem chan_now {t : Tr} {r : List (List Int)} {p a : Nat} {C : List Int} (hv : validT t = true) (hfi : fifoB t = true) (hrun : runB t r = true) (hrl : r.length ≤ 1000000) (hp : p < t.length) (ha : a < r.length)
  (hC : ConsC t C) (hCe : cntsL (endRec r (aRun t r 0 (r.length - a) a (aRec r ⟨begL t.length, List.replicate t.length 0⟩ p a)).l (r.length - 1) t.length) = C)
  (hu : ∀ s, s < t.length → ∀ q, q < t.length → underC t r[a]! s (q : Int) = []) : C = r[a]! := by
 have g : GivC t r r[a]! p a := ⟨hv, hfi, hrun, hrl, hp, ha, rfl⟩
 have hbeg := InvC.beg g
 have hra := run_rangeC hrun ha
 obtain ⟨b1, h2⟩ := InvC.runs (d := 0) g (r.length - a) a 0 _ (Nat.le_refl _) (by omega) (by omega) hbeg
 have h3 := stay_runs (d := 0) g (r.length - a) a 0 _ (Nat.le_refl _) (by omega) (by omega) hbeg
 have hall := hbeg.all (d := 0) g (Nat.le_refl _) ha
 have hN : ∀ (k : Nat) (A : Sn) (b : Nat), InvA t A b → (∀ q, q < t.length → A.l[q]!.cnt ≠ -1 → A.l[q]!.cnt = rAt r a q ∧ A.at_[q]! = (a : Int)) → ∀ q, q < t.length → (aAll t r 0 a k A).l[q]!.cnt ≠ -1 → (aAll t r 0 a k A).l[q]!.cnt = rAt r a q ∧ (aAll t r 0 a k A).at_[q]! = (a : Int) := by
  have hstep : ∀ (l : List (Nat × Nat)) (X : Sn × Bool) (b : Nat), (∀ x ∈ l, x.1 < t.length ∧ x.2 < t.length) → InvA t X.1 b → (∀ q, q < t.length → X.1.l[q]!.cnt ≠ -1 → X.1.l[q]!.cnt = rAt r a q ∧ X.1.at_[q]! = (a : Int)) → ∀ q, q < t.length → (l.foldl (aStep t r 0 a) X).1.l[q]!.cnt ≠ -1 → (l.foldl (aStep t r 0 a) X).1.l[q]!.cnt = rAt r a q ∧ (l.foldl (aStep t r 0 a) X).1.at_[q]! = (a : Int) := by
   intro l
   induction l with
   | nil => exact fun X b _ _ h => h
   | cons x l ih =>
     intro X b hl hi h
     obtain ⟨k1, _⟩ := aStep_ok (d := 0) hi g.rin ha (hl x (by simp)).1 (hl x (by simp)).2
     rw [List.foldl_cons]
     refine ih _ b (fun y hy => hl y (by simp [hy])) k1 fun q hq => ?_
     unfold aStep
     split
     ·intro hn
      rename_i hc
      have hx2 := (hl x (by simp)).2
      have hat : (aArr r X.1 x.1 x.2 a).at_[q]! = if q = x.2 ∧ X.1.l[x.2]!.cnt = -1 then (a : Int) else X.1.at_[q]! := by
       show (aRec? r X.1 x.2 a).at_[q]! = _
       unfold aRec?
       by_cases hc2 : X.1.l[x.2]!.cnt = -1
       ·rw [if_pos hc2]
        show (X.1.at_.set x.2 (a : Int))[q]! = _
        by_cases e : q = x.2
        ·rw [if_pos ⟨e, hc2⟩, e]; exact setG_at (by rw [hi.la]; exact hx2) _
        ·rw [if_neg (fun hh => e hh.1)]; exact setG_ne e _
       ·rw [if_neg hc2, if_neg (fun hh => hc2 hh.2)]
      have hcn := arr_cnt (r := r) (i := a) (f := x.1) hi hx2 q
      simp only at hn ⊢
      rw [hcn] at hn ⊢
      rw [hat]
      by_cases e : q = x.2 ∧ X.1.l[x.2]!.cnt = -1
      ·rw [if_pos e, if_pos e, e.1]; exact ⟨rfl, rfl⟩
      ·rw [if_neg e] at hn ⊢
       rw [if_neg e]; exact h q hq hn
     ·exact h q hq
  intro k
  induction k with
  | zero => intro A b _ h; exact h
  | succ k ih =>
    intro A b hi h
    have hp1 := (aPass_ok (d := 0) hi g.rin ha).1
    have hp2 : ∀ q, q < t.length → (aPass t r 0 a A).1.l[q]!.cnt ≠ -1 → (aPass t r 0 a A).1.l[q]!.cnt = rAt r a q ∧ (aPass t r 0 a A).1.at_[q]! = (a : Int) := by
     unfold aPass aPassTo
     refine hstep _ (A, false) b (fun x hx => ?_) hi h
     have := mem_prsTo (n := A.l.length) (f := A.l.length) (k := 0) (Nat.le_refl _) (Nat.zero_le _) (.inl rfl) hx
     rw [hi.ll] at this
     exact this
    unfold aAll
    split
    ·exact ih _ b hp1 hp2
    ·exact hp2
 have hpl : p < (begL t.length).length := by simp [begL]; exact hp
 have hb0 : ∀ q, q < t.length → ((aRec r ⟨begL t.length, List.replicate t.length 0⟩ p a).l[q]!).cnt = if q = p then rAt r a p else -1 := fun q hq => by
  show (recL (begL t.length) p (rAt r a p))[q]!.cnt = _
  by_cases e : q = p
  ·subst e; rw [recL_at hpl, if_pos rfl]
  ·rw [recL_ne e, if_neg e, begL_get0 hq]; rfl
 have hat := hN (opens (aRec r ⟨begL t.length, List.replicate t.length 0⟩ p a) + 1) _ 0 hbeg.inv (fun q hq hn => by
  rw [hb0 q hq] at hn ⊢
  by_cases e : q = p
  ·subst e
   refine ⟨if_pos rfl, ?_⟩
   show ((List.replicate t.length (0 : Int)).set q (a : Int))[q]! = _
   exact setG_at (by simpa using hq) _
  ·rw [if_neg e] at hn; exact absurd rfl hn)
 have hnone := fun f q (hf : f < t.length) (hq : q < t.length) => aAll'_none (d := 0) hbeg.inv g.rin ha hf hq
 have hstp := stay_all (d := 0) g.rin ha hbeg.inv p hp (by rw [hb0 p hp, if_pos rfl]; have := hra.at hp; show (r[a]!)[p]! ≠ -1; omega)
 rw [hb0 p hp, if_pos rfl] at hstp
 have hat2 : ∀ q, q < t.length → (aAll' t r 0 a (aRec r ⟨begL t.length, List.replicate t.length 0⟩ p a)).l[q]!.cnt ≠ -1 → (aAll' t r 0 a (aRec r ⟨begL t.length, List.replicate t.length 0⟩ p a)).l[q]!.cnt = rAt r a q ∧ (aAll' t r 0 a (aRec r ⟨begL t.length, List.replicate t.length 0⟩ p a)).at_[q]! = (a : Int) := hat
 clear hat
 generalize aAll' t r 0 a (aRec r ⟨begL t.length, List.replicate t.length 0⟩ p a) = B at *
 generalize aRun t r 0 (r.length - a) a (aRec r ⟨begL t.length, List.replicate t.length 0⟩ p a) = D at *
 have hpn : B.l[p]!.cnt ≠ -1 := by rw [hstp]; have := hra.at hp; show (r[a]!)[p]! ≠ -1; omega
 have hrec : ∀ q, q < t.length → B.l[q]!.cnt ≠ -1 := fun q hq hc => by
  by_cases e : q = p
  ·subst e; exact hpn hc
  ·have hcl : B.l[q]!.closed[p]! = false := by
    cases hh : B.l[q]!.closed[p]! with
    | false => rfl
    | true => exact absurd hc (hall.i3.cl p q hp hq (Ne.symm e) hh).1
   have hfr : freeB t (q : Int) (rAt r a q) p B.l[p]!.cnt.toNat = true := by
    refine freeB_yes fun j hj => ?_
    cases hah : aheadB t (q : Int) (rAt r a q) (p, j) with
    | false => rfl
    | true =>
      exfalso
      have hrp := hra.at hp
      rw [hstp] at hj
      have hrp2 : rAt r a p = (r[a]!)[p]! := rfl
      have hjn : j < t[p]!.events.length := by omega
      have huw : uwB t r[a]! (q : Int) (p, j) = true := by
       unfold aheadB at hah
       simp only [Bool.and_eq_true, decide_eq_true_eq] at hah
       unfold uwB
       simp only [Bool.and_eq_true, decide_eq_true_eq]
       refine ⟨hah.1, hah.2.1, ?_⟩
       have h9 := hah.2.2
       cases hfe : findE t 3 (ev t (p, j)).msg with
       | none => rfl
       | some x =>
         rw [hfe] at h9
         simp only [decide_eq_true_eq] at h9 ⊢
         have hx1 := (rcv_at hv (show Inn t (p, j) from ⟨hp, hjn⟩) ⟨hah.1, hah.2.1⟩ hfe).1
         rw [hx1]; exact h9
      have hmem : (ev t (p, j)).msg ∈ underC t r[a]! p (q : Int) := by
       unfold underC uwTo
       exact List.mem_map.2 ⟨j, List.mem_filter.2 ⟨List.mem_range.2 (by rw [← hrp2]; exact hj), huw⟩, rfl⟩
      rw [hu p hp q hq] at hmem
      cases hmem
   have h5 := hnone p q hp hq
   have h6 : condA t r 0 B a p q = true := by
    unfold condA
    simp only [Bool.and_eq_true, decide_eq_true_eq, Bool.not_eq_true']
    exact ⟨Ne.symm e, hpn, hcl, by rw [(hat2 p hp hpn).2]; omega, hfr⟩
   rw [h6] at h5; cases h5
 have hDl : D.l.length = t.length := h2.inv.ll
 refine list_ext (by rw [hC.1.1, hra.1]) fun q hq => ?_
 rw [hC.1.1] at hq
 have h7 := (hat2 q hq (hrec q hq)).1
 have h8 := h3 q hq (hrec q hq)
 have h9 : D.l[q]!.cnt ≠ -1 := by rw [h8]; exact hrec q hq
 rw [← hCe, cnts_at (by rw [endRec_len, hDl]; exact hq), end_cnt hDl _ q hq, if_neg (fun hh => h9 hh.2), h8, h7]
 rfl
end Go.Proofs.YtfagfooggcinoaaGreat
