import Derived.Test.YtfcpnggdpaeldaaGreatGh
import Derived.Test.YtfcpnggdpaeldaaGreatJa
import Derived.Test.YtfcpnggdpaeldaaGreatProg
import Derived.Test.YtfcpnggdpaeldaaGreatGy
import Derived.Test.YtfcpnggdpaeldaaGreatGp
import Derived.BigQuiet
import Derived.Deep.QuietTactic
import Derived.Deep.LoopGhost
import Derived.Shelf.Abstract
import Derived.Deep.DeepCutAuto
/-
  A call within a region that draws its order, where the call is guarded and wanted. No program is named here.
-/
namespace Go.Proofs.YtfcpnggdpaeldaaGreat
open Go.RowKit
set_option linter.unusedVariables false

theorem step_callW {P : Program} {ops : Array Oper} {o : Oper} {a : Act} {w : World} {K : Act → World → Prop} {Q : Exit → Act → World → Prop} {E : Prop}
    (hw : Region.wanted o (yielded ops a.tmps) = true) (f : FuncId) (args : Array Operand) (tys : Array TypeId) (ho : o.op = .call { callee := .value (.func f), args := args, argTypes := tys })
    (eg : ∀ args w, (callFunc f args).run P w = .ok (.enter f args) w) (vals : List Value) (hv : args.toList.map a.eval = vals) {R : Ending → World → Prop} (hc : Calls P f vals.toArray w R)
    (hK : ∀ e w', R e w' → ∃ v, e = .returned v ∧ K (a.put o.dst v) w') :
    if Region.wanted o (yielded ops a.tmps) = true then Oper.wp P o a w K Q else E := by
  rw [if_pos hw]
  have hr : (execOp a.eval o).run P w = .ok (.enter f vals.toArray) w := by
    have hv' : args.map a.eval = vals.toArray := by rw [← hv]; cases args; simp
    have he : a.eval (.func f) = .func (.func f) #[] #[] := rfl
    unfold execOp
    simp only [ho, resolve, he, Deferred.ofValue, Sem.run_bind, Sem.run_pure, Result.andThen_ok, invoke, Array.append_empty, hv']
    simp [eg]
  unfold Oper.wp
  rw [hr, Oper.upon_enter]
  refine hc.mono fun e w' h => ?_
  obtain ⟨v, rfl, hk⟩ := hK e w' h
  exact hk

end Go.Proofs.YtfcpnggdpaeldaaGreat

/-
  Termination: the program's Passive and Terminated.
-/
namespace Go.Proofs.YtfcpnggdpaeldaaGreat
open Go.RowKit
set_option linter.unusedVariables false
attribute [local go_sem ↓] Go.wp_at_zero Go.wp_at_succ

theorem enters_35 : ∀ args w, (callFunc 35 args).run Tryz.prog w = .ok (.enter 35 args) w := enters_of Tryz.func35 (by kernel_rfl) rfl
theorem enters_36 : ∀ args w, (callFunc 36 args).run Tryz.prog w = .ok (.enter 36 args) w := enters_of Tryz.func36 (by kernel_rfl) rfl
theorem enters_37 : ∀ args w, (callFunc 37 args).run Tryz.prog w = .ok (.enter 37 args) w := enters_of Tryz.func37 (by kernel_rfl) rfl


noncomputable def pasB (t : Tr) (s : ByteArray) (c : List Int) : Bool := if pasE t s c = 0 then passB t s c else false
noncomputable def trmB (t : Tr) (s : ByteArray) (c : List Int) : Bool := if pasE t s c = 0 then termB t s c else false

set_option maxHeartbeats 4000000 in
set_option maxRecDepth 100000 in
theorem passP_calls (v vc : Value) (t : Tr) (s : ByteArray) (c : List Int) (w : World) (h : TrAt w v t) (hs : LooseTr t) (hc : Ints w vc c) :
    Calls Tryz.prog 8 #[.agg #[v], .string s, vc] w fun e w' => e = .returned (.tuple #[.bool (pasB t s c), .int .i64 (pasE t s c)]) ∧ Ext w w' := by
  have HKC := Lib.hid (fun W (hW : Ext w W) => checkedP_calls v t s W (h.ext hW) hs)
  have HCC := Lib.hid (fun W (hW : Ext w W) => consistentP_calls v vc t c W (h.ext hW) hs (hc.ext hW))
  have HPC := Lib.hid (fun W (hW : Ext w W) (hp : pasE t s c = 0) => passiveP_calls v vc t s c W (h.ext hW) (pasE_ok.1 hp).1.1 (pasE_ok.1 hp).1.2 (hc.ext hW) (pasE_ok.1 hp).2.1)
  have HDE : Hid (pasE t s c = if chkE t s = 0 then (if consB t c = true then 0 else 18) else chkE t s) := Lib.hid rfl
  have HDB : Hid (pasB t s c = if pasE t s c = 0 then passB t s c else false) := Lib.hid rfl
  obtain ⟨ta, tc, rfl, htc⟩ := h.sh
  obtain ⟨ca, cc, rfl, hlc, _⟩ := hc
  obtain ⟨E, hE⟩ : ∃ E, pasE t s c = E := ⟨_, rfl⟩
  obtain ⟨R, hR⟩ : ∃ R, pasB t s c = R := ⟨_, rfl⟩
  rw [hE] at HDE HDB HPC ⊢
  rw [hR] at HDB ⊢
  generalize chkE t s = K at *
  generalize consB t c = cb at *
  generalize passB t s c = pb at *
  generalize t.length = n at *
  generalize c.length = m at *
  have HY1 := Lib.hid (heap_alloc_new w (.cells #[.slice ta n tc] 24))
  have HE1 := Lib.hid ((Ext.rf w).al (.cells #[.slice ta n tc] 24))
  clear h hs hE hR hlc htc
  go_enter Tryz.func8, Tryz.ntmps8
  go_wp2_with fail
  refine (HKC.out _ HE1.out).mono ?_
  rintro e w2 ⟨rfl, hX⟩
  have HE2 := Lib.hid (HE1.out.trans' hX)
  have HY2 := Lib.hid (hX.hp HY1.out)
  have t2 := cellOf HY2.out 0
  simp only [List.getElem?_toArray, List.getElem?_cons_zero] at t2
  clear hX
  by_cases h0 : K = 0
  case neg =>
    obtain rfl : E = K := HDE.out.trans (if_neg h0)
    obtain rfl : R = false := HDB.out.trans (if_neg h0)
    have d1 : (E != 0) = true := by simp [h0]
    clear h0
    go_wp2
    go_ret2
    exact ⟨rfl, HE2.out⟩
  case pos =>
  subst h0
  rw [if_pos rfl] at HDE
  go_wp2_with fail
  refine (HCC.out _ HE2.out).mono ?_
  rintro e w3 ⟨rfl, hX⟩
  have HE3 := Lib.hid (HE2.out.trans' hX)
  have HY3 := Lib.hid (hX.hp HY2.out)
  have t3 := cellOf HY3.out 0
  simp only [List.getElem?_toArray, List.getElem?_cons_zero] at t3
  clear hX
  cases cb with
  | false =>
    obtain rfl : E = 18 := HDE.out
    obtain rfl : R = false := HDB.out
    go_wp2
    go_ret2
    exact ⟨rfl, HE3.out⟩
  | true =>
    obtain rfl : E = 0 := HDE.out
    obtain rfl : R = pb := HDB.out
    clear t2
    go_wp2_with fail
    refine (HPC.out _ HE3.out (by trivial)).mono ?_
    rintro e w4 ⟨rfl, hX⟩
    have HE4 := Lib.hid (HE3.out.trans' hX)
    have HY4 := Lib.hid (hX.hp HY3.out)
    have t4 := cellOf HY4.out 0
    simp only [List.getElem?_toArray, List.getElem?_cons_zero] at t4
    clear hX
    go_wp2
    go_ret2
    exact ⟨rfl, HE4.out⟩

set_option maxHeartbeats 4000000 in
set_option maxRecDepth 100000 in
theorem termP_calls (v vc : Value) (t : Tr) (s : ByteArray) (c : List Int) (w : World) (h : TrAt w v t) (hs : LooseTr t) (hc : Ints w vc c) :
    Calls Tryz.prog 9 #[.agg #[v], .string s, vc] w fun e w' => e = .returned (.tuple #[.bool (trmB t s c), .int .i64 (pasE t s c)]) ∧ Ext w w' := by
  have HKC := Lib.hid (fun W (hW : Ext w W) => passP_calls v vc t s c W (h.ext hW) hs (hc.ext hW))
  have HN := Lib.hid (fun kd W (hW : Ext w W) (hp : pasE t s c = 0) => countP_calls v vc t c kd W (h.ext hW) (pasE_ok.1 hp).1.1 (hc.ext hW) (pasE_ok.1 hp).2.1)
  have HDP : Hid (pasB t s c = if pasE t s c = 0 then passB t s c else false) := Lib.hid rfl
  have HDB : Hid (trmB t s c = if pasE t s c = 0 then (passB t s c && decide (cntE t 2 c = cntE t 3 c)) else false) := Lib.hid rfl
  obtain ⟨ta, tc, rfl, htc⟩ := h.sh
  obtain ⟨ca, cc, rfl, hlc, _⟩ := hc
  have HN2 := Lib.hid (HN.out 2)
  have HN3 := Lib.hid (HN.out 3)
  generalize pasE t s c = E at *
  obtain ⟨R, hR⟩ : ∃ R, trmB t s c = R := ⟨_, rfl⟩
  rw [hR] at HDB ⊢
  generalize pasB t s c = P at *
  generalize passB t s c = pb at *
  generalize cntE t 2 c = z2 at *
  generalize cntE t 3 c = z3 at *
  generalize t.length = n at *
  generalize c.length = m at *
  have HY1 := Lib.hid (heap_alloc_new w (.cells #[.slice ta n tc] 24))
  have HE1 := Lib.hid ((Ext.rf w).al (.cells #[.slice ta n tc] 24))
  clear h hs hR hlc htc HN
  go_enter Tryz.func9, Tryz.ntmps9
  go_wp2_with fail
  refine (HKC.out _ HE1.out).mono ?_
  rintro e w2 ⟨rfl, hX⟩
  have HE2 := Lib.hid (HE1.out.trans' hX)
  have HY2 := Lib.hid (hX.hp HY1.out)
  have t2 := cellOf HY2.out 0
  simp only [List.getElem?_toArray, List.getElem?_cons_zero] at t2
  clear hX
  by_cases h0 : E = 0
  case neg =>
    obtain rfl : R = false := HDB.out.trans (if_neg h0)
    have d1 : (E != 0) = true := by simp [h0]
    clear h0
    go_wp2
    go_ret2
    exact ⟨rfl, HE2.out⟩
  case pos =>
  subst h0
  rw [if_pos rfl] at HDB HDP
  obtain rfl := HDP.out
  cases P with
  | false =>
    obtain rfl : R = false := HDB.out
    go_wp2
    have HE3 := Lib.hid (show Ext w w2.drew from HE2.out.dr)
    have t3 := (show Ext w2 w2.drew from (Ext.rf w2).dr).cl t2
    refine wp_region_tails (fun w' => w'.cell? ⟨w.heap.size, 0, none⟩ = some (.slice ta n tc)) [] (by kernel_rfl) t3 (fun hHeld => ?_)
    generalize w2.drew = w3 at *
    refine wpAnyU_take (i := 0) (d := some 20) (v := ?_) rfl rfl (by kernel_rfl) (by kernel_rfl) (by kernel_rfl) (by kernel_rfl) (fun _ _ _ h => h) (Or.inl ⟨by rfl, ?_⟩) (by assumption) ?_
    rotate_left
    · (intro w hSw; (try dsimp only at hSw); go_simp; try (with_reducible rfl))
    try simp only [Act.put]
    try simp only [List.setIfInBounds_toArray]
    try simp only [List.set_cons_zero, List.set_cons_succ]
    refine wpAnyU_take (i := 1) (d := some 21) (v := ?_) rfl rfl (by kernel_rfl) (by kernel_rfl) (by kernel_rfl) (by kernel_rfl) (fun _ _ _ h => h) (Or.inl ⟨by rfl, ?_⟩) (by assumption) ?_
    rotate_left
    · (intro w hSw; (try dsimp only at hSw); go_simp; try (with_reducible rfl))
    try simp only [Act.put]
    try simp only [List.setIfInBounds_toArray]
    try simp only [List.set_cons_zero, List.set_cons_succ]
    refine wpAnyU_take (i := 2) (d := some 22) (v := undef) rfl rfl (by kernel_rfl) (by kernel_rfl) (by kernel_rfl) (by kernel_rfl) (fun _ _ _ h => h) (Or.inr ⟨by rfl, rfl⟩) (by assumption) ?_
    try simp only [Act.put]
    try simp only [List.setIfInBounds_toArray]
    try simp only [List.set_cons_zero, List.set_cons_succ]
    refine wpAnyU_take (i := 3) (d := some 23) (v := undef) rfl rfl (by kernel_rfl) (by kernel_rfl) (by kernel_rfl) (by kernel_rfl) (fun _ _ _ h => h) (Or.inr ⟨by rfl, rfl⟩) (by assumption) ?_
    try simp only [Act.put]
    try simp only [List.setIfInBounds_toArray]
    try simp only [List.set_cons_zero, List.set_cons_succ]
    refine wpAnyU_take (i := 4) (d := some 24) (v := undef) rfl rfl (by kernel_rfl) (by kernel_rfl) (by kernel_rfl) (by kernel_rfl) (fun _ _ _ h => h) (Or.inr ⟨by rfl, rfl⟩) (by assumption) ?_
    try simp only [Act.put]
    try simp only [List.setIfInBounds_toArray]
    try simp only [List.set_cons_zero, List.set_cons_succ]
    refine wpAnyU_take (i := 5) (d := some 25) (v := undef) rfl rfl (by kernel_rfl) (by kernel_rfl) (by kernel_rfl) (by kernel_rfl) (fun _ _ _ h => h) (Or.inr ⟨by rfl, rfl⟩) (by assumption) ?_
    try simp only [Act.put]
    try simp only [List.setIfInBounds_toArray]
    try simp only [List.set_cons_zero, List.set_cons_succ]
    refine wpAnyU_take (i := 6) (d := some 26) (v := undef) rfl rfl (by kernel_rfl) (by kernel_rfl) (by kernel_rfl) (by kernel_rfl) (fun _ _ _ h => h) (Or.inr ⟨by rfl, rfl⟩) (by assumption) ?_
    try simp only [Act.put]
    try simp only [List.setIfInBounds_toArray]
    try simp only [List.set_cons_zero, List.set_cons_succ]
    refine wpAnyU_take (i := 7) (d := some 27) (v := undef) rfl rfl (by kernel_rfl) (by kernel_rfl) (by kernel_rfl) (by kernel_rfl) (fun _ _ _ h => h) (Or.inr ⟨by rfl, rfl⟩) (by assumption) ?_
    try simp only [Act.put]
    try simp only [List.setIfInBounds_toArray]
    try simp only [List.set_cons_zero, List.set_cons_succ]
    refine wpAnyU_take (i := 8) (d := some 28) (v := undef) rfl rfl (by kernel_rfl) (by kernel_rfl) (by kernel_rfl) (by kernel_rfl) (fun _ _ _ h => h) (Or.inr ⟨by rfl, rfl⟩) (by assumption) ?_
    try simp only [Act.put]
    try simp only [List.setIfInBounds_toArray]
    try simp only [List.set_cons_zero, List.set_cons_succ]
    refine wpAnyU_take (i := 9) (d := some 29) (v := ?_) rfl rfl (by kernel_rfl) (by kernel_rfl) (by kernel_rfl) (by kernel_rfl) (fun _ _ _ h => h) (Or.inl ⟨by rfl, ?_⟩) (by assumption) ?_
    rotate_left
    · (intro w hSw; (try dsimp only at hSw); go_simp; try (with_reducible rfl))
    try simp only [Act.put]
    try simp only [List.setIfInBounds_toArray]
    try simp only [List.set_cons_zero, List.set_cons_succ]
    refine wpAnyU_take (i := 10) (d := some 6) (v := ?_) rfl rfl (by kernel_rfl) (by kernel_rfl) (by kernel_rfl) (by kernel_rfl) (fun _ _ _ h => h) (Or.inl ⟨by rfl, ?_⟩) (by assumption) ?_
    rotate_left
    · (intro w hSw; (try dsimp only at hSw); go_simp; try (with_reducible rfl))
    try simp only [Act.put]
    try simp only [List.setIfInBounds_toArray]
    try simp only [List.set_cons_zero, List.set_cons_succ]
    refine wpAnyU_take (i := 11) (d := some 7) (v := ?_) rfl rfl (by kernel_rfl) (by kernel_rfl) (by kernel_rfl) (by kernel_rfl) (fun _ _ _ h => h) (Or.inl ⟨by rfl, ?_⟩) (by assumption) ?_
    rotate_left
    · (intro w hSw; (try dsimp only at hSw); go_simp; try (with_reducible rfl))
    try simp only [Act.put]
    try simp only [List.setIfInBounds_toArray]
    try simp only [List.set_cons_zero, List.set_cons_succ]
    refine wpAnyU_done (by kernel_rfl) ?_
    go_wp2
    go_ret2
    exact ⟨rfl, HE3.out⟩
  | true =>
    go_wp2
    have HE3 := Lib.hid (show Ext w w2.drew from HE2.out.dr)
    have t3 := (show Ext w2 w2.drew from (Ext.rf w2).dr).cl t2
    refine wp_region_tails (fun w' => w'.cell? ⟨w.heap.size, 0, none⟩ = some (.slice ta n tc)) [] (by kernel_rfl) t3 (fun hHeld => ?_)
    generalize w2.drew = w3 at *
    refine wpAnyU_take (i := 0) (d := some 20) (v := ?_) rfl rfl (by kernel_rfl) (by kernel_rfl) (by kernel_rfl) (by kernel_rfl) (fun _ _ _ h => h) (Or.inl ⟨by rfl, ?_⟩) (by assumption) ?_
    rotate_left
    · (intro w hSw; (try dsimp only at hSw); go_simp; try (with_reducible rfl))
    try simp only [Act.put]
    try simp only [List.setIfInBounds_toArray]
    try simp only [List.set_cons_zero, List.set_cons_succ]
    refine wpAnyU_take (i := 1) (d := some 21) (v := ?_) rfl rfl (by kernel_rfl) (by kernel_rfl) (by kernel_rfl) (by kernel_rfl) (fun _ _ _ h => h) (Or.inl ⟨by rfl, ?_⟩) (by assumption) ?_
    rotate_left
    · (intro w hSw; (try dsimp only at hSw); go_simp; try (with_reducible rfl))
    try simp only [Act.put]
    try simp only [List.setIfInBounds_toArray]
    try simp only [List.set_cons_zero, List.set_cons_succ]
    refine wpAnyU_take (i := 2) (d := some 22) (v := ?_) rfl rfl (by kernel_rfl) (by kernel_rfl) (by kernel_rfl) (by kernel_rfl) (fun _ _ _ h => h) (Or.inl ⟨by rfl, ?_⟩) (by assumption) ?_
    rotate_left
    · (intro w hSw; (try dsimp only at hSw); go_simp; try (with_reducible rfl))
    try simp only [Act.put]
    try simp only [List.setIfInBounds_toArray]
    try simp only [List.set_cons_zero, List.set_cons_succ]
    refine wpAnyU_take (i := 3) (d := some 23) (v := ?_) rfl rfl (by kernel_rfl) (by kernel_rfl) (by kernel_rfl) (by kernel_rfl) (fun _ _ _ h => h) (Or.inl ⟨by rfl, ?_⟩) (by assumption) ?_
    rotate_left
    · (intro w hSw; (try dsimp only at hSw); go_simp; try (with_reducible rfl))
    try simp only [Act.put]
    try simp only [List.setIfInBounds_toArray]
    try simp only [List.set_cons_zero, List.set_cons_succ]
    refine wpAnyU_take (i := 5) (d := some 25) (v := ?_) rfl rfl (by kernel_rfl) (by kernel_rfl) (by kernel_rfl) (by kernel_rfl) (fun _ _ _ h => h) (Or.inl ⟨by rfl, ?_⟩) (by assumption) ?_
    rotate_left
    · (intro w hSw; (try dsimp only at hSw); go_simp; try (with_reducible rfl))
    try simp only [Act.put]
    try simp only [List.setIfInBounds_toArray]
    try simp only [List.set_cons_zero, List.set_cons_succ]
    refine wpAnyU_take (i := 6) (d := some 26) (v := ?_) rfl rfl (by kernel_rfl) (by kernel_rfl) (by kernel_rfl) (by kernel_rfl) (fun _ _ _ h => h) (Or.inl ⟨by rfl, ?_⟩) (by assumption) ?_
    rotate_left
    · (intro w hSw; (try dsimp only at hSw); go_simp; try (with_reducible rfl))
    try simp only [Act.put]
    try simp only [List.setIfInBounds_toArray]
    try simp only [List.set_cons_zero, List.set_cons_succ]
    refine wpAnyU_step (i := 4) (by kernel_rfl) rfl (fun K hK => ?_)
    refine step_callW (by kernel_rfl) 36 _ _ rfl enters_36 [.agg #[.slice ta n tc], .slice ca m cc, .int .i64 2] (by first | rfl | kernel_rfl | go_simp) (HN2.out _ HE3.out (by trivial)) ?_
    rintro e w4 ⟨rfl, hX⟩
    refine ⟨_, rfl, ?_⟩
    have HE4 := Lib.hid (HE3.out.trans' hX)
    have t4 := hX.cl t3
    clear hX
    refine hK.out _ _ ?_ (fun hHeld => ?_)
    · (try dsimp only)
      exact t4
    clear hK K
    try simp only [List.getElem_toArray, List.getElem_cons_zero, List.getElem_cons_succ]
    try simp only [Act.put]
    try simp only [List.setIfInBounds_toArray]
    try simp only [List.set_cons_zero, List.set_cons_succ]
    refine wpAnyU_step (i := 7) (by kernel_rfl) rfl (fun K hK => ?_)
    refine step_callW (by kernel_rfl) 36 _ _ rfl enters_36 [.agg #[.slice ta n tc], .slice ca m cc, .int .i64 3] (by first | rfl | kernel_rfl | go_simp) (HN3.out _ HE4.out (by trivial)) ?_
    rintro e w5 ⟨rfl, hX⟩
    refine ⟨_, rfl, ?_⟩
    have HE5 := Lib.hid (HE4.out.trans' hX)
    have t5 := hX.cl t4
    clear hX
    refine hK.out _ _ ?_ (fun hHeld => ?_)
    · (try dsimp only)
      exact t5
    clear hK K
    try simp only [List.getElem_toArray, List.getElem_cons_zero, List.getElem_cons_succ]
    try simp only [Act.put]
    try simp only [List.setIfInBounds_toArray]
    try simp only [List.set_cons_zero, List.set_cons_succ]
    refine wpAnyU_take (i := 8) (d := some 28) (v := ?_) rfl rfl (by kernel_rfl) (by kernel_rfl) (by kernel_rfl) (by kernel_rfl) (fun _ _ _ h => h) (Or.inl ⟨by rfl, ?_⟩) (by assumption) ?_
    rotate_left
    · (intro w hSw; (try dsimp only at hSw); go_simp; try (with_reducible rfl))
    try simp only [Act.put]
    try simp only [List.setIfInBounds_toArray]
    try simp only [List.set_cons_zero, List.set_cons_succ]
    refine wpAnyU_take (i := 9) (d := some 29) (v := ?_) rfl rfl (by kernel_rfl) (by kernel_rfl) (by kernel_rfl) (by kernel_rfl) (fun _ _ _ h => h) (Or.inl ⟨by rfl, ?_⟩) (by assumption) ?_
    rotate_left
    · (intro w hSw; (try dsimp only at hSw); go_simp; try (with_reducible rfl))
    try simp only [Act.put]
    try simp only [List.setIfInBounds_toArray]
    try simp only [List.set_cons_zero, List.set_cons_succ]
    refine wpAnyU_take (i := 10) (d := some 6) (v := ?_) rfl rfl (by kernel_rfl) (by kernel_rfl) (by kernel_rfl) (by kernel_rfl) (fun _ _ _ h => h) (Or.inl ⟨by rfl, ?_⟩) (by assumption) ?_
    rotate_left
    · (intro w hSw; (try dsimp only at hSw); go_simp; try (with_reducible rfl))
    try simp only [Act.put]
    try simp only [List.setIfInBounds_toArray]
    try simp only [List.set_cons_zero, List.set_cons_succ]
    refine wpAnyU_take (i := 11) (d := some 7) (v := ?_) rfl rfl (by kernel_rfl) (by kernel_rfl) (by kernel_rfl) (by kernel_rfl) (fun _ _ _ h => h) (Or.inl ⟨by rfl, ?_⟩) (by assumption) ?_
    rotate_left
    · (intro w hSw; (try dsimp only at hSw); go_simp; try (with_reducible rfl))
    try simp only [Act.put]
    try simp only [List.setIfInBounds_toArray]
    try simp only [List.set_cons_zero, List.set_cons_succ]
    refine wpAnyU_done (by kernel_rfl) ?_
    go_wp2
    go_ret2
    refine ⟨?_, HE5.out⟩
    rw [HDB.out]
    by_cases h : z2 = z3 <;> simp [h]

set_option maxHeartbeats 1000000 in
theorem counting1_calls (vs : List Value) (x : List Int) (b n tc : Nat) (ta : Option Addr) (t : Tr) (w : World) (hT : TrAt w (.slice ta n tc) t) (hs : SmallTr t) (hx : RInts w vs x) (hc : w.cell? ⟨b, 0, none⟩ = some (.slice ta n tc)) :
    Calls Tryz.prog 37 #[encOne vs, .pointer (some ⟨b, 0, none⟩)] w fun e w' => e = .returned (.bool (!rngB t x)) ∧ Ext w w' := by
  obtain ⟨u, rfl, hi⟩ := hx
  have HC := Lib.hid (countsP_calls _ u t x w hT hs hi)
  obtain ⟨a, c, rfl, hlc, _⟩ := hi
  unfold encOne
  simp only [List.headD_cons]
  generalize rngB t x = r at *
  generalize x.length = m at *
  clear hT hs
  go_enter Tryz.func37, Tryz.ntmps37
  go_wp2_with fail
  refine HC.out.mono ?_
  rintro e w2 ⟨rfl, hX⟩
  go_wp2
  go_ret
  exact ⟨rfl, hX⟩

theorem wave_at {w : World} {a : Option Addr} {m c : Nat} {q : List (List Int)} (h : Sl RInts 1 w (.slice a m c) q) (i : Nat) (hi : i < q.length) :
    ∃ b o sv sc, a = some ⟨b, o, none⟩ ∧ w.cell? ⟨b, o + i, none⟩ = some (.slice sv q[i]!.length sc) ∧ Ints w (.slice sv q[i]!.length sc) q[i]! := by
  obtain ⟨b, o, sv, h1, h2, h3⟩ := stamp_at' h i hi
  obtain ⟨x, c, rfl, _⟩ := id h3
  exact ⟨b, o, x, c, h1, h2, h3⟩

end Go.Proofs.YtfcpnggdpaeldaaGreat
