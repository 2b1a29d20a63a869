/-
  A call within a region that draws its order, where the call is guarded and wanted. No program is named here.
-/
import Derived.Test.YtodkcfebcjgahaaStep
namespace Go.Proofs.Ytodkcfebcjgahaa
open Go.RowKit
set_option linter.unusedVariables false

theorem step_callW {P : Program} {ops : Array Oper} {o : Oper} {a : Act} {w : World} {K : Act → World → Prop} {Q : Exit → Act → World → Prop} {E : Prop}
    (hw : Region.wanted o (yielded ops a.tmps) = true) (f : FuncId) (args : Array Operand) (tys : Array TypeId) (ho : o.op = .call { callee := .value (.func f), args := args, argTypes := tys })
    (eg : ∀ args w, (callFunc f args).run P w = .ok (.enter f args) w) (vals : List Value) (hv : args.toList.map a.eval = vals) {R : Ending → World → Prop} (hc : Calls P f vals.toArray w R)
    (hK : ∀ e w', R e w' → ∃ v, e = .returned v ∧ K (a.put o.dst v) w') :
    if Region.wanted o (yielded ops a.tmps) = true then Oper.wp P o a w K Q else E := by
  rw [if_pos hw]
  have hr : (execOp a.eval o).run P w = .ok (.enter f vals.toArray) w := by
    have hv' : args.map a.eval = vals.toArray := by rw [← hv]; cases args; simp
    have he : a.eval (.func f) = .func (.func f) #[] #[] := rfl
    unfold execOp
    simp only [ho, resolve, he, Deferred.ofValue, Sem.run_bind, Sem.run_pure, Result.andThen_ok, invoke, Array.append_empty, hv']
    simp [eg]
  unfold Oper.wp
  rw [hr, Oper.upon_enter]
  refine hc.mono fun e w' h => ?_
  obtain ⟨v, rfl, hk⟩ := hK e w' h
  exact hk

end Go.Proofs.Ytodkcfebcjgahaa
