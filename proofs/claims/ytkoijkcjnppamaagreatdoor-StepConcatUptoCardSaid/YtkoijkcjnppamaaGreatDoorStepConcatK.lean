/- StepConcat's card of the second form. Condition: what it reads is of bulk at most 1048576. -/
import Derived.Test.YtkoijkcjnppamaaGreatDoorStepConcatC
/- StepConcat: the card. -/
namespace Go.Proofs.YtkoijkcjnppamaaGreatDoor.StepConcat
open Go Go.ChangeShapes Go.WideShapes Go.ChangeAt Go.RowKit
set_option maxRecDepth 100000
set_option linter.unusedVariables false

theorem plain (f : FuncId) (fn : Func) (hf : Tryz.pinned.checked.prog.funcNamed "shipwright/shipwrightlaw7.StepConcat" = some f) (hfn : Tryz.pinned.checked.prog.funcs[f]? = some fn) :
    true = Tryz.pinned.checked.prog.looks [] ∧ ∀ (j : Nat) t, fn.params[j]? = some t → Tryz.pinned.checked.prog.wantsStandIn t = false := by
  obtain rfl : f = 11 := Option.some.inj ((show Tryz.prog.funcNamed "shipwright/shipwrightlaw7.StepConcat" = some 11 by kernel_rfl).symm.trans hf) |>.symm
  obtain rfl : fn = Tryz.f11 := (Option.some.inj (Tryz.func11.symm.trans hfn)).symm
  refine ⟨j_looks, fun j t ht => ?_⟩
  rw [Tryz.params11] at ht
  have hm : t ∈ ([9, 9, 9] : List Nat) := by simpa using Array.mem_of_getElem? ht
  have hall : (([9, 9, 9] : List Nat).all fun t => Bool.not (Tryz.prog.wantsStandIn t)) = true := by kernel_rfl
  have := List.all_eq_true.1 hall t hm
  exact (Bool.not_eq_true' _).mp this

theorem card : Rows.StepConcatUptoCardSaid :=
  Claim7.holds_tied_plain_at .later [] _ _ _ _ said (fun _ h => by cases h) (by as_aux_lemma => kernel_rfl) (fun _ h => by cases h) stepConcatUpto_row_tie rfl ⟨rfl, rfl⟩ (by as_aux_lemma => kernel_rfl) rfl plain (by as_aux_lemma => kernel_rfl)

end Go.Proofs.YtkoijkcjnppamaaGreatDoor.StepConcat
