/- The closed facts of the row and the card of TopSpoolsRecover. No condition. -/
import Derived.Test.YtndjhcmgngnfbaaGreatDoorCards
import Derived.JoinedOf
import Derived.JoinedCond
import Derived.SevenTiedAt
import Derived.Test.YtndjhcmgngnfbaaGreatDoorGoes
import Derived.KernelRfl
set_option linter.unusedSimpArgs false
set_option linter.unusedVariables false
set_option linter.all false
namespace Go.Proofs.YtndjhcmgngnfbaaGreatDoor
open Go
namespace TopRow
set_option maxHeartbeats 4000000
theorem closed : joinedFacts Tryz.pinned.checked.prog 3 Tryz.f3 (OpenSpec.ofChange Rows.topSpoolsRecoverSpec).bare Rows.topSpoolsRecoverRow = true := by
  unfold joinedFacts
  simp only [Bool.and_eq_true]
  repeat' apply And.intro
  all_goals as_aux_lemma => kernel_rfl
theorem wrapper : Tryz.f3.isWrapper Tryz.pinned.checked.prog Rows.topSpoolsRecoverRow.wrapper Rows.topSpoolsRecoverRow.mainSum := by
  unfold Func.isWrapper
  first | (rw [if_pos (by decide +kernel)]; kernel_rfl) | (rw [if_neg (by decide +kernel)]; exact ⟨rfl, rfl⟩)
theorem inst : Tryz.f3.isInstance Tryz.pinned.checked.prog Rows.topSpoolsRecoverRow.origin Rows.topSpoolsRecoverRow.targs := of_decide_eq_true (by kernel_rfl)
theorem funcAt : Tryz.pinned.checked.prog.funcNamed Rows.topSpoolsRecoverRow.func = some 3 := by kernel_rfl
theorem mainAt : Tryz.pinned.checked.prog.mainIs = some (Rows.topSpoolsRecoverCard.stood.harness.1, Rows.topSpoolsRecoverCard.stood.harness.2.toList) := by kernel_rfl
theorem byText : Rows.topSpoolsRecoverRow.wfByText (OpenSpec.ofChange Rows.topSpoolsRecoverSpec) = true := by kernel_rfl
/-- No parameter wants a stand-in; the program's own looks are as the card has them. -/
theorem plain (f : FuncId) (fn : Func) (hf : Tryz.pinned.checked.prog.funcNamed "sixdot/sixdottop.TopSpoolsRecover" = some f) (hfn : Tryz.pinned.checked.prog.funcs[f]? = some fn) :
    true = Tryz.pinned.checked.prog.looks [] ∧ ∀ (j : Nat) t, fn.params[j]? = some t → Tryz.pinned.checked.prog.wantsStandIn t = false := by
  obtain rfl : f = 3 := Option.some.inj ((show Tryz.prog.funcNamed "sixdot/sixdottop.TopSpoolsRecover" = some 3 by kernel_rfl).symm.trans hf) |>.symm
  obtain rfl : fn = Tryz.f3 := (Option.some.inj (Tryz.func3.symm.trans hfn)).symm
  refine ⟨by kernel_rfl, fun j t ht => ?_⟩
  rw [Tryz.params3] at ht
  have hm : t ∈ [24, 25] := by simpa using Array.mem_of_getElem? ht
  have hall : ([24, 25].all fun u => !Tryz.prog.wantsStandIn u) = true := by kernel_rfl
  exact (show Tryz.prog.wantsStandIn t = false by simpa using List.all_eq_true.1 hall t hm)
end TopRow
end Go.Proofs.YtndjhcmgngnfbaaGreatDoor
