/- A closed fact of the row of TopSpoolsRecover: what it reaches starts no goroutine. No condition. -/
import Derived.Test.YtndjhcmgngnfbaaGreatDoorCards
import Derived.KernelRfl
set_option linter.unusedSimpArgs false
set_option linter.unusedVariables false
set_option linter.all false
namespace Go.Proofs.YtndjhcmgngnfbaaGreatDoor
open Go
namespace TopRow
theorem noGo : Tryz.pinned.checked.prog.funcs.any Func.goes = false := by kernel_rfl
theorem goes_false {P : Program} (h : P.funcs.any Func.goes = false) (f : FuncId) : P.goes f = false := by
  unfold Program.goes
  rw [h, Bool.and_false, Bool.or_false]
  rw [Bool.eq_false_iff]
  intro hc
  rw [List.any_eq_true] at hc
  obtain ⟨g, _, hg⟩ := hc
  cases hf : P.funcs[g]? with
  | none => rw [hf] at hg; cases hg
  | some fn =>
    rw [hf] at hg
    have hm : fn.goes = true := hg
    have : P.funcs.any Func.goes = true := by
      rw [Array.any_eq_true]
      obtain ⟨hlt, he⟩ := Array.getElem?_eq_some_iff.1 hf
      exact ⟨g, hlt, by rw [he]; exact hm⟩
    rw [h] at this
    cases this
theorem goes : false = Rows.topSpoolsRecoverRow.goesBy Tryz.pinned.checked.prog := by
  unfold OpenClaim.goesBy Program.goesAt Program.goesFrom
  cases hf : Tryz.pinned.checked.prog.funcNamed Rows.topSpoolsRecoverRow.func with
  | none => rfl
  | some f => rw [Option.any_some, goes_false noGo f]; rfl
end TopRow
end Go.Proofs.YtndjhcmgngnfbaaGreatDoor
