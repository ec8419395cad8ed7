/- Parts of the proof. -/
import Derived.Test.YtjilaaoaebglbaaGreatDoorCards
import Derived.SevenTiedAt
set_option linter.unusedVariables false
set_option linter.unusedSimpArgs false
set_option linter.unnecessarySimpa false
set_option linter.unusedSectionVars false
section
set_option maxRecDepth 1000000
namespace Go.Am
open Go Go.Proofs Go.Proofs.YtjilaaoaebglbaaGreatDoor
theorem no_goes {P : Program} (h : (P.funcs.all fun fn => !fn.goes) = true) (f : FuncId) : P.goes f = false := by
  have h1 : ∀ fn, fn ∈ P.funcs → fn.goes = false := fun fn hf => by simpa using Array.all_eq_true_iff_forall_mem.1 h fn hf
  unfold Program.goes
  rw [Bool.or_eq_false_iff]
  constructor
  · rw [List.any_eq_false]
    intro g _
    cases hg : P.funcs[g]? with
    | none => simp
    | some fn => simpa using h1 fn (Array.mem_of_getElem? hg)
  · rw [Bool.and_eq_false_iff]
    right
    rw [Array.any_eq_false]
    intro i hi
    simpa using h1 _ (Array.getElem_mem hi)
theorem goes_by {P : Program} {c : OpenClaim} (h : (P.funcs.all fun fn => !fn.goes) = true) (hs : c.start = .entering) : false = c.goesBy P := by
  unfold OpenClaim.goesBy Program.goesAt Program.goesFrom
  rw [hs]
  cases hf : P.funcNamed c.func with
  | none => rfl
  | some f => simp [no_goes h]
theorem none_goes : (Tryz.prog.funcs.all fun fn => !fn.goes) = true := by kernel_rfl
end Go.Am
end
