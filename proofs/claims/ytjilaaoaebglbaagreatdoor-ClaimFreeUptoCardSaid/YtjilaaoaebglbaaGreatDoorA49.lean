/- Parts of the proof. -/
import Derived.Test.YtjilaaoaebglbaaGreatDoorA44
import Derived.Test.YtjilaaoaebglbaaGreatDoorA45
import Derived.Test.YtjilaaoaebglbaaGreatDoorA46
import Derived.Test.YtjilaaoaebglbaaGreatDoorA47
import Derived.Test.YtjilaaoaebglbaaGreatDoorA48
set_option linter.unusedVariables false
set_option linter.unusedSimpArgs false
set_option linter.unnecessarySimpa false
set_option linter.unusedSectionVars false
section
set_option maxRecDepth 1000000
namespace Go.Am
open Go Go.Proofs Go.RowKit Go.Proofs.YtjilaaoaebglbaaGreatDoor Go.ChangeShapes Go.WideShapes Go.ChangeAt
theorem free_said : Rows.ClaimFreeUptoSaid :=
  OpenClaim.holds_of_cond 6 Tryz.f6 rfl rfl rfl rfl rfl rfl rfl ⟨rfl, rfl, rfl, rfl, rfl⟩ rfl rfl rfl rfl rfl fr_named Tryz.func6 fr_closed fr_inst fr_wrap
    (fun os started H enc _ F => by rw [OpenClaim.pre_eq_preRow]; exact free_lifted os started H enc F)
theorem free_plain (f : FuncId) (fn : Func) (hf : Tryz.prog.funcNamed Rows.claimFreeUptoRow.func = some f) (hfn : Tryz.prog.funcs[f]? = some fn) :
    true = Tryz.prog.looks [] ∧ ∀ (j : Nat) t, fn.params[j]? = some t → Tryz.prog.wantsStandIn t = false := by
  obtain rfl : f = 6 := Option.some.inj (fr_named.symm.trans hf) |>.symm
  obtain rfl : fn = Tryz.f6 := (Option.some.inj (Tryz.func6.symm.trans hfn)).symm
  refine ⟨fr_looks, fun j t ht => ?_⟩
  rw [Tryz.params6] at ht
  have hm : t ∈ [31, 9] := by simpa using Array.mem_of_getElem? ht
  simpa using List.all_eq_true.1 fr_stand t hm
theorem free_card : Rows.ClaimFreeUptoCardSaid :=
  Claim7.holds_tied_plain_at .later [] _ _ _ _ free_said (fun _ h => by cases h) fr_text (fun _ h => by cases h) claimFreeUpto_row_tie rfl ⟨rfl, rfl⟩ fr_main rfl free_plain (goes_by none_goes rfl)
end Go.Am
end
