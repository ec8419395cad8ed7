/- Parts of the proof. -/
import Derived.Test.YtjilaaoaebglbaaGreatDoorCards
import Derived.ProofKit
import Derived.OpenShut
import Derived.Stop.Joined
import Derived.JoinedCond
import Derived.SevenTiedAt
set_option linter.unusedVariables false
set_option linter.unusedSimpArgs false
set_option linter.unnecessarySimpa false
set_option linter.unusedSectionVars false
section
set_option maxRecDepth 1000000
namespace Go.Am
open Go Go.Proofs Go.RowKit Go.Proofs.YtjilaaoaebglbaaGreatDoor Go.ChangeShapes Go.WideShapes Go.ChangeAt
theorem fr_named : Tryz.prog.funcNamed Rows.claimFreeUptoRow.func = some 6 := by kernel_rfl
theorem fr_inst : Tryz.f6.isInstance Tryz.prog Rows.claimFreeUptoRow.origin Rows.claimFreeUptoRow.targs := of_decide_eq_true (by kernel_rfl)
theorem fr_wrap : Tryz.f6.isWrapper Tryz.prog Rows.claimFreeUptoRow.wrapper Rows.claimFreeUptoRow.mainSum := by unfold Func.isWrapper; first | (rw [if_pos (by decide +kernel)]; kernel_rfl) | (rw [if_neg (by decide +kernel)]; exact ⟨rfl, rfl⟩)
end Go.Am
end
