/- Parts of the proof. -/
import Derived.Test.YtjilaaoaebglbaaGreatDoorCards
import Derived.ProofKit
import Derived.OpenShut
import Derived.Stop.Joined
import Derived.JoinedCond
set_option linter.unusedVariables false
set_option linter.unusedSimpArgs false
set_option linter.unnecessarySimpa false
set_option linter.unusedSectionVars false
section
set_option maxRecDepth 1000000
namespace Go.Am
open Go Go.Proofs Go.RowKit Go.Proofs.YtjilaaoaebglbaaGreatDoor Go.ChangeShapes Go.WideShapes Go.ChangeAt
theorem fr_c12 : ((Rows.claimFreeUptoRow.named == Tryz.prog.varsNamed 6)) = true := by kernel_rfl
end Go.Am
end
