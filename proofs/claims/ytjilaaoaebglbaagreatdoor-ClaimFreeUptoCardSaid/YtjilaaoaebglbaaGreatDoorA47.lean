/- Parts of the proof. -/
import Derived.Test.YtjilaaoaebglbaaGreatDoorCards
import Derived.ProofKit
import Derived.OpenShut
import Derived.Stop.Joined
import Derived.JoinedCond
import Derived.SevenTiedAt
set_option linter.unusedVariables false
set_option linter.unusedSimpArgs false
set_option linter.unnecessarySimpa false
set_option linter.unusedSectionVars false
section
set_option maxRecDepth 1000000
namespace Go.Am
open Go Go.Proofs Go.RowKit Go.Proofs.YtjilaaoaebglbaaGreatDoor Go.ChangeShapes Go.WideShapes Go.ChangeAt
theorem fr_looks : true = Tryz.prog.looks [] := by kernel_rfl
theorem fr_stand : ([31, 9].all fun u => !Tryz.prog.wantsStandIn u) = true := by kernel_rfl
end Go.Am
end
