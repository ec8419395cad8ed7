/- Parts of the proof. -/
import Derived.Test.YtjilaaoaebglbaaGreatDoorCards
import Derived.ProofKit
import Derived.OpenShut
import Derived.Stop.Joined
import Derived.JoinedCond
import Derived.SevenTiedAt
set_option linter.unusedVariables false
set_option linter.unusedSimpArgs false
set_option linter.unnecessarySimpa false
set_option linter.unusedSectionVars false
section
set_option maxRecDepth 1000000
namespace Go.Am
open Go Go.Proofs Go.RowKit Go.Proofs.YtjilaaoaebglbaaGreatDoor Go.ChangeShapes Go.WideShapes Go.ChangeAt
theorem fr_text : Rows.claimFreeUptoRow.wfByText (Rows.OpenSpec.upto Rows.claimFreeSpec) = true := by kernel_rfl
theorem fr_main : Tryz.prog.mainIs = some (true, "72e93e87ee8499ba8651b3aedd998e33a401a45855a3730b7cc5859e7edf3b75".toList) := by kernel_rfl
end Go.Am
end
