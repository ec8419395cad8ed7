/- Parts of the proof. -/
import Derived.Stop.Joined
import Derived.SevenTiedAt
import Derived.Test.YtjilaaoaebglbaaGreatDoorA34
set_option linter.unusedVariables false
set_option linter.unusedSimpArgs false
set_option linter.unnecessarySimpa false
set_option linter.unusedSectionVars false
section
set_option maxRecDepth 1000000
namespace Go.Am
open Go Go.Proofs Go.RowKit Go.Proofs.YtjilaaoaebglbaaGreatDoor Go.ChangeShapes Go.WideShapes Go.ChangeAt
theorem free_lifted (os : Os) (started : os.Started) (H : Type) (enc : TypeId × Value → H) (F : Stop.Interp) :
    ReturnsInHanded {} Tryz.checked os 6 .any ((Rows.OpenSpec.upto Rows.claimFreeSpec).preRow enc Tryz.prog Tryz.f6 Rows.claimFreeUptoRow.domain false laidS) (((Rows.OpenSpec.upto Rows.claimFreeSpec).at F).post enc Tryz.prog Tryz.f6 false true false false) := by
  refine returnsInHanded_of_row (C := Tryz.checked) (s := Rows.OpenSpec.upto Rows.claimFreeSpec) own_none started (by kernel_rfl) Tryz.func6 (free_witness os enc) ?_
  intro W base args ds gs before hval hW _ hcond _ hL _ _
  exact free_contract H enc F W base args ds gs before hval hW (hcond _ rfl) hL
end Go.Am
end
