/- Parts of the proof. -/
import Derived.Test.YtjilaaoaebglbaaGreatDoorCards
import Derived.ProofKit
import Derived.OpenShut
import Derived.Stop.Joined
import Derived.JoinedCond
set_option linter.unusedVariables false
set_option linter.unusedSimpArgs false
set_option linter.unnecessarySimpa false
set_option linter.unusedSectionVars false
section
set_option maxRecDepth 1000000
namespace Go.Am
open Go Go.Proofs Go.RowKit Go.Proofs.YtjilaaoaebglbaaGreatDoor Go.ChangeShapes Go.WideShapes Go.ChangeAt
theorem fr_c0 : (Rows.claimFreeUptoRow.wf (OpenSpec.ofChange (Rows.OpenSpec.upto Rows.claimFreeSpec).bare)) = true := by kernel_rfl
theorem fr_c3 : (Tryz.f6.params.all (Tryz.prog.readableRec ·)) = true := by kernel_rfl
theorem fr_c4 : (namedTie Tryz.prog Rows.claimFreeUptoRow.named (Rows.OpenSpec.upto Rows.claimFreeSpec).bare.vars) = true := by kernel_rfl
theorem fr_c5 : ((Rows.claimFreeUptoRow.stops == [])) = true := by kernel_rfl
theorem fr_c6 : ((Tryz.prog.stops == [])) = true := by kernel_rfl
theorem fr_c7 : ((Rows.claimFreeUptoRow.knobs == [])) = true := by kernel_rfl
theorem fr_c8 : ((Tryz.prog.stopKnobs == [])) = true := by kernel_rfl
theorem fr_c13 : ((Rows.claimFreeUptoRow.maps == (Tryz.f6.params.toList ++ (Rows.OpenSpec.upto Rows.claimFreeSpec).bare.plain.varTypes Tryz.prog).any (Tryz.prog.mapsRec ·))) = true := by kernel_rfl
theorem fr_c14 : ((Rows.claimFreeUptoRow.ifaces == (Tryz.f6.params.toList ++ (Rows.OpenSpec.upto Rows.claimFreeSpec).bare.plain.varTypes Tryz.prog).any (Tryz.prog.ifacesRec ·))) = true := by kernel_rfl
theorem fr_c15 : ((Rows.claimFreeUptoRow.mapsOut == Tryz.prog.mapsAmong Tryz.f6.resultTypes.toList)) = true := by kernel_rfl
theorem fr_c16 : ((Rows.claimFreeUptoRow.loops == (Tryz.f6.params.toList ++ (Rows.OpenSpec.upto Rows.claimFreeSpec).bare.plain.varTypes Tryz.prog).any (Tryz.prog.loopsFrom ·))) = true := by kernel_rfl
theorem fr_c17 : ((Rows.claimFreeUptoRow.wideKeys == (Tryz.f6.params.toList ++ (Rows.OpenSpec.upto Rows.claimFreeSpec).bare.plain.varTypes Tryz.prog ++ Tryz.f6.resultTypes.toList).any (Tryz.prog.wideKeysFrom ·))) = true := by kernel_rfl
theorem fr_c18 : ((Rows.OpenSpec.upto Rows.claimFreeSpec).bare.vars.all (Tryz.prog.varReadable ·)) = true := by kernel_rfl
theorem fr_c19 : (Tryz.f6.resultTypes.all (fun t => Tryz.prog.readableRec t && decide (t < Tryz.prog.types.size))) = true := by kernel_rfl
theorem fr_c20 : ((Rows.claimFreeUptoRow.ifacesOut == Tryz.f6.resultTypes.toList.any (Tryz.prog.ifacesRec ·))) = true := by kernel_rfl
theorem fr_c21 : ((Rows.claimFreeUptoRow.loopsOut == Tryz.f6.resultTypes.toList.any (Tryz.prog.loopsFrom ·))) = true := by kernel_rfl
theorem fr_c23 : (Rows.claimFreeUptoRow.shortTexts.isNone) = true := by kernel_rfl
theorem fr_c28 : ((Rows.claimFreeUptoRow.kinds == (if Rows.claimFreeUptoRow.domain.isEmpty then [] else Tryz.f6.params.toList.map fun t => match Tryz.prog.underlying t with | some (.int k) => some k | _ => none))) = true := by kernel_rfl
theorem fr_c29 : ((Rows.claimFreeUptoRow.pinned == Rows.claimFreeUptoRow.pinnedBy)) = true := by kernel_rfl
theorem fr_c30 : ((Rows.claimFreeUptoRow.veiled == (Tryz.f6.params.toList ++ (Rows.OpenSpec.upto Rows.claimFreeSpec).bare.plain.varTypes Tryz.prog ++ Tryz.f6.resultTypes.toList).any (Tryz.prog.veiledRec ·))) = true := by kernel_rfl
theorem fr_c31 : (Rows.claimFreeUptoRow.veiledFits Tryz.prog Tryz.f6.params.toList (Tryz.f6.params.toList ++ (Rows.OpenSpec.upto Rows.claimFreeSpec).bare.plain.varTypes Tryz.prog ++ Tryz.f6.resultTypes.toList)) = true := by kernel_rfl
end Go.Am
end
