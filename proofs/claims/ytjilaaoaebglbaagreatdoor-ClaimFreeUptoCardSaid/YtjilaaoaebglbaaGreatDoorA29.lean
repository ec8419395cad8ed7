/- Parts of the proof. -/
import Derived.Test.YtjilaaoaebglbaaGreatDoorA06
import Derived.Test.YtjilaaoaebglbaaGreatDoorA05
set_option linter.unusedVariables false
set_option linter.unusedSimpArgs false
set_option linter.unnecessarySimpa false
set_option linter.unusedSectionVars false
section
set_option maxRecDepth 4000
namespace Go.Am
open Go
abbrev id_law06_ClaimFree : FuncId := 6
abbrev id_law06_sane : FuncId := 14
def fn_law06_ClaimFree : AFn := ⟨32, [.tmp 4], false,
  .seq (.region [⟨some 2, none, .box 31 10 (.tmp 0)⟩,
    ⟨some 4, none, .mov (.const (.bool false))⟩] none) <|
  .seq (.region [⟨some 10, none, .load true 10 (.tmp 2)⟩,
    ⟨some 11, none, .mov (.tmp 1)⟩,
    ⟨some 12, none, .callf id_claim_Free [.tmp 10, .tmp 11]⟩,
    ⟨some 9, none, .mov (.tmp 12)⟩,
    ⟨some 13, none, .extract (.tmp 9) 0⟩,
    ⟨some 14, none, .extract (.tmp 9) 1⟩,
    ⟨some 5, none, .mov (.tmp 13)⟩,
    ⟨some 6, none, .mov (.tmp 14)⟩] none) <|
  .seq (.region [⟨some 16, none, .load true 10 (.tmp 2)⟩,
    ⟨some 17, none, .mov (.tmp 1)⟩,
    ⟨some 18, none, .callf id_ref06_Free [.tmp 16, .tmp 17]⟩,
    ⟨some 15, none, .mov (.tmp 18)⟩,
    ⟨some 19, none, .extract (.tmp 15) 0⟩,
    ⟨some 20, none, .extract (.tmp 15) 1⟩,
    ⟨some 7, none, .mov (.tmp 19)⟩,
    ⟨some 8, none, .mov (.tmp 20)⟩] none) <|
  .seq (.region [⟨some 21, none, .mov (.tmp 5)⟩,
    ⟨some 22, none, .mov (.tmp 7)⟩,
    ⟨some 23, none, .eqbool false (.tmp 21) (.tmp 22)⟩,
    ⟨some 24, none, .mov (.tmp 23)⟩,
    ⟨some 25, some (24, true), .mov (.tmp 6)⟩,
    ⟨some 26, some (24, true), .mov (.tmp 8)⟩,
    ⟨some 27, some (24, true), .bin .eql (.tmp 25) (.tmp 26)⟩,
    ⟨some 28, none, .pick (.tmp 24) (.tmp 27) (.const (.bool false))⟩,
    ⟨some 29, none, .mov (.tmp 28)⟩,
    ⟨some 30, some (29, true), .callf id_law06_sane []⟩,
    ⟨some 31, none, .pick (.tmp 29) (.tmp 30) (.const (.bool false))⟩,
    ⟨some 4, none, .mov (.tmp 31)⟩] none) <|
  .ret⟩
end Go.Am
end
