/- Parts of the proof. -/
import Derived.Stop.Joined
import Derived.SevenTiedAt
import Derived.Test.YtjilaaoaebglbaaGreatDoorA33
set_option linter.unusedVariables false
set_option linter.unusedSimpArgs false
set_option linter.unnecessarySimpa false
set_option linter.unusedSectionVars false
section
set_option maxRecDepth 1000000
namespace Go.Am
open Go Go.Proofs Go.RowKit Go.Proofs.YtjilaaoaebglbaaGreatDoor Go.ChangeShapes Go.WideShapes Go.ChangeAt
noncomputable def laidW (os : Os) : World := World.laidAll Tryz.prog os laidS
noncomputable def wArgs : Array Value := #[.agg #[.int .i64 0, .int .i64 0, .bool false, .slice none 0 0, .slice none 0 0, .string .empty, .slice none 0 0, .bool false, .slice none 0 0, .slice none 0 0], .string .empty]
theorem laidW_met (os : Os) (args : Array Value) : laidMetH Tryz.prog laidS ((laidW os).forCall (fun _ _ => 0) ⟨#[], args, []⟩).memory := by
  rw [MakeChecks.laidMetH_plain _ _ _ (by kernel_rfl)]
  exact laidMet_laidAll _ (by kernel_rfl) (by kernel_rfl)
theorem laidW_shaped (os : Os) : ((laidW os).forCall (fun _ _ => 0) ⟨#[], wArgs, []⟩).Shaped Tryz.prog := World.shaped_of_ZipB (by kernel_rfl) (by kernel_rfl)
theorem laidW_reads (os : Os) {H : Type} (enc : TypeId × Value → H) : DataW.whole enc Tryz.prog ((laidW os).forCall (fun _ _ => 0) ⟨#[], wArgs, []⟩).memory Tryz.f6.params.toList [] false wArgs.toList 8 =
    some ([.agg [.agg [.lit (.int .i64 0), .lit (.int .i64 0), .agg [.lit (.bool false), .nil, .nil], .lit (.string []), .nil], .lit (.bool false), .nil, .nil], .lit (.string [])], [], []) := by kernel_rfl
theorem free_witness (os : Os) {H : Type} (enc : TypeId × Value → H) : ∃ (w : World) (tape : Tape) (i : Input), w.os = os ∧ (w.forCall tape i).Shaped Tryz.prog ∧ i.vars = [] ∧ Input.okWide Tryz.prog (w.forCall tape i) .any w.heap.size 6 i ∧
    (Rows.OpenSpec.upto Rows.claimFreeSpec).preRow enc Tryz.prog Tryz.f6 Rows.claimFreeUptoRow.domain false laidS (w.forCall tape i).memory i.args ∧ ({ modest := false } : Assume).holds Tryz.prog (lone (Frame.enter Tryz.prog 6 i.args .normal) [] (w.forCall tape i)) := by
  have hok : Input.okWideB Tryz.prog ((laidW os).forCall (fun _ _ => 0) ⟨#[], wArgs, []⟩) 6 ⟨#[], wArgs, []⟩ = true := by kernel_rfl
  refine ⟨laidW os, fun _ _ => 0, ⟨#[], wArgs, []⟩, World.laidAll_os _ _ _, laidW_shaped os, (Input.okWide_of_okWideB (base := 0) hok).1, (Input.okWide_of_okWideB hok).2, ?_, ?_⟩
  · exact OpenSpec.preRow_of_cond 8 (laidW_reads os enc) (by kernel_rfl) (fun k hk => by cases hk; kernel_rfl) (by kernel_rfl) (laidW_met os wArgs)
  · simp [Assume.holds]
end Go.Am
end
