/- Parts of the proof. -/
import Derived.Test.YtjilaaoaebglbaaGreatDoorA29
import Derived.Test.YtjilaaoaebglbaaGreatDoorA26
set_option linter.unusedVariables false
set_option linter.unusedSimpArgs false
set_option linter.unnecessarySimpa false
set_option linter.unusedSectionVars false
section
set_option maxHeartbeats 16000000
namespace Go.Am
open Go Go.Nt
variable {c : Cl} {nm : List UInt8}
theorem closed_claim2 (c : Cl) (nm : List UInt8) : closedL [.agg c.cells, .str nm] = true := by
  have := closed_claim c
  simp [closedL] at this ⊢
  exact ⟨this, by simp [closedV]⟩
theorem lawFree_at : At E0 id_law06_ClaimFree fn_law06_ClaimFree := ⟨rfl, rfl, by kernel_rfl⟩
theorem lawFree_val (hc : c.ok) : Val E0 id_law06_ClaimFree [.agg c.cells, .str nm] (.bool true) := by
  have fc := fun H nx fz R => wpA_iff (H := H) (nx := nx) (fz := fz) (R := R) (free_val (nm := nm) libP hc) (closed_claim2 c nm)
  have rc := fun H nx fz R => wpA_iff (H := H) (nx := nx) (fz := fz) (R := R) (rfreeT_val (nm := nm) libRP hc) (closed_claim2 c nm)
  have sc := fun H nx fz R => wpA_iff (H := H) (nx := nx) (fz := fz) (R := R) sane_val rfl
  change ∀ H nx fz R, wpA E0 id_law06_sane [] H nx fz R ↔ R ⟨.ret (.bool true), H, nx, fz, false⟩ at sc
  obtain ⟨b, w, hf⟩ : ∃ b w, freeV c nm = .tuple [.bool b, .int .i64 w] := by
    unfold freeV; split <;> exact ⟨_, _, rfl⟩
  rw [hf] at fc rc
  obtain ⟨o, a, bb, u, v, s, k, cs, _, h⟩ := c.cells_form
  rw [h] at fc rc ⊢
  refine val_fn lawFree_at rfl (by simp) fun T hN hA => ?_
  have h0 := hA 0 _ rfl
  have h1 := hA 1 _ rfl
  simp [go_sem, h0, h1, hN, fc, rc, sc]
end Go.Am
end
