/- Parts of the proof. -/
import Derived.KernelRfl
import Derived.Test.YtjilaaoaebglbaaGreatDoorA24
set_option linter.unusedVariables false
set_option linter.unusedSimpArgs false
set_option linter.unnecessarySimpa false
set_option linter.unusedSectionVars false
section
namespace Go.Am
open Go Go.Proofs
def saneIs (o : Option Back) : Bool := match o with
  | some b => (match b.res with
    | .ret v => (match frz b.H (depthOf b.nx) v with
      | some (.bool true) => true
      | _ => false)
    | _ => false)
  | none => false
def pureFn (o : Option AFn) : Bool := match o with
  | some fn => !fn.heap
  | none => false
theorem val_true {E : Env} {k : Nat} {f : FuncId} {a : List AV} (h0 : E.hprim f = none) (h1 : E.prim f = none) (hc : pureFn (E.code f) = true) (h : saneIs (fnF E k f a [] 0 [] none) = true) : Val E f a (.bool true) := by
  rw [fnF_eq] at h
  unfold saneIs at h
  cases hb : evalFn E k f a [] 0 [] none with
  | none => rw [hb] at h; cases h
  | some b =>
    rw [hb] at h
    simp only at h
    cases hr : b.res with
    | panic v => rw [hr] at h; cases h
    | ret v =>
      rw [hr] at h
      simp only at h
      cases hcd : E.code f with
      | none => rw [hcd] at hc; cases hc
      | some fn =>
        rw [hcd] at hc
        have hc : fn.heap = false := by simpa [pureFn] using hc
        split at h
        · rename_i hv
          exact val_once h0 h1 hcd hc hb hr hv
        · cases h
set_option maxRecDepth 1000000 in
theorem code14 : pureFn (E0.code 14) = true := by kernel_rfl
set_option maxRecDepth 1000000 in
theorem sane_runs : saneIs (fnF E0 400 14 [] [] 0 [] none) = true := by kernel_rfl
theorem hprim14 : E0.hprim 14 = none := rfl
theorem prim14 : E0.prim 14 = none := rfl
theorem sane_val : Val E0 14 [] (.bool true) := val_true hprim14 prim14 code14 sane_runs
end Go.Am
end
