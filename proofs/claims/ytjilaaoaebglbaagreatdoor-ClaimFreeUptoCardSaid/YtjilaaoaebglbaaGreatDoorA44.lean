/- Parts of the proof. -/
import Derived.Stop.Joined
import Derived.SevenTiedAt
import Derived.Test.YtjilaaoaebglbaaGreatDoorA35
import Derived.Test.YtjilaaoaebglbaaGreatDoorA36
import Derived.Test.YtjilaaoaebglbaaGreatDoorA37
import Derived.Test.YtjilaaoaebglbaaGreatDoorA38
import Derived.Test.YtjilaaoaebglbaaGreatDoorA39
import Derived.Test.YtjilaaoaebglbaaGreatDoorA40
import Derived.Test.YtjilaaoaebglbaaGreatDoorA41
import Derived.Test.YtjilaaoaebglbaaGreatDoorA42
import Derived.Test.YtjilaaoaebglbaaGreatDoorA43
set_option linter.unusedVariables false
set_option linter.unusedSimpArgs false
set_option linter.unnecessarySimpa false
set_option linter.unusedSectionVars false
section
set_option maxRecDepth 1000000
namespace Go.Am
open Go Go.Proofs Go.RowKit Go.Proofs.YtjilaaoaebglbaaGreatDoor Go.ChangeShapes Go.WideShapes Go.ChangeAt
theorem bt {a b : Bool} (h : a = true) (k : b = true) : (a && b) = true := by rw [h, k]; rfl
theorem joined_of {P : Program} {f : FuncId} {fn : Func} {s : ChangeSpec} {c : OpenClaim} (k0 : (c.wf (OpenSpec.ofChange s)) = true) (k1 : (laidOutB P) = true) (k2 : (mapsRowed P) = true) (k3 : (fn.params.all (P.readableRec ·)) = true) (k4 : (namedTie P c.named s.vars) = true) (k5 : ((c.stops == [])) = true) (k6 : ((P.stops == [])) = true) (k7 : ((c.knobs == [])) = true) (k8 : ((P.stopKnobs == [])) = true) (k9 : ((c.inPlace == P.inPlace f)) = true) (k10 : ((c.unfollowed == P.unfollowed f)) = true) (k11 : ((c.recurses == P.recurses f)) = true) (k12 : ((c.named == P.varsNamed f)) = true) (k13 : ((c.maps == (fn.params.toList ++ s.plain.varTypes P).any (P.mapsRec ·))) = true) (k14 : ((c.ifaces == (fn.params.toList ++ s.plain.varTypes P).any (P.ifacesRec ·))) = true) (k15 : ((c.mapsOut == P.mapsAmong fn.resultTypes.toList)) = true) (k16 : ((c.loops == (fn.params.toList ++ s.plain.varTypes P).any (P.loopsFrom ·))) = true) (k17 : ((c.wideKeys == (fn.params.toList ++ s.plain.varTypes P ++ fn.resultTypes.toList).any (P.wideKeysFrom ·))) = true) (k18 : (s.vars.all (P.varReadable ·)) = true) (k19 : (fn.resultTypes.all (fun t => P.readableRec t && decide (t < P.types.size))) = true) (k20 : ((c.ifacesOut == fn.resultTypes.toList.any (P.ifacesRec ·))) = true) (k21 : ((c.loopsOut == fn.resultTypes.toList.any (P.loopsFrom ·))) = true) (k22 : ((c.plainKeys == P.plainKeys)) = true) (k23 : (c.shortTexts.isNone) = true) (k24 : (P.stopsHeard) = true) (k25 : (P.mayEnter) = true) (k26 : ((c.lifted == P.liftsFinal)) = true) (k27 : ((P.make == some c.make)) = true) (k28 : ((c.kinds == (if c.domain.isEmpty then [] else fn.params.toList.map fun t => match P.underlying t with | some (.int k) => some k | _ => none))) = true) (k29 : ((c.pinned == c.pinnedBy)) = true) (k30 : ((c.veiled == (fn.params.toList ++ s.plain.varTypes P ++ fn.resultTypes.toList).any (P.veiledRec ·))) = true) (k31 : (c.veiledFits P fn.params.toList (fn.params.toList ++ s.plain.varTypes P ++ fn.resultTypes.toList)) = true) : joinedFacts P f fn s c = true := by
  unfold joinedFacts
  exact bt (bt (bt (bt (bt (bt (bt (bt (bt (bt (bt (bt (bt (bt (bt (bt (bt (bt (bt (bt (bt (bt (bt (bt (bt (bt (bt (bt (bt (bt (bt k0 k1) k2) k3) k4) k5) k6) k7) k8) k9) k10) k11) k12) k13) k14) k15) k16) k17) k18) k19) k20) k21) k22) k23) k24) k25) k26) k27) k28) k29) k30) k31
theorem fr_closed : joinedFacts Tryz.prog 6 Tryz.f6 (Rows.OpenSpec.upto Rows.claimFreeSpec).bare Rows.claimFreeUptoRow = true := joined_of fr_c0 laid_out fr_c2 fr_c3 fr_c4 fr_c5 fr_c6 fr_c7 fr_c8 fr_c9 fr_c10 fr_c11 fr_c12 fr_c13 fr_c14 fr_c15 fr_c16 fr_c17 fr_c18 fr_c19 fr_c20 fr_c21 fr_c22 fr_c23 fr_c24 fr_c25 fr_c26 fr_c27 fr_c28 fr_c29 fr_c30 fr_c31
end Go.Am
end
