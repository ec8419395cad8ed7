/- Parts of the proof. -/
import Derived.Test.YtjilaaoaebglbaaGreatDoorCards
import Derived.Test.YtjilaaoaebglbaaGreatDoorTie
import Derived.ProofKit
import Derived.OpenShut
import Derived.Carry
import Derived.Lay
import Derived.Deep.DeepHandedRow
import Derived.Lib.LaidTab
import Derived.Test.YtjilaaoaebglbaaGreatDoorA31
import Derived.Test.YtjilaaoaebglbaaGreatDoorA32
set_option linter.unusedVariables false
set_option linter.unusedSimpArgs false
set_option linter.unnecessarySimpa false
set_option linter.unusedSectionVars false
section
set_option maxRecDepth 1000000
namespace Go.Am
open Go Go.Nt Go.Proofs Go.RowKit Go.Proofs.YtjilaaoaebglbaaGreatDoor Go.ChangeShapes Go.WideShapes Go.ChangeAt
open Go.ChangeMaps (open_string shut_string)
abbrev laidS : List (String × DataW Unit) := Rows.claimFreeUptoRow.laid
def tab32 : List Int := [0, 1, 28, 2, 29, 14, 24, 3, 30, 22, 20, 15, 25, 17, 4, 8, 31, 27, 13, 23, 21, 19, 16, 7, 26, 12, 18, 6, 11, 5, 10, 9]
theorem own_none : ownKnob Tryz.prog.godebug = none := by kernel_rfl
theorem gTab3 : Tryz.prog.globalNamed "math/bits.deBruijn32tab" = some 3 := by kernel_rfl
theorem gTab7 : Tryz.prog.globalNamed "math/bits.deBruijn64tab" = some 7 := by kernel_rfl
theorem gTabT3 : (Tryz.prog.globals[3]?).map (·.type) = some 402 := by kernel_rfl
theorem under402 : Tryz.prog.underlying 402 = some (.array 32 5) := by kernel_rfl
theorem cells402 : Tryz.prog.cellsOf 402 = 32 := by kernel_rfl
theorem cells5u : Tryz.prog.cellsOf 5 = 1 := by kernel_rfl
theorem laid_plain {W : World} (h : laidMetH Tryz.prog laidS W) : laidMet Tryz.prog laidS W := by rwa [MakeChecks.laidMetH_plain _ _ _ (by kernel_rfl)] at h
theorem glob_ok {W : World} (h : laidMetH Tryz.prog laidS W) : Glob E0 (allB W) W := by
  have hp := laid_plain h
  have hT : Lib.TabIs Tryz.prog W "math/bits.deBruijn32tab" .u8 tab32 := Lib.tabIs_of_head gTab3 gTabT3 under402 Tryz.underlying5 cells5u cells402 hp
  have h7 : 7 < W.heap.size := by
    obtain ⟨ps, ⟨g0, t0, cs0, f0, p0, q0, hg0, ht0, hv0, hd0, ⟨g1, t1, cs1, f1, p1, q1, hg1, ht1, hv1, hd1, _, _⟩, _⟩, _⟩ := hp
    obtain rfl := Option.some.inj (gTab7.symm.trans hg1)
    unfold World.var? at hv1
    rw [gTab7] at hv1
    simp only [Option.bind_eq_bind, Option.bind_some] at hv1
    cases hb : W.heap[7]? with
    | none => rw [hb] at hv1; simp at hv1
    | some o => exact (Array.getElem?_eq_some_iff.1 hb).1
  intro g cs hg
  have hg' : globS g = some cs := hg
  unfold globS at hg'
  split at hg'
  · rename_i e
    subst e
    cases hg'
    refine ⟨by show 3 < _; omega, ?_⟩
    refine srepC_of_cells (cs := tab32.map fun z => Value.int .u8 z) (by simp [ctzTab, tab32, srepL, srep]) (by simp [ctzTab, flatL, AV.flat]) fun j u hj => ?_
    have hj' : j < tab32.length := by simpa using (List.getElem?_eq_some_iff.1 hj).1
    have := hT.cell gTab3 j hj'
    rw [Nat.zero_add, this, ← hj, List.getElem?_map, List.getElem?_eq_getElem hj']
    simp [List.getD, hj']
  · split at hg'
    · cases hg'
      exact ⟨by show g < _; omega, by simp [srepC]⟩
    · cases hg'
def plainTs : List TypeId := [31, 27, 24, 22, 191, 25, 28, 41, 39, 29, 93, 3, 4, 9]
theorem plain_ts : plainT Tryz.prog plainTs = true := by kernel_rfl
section
variable {H : Type} {enc : TypeId × Value → H} {W : World} {base : Nat} {spare : Nat → Bool} {v : Value} {d : DataW H} {p : List MemPlace}
theorem claim_arg (hv : Value.okWide Tryz.prog W .any base 31 v) (h : DataW.Trod enc Tryz.prog W 0 spare true 31 v d p) (hb : Rows.uptoBulk d ≤ 1048576) : ∃ c : Cl, c.ok ∧ srep (allB W) W (.agg c.cells) v := by
  obtain ⟨cs, rfl, _⟩ := okWide_struct Tryz.underlying31 hv
  obtain ⟨fuel, hf⟩ := h
  obtain ⟨c, h1, h2⟩ := dec_cl (x := (d, p)) hf hb
  obtain ⟨h3, _, _⟩ := trod_srep plain_ts fuel 31 _ d p (by simp [plainTs]) hf
  simp only at h1
  rw [h1] at h3
  refine ⟨c, h2, ?_⟩
  simp only [srep]
  exact ⟨cs.toList, rfl, h3⟩
theorem string_arg (hv : Value.okWide Tryz.prog W .any base 9 v) (h : DataW.Trod enc Tryz.prog W 0 spare true 9 v d p) : ∃ s : List UInt8, srep (allB W) W (.str s) v := by
  obtain ⟨s, rfl, _⟩ := open_string Tryz.underlying9 hv h
  exact ⟨s.data.toList, by simp [srep]⟩
theorem claim_bulk {H : Type} {l : List (DataW H)} (h : Rows.uptoSmall H l = true) {d : DataW H} (hd : d ∈ l) : Rows.uptoBulk d ≤ 1048576 := by
  have h1 : Rows.uptoBulkAll l ≤ 1048576 := of_decide_eq_true h
  have h2 := bulk_mem hd
  omega
end
theorem laid_out : laidOutB Tryz.prog = true := by kernel_rfl
set_option maxHeartbeats 4000000 in
theorem free_contract (H : Type) (enc : TypeId × Value → H) (F : Stop.Interp) (W : World) (base : Nat) (args : Array Value) (ds gs : List (DataW H)) (before : List MemPlace)
    (hval0 : ∀ (j : Nat) t v, Tryz.f6.params[j]? = some t → args[j]? = some v → Value.okWide Tryz.prog W .any base t v)
    (hW : DataW.Whole enc Tryz.prog Tryz.f6.params.toList Rows.claimFreeSpec.vars false W args.toList ds gs before) (hk : Rows.uptoSmall H (ds ++ gs) = true) (hL : laidMetH Tryz.prog laidS W) :
    Calls Tryz.prog 6 args W fun e W' => ∃ v, e = .returned v ∧ Rows.claimFreeSpec.post enc Tryz.prog Tryz.f6 false true false false W args v W' := by
  have hval := hval0
  have hW' := hW
  obtain ⟨p, q, hA0, hV, rfl, _, _⟩ := hW
  have hA : DataW.TrodAll enc Tryz.prog W 0 (fun _ => true) true Tryz.f6.params.toList args.toList ds p := hA0
  rw [Tryz.params6] at hA hval
  obtain ⟨v0, v1, d0, d1, p0, p1, rfl, rfl, rfl, h0, h1⟩ := trodAll_two hA
  obtain ⟨rfl, rfl⟩ := trodVars_none hV
  have hlt : ∀ x ∈ p0 ++ p1, x.block < W.heap.size := fun x hx => by
    have := hW'.lt x (List.mem_append_left _ hx)
    simpa using this
  obtain ⟨c, hc, hr0⟩ := claim_arg (hval 0 31 v0 rfl rfl) h0 (claim_bulk hk (by simp))
  obtain ⟨s, hr1⟩ := string_arg (hval 1 9 v1 rfl rfl) h1
  have hp := free_pure c hc s (allB W) W [v0, v1] (fun _ h => h) (glob_ok hL) (by simp only [srepL]; exact ⟨_, _, rfl, hr0, _, _, rfl, hr1, rfl⟩)
  refine (calls_of_goes Tryz.func6 (by kernel_rfl) rfl hp).mono ?_
  rintro e W' ⟨S', hB, _, _, vv, rfl, hvv⟩
  simp only [srep] at hvv
  subst hvv
  refine ⟨_, rfl, _, _, _, [], _, [], hW', ?_, trodAll_mk2 (Below.trod laid_out (by kernel_rfl) (of_decide_eq_true (by kernel_rfl)) h0 hB fun x hx => hlt x (List.mem_append_left _ hx)) (Below.trod laid_out (by kernel_rfl) (of_decide_eq_true (by kernel_rfl)) h1 hB fun x hx => hlt x (List.mem_append_right _ hx)), rfl, hB.frame _, fun h => by cases h⟩
  exact trodAll_mk1 (shut_bool Tryz.underlying4 _)
end Go.Am
end
