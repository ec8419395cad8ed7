/- Parts of the proof. -/
import Derived.Test.YtjilaaoaebglbaaGreatDoorA28
import Derived.Test.YtjilaaoaebglbaaGreatDoorA30
set_option linter.unusedVariables false
set_option linter.unusedSimpArgs false
set_option linter.unnecessarySimpa false
set_option linter.unusedSectionVars false
section
set_option maxRecDepth 1000000
namespace Go.Am
open Go Go.Proofs Go.RowKit
theorem calls_of_goes {f : FuncId} {fn : Func} {c : Code} {args : Array Value} {w : World} {R : Ending → World → Prop} (hf : Tryz.prog.funcs[f]? = some fn) (hname : (fn.name == "runtime.NumGoroutine") = false) (hb : fn.body = some c) (h : Goes Tryz.prog f args w R) : Calls Tryz.prog f args w R := by
  rcases h with ⟨_, h⟩ | ⟨v, w', h, _⟩
  · exact h
  · rw [enters_of hf hname hb args w] at h; cases h
theorem srepL_strs {S : Nat → Prop} {w : World} : ∀ l : List (List UInt8), srepL S w (l.map .str) (l.map encStr)
  | [] => by simp [srepL]
  | x :: l => by simp only [List.map_cons, srepL, srep]; exact ⟨_, _, rfl, rfl, srepL_strs l⟩
theorem strs_flat : ∀ l : List (List UInt8), flatL (l.map .str) = true := fun l => by
  unfold flatL; simp [AV.flat]
theorem srep_strs {S : Nat → Prop} {w w' : World} {v : Value} {l : List (List UInt8)} (hS : ∀ c, S c → c < w.heap.size) (hle : w.heap.size ≤ w'.heap.size) (h : w'.ownsRow w.heap.size 9 1 v l.length (l.map encStr)) :
    ∃ S' : Nat → Prop, (∀ c, S c → S' c) ∧ (∀ c, S' c → (S c ∨ w.heap.size ≤ c) ∧ c < w'.heap.size) ∧ srep S' w' (Ss l) v := by
  rcases h.2 with ⟨rfl, hn0⟩ | ⟨g, cap, cur, rfl, hg, hcell, hnc', hcap, hcur, htake⟩
  · have : l = [] := List.eq_nil_of_length_eq_zero hn0
    subst this
    exact ⟨S, fun _ h => h, fun c h => ⟨.inl h, Nat.lt_of_lt_of_le (hS c h) hle⟩, none, 0, rfl, by simp, .inl ⟨rfl, rfl⟩⟩
  · have hglt : g < w'.heap.size := (Array.getElem?_eq_some_iff.1 hcell).1
    refine ⟨fun c => S c ∨ c = g, fun _ h => .inl h, ?_, some ⟨g, 0, none⟩, cap, rfl, hnc', .inr ⟨g, 0, rfl, .inr rfl, ?_⟩⟩
    · rintro c (h | rfl)
      · exact ⟨.inl h, Nat.lt_of_lt_of_le (hS c h) hle⟩
      · exact ⟨.inr hg, hglt⟩
    · refine srepC_of_cells (srepL_strs l) (strs_flat l) fun j u hj => ?_
      have hj' : j < l.length := by simpa using (List.getElem?_eq_some_iff.1 hj).1
      rw [← htake, List.getElem?_take, if_pos (by omega)] at hj
      simp only [World.cell?, hcell, Nat.zero_add]
      simpa using hj
theorem vars_pure {a : List AV} {v : AV} (h : primVars a = some v) : PureOK Tryz.prog E0 136 a (.ret v) := by
  obtain ⟨x, hok, hv, rfl, rfl⟩ := primVars_some h
  intro S w vs hS hG hr
  simp only [srepL, srep] at hr
  obtain ⟨y, r, rfl, ⟨l, rfl, hl⟩, rfl⟩ := hr
  obtain ⟨d, rfl, _⟩ := nd_of_srep hok hl
  refine goes_of_calls Tryz.func136 (by kernel_rfl) rfl ?_
  have hlen : x.pre.length < 1000000000 := by rw [Xp.pre_len]; have := Xp.valid_size hv; omega
  refine (vars_walk x hok d S w hS hl hlen fun W hB => ?_).mono ?_
  · have hp := valid_pure x hok S W [.agg d.l.toArray] (fun c hc => Nat.lt_of_lt_of_le (hS c hc) hB.size) (Glob.ext (E := E1) hG (fun _ h => h) fun c hc => hB.block c (hS c hc))
      (by simp only [srepL, srep]; exact ⟨_, _, rfl, ⟨_, rfl, srepL_ext (fun _ h => h) (fun c hc => hB.block c (hS c hc)) _ _ hl⟩, rfl⟩)
    refine (calls_of_goes Tryz.func77 (by kernel_rfl) rfl hp).mono ?_
    rintro e W' ⟨S', h1, _, _, vv, h2, h3⟩
    rw [hv] at h3
    simp only [srep] at h3
    exact ⟨by rw [h2, h3], h1⟩
  · rintro e w' ⟨v, ss, ys, rfl, hys, hss, ⟨b, hown⟩, hrow, hB⟩
    have hs := sorted_names hv hys hss hown Tryz.underlying9
    rw [hs] at hrow
    have hln : ss.length = (x.nms []).length := by rw [← hs, List.length_mergeSort]
    rw [hln] at hrow
    obtain ⟨S', h1, h2, h3⟩ := srep_strs hS hB.size hrow
    refine ⟨S', hB, h1, h2, _, rfl, ?_⟩
    simp only [srep, srepL]
    exact ⟨_, rfl, _, _, rfl, h3, _, _, rfl, rfl, rfl⟩
theorem env_ok0 : EnvOK Tryz.prog E0 where
  prim f g a v hp h := prim_cases hp h fun _ h => vars_pure h
  hprim f g a H nx fz b hp h := hprim_ok hp h
theorem free_pure (c : Cl) (hc : c.ok) (nm : List UInt8) : PureOK Tryz.prog E0 id_law06_ClaimFree [.agg c.cells, .str nm] (.ret (.bool true)) :=
  pure_of_does env_ok0 code_ok0 (lawFree_val hc) rfl lawFree_at.2.2 rfl
end Go.Am
end
