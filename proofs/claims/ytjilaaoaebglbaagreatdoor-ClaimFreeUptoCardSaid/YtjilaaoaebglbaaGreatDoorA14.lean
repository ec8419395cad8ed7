/- Parts of the proof. -/
import Derived.Lib.Bytealg
import Derived.Lib.Builder
import Derived.Lib.UnsafeStr
import Derived.Shelf.Abstract
import Derived.Laws.Externs
import Derived.Test.YtjilaaoaebglbaaGreatDoorA12
import Derived.Test.YtjilaaoaebglbaaGreatDoorA13
set_option linter.unusedVariables false
set_option linter.unusedSimpArgs false
set_option linter.unnecessarySimpa false
set_option linter.unusedSectionVars false
section
namespace Go.Am
open Go Go.Proofs Go.RowKit
theorem srepC_list {S : Nat → Prop} {w : World} : ∀ {cs : List AV} {b o : Nat}, srepC S w cs b o → ∃ l : List Value, l.length = cs.length ∧ srepL S w cs l ∧ (∀ j u, l[j]? = some u → w.cell? ⟨b, o + j, none⟩ = some u) ∧ (∀ u ∈ l, u.oneCell' = true)
  | [], b, o, h => ⟨[], rfl, by simp [srepL], fun j u h => by simp at h, fun u h => by simp at h⟩
  | x :: cs, b, o, h => by
    simp only [srepC] at h
    obtain ⟨⟨hf, v, hv, hx⟩, hr⟩ := h
    obtain ⟨l, h1, h2, h3, h4⟩ := srepC_list hr
    refine ⟨v :: l, by simp [h1], ?_, ?_, ?_⟩
    · simp only [srepL]; exact ⟨v, l, rfl, hx, h2⟩
    · intro j u hj
      cases j with
      | zero => simp at hj; subst hj; simpa using hv
      | succ j =>
        have := h3 j u (by simpa using hj)
        rwa [show o + 1 + j = o + (j + 1) by omega] at this
    · intro u hu
      rcases List.mem_cons.1 hu with rfl | hu
      · exact rep_flat (P := Tryz.prog) (β := fun _ => none) (rep_of_srep _ _ hx) hf
      · exact h4 u hu
def primClone : List AV → Option AV
  | [.row n cs] => if cs.length = n ∧ n * 4 ≤ room then some (.row n cs) else none
  | _ => none
theorem goes_of_calls {f : FuncId} {fn : Func} {c : Code} {args : Array Value} {w : World} {R : Ending → World → Prop} (hf : Tryz.prog.funcs[f]? = some fn) (hname : (fn.name == "runtime.NumGoroutine") = false) (hb : fn.body = some c) (h : Calls Tryz.prog f args w R) : Goes Tryz.prog f args w R :=
  .inl ⟨enters_of hf hname hb args w, h⟩
theorem clone_pure {E : Env} {a : List AV} {v : AV} (h : primClone a = some v) : PureOK Tryz.prog E 233 a (.ret v) := by
  obtain ⟨n, cs, rfl, hn, hb, rfl⟩ : ∃ n cs, a = [.row n cs] ∧ cs.length = n ∧ n * 4 ≤ room ∧ v = .row n cs := by
    unfold primClone at h
    split at h
    · split at h
      · rename_i n cs hc; cases h; exact ⟨_, _, rfl, hc.1, hc.2, rfl⟩
      · cases h
    · cases h
  intro S w vs hS hG hr
  simp only [srepL, srep] at hr
  obtain ⟨x, r, rfl, ⟨A, c, rfl, hnc, hcs⟩, rfl⟩ := hr
  refine goes_of_calls Tryz.func233 (by kernel_rfl) rfl ?_
  cases A with
  | none =>
    have h0 : n = 0 ∧ cs = [] := by
      rcases hcs with h | ⟨_, _, h, _⟩
      · exact h
      · cases h
    obtain ⟨rfl, rfl⟩ := h0
    refine (clone_none 0 c w).mono ?_
    rintro e w' ⟨rfl, rfl⟩
    exact ⟨S, Below.refl _ _, fun _ h => h, fun c h => ⟨.inl h, hS c h⟩, _, rfl, none, 0, rfl, by simp, .inl ⟨rfl, rfl⟩⟩
  | some ad =>
    obtain ⟨l, h1, h2, h3, h4⟩ : ∃ l : List Value, l.length = cs.length ∧ srepL S w cs l ∧ (∀ j u, l[j]? = some u → w.cell? (ad.add j) = some u) ∧ (∀ u ∈ l, u.oneCell' = true) := by
      rcases hcs with ⟨rfl, rfl⟩ | ⟨b, o, hA, hb', hc'⟩
      · exact ⟨[], rfl, by simp [srepL], fun j u h => by simp at h, fun u h => by simp at h⟩
      · obtain ⟨l, h1, h2, h3, h4⟩ := srepC_list hc'
        cases hA
        exact ⟨l, h1, h2, fun j u hj => by rw [Addr.add_lit]; exact h3 j u hj, h4⟩
    refine (clone_some ad n c l w (by omega) (by unfold room at hb; omega) h3 h4).mono ?_
    rintro e w' ⟨v', rfl, hown, hbel⟩
    have hk : ∀ c, S c → w'.heap[c]? = w.heap[c]? := fun c hc => hbel.block c (hS c hc)
    rcases hown.2 with ⟨rfl, hn0⟩ | ⟨g, cap, cur, rfl, hg, hcell, hnc', hcap, hcur, htake⟩
    · subst hn0
      have : cs = [] := List.eq_nil_of_length_eq_zero hn
      subst this
      exact ⟨S, hbel, fun _ h => h, fun c h => ⟨.inl h, Nat.lt_of_lt_of_le (hS c h) hbel.size⟩, _, rfl, none, 0, rfl, by simp, .inl ⟨rfl, rfl⟩⟩
    · have hglt : g < w'.heap.size := (Array.getElem?_eq_some_iff.1 hcell).1
      refine ⟨fun c => S c ∨ c = g, hbel, fun _ h => .inl h, ?_, _, rfl, some ⟨g, 0, none⟩, cap, rfl, hnc', .inr ⟨g, 0, rfl, .inr rfl, ?_⟩⟩
      · rintro c (h | rfl)
        · exact ⟨.inl h, Nat.lt_of_lt_of_le (hS c h) hbel.size⟩
        · exact ⟨.inr hg, hglt⟩
      · refine srepC_of_cells (srepL_ext (fun _ h => .inl h) hk _ _ h2) ?_ fun j u hj => ?_
        · rcases hcs with ⟨_, rfl⟩ | ⟨b, o, hA, hb', hc'⟩
          · rfl
          · refine List.all_eq_true.2 fun x hx => ?_
            obtain ⟨i, hi, rfl⟩ := List.getElem_of_mem hx
            exact ((srepC_iff cs b o).1 hc' i _ (List.getElem?_eq_getElem hi)).1
        · have hj' : j < l.length := (List.getElem?_eq_some_iff.1 hj).1
          rw [← htake, List.getElem?_take, if_pos (by omega)] at hj
          simp only [World.cell?, hcell, Nat.zero_add]
          simpa using hj
def primIndexByte : List AV → Option AV
  | [.str s, .int .u8 c] => some (.int .i64 (Lib.indexByte s c.toNat.toUInt8))
  | _ => none
theorem indexByte_pure {E : Env} {a : List AV} {v : AV} (h : primIndexByte a = some v) : PureOK Tryz.prog E 329 a (.ret v) := by
  obtain ⟨s, c, rfl, rfl⟩ : ∃ s c, a = [.str s, .int .u8 c] ∧ v = .int .i64 (Lib.indexByte s c.toNat.toUInt8) := by
    unfold primIndexByte at h
    split at h
    · cases h; exact ⟨_, _, rfl, rfl⟩
    · cases h
  intro S w vs hS hG hr
  simp only [srepL, srep] at hr
  obtain ⟨x, r, rfl, rfl, y, r2, rfl, rfl, rfl⟩ := hr
  refine .inr ⟨_, _, ?_, S, Below.refl _ _, fun _ h => h, fun c h => ⟨.inl h, hS c h⟩, _, rfl, rfl⟩
  rw [run_callFunc_extern Tryz.func329 (by kernel_rfl) (by kernel_rfl) (by kernel_rfl) (e := Extern.BytealgIndexByte.indexByte) (by kernel_rfl)]
  rw [show ([Value.string ⟨s.toArray⟩, Value.int .u8 c].toArray) = #[.string ⟨s.toArray⟩, .int .u8 c] from rfl, Lib.run_indexByteString]
  rfl
end Go.Am
end
