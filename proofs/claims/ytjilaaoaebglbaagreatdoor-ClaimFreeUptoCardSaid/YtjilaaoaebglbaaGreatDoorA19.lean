/- Parts of the proof. -/
import Derived.Test.YtjilaaoaebglbaaGreatDoorA17
import Derived.Test.YtjilaaoaebglbaaGreatDoorA18
import Derived.Test.YtjilaaoaebglbaaGreatDoorA10
set_option linter.unusedVariables false
set_option linter.unusedSimpArgs false
set_option linter.unnecessarySimpa false
set_option linter.unusedSectionVars false
section
namespace Go.Am
open Go Go.Proofs Go.RowKit Go.Maps
theorem bytesLess_lt (a b : List UInt8) : Op.bytesLess a b = true ↔ a < b := by
  rw [bytesLess_eq]; simp
theorem putN_sorted (s : List UInt8) : ∀ l : List (List UInt8), l.Pairwise (· < ·) → (putN s l).Pairwise (· < ·)
  | [], _ => by simp [putN]
  | x :: l, h => by
    have hx := List.pairwise_cons.1 h
    rw [putN]
    split
    · rename_i hlt
      refine List.pairwise_cons.2 ⟨fun y hy => ?_, putN_sorted s l hx.2⟩
      have hc : (putN s l).contains y = true := by simpa using hy
      rw [putN_mem] at hc
      rcases Bool.or_eq_true_iff.1 hc with hc | hc
      · exact hx.1 y (by simpa using hc)
      · have : s = y := by simpa using hc
        rw [← this]; exact (bytesLess_lt _ _).1 hlt
    · split
      · exact h
      · rename_i h1 h2
        have hle : s < x := by
          rcases Decidable.em (x < s) with h' | h'
          · exact absurd ((bytesLess_lt _ _).2 h') h1
          · have hxs : x ≠ s := by simpa using h2
            exact Std.lt_of_le_of_ne (List.not_lt.1 h') (fun e => hxs e.symm)
        refine List.pairwise_cons.2 ⟨fun y hy => ?_, h⟩
        rcases List.mem_cons.1 hy with rfl | hy
        · exact hle
        · exact List.lt_trans hle (hx.1 y hy)
mutual
theorem Xp.nms_sorted : ∀ (x : Xp) (l : List (List UInt8)), l.Pairwise (· < ·) → (x.nms l).Pairwise (· < ·)
  | .mk op arg r name kids, l, h => by
    rw [Xp.nms]
    split
    · exact putN_sorted _ _ h
    · exact Xp.nmsL_sorted kids l h
theorem Xp.nmsL_sorted : ∀ (xs : List Xp) (l : List (List UInt8)), l.Pairwise (· < ·) → (Xp.nmsL xs l).Pairwise (· < ·)
  | [], l, h => by rw [Xp.nmsL]; exact h
  | x :: xs, l, h => by rw [Xp.nmsL]; exact Xp.nmsL_sorted xs _ (Xp.nms_sorted x l h)
end
mutual
theorem Xp.pre_has (n : List UInt8) : ∀ (x : Xp) (d k : Int), x.cnt d k ≤ 300 → (x.pre.any fun p => p.1 == 2 && p.2 == n) = x.has n
  | .mk op arg r name kids, d, k, h => by
    rw [Xp.cnt] at h
    split at h
    · omega
    · rename_i hc
      have hf : fieldsP op arg r name kids.length = true := by
        cases hb : fieldsP op arg r name kids.length with
        | true => rfl
        | false => exact absurd (.inr (.inr hb)) hc
      rw [Xp.pre, Xp.has, List.any_cons]
      by_cases hop : op = 2
      · subst hop
        have hk : kids = [] := by
          unfold fieldsP at hf
          simp only [Bool.and_eq_true, decide_eq_true_eq] at hf
          have h0 := hf.1.1.1
          refine List.eq_nil_of_length_eq_zero ?_
          have : kidsN 2 = 0 := rfl
          omega
        subst hk
        simp [Xp.preL]
      · rw [if_neg hop, Xp.preL_has n kids _ _ h]
        simp [hop]
theorem Xp.preL_has (n : List UInt8) : ∀ (xs : List Xp) (d k : Int), Xp.cntL xs d k ≤ 300 → ((Xp.preL xs).any fun p => p.1 == 2 && p.2 == n) = Xp.hasL n xs
  | [], d, k, h => by simp [Xp.preL, Xp.hasL]
  | x :: xs, d, k, h => by
    rw [Xp.cntL] at h
    split at h
    · omega
    · rename_i hc
      rw [Xp.preL, List.any_append, Xp.hasL, Xp.pre_has n x d k (by omega), Xp.preL_has n xs _ _ h]
end
mutual
theorem Xp.pre_len : ∀ x : Xp, x.pre.length = x.size
  | .mk op arg r name kids => by rw [Xp.pre, Xp.size, List.length_cons, Xp.preL_len kids]; omega
theorem Xp.preL_len : ∀ xs : List Xp, (Xp.preL xs).length = Xp.sizeL xs
  | [] => rfl
  | x :: xs => by rw [Xp.preL, Xp.sizeL, List.length_append, Xp.pre_len x, Xp.preL_len xs]
end
theorem namesD_has' (n : List UInt8) : ∀ (ys : List Nd) (D : DataW Unit), IsMap D → has (ys.foldl (fun D x => if x.op = 2 then D.put (.string x.name) (.lit (.bool true)) else D) D) (.string n) = (has D (.string n) || (ys.map Nd.key).any fun p => p.1 == 2 && p.2 == n)
  | [], D, h => by simp
  | y :: l, D, h => by
    rw [List.foldl_cons, namesD_has' n l _ (by split <;> first | exact h.put _ _ | exact h), List.map_cons, List.any_cons]
    by_cases hop : y.op = 2
    · rw [if_pos hop]
      by_cases hn : y.name = n
      · subst hn
        rw [has_put_same h (show WideAt.IsKeyLit (.string y.name) from True.intro)]; simp [Nd.key, hop]
      · rw [has_put_other (by intro e; injection e with e; exact hn e.symm)]
        have hb : (y.name == n) = false := by simpa using hn
        simp [Nd.key, hop, hb]
    · rw [if_neg hop]
      have hb : (y.op == 2) = false := by simpa using hop
      simp [Nd.key, hb]
theorem namesD_has (n : List UInt8) (ys : List Nd) : has (namesD ys) (.string n) = ((ys.map Nd.key).any fun p => p.1 == 2 && p.2 == n) := by
  rw [namesD, namesD_has' n ys _ ⟨[], rfl⟩]; rfl
theorem sorted_names {x : Xp} (hv : x.valid = true) {ys : List Nd} (hys : ys.map Nd.key = x.pre) {ss : List (List UInt8)} (hss : ss.Perm (strKeys (namesD ys))) {P : Program} {R : Value → Option (DataW Unit × List MemPlace)} {w : World} {b n : Nat} (hown : w.ownsMap P 9 R b n (namesD ys)) (hk : P.underlying 9 = some .string) :
    ss.mergeSort leB = x.nms [] := by
  have hs := Xp.nms_sorted x [] List.Pairwise.nil
  obtain ⟨es, hes, hpw, _⟩ := hown.entries (string_keyed hk)
  obtain ⟨es', hes', hkeys⟩ := hown.keysOf
  have hee : es' = es := by rw [hes] at hes'; injection hes' with h; exact h.symm
  subst hee
  have hstr : ∀ p ∈ es', ∃ z, p.1 = .string z := fun p hp => by
    obtain ⟨key, hkey⟩ := hkeys p hp
    obtain ⟨z, _, hz, _⟩ := Maps.keyOf_str hk hkey
    exact ⟨z, hz⟩
  have hperm : (x.nms []).Perm (strKeys (namesD ys)) := by
    rw [hes]
    refine perm_strKeys hpw hstr (hs.imp (fun h e => by subst e; exact absurd h (List.lt_irrefl _))) fun z => ?_
    rw [← hes, namesD_has, hys, Xp.pre_has z x 1 0 (of_decide_eq_true hv)]
    have := Xp.nms_has z x []
    simp at this
    rw [← this]; simp
  rw [mergeSort_of_perm (hss.trans hperm.symm)]
  refine List.mergeSort_of_pairwise (hs.imp fun h => ?_)
  simp only [leB, decide_eq_true_eq]
  exact List.le_of_lt h
end Go.Am
end
