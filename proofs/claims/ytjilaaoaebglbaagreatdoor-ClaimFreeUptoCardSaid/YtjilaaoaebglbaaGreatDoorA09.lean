/- Parts of the proof. -/
import Derived.Test.YtjilaaoaebglbaaGreatDoorA06
import Derived.Test.YtjilaaoaebglbaaGreatDoorA08
set_option linter.unusedVariables false
set_option linter.unusedSimpArgs false
set_option linter.unnecessarySimpa false
set_option linter.unusedSectionVars false
section
set_option maxHeartbeats 8000000
namespace Go.Am
open Go Go.Nt
structure LibR (E : Env) : Prop where
  trim : At E id_ref01_trim fn_ref01_trim
  natOf : At E id_ref01_NatOf fn_ref01_NatOf
  cmp : At E id_ref01_NatCmp fn_ref01_NatCmp
  add : At E id_ref01_NatAdd fn_ref01_NatAdd
  sub : At E id_ref01_NatSub fn_ref01_NatSub
  mul : At E id_ref01_NatMul fn_ref01_NatMul
  shl : At E id_ref01_NatShl fn_ref01_NatShl
  shr : At E id_ref01_NatShr fn_ref01_NatShr
  small : At E id_ref01_small fn_ref01_small
  digit : At E id_ref01_digit fn_ref01_digit
  less : At E id_ref01_less fn_ref01_less
  div : At E id_ref01_NatDiv fn_ref01_NatDiv
  gcd : At E id_ref01_NatGcd fn_ref01_NatGcd
  make : At E id_ref01_Make fn_ref01_Make
  words : At E id_ref01_words fn_ref01_words
  of : At E id_ref01_Of fn_ref01_Of
  over : At E id_ref01_Over fn_ref01_Over
  large : At E id_ref01_Large fn_ref01_Large
  sgn : At E id_ref01_Sgn fn_ref01_Sgn
  zero : At E id_ref01_Zero fn_ref01_Zero
  sum : At E id_ref01_Sum fn_ref01_Sum
  opp : At E id_ref01_Opp fn_ref01_Opp
  diff : At E id_ref01_Diff fn_ref01_Diff
  cmpQ : At E id_ref01_Cmp fn_ref01_Cmp
  den : At E id_ref01_Q_den fn_ref01_Q_den
abbrev N16 (n : Nat) : AV := R32 (dig 65536 n)
def isL (H : Heap) (nx : Nat) (v : AV) (M : List Nat) : Prop := (v = .nils ∧ M = []) ∨ ∃ b cs, v = .sl b 0 M.length ∧ b < nx ∧ getB H b = some (.cells 191 1 cs) ∧ cs.take M.length = ints .u32 M
section
variable {E : Env} {l : List Nat} {n m : Nat} {H : Heap} {nx : Nat} {fz : List Nat} {R : Back → Prop} {v : AV} {M N : List Nat}
theorem hB16 : 2 ≤ 65536 := by decide
theorem digs16 (n : Nat) : digs 65536 (dig 65536 n) := digs_dig hB16 n
theorem take_ints_len {cs : List AV} {k : IntKind} (h : cs.take M.length = ints k M) : M.length ≤ cs.length := by
  have := congrArg List.length h
  rw [List.length_take, ints_len] at this
  omega
theorem isL_frz {d : Nat} (h : isL H nx v M) (hd : 2 ≤ d) : frz H d v = some (R32 M) := by
  obtain ⟨k, rfl⟩ : ∃ k, d = k + 2 := ⟨d - 2, by omega⟩
  rcases h with ⟨rfl, rfl⟩ | ⟨b, cs, rfl, hb, hg, hcs⟩
  · rfl
  · have := take_ints_len hcs
    rw [frz_sl hg, Nat.mul_one, if_pos (by omega), List.drop_zero, hcs, frz_ints]
    rfl
theorem isL_new {X : Option Blk} (h : isL H nx v M) : isL (setB H nx X) (nx + 1) v M := by
  rcases h with ⟨rfl, rfl⟩ | ⟨b, cs, rfl, hb, hg, hcs⟩
  · exact .inl ⟨rfl, rfl⟩
  · exact .inr ⟨b, cs, rfl, by omega, by rw [getB_setB, if_neg (by omega), hg], hcs⟩
theorem isL_make {cs : List AV} (h : cs.take M.length = ints .u32 M) : isL (setB H nx (some (.cells 191 1 cs))) (nx + 1) (.sl nx 0 M.length) M :=
  .inr ⟨nx, cs, rfl, by omega, by rw [getB_setB, if_pos rfl], h⟩
theorem isL_lit {N : Nat} (h : M.length = N) : isL [some (.cells 191 1 (ints .u32 M))] 1 (.sl 0 0 N) M := by
  subst h
  exact .inr ⟨0, _, rfl, by omega, rfl, by rw [List.take_of_length_le (by rw [ints_len]; omega)]⟩
theorem isL_len (h : isL H nx v M) : lenA v = M.length ∧ (v = .nils ∨ ∃ b, v = .sl b 0 M.length) := by
  rcases h with ⟨rfl, rfl⟩ | ⟨b, cs, rfl, hb, hg⟩
  · exact ⟨rfl, .inl rfl⟩
  · exact ⟨rfl, .inr ⟨b, rfl⟩⟩
theorem isL_app {by' : Nat} (h : isL H nx v M) (hN : 0 < N.length ∨ v ≠ .nils) (hl : (M.length + N.length) * by' ≤ room) : ∃ v' H', appendA [] nx H 191 1 by' v (ints .u32 N) N.length = some (v', H', nx + 1) ∧ isL H' (nx + 1) v' (M ++ N) := by
  rcases h with ⟨rfl, rfl⟩ | ⟨b, cs, rfl, hb, hg, hcs⟩
  · refine ⟨.sl nx 0 N.length, setB H nx (some (.cells 191 1 (ints .u32 N))), ?_, ?_⟩
    · simp only [appendA]
      have hN : 0 < N.length := by simpa using hN
      rw [if_neg (by omega), if_pos (by simpa using hl)]
    · exact isL_make (M := N) (by rw [List.take_of_length_le (by rw [ints_len]; omega)])
  · refine ⟨.sl nx 0 (M.length + N.length), setB (setB H b none) nx (some (.cells 191 1 (ints .u32 (M ++ N)))), ?_, ?_⟩
    · have := take_ints_len hcs
      simp only [appendA, hg]
      rw [if_pos ⟨trivial, trivial, by omega, hl, rfl⟩, Nat.mul_one, hcs, ints_append]
    · have := isL_make (H := setB H b none) (nx := nx) (M := M ++ N) (cs := ints .u32 (M ++ N)) (by rw [List.take_of_length_le (by rw [ints_len]; omega)])
      rwa [List.length_append] at this
theorem strip_snoc (a : List Nat) (d : Nat) : strip (a ++ [d]) = if d = 0 then strip a else a ++ [d] := by
  induction a with
  | nil => by_cases e : d = 0 <;> simp [strip, e]
  | cons x a ih =>
    rw [List.cons_append, strip, ih]
    by_cases e : d = 0
    · simp [e, strip]
    · simp only [e, if_false]
      cases ha : a ++ [d] with
      | nil => simp at ha
      | cons y r => simp [← ha]
theorem take_snoc {l : List Nat} {m : Nat} (hm : 0 < m) (hl : m ≤ l.length) : l.take m = l.take (m - 1) ++ [dg l (m - 1)] := by
  have hlen : m - 1 < l.length := by omega
  conv => lhs; rw [show m = m - 1 + 1 by omega, List.take_succ_eq_append_getElem hlen]
  rw [getD_eq hlen]
theorem getB_head {H : Heap} {i : Nat} : getB (H.drop i) 0 = getB H i := by
  induction i generalizing H with
  | zero => rfl
  | succ i ih => cases H with
    | nil => rfl
    | cons x H => rw [List.drop_succ_cons]; exact ih
theorem mergeN_same {T : List Nat} {nx : Nat} : ∀ (n i : Nat) (H H' : Heap), H.length = n → (∀ j, T.contains (i + j) = true → getB H' j = getB H j) → mergeN T nx nx n i H H' = H
  | 0, i, H, H', hl, _ => by rw [List.length_eq_zero_iff.1 hl]; rfl
  | n + 1, i, H, H', hl, h => by
    cases H with
    | nil => simp at hl
    | cons x H =>
      have e : (decide (nx ≤ i) && decide (i < nx)) = false := by simp only [Bool.and_eq_false_iff, decide_eq_false_iff_not]; omega
      simp only [mergeN, e, Bool.or_false, List.tail_cons]
      rw [mergeN_same n (i + 1) H H'.tail (by simpa using hl) fun j hj => ?_]
      · congr 1
        split
        · rename_i hT
          exact h 0 (by simpa using hT)
        · rfl
      · have := h (j + 1) (by rw [show i + (j + 1) = i + 1 + j by omega]; exact hj)
        cases H' with
        | nil => exact this
        | cons y H' => exact this
theorem merge_same {T : List Nat} {nx : Nat} {H H' : Heap} (hl : H'.length ≤ H.length) (h : ∀ j, T.contains j = true → getB H' j = getB H j) : merge T nx nx H H' = H := by
  unfold merge
  rw [Nat.max_eq_left hl]
  exact mergeN_same _ 0 H H' rfl fun j hj => h j (by simpa using hj)
theorem getB_lt {H : Heap} {b : Nat} {x : Blk} (h : getB H b = some x) : b < H.length := by
  refine Classical.byContradiction fun hno => ?_
  have e := getB_head (H := H) (i := b)
  rw [List.drop_of_length_le (by omega)] at e
  rw [h] at e; cases e
theorem setB_nil_len {x : Option Blk} : ∀ (b : Nat), (setB [] b x).length = b + 1
  | 0 => rfl
  | b + 1 => by show (setB [] b x).length + 1 = _; rw [setB_nil_len b]
theorem strip_le (l : List Nat) : (strip l).length ≤ l.length ∧ l.take (strip l).length = strip l := by
  induction l with
  | nil => exact ⟨Nat.le_refl _, rfl⟩
  | cons x l ih =>
    obtain ⟨h1, h2⟩ := ih
    rw [strip]
    cases hs : strip l with
    | nil =>
      simp only [List.isEmpty_nil, Bool.and_true]
      split <;> simp
    | cons y r =>
      rw [hs] at h1 h2
      simp only [List.isEmpty_cons, Bool.and_false]
      refine ⟨by simp at h1 ⊢; omega, by simpa using h2⟩
theorem trim_row (L : LibR E) (hl : l.length < 9223372036854775808) (hR : R ⟨.ret (R32 (strip l)), H, nx, fz, false⟩) : wpF E id_ref01_trim [R32 l] H nx fz R := by
  refine wpF_v L.trim.2.2 rfl (by simp) fun T hN hA => ?_
  have h0 := hA 0 _ rfl
  simp [go_sem, h0, hN]
  refine loop_v _ rfl (fun m t H' nx' fz' => H' = H ∧ nx' = nx ∧ fz' = fz ∧ m ≤ l.length ∧ getT t 3 = .int .i64 (m : Int) ∧ strip (l.take m) = strip l) l.length ?_ ?_
  · simp [go_sem, h0, hN]
  · rintro m t _ _ _ ⟨rfl, rfl, rfl, hm, ht, hs⟩ hF
    have hN' : t.length = 21 := by rw [hF.1]; simp [hN]
    have f0 : getT t 0 = R32 l := by rw [hF.2 0 (by decide)]; simp [go_sem, h0]
    clear hF
    by_cases h0 : m = 0
    · subst h0
      simp [go_sem, ht, hN', f0]
      have : strip l = [] := by rw [← hs]; rfl
      rw [this] at hR
      exact hR
    · obtain ⟨k, hk0⟩ : ∃ k, k = m - 1 := ⟨_, rfl⟩
      have hw : IntKind.i64.wrap ((m : Int) - 1) = k := by rw [wrapI_id (by omega) (by omega)]; omega
      have hk : k < l.length := by omega
      have hp : 0 < m := by omega
      have hpi : (0 : Int) < m := by omega
      have he := take_snoc (l := l) (m := m) hp hm
      rw [← hk0] at he
      have hki : (k : Int) < l.length := by omega
      by_cases hz : dg l k = 0
      · simp [go_sem, ht, hN', f0, hw, hz, hk, hki, hp, hpi]
        refine ⟨k, by omega, by omega, rfl, ?_⟩
        rw [← hs, he, strip_snoc, if_pos hz]
      · have e2 : strip l = l.take m := by rw [← hs, he, strip_snoc, if_neg hz]
        have e3 : (strip l).length = m := by rw [e2, List.length_take]; omega
        simp [go_sem, ht, hN', f0, hw, hz, hk, hki, hp, hpi, hm]
        rw [ints_take, ← e2]
        rw [show R32 (strip l) = AV.row m (ints .u32 (strip l)) by rw [← e3]] at hR
        exact hR
theorem cs_at {cs : List AV} {k : Nat} (h : cs.take M.length = ints .u32 M) (hk : k < M.length) : partA false (cs.drop k) 0 1 = some (.int .u32 ((dg M k : Nat) : Int)) := by
  have h1 := take_ints_len h
  have h2 := part_ints (k := .u32) hk
  rw [← h] at h2
  rw [← h2]
  have e1 : 0 + 1 ≤ (cs.drop k).length := by rw [List.length_drop]; omega
  have e2 : 0 + 1 ≤ ((cs.take M.length).drop k).length := by rw [List.length_drop, List.length_take]; omega
  simp only [partA, if_pos e1, if_pos e2]
  simp [List.getElem?_take, hk]
theorem trim_sl (L : LibR E) {b : Nat} {cs : List AV} (hl : M.length < 9223372036854775808) (hg : getB H b = some (.cells 191 1 cs)) (hcs : cs.take M.length = ints .u32 M) (hR : R ⟨.ret (.sl b 0 (strip M).length), H, nx, fz, false⟩) : wpF E id_ref01_trim [.sl b 0 M.length] H nx fz R := by
  have hsz : sizeB H b = some 1 := by simp [sizeB, hg]
  refine wpF_v L.trim.2.2 rfl (by simp) fun T hN hA => ?_
  have h0 := hA 0 _ rfl
  obtain ⟨N, hNl⟩ : ∃ N, N = M.length := ⟨_, rfl⟩
  rw [← hNl] at h0
  simp [go_sem, h0, hN]
  refine loop_v _ rfl (fun m t H' nx' fz' => H' = H ∧ nx' = nx ∧ fz' = fz ∧ m ≤ N ∧ getT t 3 = .int .i64 (m : Int) ∧ strip (M.take m) = strip M) N ?_ ?_
  · simp [go_sem, h0, hN, hNl]
  · rintro m t _ _ _ ⟨rfl, rfl, rfl, hm, ht, hs⟩ hF
    have hN' : t.length = 21 := by rw [hF.1]; simp [hN]
    have f0 : getT t 0 = .sl b 0 N := by rw [hF.2 0 (by decide)]; simp [go_sem, h0]
    clear hF
    by_cases h0 : m = 0
    · subst h0
      simp [go_sem, ht, hN', f0, hsz]
      have : strip M = [] := by rw [← hs]; rfl
      rw [this] at hR
      exact hR
    · obtain ⟨k, hk0⟩ : ∃ k, k = m - 1 := ⟨_, rfl⟩
      have hw : IntKind.i64.wrap ((m : Int) - 1) = k := by rw [wrapI_id (by omega) (by omega)]; omega
      have hk : k < M.length := by omega
      have hkN : k < N := by omega
      have hp : 0 < m := by omega
      have hpi : (0 : Int) < m := by omega
      have he := take_snoc (l := M) (m := m) hp (by omega)
      rw [← hk0] at he
      have hki : (k : Int) < N := by omega
      have hca := cs_at hcs hk
      by_cases hz : dg M k = 0
      · rw [hz] at hca
        simp [go_sem, ht, hN', f0, hw, hk, hki, hkN, hp, hpi, hg, hca]
        refine ⟨k, by omega, by omega, rfl, ?_⟩
        rw [← hs, he, strip_snoc, if_pos hz]
      · have e2 : strip M = M.take m := by rw [← hs, he, strip_snoc, if_neg hz]
        have e3 : (strip M).length = m := by rw [e2, List.length_take]; omega
        simp [go_sem, ht, hN', f0, hw, hz, hk, hki, hkN, hp, hpi, hm, hg, hca, hsz]
        rw [e3] at hR
        exact hR
theorem trim_call (L : LibR E) (hl : l.length < 9223372036854775808) (hR : R ⟨.ret (R32 (strip l)), H, nx, fz, false⟩) : wpA E id_ref01_trim [R32 l] H nx fz R := by
  refine wpA_heap L.trim.1 L.trim.2.1 L.trim.2.2 rfl ?_
  have e : [R32 l].flatMap (tch H (depthOf nx)) = [] := rfl
  rw [e]
  refine trim_row L hl ⟨Nat.le_refl _, ?_⟩
  unfold mergeB
  rw [merge_same (by simp [restrict]) (fun j hj => by simp at hj)]
  exact hR
theorem trim_nil (L : LibR E) (hR : R ⟨.ret .nils, H, nx, fz, false⟩) : wpF E id_ref01_trim [.nils] H nx fz R := by
  refine wpF_v L.trim.2.2 rfl (by simp) fun T hN hA => ?_
  have h0 := hA 0 _ rfl
  simp [go_sem, h0, hN]
  refine loop_v _ rfl (fun m t H' nx' fz' => H' = H ∧ nx' = nx ∧ fz' = fz ∧ getT t 3 = .int .i64 0) 0 ?_ ?_
  · simp [go_sem, h0, hN]
  · rintro m t _ _ _ ⟨rfl, rfl, rfl, ht⟩ hF
    have hN' : t.length = 21 := by rw [hF.1]; simp [hN]
    have f0 : getT t 0 = .nils := by rw [hF.2 0 (by decide)]; simp [go_sem, h0]
    simp [go_sem, ht, hN', f0]
    exact hR
theorem trim_isL (L : LibR E) (h : isL H nx v M) (hl : M.length < 9223372036854775808) (hR : ∀ v', isL H nx v' (strip M) → lenA v' = (strip M).length → R ⟨.ret v', H, nx, [], false⟩) : wpA E id_ref01_trim [v] H nx [] R := by
  refine wpA_heap L.trim.1 L.trim.2.1 L.trim.2.2 rfl ?_
  rcases h with ⟨rfl, rfl⟩ | ⟨b, cs, rfl, hb, hg, hcs⟩
  · have e : [AV.nils].flatMap (tch H (depthOf nx)) = [] := rfl
    rw [e]
    refine trim_nil L ⟨Nat.le_refl _, ?_⟩
    unfold mergeB
    rw [merge_same (by simp [restrict]) (fun j hj => by simp at hj)]
    exact hR .nils (.inl ⟨rfl, rfl⟩) rfl
  · have hst := strip_le M
    have e : [AV.sl b 0 M.length].flatMap (tch H (depthOf nx)) = [b] := by
      show b :: (match getB H b with | some (.cells _ sz cs) => ((cs.drop 0).take (M.length * sz)).flatMap _ | _ => []) ++ [] = [b]
      rw [hg]
      simp only [Nat.mul_one, List.drop_zero, hcs, tch_ints]
      rfl
    rw [e]
    have hb2 := getB_lt hg
    refine trim_sl (cs := cs) L hl ?_ hcs ⟨Nat.le_refl _, ?_⟩
    · simp only [restrict, getB_setB, if_true, hg]
    · unfold mergeB
      rw [merge_same (by simp only [restrict]; rw [setB_nil_len]; omega) (fun j hj => by
        have : j = b := by simpa using hj
        subst this
        simp only [restrict, getB_setB, if_true])]
      refine hR _ (.inr ⟨b, cs, rfl, hb, hg, ?_⟩) rfl
      have := congrArg (List.take (strip M).length) hcs
      rw [List.take_take, Nat.min_eq_left hst.1, ints_take, hst.2] at this
      exact this
theorem natOf_val (L : LibR E) (hn : n < 18446744073709551616) : Val E id_ref01_NatOf [.int .u64 (n : Int)] (N16 n) := by
  refine val_fn L.natOf rfl (by simp) fun T hN hA => ?_
  have h0 := hA 0 _ rfl
  simp [go_sem, h0, hN]
  refine loop_v _ rfl (fun m t H nx fz => fz = [] ∧ ∃ (M : List Nat) (v : AV), getT t 0 = .int .u64 (m : Int) ∧ getT t 3 = v ∧ isL H nx v M ∧ M ++ dig 65536 m = dig 65536 n ∧ m < 18446744073709551616) n ?_ ?_
  · exact ⟨rfl, [], .nils, by simp [go_sem, h0], by simp [go_sem, hN], .inl ⟨rfl, rfl⟩, rfl, hn⟩
  · rintro m t H nx fz ⟨rfl, M, v, t0, t3, hv, hM, hm⟩ hF
    have hN' : t.length = 15 := by rw [hF.1]; simp [hN]
    clear hF
    by_cases h0 : m = 0
    · subst h0
      rw [dig_zero, List.append_nil] at hM
      simp [go_sem, t0, t3, hN', isL_frz hv, hM]
    · have hp : 0 < m := by omega
      obtain ⟨r, hr⟩ : ∃ r, r = m % 65536 := ⟨_, rfl⟩
      obtain ⟨q, hq⟩ : ∃ q, q = m / 65536 := ⟨_, rfl⟩
      have e1 : ((m : Int)).tmod 65536 = r := by rw [hr]; exact tmod_nat m 65536
      have e2 : ((m : Int)).tdiv 65536 = q := by rw [hq]; exact tdiv_nat m 65536
      have e3 : IntKind.u32.wrap (r : Int) = r := by rw [wrap32]; omega
      have e4 : IntKind.u64.wrap (q : Int) = q := by rw [wrap64]; omega
      have hdm : dig 65536 m = r :: dig 65536 q := by rw [dig_pos hB16 hp, hr, hq]
      have hlen : M.length ≤ 4 := by
        have h1 := (dig_len_le hB16 4 n).2 (by simpa using hn)
        rw [← hM] at h1
        simp at h1; omega
      obtain ⟨v', H', ha, hL⟩ := isL_app (N := [r]) (by' := 4) (isL_new (X := some (.cells 191 1 [.int .u32 (r : Int)])) hv) (by simp) (by simp [room]; omega)
      have ha' : appendA [] (nx + 1) (setB H nx (some (.cells 191 1 [.int .u32 (r : Int)]))) 191 1 4 v [.int .u32 (r : Int)] 1 = some (v', H', nx + 1 + 1) := ha
      simp [go_sem, t0, t3, hN', hp, h0, e1, e2, e3, e4, ha']
      exact ⟨q, by omega, rfl, M ++ [r], hL, by rw [List.append_assoc, List.singleton_append, ← hdm, hM], by omega⟩
theorem natOf_call (L : LibR E) (hn : n < 18446744073709551616) : wpA E id_ref01_NatOf [.int .u64 (n : Int)] H nx fz R ↔ R ⟨.ret (N16 n), H, nx, fz, false⟩ := wpA_iff (natOf_val L hn) rfl
theorem natOf_one (L : LibR E) : wpA E id_ref01_NatOf [.int .u64 1] H nx fz R ↔ R ⟨.ret (N16 1), H, nx, fz, false⟩ := natOf_call (n := 1) L (by omega)
end
def halves : List Nat → List Nat
  | [] => []
  | w :: l => w % 65536 :: w / 65536 :: halves l
theorem halves_append (l m : List Nat) : halves (l ++ m) = halves l ++ halves m := by
  induction l with
  | nil => rfl
  | cons w l ih => simp [halves, ih]
theorem halves_len (l : List Nat) : (halves l).length = 2 * l.length := by
  induction l with
  | nil => rfl
  | cons w l ih => simp [halves, ih]; omega
theorem val_halves (l : List Nat) : val 65536 (halves l) = val 4294967296 l := by
  induction l with
  | nil => rfl
  | cons w l ih => simp only [halves, val, ih]; omega
theorem digs_halves {l : List Nat} (h : digs 4294967296 l) : digs 65536 (halves l) := by
  induction l with
  | nil => exact digs_nil
  | cons w l ih =>
    obtain ⟨h1, h2⟩ := digs_cons.1 h
    exact digs_cons.2 ⟨by omega, digs_cons.2 ⟨by omega, ih h2⟩⟩
section
variable {E : Env} {l : List Nat} {n m : Nat} {H : Heap} {nx : Nat} {fz : List Nat} {R : Back → Prop} {v : AV} {M N : List Nat}
theorem words_val (L : LibR E) (hd : digs 4294967296 l) (hl : l.length < 1000000000) : Val E id_ref01_words [R32 l] (N16 (val 4294967296 l)) := by
  have hst : strip (halves l) = dig 65536 (val 4294967296 l) := by rw [strip_eq hB16 (digs_halves hd), val_halves]
  refine val_fn L.words rfl (by simp) fun T hN hA => ?_
  have h0 := hA 0 _ rfl
  simp [go_sem, h0, hN]
  refine loop_v _ rfl (fun m t H nx fz => fz = [] ∧ ∃ (i : Nat) (v : AV), m + i = l.length ∧ getT t 8 = .int .i64 (i : Int) ∧ getT t 3 = v ∧ isL H nx v (halves (l.take i))) l.length ?_ ?_
  · exact ⟨rfl, 0, .nils, rfl, by simp [go_sem, hN], by simp [go_sem, hN], .inl ⟨rfl, rfl⟩⟩
  rintro m t H nx fz ⟨rfl, i, v, hm, t8, t3, hv⟩ hF
  have hN' : t.length = 22 := by rw [hF.1]; simp [hN]
  have f6 : getT t 6 = R32 l := by rw [hF.2 6 (by decide)]; simp [go_sem, hN]
  have f7 : getT t 7 = .int .i64 (l.length : Int) := by rw [hF.2 7 (by decide)]; simp [go_sem, hN]
  clear hF
  by_cases hi : i < l.length
  · have hil : (i : Int) < l.length := by omega
    obtain ⟨w, hw⟩ : ∃ w, w = dg l i := ⟨_, rfl⟩
    have hwB : w < 4294967296 := by rw [hw]; exact getD_lt hd (by omega) i
    obtain ⟨r, hr⟩ : ∃ r, r = w % 65536 := ⟨_, rfl⟩
    obtain ⟨q, hq⟩ : ∃ q, q = w / 65536 := ⟨_, rfl⟩
    have e1 : ((w : Int)).tmod 65536 = r := by rw [hr]; exact tmod_nat w 65536
    have e2 : ((w : Int)).tdiv 65536 = q := by rw [hq]; exact tdiv_nat w 65536
    have e4 : IntKind.u32.wrap (q : Int) = q := by rw [wrap32]; omega
    obtain ⟨i2, hi2⟩ : ∃ i2, i2 = i + 1 := ⟨_, rfl⟩
    have e5 : IntKind.i64.wrap ((i : Int) + 1) = i2 := by rw [wrapI_id (by omega) (by omega)]; omega
    obtain ⟨v', H', ha, hL⟩ := isL_app (N := [r, q]) (by' := 4) (isL_new (X := some (.cells 191 1 [.int .u32 (r : Int), .int .u32 (q : Int)])) hv) (by simp) (by rw [halves_len, List.length_take]; simp [room]; omega)
    have ha' : appendA [] (nx + 1) (setB H nx (some (.cells 191 1 [.int .u32 (r : Int), .int .u32 (q : Int)]))) 191 1 4 v [.int .u32 (r : Int), .int .u32 (q : Int)] 2 = some (v', H', nx + 1 + 1) := ha
    simp [go_sem, t8, t3, hN', f6, f7, hi, hil, ← hw, e1, e2, e4, e5, ha']
    refine ⟨m - 1, by omega, i2, by omega, rfl, ?_⟩
    rw [hi2, List.take_succ_eq_append_getElem hi, halves_append, ← getD_eq hi, ← hw]
    simp only [halves, ← hr, ← hq]
    exact hL
  · have hil : ¬ (i : Int) < l.length := by omega
    rw [List.take_of_length_le (by omega)] at hv
    simp [go_sem, t8, t3, hN', f6, f7, hil]
    refine trim_isL L hv (by rw [halves_len]; omega) fun v' hv' _ => ?_
    simp [go_sem, hN', isL_frz hv', hst]
theorem words_call (L : LibR E) (hd : digs 4294967296 l) (hl : l.length < 1000000000) : wpA E id_ref01_words [R32 l] H nx fz R ↔ R ⟨.ret (N16 (val 4294967296 l)), H, nx, fz, false⟩ := wpA_iff (words_val L hd hl) rfl
end
end Go.Am
end
section
set_option maxHeartbeats 8000000
namespace Go.Am
open Go Go.Nt
section
variable {E : Env} {l : List Nat} {n m a b : Nat} {H : Heap} {nx : Nat} {fz : List Nat} {R : Back → Prop}
theorem cmp16_val (L : LibR E) (ha : (dig 65536 a).length < 9223372036854775808) (hb : (dig 65536 b).length < 9223372036854775808) : Val E id_ref01_NatCmp [N16 a, N16 b] (.int .i64 (ord a b)) := by
  refine val_fn L.cmp rfl (by simp) fun T hN hA => ?_
  have h0 := hA 0 _ rfl
  have h1 := hA 1 _ rfl
  by_cases he : (dig 65536 a).length = (dig 65536 b).length
  · have he' : ((dig 65536 a).length : Int) = (dig 65536 b).length := by omega
    have hw : IntKind.i64.wrap (((dig 65536 b).length : Int) - 1) = ((dig 65536 b).length : Int) - 1 := wrapI_id (by omega) (by omega)
    simp [go_sem, h0, h1, hN, he', hw]
    refine loop_v _ rfl (fun m t H nx fz => H = [] ∧ nx = 0 ∧ fz = [] ∧ m ≤ (dig 65536 b).length ∧ getT t 5 = .int .i64 ((m : Int) - 1) ∧ (dig 65536 a).drop m = (dig 65536 b).drop m) (dig 65536 b).length ?_ ?_
    · simp [go_sem, h0, hN]
      rw [← he]; simp
    · rintro m t H nx fz ⟨rfl, rfl, rfl, hm, ht, hs⟩ hF
      have hN' : t.length = 41 := by rw [hF.1]; simp [hN]
      have f0 : getT t 0 = N16 a := by rw [hF.2 0 (by decide)]; simp [go_sem, h0]
      have f1 : getT t 1 = N16 b := by rw [hF.2 1 (by decide)]; simp [go_sem, h1]
      by_cases hm0 : m = 0
      · subst hm0
        have : a = b := by
          have := dig_inj hB16 (n := a) (m := b) (by simpa using hs)
          exact this
        simp [go_sem, ht, hN', this, ord]
      · obtain ⟨i, rfl⟩ : ∃ i, m = i + 1 := ⟨m - 1, by omega⟩
        have i1 : i < (dig 65536 a).length := by omega
        have i2 : i < (dig 65536 b).length := by omega
        have hw : IntKind.i64.wrap ((i : Int) - 1) = (i : Int) - 1 := wrapI_id (by omega) (by omega)
        by_cases c1 : dg (dig 65536 a) i < dg (dig 65536 b) i
        · have := val_lt_top (by decide) (digs16 a) (digs16 b) he i1 hs c1
          rw [val_dig hB16, val_dig hB16] at this
          simp [go_sem, ht, hN', f0, f1, i1, i2, c1, ord, this]
        · by_cases c2 : dg (dig 65536 b) i < dg (dig 65536 a) i
          · have := val_lt_top (by decide) (digs16 b) (digs16 a) he.symm i2 hs.symm c2
            rw [val_dig hB16, val_dig hB16] at this
            have h2 : ¬ a < b := by omega
            have h3 : ¬ a = b := by omega
            simp [go_sem, ht, hN', f0, f1, i1, i2, c1, c2, ord, h2, h3]
          · simp [go_sem, ht, hN', f0, f1, i1, i2, c1, c2, hw]
            refine ⟨i, by omega, by omega, rfl, ?_⟩
            have : dg (dig 65536 a) i = dg (dig 65536 b) i := by omega
            rw [getD_eq i1, getD_eq i2] at this
            rw [List.drop_eq_getElem_cons i1, List.drop_eq_getElem_cons i2, this, hs]
  · by_cases hlt : (dig 65536 a).length < (dig 65536 b).length
    · have := dig_len_lt hB16 hlt
      simp [go_sem, h0, h1, hN, he, hlt, ord, this]
    · have := dig_len_lt hB16 (n := b) (m := a) (by omega)
      have h2 : ¬ a < b := by omega
      have h3 : ¬ a = b := by omega
      simp [go_sem, h0, h1, hN, he, hlt, ord, h2, h3]
end
end Go.Am
end
section
set_option maxHeartbeats 8000000
namespace Go.Am
open Go Go.Nt
section
variable {B i c d k : Nat} {a b M : List Nat}
theorem val_snoc (M : List Nat) (d : Nat) : val B (M ++ [d]) = val B M + B ^ M.length * d := by
  rw [val_append]; simp [val]
theorem digs_snoc (h : digs B M) (hd : d < B) : digs B (M ++ [d]) := digs_append.2 ⟨h, digs_cons.2 ⟨hd, digs_nil⟩⟩
theorem add_app {s : Nat} (hi : M.length = i) (h : val B M + B ^ i * c = val B (a.take i) + val B (b.take i)) (hs : s = dg a i + c + dg b i) :
    val B (M ++ [s % B]) + B ^ (i + 1) * (s / B) = val B (a.take (i + 1)) + val B (b.take (i + 1)) := by
  have := add_step (B := B) (L := M ++ [0]) (a := a) (b := b) (i := i) (c := c) (s := s) (by simp; omega) (by rw [List.take_append_of_le_length (by omega), List.take_of_length_le (by omega)]; exact h) hs
  rw [← this]
  congr 2
  rw [List.take_of_length_le (by simp; omega), ← hi]
  simp
theorem sub_app {y e : Nat} (hi : M.length = i) (h : val B M + val B (b.take i) = val B (a.take i) + B ^ i * c) (hy : y + dg b i + c = dg a i + B * e) :
    val B (M ++ [y]) + val B (b.take (i + 1)) = val B (a.take (i + 1)) + B ^ (i + 1) * e := by
  have := sub_step (B := B) (L := M ++ [0]) (a := a) (b := b) (i := i) (c := c) (y := y) (e := e) (by simp; omega) (by rw [List.take_append_of_le_length (by omega), List.take_of_length_le (by omega)]; exact h) hy
  rw [← this]
  congr 2
  rw [List.take_of_length_le (by simp; omega), ← hi]
  simp
theorem dig_of_len (hB : 2 ≤ B) (hd : digs B M) (h : M = [] ∨ B ^ (M.length - 1) ≤ val B M) : M = dig B (val B M) := by
  rcases h with rfl | h
  · simp [val, dig_zero]
  · refine (dig_val hB hd fun hl => ?_).symm
    obtain ⟨N, rfl⟩ : ∃ N, M = N ++ [0] := by
      have := List.getLast?_eq_some_iff.1 hl
      obtain ⟨N, hN⟩ := this
      exact ⟨N, hN⟩
    rw [val_snoc, Nat.mul_zero, Nat.add_zero, List.length_append, List.length_singleton, Nat.add_sub_cancel] at h
    have := val_lt (by omega) (digs_append.1 hd).1
    omega
end
section
variable {E : Env} {l : List Nat} {n m a b : Nat} {H : Heap} {nx : Nat} {fz : List Nat} {R : Back → Prop} {v : AV} {M N : List Nat}
theorem isL_one {r : Nat} (h : isL H nx v M) (hl : M.length < 10000000000) : ∃ v' H', appendA [] (nx + 1) (setB H nx (some (.cells 191 1 [.int .u32 (r : Int)]))) 191 1 4 v [.int .u32 (r : Int)] 1 = some (v', H', nx + 1 + 1) ∧ isL H' (nx + 1 + 1) v' (M ++ [r]) :=
  isL_app (N := [r]) (by' := 4) (isL_new h) (by simp) (by simp [room]; omega)
def firstC : ACode → ACode
  | .seq a _ => a
  | c => c
def restC : ACode → ACode
  | .seq _ b => b
  | c => c
theorem add16_rest {T : List AV} {u w : List Nat} (hu : digs 65536 u) (hw : digs 65536 w) (hlen : w.length ≤ u.length) (hul : u.length < 1000000000) (hn : u = dig 65536 (val 65536 u)) (hN : T.length = 56) (h0 : getT T 0 = R32 u) (h1 : getT T 1 = R32 w) :
    vC E (restC (restC fn_ref01_NatAdd.body)) ⟨T, [], 0, [], [], false⟩ (leaveV E [.tmp 4] (retV (N16 (val 65536 u + val 65536 w)))) := by
  simp only [restC, fn_ref01_NatAdd]
  obtain ⟨c1, hc1⟩ : ∃ c1, c1 = u.length + 1 := ⟨_, rfl⟩
  have e0 : IntKind.i64.wrap ((u.length : Int) + 1) = c1 := by rw [wrapI_id (by omega) (by omega)]; omega
  have r1 : (c1 : Int) * 4 ≤ 140737488355328 := by omega
  have r2 : (c1 : Int) ≤ 9223372036854775807 := by omega
  simp [go_sem, h0, h1, hN, e0, r1, r2]
  clear r1 r2
  refine wpC.mono (Q := fun x s => x = .exit 0 ∧ ∃ (t : List AV) (H : Heap) (nx : Nat) (M : List Nat) (v : AV) (c : Nat), s = ⟨t, H, nx, [], [], false⟩ ∧ t.length = 56 ∧ getT t 5 = v ∧ getT t 6 = .int .u32 (c : Int) ∧ isL H nx v M ∧ M.length = u.length ∧ digs 65536 M ∧ c ≤ 1 ∧ val 65536 M + 65536 ^ u.length * c = val 65536 u + val 65536 w) ?_ ?_
  · refine loop_v _ rfl (fun m t H nx fz => fz = [] ∧ ∃ (i : Nat) (M : List Nat) (v : AV) (c : Nat), m + i = u.length ∧ getT t 22 = .int .i64 (i : Int) ∧ getT t 5 = v ∧ getT t 6 = .int .u32 (c : Int) ∧ isL H nx v M ∧ M.length = i ∧ digs 65536 M ∧ c ≤ 1 ∧ val 65536 M + 65536 ^ i * c = val 65536 (u.take i) + val 65536 (w.take i)) u.length ?_ ?_
    · exact ⟨rfl, 0, [], .sl 0 0 0, 0, rfl, by simp [go_sem, hN], by simp [go_sem, hN], by simp [go_sem, hN], isL_make (H := []) (nx := 0) (M := []) rfl, rfl, digs_nil, by omega, by simp [val]⟩
    rintro m t H nx fz ⟨rfl, i, M, v, c, hm, t22, t5, t6, hv, hMl, hMd, hc, hs⟩ hF
    have hN' : t.length = 56 := by rw [hF.1]; simp [hN]
    have f0 : getT t 0 = R32 u := by rw [hF.2 0 (by decide)]; simp [go_sem, h0]
    have f1 : getT t 1 = R32 w := by rw [hF.2 1 (by decide)]; simp [go_sem, h1]
    have f20 : getT t 20 = R32 u := by rw [hF.2 20 (by decide)]; simp [go_sem, hN]
    have f21 : getT t 21 = .int .i64 (u.length : Int) := by rw [hF.2 21 (by decide)]; simp [go_sem, hN]
    clear hF
    by_cases hi : i < u.length
    · have hil : (i : Int) < u.length := by omega
      obtain ⟨x, hx⟩ : ∃ x, x = dg u i := ⟨_, rfl⟩
      have xB : x < 65536 := by rw [hx]; exact getD_lt hu (by omega) i
      obtain ⟨y, hy⟩ : ∃ y, y = dg w i := ⟨_, rfl⟩
      have yB : y < 65536 := by rw [hy]; exact getD_lt hw (by omega) i
      obtain ⟨xc, hxc⟩ : ∃ xc, xc = x + c := ⟨_, rfl⟩
      obtain ⟨s, hs'⟩ : ∃ s, s = xc + y := ⟨_, rfl⟩
      have e1 : IntKind.u32.wrap ((x : Int) + (c : Int)) = xc := by rw [wrap32]; omega
      have e2 : IntKind.u32.wrap ((xc : Int) + (y : Int)) = s := by rw [wrap32]; omega
      obtain ⟨r, hr⟩ : ∃ r, r = s % 65536 := ⟨_, rfl⟩
      obtain ⟨q, hq⟩ : ∃ q, q = s / 65536 := ⟨_, rfl⟩
      have e3 : ((s : Int)).tmod 65536 = r := by rw [hr]; exact tmod_nat s 65536
      have e4 : ((s : Int)).tdiv 65536 = q := by rw [hq]; exact tdiv_nat s 65536
      have e5 : IntKind.u32.wrap (q : Int) = q := by rw [wrap32]; omega
      obtain ⟨i2, hi2⟩ : ∃ i2, i2 = i + 1 := ⟨_, rfl⟩
      have e6 : IntKind.i64.wrap ((i : Int) + 1) = i2 := by rw [wrapI_id (by omega) (by omega)]; omega
      obtain ⟨v', H', ha, hL⟩ := isL_one (r := r) hv (by omega)
      have hst := add_app (B := 65536) (s := s) hMl hs (by rw [hs', hxc, hx, hy])
      rw [← hr, ← hq, ← hi2] at hst
      by_cases hj : i < w.length
      · have hjl : (i : Int) < w.length := by omega
        simp [go_sem, t22, t5, t6, hN', f0, f1, f20, f21, hi, hil, hj, hjl, ← hx, ← hy, e1, e2, e3, e4, e5, e6, ha]
        exact ⟨m - 1, by omega, i2, by omega, rfl, M ++ [r], hL, by simp; omega, digs_snoc hMd (by omega), by omega, hst⟩
      · have hjl : ¬ (i : Int) < w.length := by omega
        have hy0 : y = 0 := by rw [hy]; exact getD_out (by omega)
        have hxs : s = xc := by omega
        rw [hxs] at e3 e4
        simp [go_sem, t22, t5, t6, hN', f0, f1, f20, f21, hi, hil, hj, hjl, ← hx, ← hy, e1, e2, e3, e4, e5, e6, ha]
        exact ⟨m - 1, by omega, i2, by omega, rfl, M ++ [r], hL, by simp; omega, digs_snoc hMd (by omega), by omega, hst⟩
    · have hil : ¬ (i : Int) < u.length := by omega
      have hiu : i = u.length := by omega
      simp [go_sem, t22, t5, t6, hN', f20, f21, hil]
      rw [List.take_of_length_le (by omega), List.take_of_length_le (by omega), hiu] at hs
      exact ⟨_, _, _, ⟨rfl, rfl, rfl⟩, by simp [hN'], M, c, by simp [go_sem, t6], by rw [show getT (t.set 23 (.bool false)) 5 = v by simp [go_sem, t5]]; exact hv, by omega, hMd, hc, hs⟩
  rintro x s ⟨rfl, t, H, nx, M, v, c, rfl, hN', t5, t6, hv, hMl, hMd, hc, hs⟩
  by_cases hc0 : c = 0
  · have hM : M = dig 65536 (val 65536 u + val 65536 w) := by
      rw [hc0, Nat.mul_zero, Nat.add_zero] at hs
      rw [← hs]
      refine dig_of_len hB16 hMd ?_
      by_cases hue : u = []
      · left; subst hue; exact List.length_eq_zero_iff.1 hMl
      · right
        have h2 : 0 < val 65536 u := by
          refine Nat.pos_of_ne_zero fun h0 => hue ?_
          rw [h0, dig_zero] at hn; exact hn
        have h3 := pow_le_of_dig_len hB16 h2
        rw [← hn] at h3
        rw [hMl, hs]; omega
    simp [go_sem, t5, t6, hN', hc0, isL_frz hv, hM]
  · have hc1 : c = 1 := by omega
    have hcp : 0 < c := by omega
    obtain ⟨v', H', ha, hL⟩ := isL_one (r := c) hv (by omega)
    have hM : M ++ [c] = dig 65536 (val 65536 u + val 65536 w) := by
      have hv2 : val 65536 (M ++ [c]) = val 65536 u + val 65536 w := by rw [val_snoc, hMl]; exact hs
      rw [← hv2]
      refine dig_of_len hB16 (digs_snoc hMd (by omega)) (.inr ?_)
      rw [val_snoc, List.length_append, List.length_singleton, Nat.add_sub_cancel, hc1]
      omega
    have hcl : M.length + 1 = (dig 65536 (val 65536 u + val 65536 w)).length := by rw [← hM]; simp
    simp [go_sem, t5, t6, hN', hc0, hcp, ha, isL_frz hL, hM]
theorem add16_val (L : LibR E) (ha : (dig 65536 a).length < 1000000000) (hb : (dig 65536 b).length < 1000000000) : Val E id_ref01_NatAdd [N16 a, N16 b] (N16 (a + b)) := by
  refine val_fn (body := .seq (firstC fn_ref01_NatAdd.body) (.seq (firstC (restC fn_ref01_NatAdd.body)) (restC (restC fn_ref01_NatAdd.body)))) L.add rfl (by simp) fun T hN hA => ?_
  have h0 := hA 0 _ rfl
  have h1 := hA 1 _ rfl
  have key := fun T u w hu hw hlen hul hn hN h0 h1 => add16_rest (E := E) (T := T) (u := u) (w := w) hu hw hlen hul hn hN h0 h1
  generalize restC (restC fn_ref01_NatAdd.body) = rest at key ⊢
  simp only [firstC, restC, fn_ref01_NatAdd]
  by_cases hlt : (dig 65536 a).length < (dig 65536 b).length
  · have := fun T => key T (dig 65536 b) (dig 65536 a) (digs16 b) (digs16 a) (by omega) hb (by rw [val_dig hB16])
    rw [val_dig hB16, val_dig hB16, Nat.add_comm] at this
    simp [go_sem, h0, h1, hN, hlt]
    exact this _ (by simp [hN]) (by simp [go_sem, hN, h0, h1]) (by simp [go_sem, hN, h0, h1])
  · have := fun T => key T (dig 65536 a) (dig 65536 b) (digs16 a) (digs16 b) (by omega) ha (by rw [val_dig hB16])
    rw [val_dig hB16, val_dig hB16] at this
    simp [go_sem, h0, h1, hN, hlt]
    exact this _ (by simp [hN]) (by simp [go_sem, hN, h0, h1]) (by simp [go_sem, hN, h0, h1])
theorem add16_call (L : LibR E) (ha : (dig 65536 a).length < 1000000000) (hb : (dig 65536 b).length < 1000000000) : wpA E id_ref01_NatAdd [N16 a, N16 b] H nx fz R ↔ R ⟨.ret (N16 (a + b)), H, nx, fz, false⟩ := wpA_iff (add16_val L ha hb) rfl
end
end Go.Am
end
section
set_option maxHeartbeats 8000000
namespace Go.Am
open Go Go.Nt
section
variable {E : Env} {l : List Nat} {n m a b : Nat} {H : Heap} {nx : Nat} {fz : List Nat} {R : Back → Prop} {v : AV} {M N : List Nat}
theorem sub16_list (L : LibR E) {u w : List Nat} (hu : digs 65536 u) (hw : digs 65536 w) (hlen : w.length ≤ u.length) (hul : u.length < 1000000000) (hle : val 65536 w ≤ val 65536 u) : Val E id_ref01_NatSub [R32 u, R32 w] (N16 (val 65536 u - val 65536 w)) := by
  refine val_fn L.sub rfl (by simp) fun T hN hA => ?_
  have h0 := hA 0 _ rfl
  have h1 := hA 1 _ rfl
  have r1 : (u.length : Int) * 4 ≤ 140737488355328 := by omega
  have r2 : (u.length : Int) ≤ 9223372036854775807 := by omega
  simp [go_sem, h0, h1, hN, r1, r2]
  clear r1 r2
  refine loop_v _ rfl (fun m t H nx fz => fz = [] ∧ ∃ (i : Nat) (M : List Nat) (v : AV) (c : Nat), m + i = u.length ∧ getT t 15 = .int .i64 (i : Int) ∧ getT t 5 = v ∧ getT t 6 = .int .u32 (c : Int) ∧ isL H nx v M ∧ M.length = i ∧ digs 65536 M ∧ c ≤ 1 ∧ val 65536 M + val 65536 (w.take i) = val 65536 (u.take i) + 65536 ^ i * c) u.length ?_ ?_
  · exact ⟨rfl, 0, [], .sl 0 0 0, 0, rfl, by simp [go_sem, hN], by simp [go_sem, hN], by simp [go_sem, hN], isL_make (H := []) (nx := 0) (M := []) rfl, rfl, digs_nil, by omega, by simp [val]⟩
  rintro m t H nx fz ⟨rfl, i, M, v, c, hm, t15, t5, t6, hv, hMl, hMd, hc, hs⟩ hF
  have hN' : t.length = 47 := by rw [hF.1]; simp [hN]
  have f0 : getT t 0 = R32 u := by rw [hF.2 0 (by decide)]; simp [go_sem, h0]
  have f1 : getT t 1 = R32 w := by rw [hF.2 1 (by decide)]; simp [go_sem, h1]
  have f14 : getT t 14 = .int .i64 (u.length : Int) := by rw [hF.2 14 (by decide)]; simp [go_sem, hN]
  clear hF
  by_cases hi : i < u.length
  · have hil : (i : Int) < u.length := by omega
    obtain ⟨x, hx⟩ : ∃ x, x = dg u i := ⟨_, rfl⟩
    have xB : x < 65536 := by rw [hx]; exact getD_lt hu (by omega) i
    obtain ⟨y, hy⟩ : ∃ y, y = dg w i := ⟨_, rfl⟩
    have yB : y < 65536 := by rw [hy]; exact getD_lt hw (by omega) i
    obtain ⟨e, he⟩ : ∃ e, e = c + y := ⟨_, rfl⟩
    have e1 : IntKind.u32.wrap ((c : Int) + (y : Int)) = e := by rw [wrap32]; omega
    obtain ⟨xb, hxb⟩ : ∃ xb, xb = x + 65536 := ⟨_, rfl⟩
    have e2 : IntKind.u32.wrap ((x : Int) + 65536) = xb := by rw [wrap32]; omega
    obtain ⟨i2, hi2⟩ : ∃ i2, i2 = i + 1 := ⟨_, rfl⟩
    have e6 : IntKind.i64.wrap ((i : Int) + 1) = i2 := by rw [wrapI_id (by omega) (by omega)]; omega
    have nj : ¬ i < w.length → e = c := fun h => by
      have : y = 0 := by rw [hy]; exact getD_out (by omega)
      omega
    by_cases hlt : x < e
    · obtain ⟨r, hr⟩ : ∃ r, r = xb - e := ⟨_, rfl⟩
      have e3 : IntKind.u32.wrap ((xb : Int) - (e : Int)) = r := by rw [wrap32]; omega
      obtain ⟨v', H', ha, hL⟩ := isL_one (r := r) hv (by omega)
      have hst := sub_app (B := 65536) (y := r) (e := 1) hMl hs (by rw [← hx, ← hy]; omega)
      rw [← hi2] at hst
      by_cases hj : i < w.length
      · have hjl : (i : Int) < w.length := by omega
        simp [go_sem, t15, t5, t6, hN', f0, f1, f14, hi, hil, hj, hjl, ← hx, ← hy, e1, e2, e3, e6, hlt, ha]
        exact ⟨m - 1, by omega, i2, by omega, rfl, M ++ [r], 1, rfl, hL, by simp; omega, digs_snoc hMd (by omega), by omega, hst⟩
      · have hjl : ¬ (i : Int) < w.length := by omega
        have := nj hj
        rw [this] at e3 hlt
        simp [go_sem, t15, t5, t6, hN', f0, f1, f14, hi, hil, hj, hjl, ← hx, ← hy, e1, e2, e3, e6, hlt, ha]
        exact ⟨m - 1, by omega, i2, by omega, rfl, M ++ [r], 1, rfl, hL, by simp; omega, digs_snoc hMd (by omega), by omega, hst⟩
    · obtain ⟨r, hr⟩ : ∃ r, r = x - e := ⟨_, rfl⟩
      have e3 : IntKind.u32.wrap ((x : Int) - (e : Int)) = r := by rw [wrap32]; omega
      obtain ⟨v', H', ha, hL⟩ := isL_one (r := r) hv (by omega)
      have hst := sub_app (B := 65536) (y := r) (e := 0) hMl hs (by rw [← hx, ← hy]; omega)
      rw [← hi2] at hst
      by_cases hj : i < w.length
      · have hjl : (i : Int) < w.length := by omega
        simp [go_sem, t15, t5, t6, hN', f0, f1, f14, hi, hil, hj, hjl, ← hx, ← hy, e1, e2, e3, e6, hlt, ha]
        exact ⟨m - 1, by omega, i2, by omega, rfl, M ++ [r], 0, rfl, hL, by simp; omega, digs_snoc hMd (by omega), by omega, hst⟩
      · have hjl : ¬ (i : Int) < w.length := by omega
        have := nj hj
        rw [this] at e3 hlt
        simp [go_sem, t15, t5, t6, hN', f0, f1, f14, hi, hil, hj, hjl, ← hx, ← hy, e1, e2, e3, e6, hlt, ha]
        exact ⟨m - 1, by omega, i2, by omega, rfl, M ++ [r], 0, rfl, hL, by simp; omega, digs_snoc hMd (by omega), by omega, hst⟩
  · have hil : ¬ (i : Int) < u.length := by omega
    have hiu : i = u.length := by omega
    rw [List.take_of_length_le (by omega), List.take_of_length_le (by omega), hiu] at hs
    obtain ⟨_, hval⟩ := sub_end (by omega) (hMl.trans hiu) hMd hs hle
    simp [go_sem, t15, t5, t6, hN', f14, hil]
    refine trim_isL L hv (by omega) fun v' hv' _ => ?_
    simp [go_sem, hN', isL_frz hv', strip_eq hB16 hMd, hval]
theorem sub16_call (L : LibR E) (hle : b ≤ a) (ha : (dig 65536 a).length < 1000000000) : wpA E id_ref01_NatSub [N16 a, N16 b] H nx fz R ↔ R ⟨.ret (N16 (a - b)), H, nx, fz, false⟩ := by
  have h := sub16_list L (digs16 a) (digs16 b) ?_ ha (by rw [val_dig hB16, val_dig hB16]; exact hle)
  · rw [val_dig hB16, val_dig hB16] at h; exact wpA_iff h rfl
  · refine Classical.byContradiction fun hno => ?_
    have := dig_len_lt hB16 (n := a) (m := b) (by omega)
    omega
end
end Go.Am
end
section
set_option maxHeartbeats 8000000
namespace Go.Am
open Go Go.Nt
section
variable {E : Env} {l : List Nat} {n m a b k x : Nat} {H : Heap} {nx : Nat} {fz : List Nat} {R : Back → Prop} {v : AV} {M N : List Nat}
theorem mul16_list (L : LibR E) {u v : List Nat} (hda : digs 65536 u) (hdb : digs 65536 v) (ha : u.length < 1000000000) (hb : v.length < 1000000000) : Val E id_ref01_NatMul [R32 u, R32 v] (N16 (val 65536 u * val 65536 v)) := by
  refine val_fn L.mul rfl (by simp) fun T hN hA => ?_
  have h0 := hA 0 _ rfl
  have h1 := hA 1 _ rfl
  by_cases h3 : u = []
  · subst h3; simp [go_sem, h0, h1, hN, dig_zero, ints, val]
  by_cases h4 : v = []
  · subst h4; simp [go_sem, h0, h1, hN, dig_zero, ints, val, h3]
  have w1 : IntKind.i64.wrap ((u.length : Int) + (v.length : Int)) = ((u.length + v.length : Nat) : Int) := by rw [wrapI_id (by omega) (by omega)]; omega
  generalize hn : u.length + v.length = N at *
  have r1 : (N : Int) * 4 ≤ 140737488355328 := by omega
  have r2 : (N : Int) ≤ 9223372036854775807 := by omega
  simp [go_sem, h0, h1, hN, h3, h4, w1, r1, r2]
  clear w1 r1 r2
  refine loop_v _ rfl (fun m t H nx fz => nx = 1 ∧ fz = [] ∧ ∃ (i : Nat) (M : List Nat), H = [some (.cells 191 1 (ints .u32 M))] ∧ m + i = u.length ∧ getT t 28 = .int .i64 (i : Int) ∧ M.length = N ∧ digs 65536 M ∧ val 65536 M = val 65536 (u.take i) * val 65536 v ∧ ∀ k, i + v.length ≤ k → dg M k = 0) u.length ?_ ?_
  · refine ⟨rfl, rfl, 0, List.replicate N 0, rfl, rfl, by simp [go_sem, hN], by simp, digs_replicate (by omega) N, ?_, fun k _ => getD_replicate N k⟩
    rw [val_replicate]; simp [val]
  rintro m t H nx fz ⟨rfl, rfl, i, M, rfl, hm, ht, hML, hMd, hMv, hMz⟩ hF
  have hN' : t.length = 77 := by rw [hF.1]; simp [hN]
  have f0 : getT t 0 = R32 u := by rw [hF.2 0 (by decide)]; simp [go_sem, h0]
  have f1 : getT t 1 = R32 v := by rw [hF.2 1 (by decide)]; simp [go_sem, h1]
  have f5 : getT t 5 = .sl 0 0 N := by rw [hF.2 5 (by decide)]; simp [go_sem, hN]
  have f26 : getT t 26 = R32 u := by rw [hF.2 26 (by decide)]; simp [go_sem, hN]
  have f27 : getT t 27 = .int .i64 (u.length : Int) := by rw [hF.2 27 (by decide)]; simp [go_sem, hN]
  clear hF
  by_cases hi : i < u.length
  · have hil : (i : Int) < u.length := by omega
    obtain ⟨w, hw⟩ : ∃ w, w = dg u i := ⟨_, rfl⟩
    have hwB : w < 65536 := by rw [hw]; exact getD_lt hda (by omega) i
    simp [go_sem, ht, hN', f1, f5, f26, f27, hi, hil, ← hw]
    refine loop_v _ rfl (fun m2 t H nx fz => nx = 1 ∧ fz = [] ∧ ∃ (j c : Nat) (M2 : List Nat), H = [some (.cells 191 1 (ints .u32 M2))] ∧ m2 + j = v.length ∧ getT t 35 = .int .i64 (j : Int) ∧ getT t 8 = .int .u64 (c : Int) ∧ c < 65536 ∧ M2.length = N ∧ digs 65536 M2 ∧ val 65536 M2 + 65536 ^ (i + j) * c = val 65536 M + 65536 ^ i * w * val 65536 (v.take j) ∧ ∀ k, i + j ≤ k → dg M2 k = dg M k) v.length ?_ ?_
    · refine ⟨rfl, rfl, 0, 0, M, rfl, rfl, by simp [go_sem, hN'], by simp [go_sem, hN'], by omega, hML, hMd, by simp [val], fun _ _ => rfl⟩
    rintro m2 t2 H nx fz ⟨rfl, rfl, j, c, M2, rfl, hm2, ht35, ht8, hc, hM2L, hM2d, hM2v, hM2z⟩ hF2
    have hN2 : t2.length = 77 := by rw [hF2.1]; simp [hN']
    have g0 : getT t2 0 = R32 u := by rw [hF2.2 0 (by decide)]; simp [go_sem, f0]
    have g1 : getT t2 1 = R32 v := by rw [hF2.2 1 (by decide)]; simp [go_sem, f1]
    have g5 : getT t2 5 = .sl 0 0 N := by rw [hF2.2 5 (by decide)]; simp [go_sem, f5]
    have g6 : getT t2 6 = .int .i64 (i : Int) := by rw [hF2.2 6 (by decide)]; simp [go_sem, hN']
    have g7 : getT t2 7 = .int .u32 (w : Int) := by rw [hF2.2 7 (by decide)]; simp [go_sem, hN']
    have g28 : getT t2 28 = .int .i64 (i : Int) := by rw [hF2.2 28 (by decide)]; simp [go_sem, ht]
    have g33 : getT t2 33 = R32 v := by rw [hF2.2 33 (by decide)]; simp [go_sem, hN']
    have g34 : getT t2 34 = .int .i64 (v.length : Int) := by rw [hF2.2 34 (by decide)]; simp [go_sem, hN']
    clear hF2
    by_cases hj : j < v.length
    · have hjl : (j : Int) < v.length := by omega
      obtain ⟨z, hz⟩ : ∃ z, z = dg v j := ⟨_, rfl⟩
      have hzB : z < 65536 := by rw [hz]; exact getD_lt hdb (by omega) j
      obtain ⟨q, hq⟩ : ∃ q, q = i + j := ⟨_, rfl⟩
      have hqN : q < N := by omega
      rw [← hq] at hM2v
      obtain ⟨x, hx⟩ : ∃ x, x = dg M2 q := ⟨_, rfl⟩
      have hxB : x < 65536 := by rw [hx]; exact getD_lt hM2d (by omega) q
      obtain ⟨p, hp⟩ : ∃ p, p = w * z := ⟨_, rfl⟩
      have hpB : p ≤ 4294836225 := by
        rw [hp]; exact Nat.mul_le_mul (show w ≤ 65535 by omega) (show z ≤ 65535 by omega)
      obtain ⟨s, hs⟩ : ∃ s, s = p + x + c := ⟨_, rfl⟩
      have e1 : IntKind.u64.wrap (w : Int) = w := by rw [wrap64]; omega
      have e2 : IntKind.u64.wrap (z : Int) = z := by rw [wrap64]; omega
      have e3 : IntKind.u64.wrap ((w : Int) * (z : Int)) = p := by rw [wrap64, ← Int.natCast_mul, ← hp]; omega
      have e4 : IntKind.i64.wrap ((i : Int) + (j : Int)) = q := by rw [wrapI_id (by omega) (by omega)]; omega
      have e5 : IntKind.u64.wrap (x : Int) = x := by rw [wrap64]; omega
      have e6 : IntKind.u64.wrap ((x : Int) + (p : Int)) = ((p + x : Nat) : Int) := by rw [wrap64]; omega
      obtain ⟨px, hpx⟩ : ∃ px, px = p + x := ⟨_, rfl⟩
      rw [← hpx] at e6
      have e7 : IntKind.u64.wrap ((px : Int) + (c : Int)) = s := by rw [wrap64]; omega
      obtain ⟨y, hy⟩ : ∃ y, y = s % 65536 := ⟨_, rfl⟩
      obtain ⟨c2, hc2⟩ : ∃ c2, c2 = s / 65536 := ⟨_, rfl⟩
      have e8 : IntKind.u32.wrap (y : Int) = y := by rw [wrap32]; omega
      have e8' : ((s : Int)).tmod 65536 = y := by rw [hy]; exact tmod_nat s 65536
      have e9 : ((s : Int)).tdiv 65536 = c2 := by rw [hc2]; exact tdiv_nat s 65536
      have e9' : IntKind.u64.wrap (c2 : Int) = c2 := by rw [wrap64]; omega
      have e10 : IntKind.i64.wrap ((j : Int) + 1) = ((j + 1 : Nat) : Int) := by rw [wrapI_id (by omega) (by omega)]; omega
      obtain ⟨j2, hj2⟩ : ∃ j2, j2 = j + 1 := ⟨_, rfl⟩
      rw [← hj2] at e10
      have hqM : q < M2.length := by omega
      have hqi : (q : Int) < N := by omega
      have hs' : s = w * dg v j + dg M2 q + c := by rw [hs, hp, hz, hx]
      have k1 := mul_step (B := 65536) (s := s) hqM hM2v hq hs'
      have k2 := mul_carry (B := 65536) (s := s) (by omega) hwB hdb hM2d hc hs'
      simp [go_sem, ht35, ht8, hN2, g1, g5, g6, g7, g33, g34, hj, hjl, ← hz, ← hx, e1, e2, e3, e4, e5, e6, e7, e8, e8', e9, e9', e10, hqM, hqi, hM2L, hqN, IntKind.bits]
      refine ⟨m2 - 1, by omega, j2, c2, M2.set q y, rfl, by omega, rfl, rfl, by rw [hc2]; exact k2, by simpa using hM2L, hM2d.set (by rw [hy]; exact Nat.mod_lt _ (by omega)) _, ?_, fun k hk => ?_⟩
      · rw [hy, hc2, show i + j2 = q + 1 by omega, hj2]; exact k1
      · rw [Go.Nt.getD_set_ne (by omega)]; exact hM2z k (by omega)
    · have hjl : ¬ (j : Int) < v.length := by omega
      have hjv : j = v.length := by omega
      obtain ⟨q, hq⟩ : ∃ q, q = i + v.length := ⟨_, rfl⟩
      have hqN : q < N := by omega
      have e4 : IntKind.i64.wrap ((i : Int) + (v.length : Int)) = q := by rw [wrapI_id (by omega) (by omega)]; omega
      have e8 : IntKind.u32.wrap (c : Int) = c := by rw [wrap32]; omega
      have e10 : IntKind.i64.wrap ((i : Int) + 1) = ((i + 1 : Nat) : Int) := by rw [wrapI_id (by omega) (by omega)]; omega
      obtain ⟨i2, hi2⟩ : ∃ i2, i2 = i + 1 := ⟨_, rfl⟩
      rw [← hi2] at e10
      have hqM : q < M2.length := by omega
      have hqi : (q : Int) < N := by omega
      simp [go_sem, ht35, ht8, hN2, g1, g5, g6, g28, g33, g34, hjl, e4, e8, e10, hqM, hqi, hM2L, hqN]
      rw [hjv, List.take_length] at hM2v
      rw [← hq] at hM2v
      have k1 := mul_row (B := 65536) hqM (by rw [hM2z q (by omega)]; exact hMz q (by omega)) hM2v
      refine ⟨m - 1, by omega, i2, M2.set q c, rfl, by omega, rfl, by simpa using hM2L, hM2d.set hc _, ?_, fun k hk => ?_⟩
      · rw [k1, hMv, hi2, val_take_succ, hw, Nat.add_mul]
      · rw [Go.Nt.getD_set_ne (by omega), hM2z k (by omega)]; exact hMz k (by omega)
  · have hil : ¬ (i : Int) < u.length := by omega
    simp [go_sem, ht, hN', f5, f26, f27, hil]
    have hiu : i = u.length := by omega
    rw [hiu, List.take_length] at hMv
    refine trim_isL L (isL_lit hML) (by omega) fun v' hv' _ => ?_
    simp [go_sem, hN', isL_frz hv', strip_eq hB16 hMd, hMv]
theorem mul16_call (L : LibR E) {u v : List Nat} (hda : digs 65536 u) (hdb : digs 65536 v) (ha : u.length < 1000000000) (hb : v.length < 1000000000) : wpA E id_ref01_NatMul [R32 u, R32 v] H nx fz R ↔ R ⟨.ret (N16 (val 65536 u * val 65536 v)), H, nx, fz, false⟩ := wpA_iff (mul16_list L hda hdb ha hb) rfl
theorem small16_list (L : LibR E) {u : List Nat} {d : Nat} (hd : digs 65536 u) (hu : u.length < 1000000000) (hd0 : 0 < d) (hdB : d < 65536) : Val E id_ref01_small [R32 u, .int .u32 (d : Int)] (.tuple [N16 (val 65536 u / d), .int .u32 ((val 65536 u % d : Nat) : Int)]) := by
  refine val_fn L.small rfl (by simp) fun T hN hA => ?_
  have h0 := hA 0 _ rfl
  have h1 := hA 1 _ rfl
  obtain ⟨N, hNv⟩ : ∃ N, N = u.length := ⟨_, rfl⟩
  rw [← hNv] at hu
  have r1 : (N : Int) * 4 ≤ 140737488355328 := by omega
  have r2 : (N : Int) ≤ 9223372036854775807 := by omega
  have e1 : IntKind.i64.wrap ((N : Int) - 1) = (N : Int) - 1 := wrapI_id (by omega) (by omega)
  simp [go_sem, h0, h1, hN, ← hNv, r1, r2, e1]
  clear r1 r2
  refine loop_v _ rfl (fun m t H nx fz => nx = 1 ∧ fz = [] ∧ ∃ (M : List Nat) (r : Nat), H = [some (.cells 191 1 (ints .u32 M))] ∧ m ≤ N ∧ getT t 8 = .int .i64 ((m : Int) - 1) ∧ getT t 7 = .int .u32 (r : Int) ∧ M.length = N ∧ digs 65536 M ∧ r < d ∧ val 65536 (u.drop m) = d * val 65536 (M.drop m) + r) N ?_ ?_
  · refine ⟨rfl, rfl, List.replicate N 0, 0, rfl, by omega, by simp [go_sem, hN], by simp [go_sem, hN], by simp, digs_replicate (by omega) N, hd0, ?_⟩
    rw [List.drop_of_length_le (by omega), List.drop_of_length_le (by simp)]; simp [val]
  rintro m t H nx fz ⟨rfl, rfl, M, r, rfl, hm, ht, ht7, hML, hMd, hrd, hMv⟩ hF
  have hN' : t.length = 39 := by rw [hF.1]; simp [hN]
  have f0 : getT t 0 = R32 u := by rw [hF.2 0 (by decide)]; simp [go_sem, h0]
  have f1 : getT t 1 = .int .u32 (d : Int) := by rw [hF.2 1 (by decide)]; simp [go_sem, h1]
  have f6 : getT t 6 = .sl 0 0 N := by rw [hF.2 6 (by decide)]; simp [go_sem, hN, hNv]
  clear hF
  by_cases hm0 : m = 0
  · subst hm0
    rw [List.drop_zero, List.drop_zero] at hMv
    have hq : val 65536 u / d = val 65536 M := by
      rw [hMv, Nat.mul_add_div hd0, Nat.div_eq_of_lt hrd]; rfl
    have hr : val 65536 u % d = r := by rw [hMv, Nat.mul_add_mod, Nat.mod_eq_of_lt hrd]
    have hr' : ((val 65536 u : Nat) : Int) % (d : Int) = r := by rw [← hr]; simp
    simp [go_sem, ht, hN', f6]
    refine trim_isL L (isL_lit hML) (by omega) fun v' hv' _ => ?_
    simp [go_sem, hN', isL_frz hv', ht7, hq, hr', strip_eq hB16 hMd]
  · obtain ⟨i, rfl⟩ : ∃ i, m = i + 1 := ⟨m - 1, by omega⟩
    obtain ⟨x, hx⟩ : ∃ x, x = dg u i := ⟨_, rfl⟩
    have hxB : x < 65536 := by rw [hx]; exact getD_lt hd (by omega) i
    obtain ⟨rB, hrB⟩ : ∃ rB, rB = r * 65536 := ⟨_, rfl⟩
    have a1 : IntKind.u32.wrap ((r : Int) * 65536) = rB := by rw [wrap32]; omega
    obtain ⟨s, hs⟩ : ∃ s, s = rB + x := ⟨_, rfl⟩
    have a2 : IntKind.u32.wrap ((rB : Int) + (x : Int)) = s := by rw [wrap32]; omega
    have hs2 : s = r * 65536 + x := by rw [hs, hrB]
    have hdne : ¬ d = 0 := by omega
    obtain ⟨y, hy⟩ : ∃ y, y = s / d := ⟨_, rfl⟩
    have hyB : y < 65536 := by rw [hy]; exact divs_digit hd (by omega) hrd (by rw [hs2, hx])
    have a4 : ((s : Int)).tdiv (d : Int) = y := by rw [hy]; exact tdiv_nat s d
    have a6 : IntKind.u32.wrap (y : Int) = y := by rw [wrap32]; omega
    obtain ⟨r2, hr2⟩ : ∃ r2, r2 = s % d := ⟨_, rfl⟩
    have a7 : ((s : Int)).tmod (d : Int) = r2 := by rw [hr2]; exact tmod_nat s d
    have a8 : IntKind.i64.wrap ((i : Int) - 1) = (i : Int) - 1 := wrapI_id (by omega) (by omega)
    have hiN : i < N := by omega
    have hiu : i < u.length := by omega
    have hiM : i < M.length := by omega
    have hii : (i : Int) < N := by omega
    obtain ⟨k1, k2⟩ := divs_step (B := 65536) (L := M) (a := u) (s := s) hiM hd0 hMv hrd (by rw [hs2, hx])
    rw [← hy, ← hr2] at k1
    rw [← hr2] at k2
    simp [go_sem, ht, ht7, hN', f0, f1, f6, hiN, hiu, hiM, hii, a1, a2, a4, a6, a7, a8, ← hx, hdne, IntKind.bits, ← hNv, hML]
    exact ⟨i, by omega, M.set i y, rfl, by omega, rfl, by simpa using hML, hMd.set hyB _, k2, k1⟩
theorem small16_call (L : LibR E) {u : List Nat} {d : Nat} (hd : digs 65536 u) (hu : u.length < 1000000000) (hd0 : 0 < d) (hdB : d < 65536) : wpA E id_ref01_small [R32 u, .int .u32 (d : Int)] H nx fz R ↔ R ⟨.ret (.tuple [N16 (val 65536 u / d), .int .u32 ((val 65536 u % d : Nat) : Int)]), H, nx, fz, false⟩ := wpA_iff (small16_list L hd hu hd0 hdB) rfl
end
end Go.Am
end
section
set_option maxHeartbeats 8000000
namespace Go.Am
open Go Go.Nt
section
variable {B i c : Nat} {a M : List Nat}
theorem shl_app {s k : Nat} (hi : M.length = i) (h : val B M + B ^ i * c = val B (a.take i) * k) (hs : s = dg a i * k + c) : val B (M ++ [s % B]) + B ^ (i + 1) * (s / B) = val B (a.take (i + 1)) * k := by
  have e : B ^ i * (s % B) + B ^ i * B * (s / B) = B ^ i * s := by rw [Nat.mul_assoc, ← Nat.mul_add, Nat.mod_add_div]
  have e2 : B ^ i * s = B ^ i * dg a i * k + B ^ i * c := by rw [hs, Nat.mul_add, Nat.mul_assoc]
  rw [val_snoc, hi, val_take_succ, Nat.pow_succ, Nat.add_mul]
  omega
end
section
variable {E : Env} {l : List Nat} {n m a b k x : Nat} {H : Heap} {nx : Nat} {fz : List Nat} {R : Back → Prop} {v : AV} {M N : List Nat}
theorem app_low {e : TypeId} {sz by' k nx' : Nat} {H' : Heap} {v' : AV} {new : List AV} (h : appendA fz nx H e sz by' v new k = some (v', H', nx')) {j : Nat} (hj : j < nx) (hg : getB H j = none) : getB H' j = none := by
  unfold appendA at h
  split at h
  · split at h
    · cases h; exact hg
    · split at h
      · cases h; rw [getB_setB, if_neg (by omega)]; exact hg
      · cases h
  · split at h
    · split at h
      · cases h
        rw [getB_setB, if_neg (by omega), getB_setB]
        split
        · rfl
        · exact hg
      · cases h
    · cases h
  · cases h
theorem low_new {X : Option Blk} {j : Nat} (hj : j < nx) (hg : getB H j = none) : getB (setB H nx X) j = none := by
  rw [getB_setB, if_neg (by omega)]; exact hg
theorem shl16_wp (L : LibR E) (hu : (dig 65536 a).length < 1000000000) (hn : n < 16) (hR : ∀ v' H' nx', isL H' nx' v' (dig 65536 (a * 2 ^ n)) → nx ≤ nx' → (∀ j, j < nx → getB H' j = none) → R ⟨.ret v', H', nx', [], false⟩) : wpF E id_ref01_NatShl [N16 a, .int .i64 (n : Int)] [] nx [] R := by
  have hnil : ∀ j, getB [] j = none := fun j => by cases j <;> rfl
  refine wpF_v L.shl.2.2 rfl (by simp) fun T hN hA => ?_
  have h1 := hA 1 _ rfl
  obtain ⟨u, hud⟩ : ∃ u, u = dig 65536 a := ⟨_, rfl⟩
  have hva : val 65536 u = a := by rw [hud, val_dig hB16]
  have hd : digs 65536 u := by rw [hud]; exact digs16 a
  have h0 : getT T 0 = R32 u := by rw [hud]; exact hA 0 _ rfl
  rw [← hud] at hu
  by_cases h2 : u = [] ∨ n = 0
  · have hres : dig 65536 (a * 2 ^ n) = u := by
      rcases h2 with h2 | h2
      · subst h2; rw [← hva]; simp [val, dig_zero]
      · subst h2; simp [hud]
    obtain ⟨v', H', ha, hL⟩ := isL_app (by' := 4) (N := u) (isL_make (H := []) (nx := nx) (M := []) (cs := []) rfl) (.inr (by simp)) (by simp [room]; omega)
    have hlow : ∀ j, j < nx → getB H' j = none := fun j hj => app_low ha (by omega) (low_new hj (hnil j))
    rw [hres] at hR
    by_cases h3 : u = []
    · subst h3
      have ha2 : appendA [] (nx + 1) (setB [] nx (some (.cells 191 1 []))) 191 1 4 (.sl nx 0 0) (ints .u32 []) 0 = some (v', H', nx + 1 + 1) := ha
      simp [go_sem, h0, h1, hN, ha2]
      exact hR _ _ _ hL (by omega) hlow
    · have hni : n = 0 := by simpa [h3] using h2
      subst hni
      have ha2 : appendA [] (nx + 1) (setB [] nx (some (.cells 191 1 []))) 191 1 4 (.sl nx 0 0) (ints .u32 u) u.length = some (v', H', nx + 1 + 1) := ha
      simp [go_sem, h0, h1, hN, h3, ha2]
      exact hR _ _ _ hL (by omega) hlow
  · obtain ⟨h3, h4⟩ := not_or.1 h2
    have hnp : 0 < n := by omega
    have hni : ¬ (n : Int) ≤ 0 := by omega
    have e1 : ((n : Int)).tdiv 16 = 0 := by rw [show (16 : Int) = ((16 : Nat) : Int) from rfl, tdiv_nat]; omega
    have e2 : ((n : Int)).tmod 16 = n := by rw [show (16 : Int) = ((16 : Nat) : Int) from rfl, tmod_nat]; omega
    obtain ⟨c1, hc1⟩ : ∃ c1, c1 = u.length + 1 := ⟨_, rfl⟩
    have e3 : IntKind.i64.wrap (u.length : Int) = u.length := wrapI_id (by omega) (by omega)
    have e4 : IntKind.i64.wrap ((u.length : Int) + 1) = c1 := by rw [wrapI_id (by omega) (by omega)]; omega
    have e5 : IntKind.u64.wrap (n : Int) = n := by rw [wrap64]; omega
    have e6 : IntKind.i64.wrap 0 = 0 := rfl
    have r1 : (c1 : Int) * 4 ≤ 140737488355328 := by omega
    have r2 : (c1 : Int) ≤ 9223372036854775807 := by omega
    simp [go_sem, h0, h1, hN, h3, h4, hni, e1, e2, e3, e4, e5, e6, r1, r2]
    clear r1 r2 e6
    have hp0 : 0 < 2 ^ n := Nat.pow_pos (by omega)
    have hpB : 2 ^ n ≤ 32768 := by
      have := Nat.pow_le_pow_right (show 0 < 2 by omega) (show n ≤ 15 by omega)
      simpa using this
    refine loop_v _ rfl (fun m t H nx' fz => fz = [] ∧ nx ≤ nx' ∧ (∀ j, j < nx → getB H j = none) ∧ ∃ (i : Nat) (M : List Nat) (v : AV) (c : Nat), m + i = u.length ∧ getT t 31 = .int .i64 (i : Int) ∧ getT t 5 = v ∧ getT t 6 = .int .u32 (c : Int) ∧ isL H nx' v M ∧ M.length = i ∧ digs 65536 M ∧ c < 2 ^ n ∧ val 65536 M + 65536 ^ i * c = val 65536 (u.take i) * 2 ^ n) u.length ?_ ?_
    · exact ⟨rfl, by omega, fun j hj => low_new hj (hnil j), 0, [], .sl nx 0 0, 0, rfl, by simp [go_sem, hN], by simp [go_sem, hN], by simp [go_sem, hN], isL_make (H := []) (nx := nx) (M := []) rfl, rfl, digs_nil, hp0, by simp [val]⟩
    rintro m t H nx' fz ⟨rfl, hnx, hlow, i, M, v, c, hm, t31, t5, t6, hv, hMl, hMd, hc, hs⟩ hF
    have hN' : t.length = 55 := by rw [hF.1]; simp [hN]
    have f1 : getT t 1 = .int .i64 (n : Int) := by rw [hF.2 1 (by decide)]; simp [go_sem, h1]
    have f29 : getT t 29 = R32 u := by rw [hF.2 29 (by decide)]; simp [go_sem, hN]
    have f30 : getT t 30 = .int .i64 (u.length : Int) := by rw [hF.2 30 (by decide)]; simp [go_sem, hN]
    clear hF
    by_cases hi : i < u.length
    · have hil : (i : Int) < u.length := by omega
      obtain ⟨x, hx⟩ : ∃ x, x = dg u i := ⟨_, rfl⟩
      have xB : x < 65536 := by rw [hx]; exact getD_lt hd (by omega) i
      obtain ⟨xs, hxs⟩ : ∃ xs, xs = x * 2 ^ n := ⟨_, rfl⟩
      have xsB : xs < 2147483648 := by
        have := Nat.mul_le_mul (show x ≤ 65535 by omega) hpB
        rw [hxs]; omega
      have a1 : IntKind.u32.wrap ((x : Int) * 2 ^ n) = xs := by
        have : (x : Int) * 2 ^ n = (xs : Int) := by rw [hxs]; simp
        rw [this, wrap32]; omega
      have hmin : min n 32 = n := by omega
      have hn0 : ¬ (n : Int) < 0 := by omega
      obtain ⟨s, hs'⟩ : ∃ s, s = xs ||| c := ⟨_, rfl⟩
      have hs2 : s = x * 2 ^ n + c := by
        rw [hs', hxs, Nat.or_comm, Nat.mul_comm, or_add hc]; omega
      have sB : s < 4294967296 := by omega
      have l1 : xs < 4294967296 := by omega
      have l2 : c < 4294967296 := by omega
      obtain ⟨r, hr⟩ : ∃ r, r = s % 65536 := ⟨_, rfl⟩
      obtain ⟨q, hq⟩ : ∃ q, q = s / 65536 := ⟨_, rfl⟩
      have a3 : ((s : Int)).tmod 65536 = r := by rw [hr]; exact tmod_nat s 65536
      have a4 : ((s : Int)).tdiv 65536 = q := by rw [hq]; exact tdiv_nat s 65536
      have a5 : IntKind.u32.wrap (q : Int) = q := by rw [wrap32]; omega
      obtain ⟨i2, hi2⟩ : ∃ i2, i2 = i + 1 := ⟨_, rfl⟩
      have a6 : IntKind.i64.wrap ((i : Int) + 1) = i2 := by rw [wrapI_id (by omega) (by omega)]; omega
      have qB : q < 2 ^ n := by
        rw [hq, hs2]
        refine (Nat.div_lt_iff_lt_mul (by omega)).2 ?_
        have : x * 2 ^ n + 2 ^ n ≤ 2 ^ n * 65536 := by rw [← Nat.succ_mul, Nat.mul_comm]; exact Nat.mul_le_mul_left _ (by omega)
        omega
      obtain ⟨v', H', ha, hL⟩ := isL_one (r := r) hv (by omega)
      have hst := shl_app (B := 65536) (s := s) hMl hs (by rw [hs2, hx])
      rw [← hr, ← hq, ← hi2] at hst
      have hlow' : ∀ j, j < nx → getB H' j = none := fun j hj => app_low ha (by omega) (low_new (by omega) (hlow j hj))
      simp [go_sem, t31, t5, t6, hN', f1, f29, f30, hi, hil, ← hx, ← hs', e2, e5, a1, a3, a4, a5, a6, hmin, hn0, l1, l2, ha, IntKind.bits]
      exact ⟨m - 1, by omega, by omega, hlow', i2, by omega, rfl, M ++ [r], hL, by simp; omega, digs_snoc hMd (by omega), qB, hst⟩
    · have hil : ¬ (i : Int) < u.length := by omega
      obtain ⟨v', H', ha, hL⟩ := isL_one (r := c) hv (by omega)
      have hdM : digs 65536 (M ++ [c]) := digs_snoc hMd (by omega)
      have hv2 : val 65536 (M ++ [c]) = a * 2 ^ n := by
        rw [val_snoc, hMl, hs, List.take_of_length_le (by omega), hva]
      simp [go_sem, t31, t5, t6, hN', f29, f30, hil, ha]
      have hlow' : ∀ j, j < nx → getB H' j = none := fun j hj => app_low ha (by omega) (low_new (by omega) (hlow j hj))
      refine trim_isL L hL (by simp; omega) fun v2 hv2' _ => ?_
      rw [strip_eq hB16 hdM, hv2] at hv2'
      simp [go_sem, hN']
      exact hR _ _ _ hv2' (by omega) hlow'
theorem shl16_call (L : LibR E) (hu : (dig 65536 a).length < 1000000000) (hn : n < 16) (hR : ∀ v' H' nx', isL H' nx' v' (dig 65536 (a * 2 ^ n)) → nx ≤ nx' → (∀ j, j < nx → getB H' j = getB H j) → (∀ b o k, v' = .sl b o k → nx ≤ b) → R ⟨.ret v', H', nx', [], false⟩) : wpA E id_ref01_NatShl [N16 a, .int .i64 (n : Int)] H nx [] R := by
  refine wpA_heap L.shl.1 L.shl.2.1 L.shl.2.2 rfl ?_
  have e : [N16 a, .int .i64 (n : Int)].flatMap (tch H (depthOf nx)) = [] := rfl
  rw [e]
  refine shl16_wp L hu hn fun v' Hc nx' hL hnx hlow => ⟨hnx, ?_⟩
  unfold mergeB
  have hb : ∀ b o k, v' = .sl b o k → nx ≤ b := fun b o k hv => by
    rcases hL with ⟨h, _⟩ | ⟨b', cs, h, h1, h2, h3⟩
    · rw [h] at hv; cases hv
    · rw [h] at hv; cases hv
      refine Classical.byContradiction fun hno => ?_
      rw [hlow b (by omega)] at h2; cases h2
  refine hR _ _ _ ?_ hnx (fun j hj => by rw [getB_merge, if_neg (by simp; omega)]) hb
  rcases hL with ⟨h, h0⟩ | ⟨b', cs, h, h1, h2, h3⟩
  · exact .inl ⟨h, h0⟩
  · exact .inr ⟨b', cs, h, h1, by rw [getB_merge, if_pos (.inr ⟨hb _ _ _ h, h1⟩)]; exact h2, h3⟩
theorem shr16_val (L : LibR E) (hu : (dig 65536 a).length < 1000000000) (hn : n < 16) : Val E id_ref01_NatShr [N16 a, .int .i64 (n : Int)] (N16 (a / 2 ^ n)) := by
  refine val_fn L.shr rfl (by simp) fun T hN hA => ?_
  have h1 := hA 1 _ rfl
  obtain ⟨u, hud⟩ : ∃ u, u = dig 65536 a := ⟨_, rfl⟩
  have hva : val 65536 u = a := by rw [hud, val_dig hB16]
  have hd : digs 65536 u := by rw [hud]; exact digs16 a
  have h0 : getT T 0 = R32 u := by rw [hud]; exact hA 0 _ rfl
  rw [← hud] at hu
  have hn0 : ¬ (n : Int) < 0 := by omega
  have e1 : ((n : Int)).tdiv 16 = 0 := by rw [show (16 : Int) = ((16 : Nat) : Int) from rfl, tdiv_nat]; omega
  have e2 : ((n : Int)).tmod 16 = n := by rw [show (16 : Int) = ((16 : Nat) : Int) from rfl, tmod_nat]; omega
  have e6 : IntKind.i64.wrap 0 = 0 := rfl
  by_cases h3 : u = []
  · subst h3
    have : a = 0 := by rw [← hva]; rfl
    subst this
    simp [go_sem, h0, h1, hN, hn0, e1, e6, dig_zero, ints_nil]
  have hup : 0 < u.length := List.length_pos_iff.2 h3
  have hupi : ¬ (u.length : Int) ≤ 0 := by omega
  have e5 : IntKind.u64.wrap (n : Int) = n := by rw [wrap64]; omega
  have r1 : (u.length : Int) * 4 ≤ 140737488355328 := by omega
  have r2 : (u.length : Int) ≤ 9223372036854775807 := by omega
  have htk : List.take u.length (ints .u32 u) = ints .u32 u := by rw [List.take_of_length_le (by rw [ints_len]; omega)]
  simp [go_sem, h0, h1, hN, h3, hup, hupi, hn0, e1, e6, r1, r2, htk]
  clear r1 r2 e6
  obtain ⟨V, hV⟩ : ∃ V, V = val 65536 u / 2 ^ n := ⟨_, rfl⟩
  refine loop_v _ rfl (fun m t H nx fz => fz = [] ∧ ∃ (i : Nat) (M : List Nat) (v : AV), m + i = u.length ∧ getT t 26 = .int .i64 (i : Int) ∧ getT t 5 = v ∧ isL H nx v M ∧ M.length = i ∧ digs 65536 M ∧ ∀ j, j < i → dg M j = V / 65536 ^ j % 65536) u.length ?_ ?_
  · exact ⟨rfl, 0, [], .sl 0 0 0, rfl, by simp [go_sem, hN], by simp [go_sem, hN], isL_make (H := []) (nx := 0) (M := []) rfl, rfl, digs_nil, fun j hj => by omega⟩
  rintro m t H nx fz ⟨rfl, i, M, v, hm, t26, t5, hv, hMl, hMd, hs⟩ hF
  have hN' : t.length = 58 := by rw [hF.1]; simp [hN]
  have f0 : getT t 0 = R32 u := by rw [hF.2 0 (by decide)]; simp [go_sem, hN]
  have f1 : getT t 1 = .int .i64 (n : Int) := by rw [hF.2 1 (by decide)]; simp [go_sem, h1]
  have f25 : getT t 25 = .int .i64 (u.length : Int) := by rw [hF.2 25 (by decide)]; simp [go_sem, hN]
  clear hF
  by_cases hi : i < u.length
  · have hil : (i : Int) < u.length := by omega
    obtain ⟨x, hx⟩ : ∃ x, x = dg u i := ⟨_, rfl⟩
    have xB : x < 65536 := by rw [hx]; exact getD_lt hd (by omega) i
    obtain ⟨i2, hi2⟩ : ∃ i2, i2 = i + 1 := ⟨_, rfl⟩
    have a6 : IntKind.i64.wrap ((i : Int) + 1) = i2 := by rw [wrapI_id (by omega) (by omega)]; omega
    obtain ⟨y, hy⟩ : ∃ y, y = dg u i2 := ⟨_, rfl⟩
    have yB : y < 65536 := by rw [hy]; exact getD_lt hd (by omega) i2
    obtain ⟨yb, hyb⟩ : ∃ yb, yb = y * 65536 := ⟨_, rfl⟩
    have a1 : IntKind.u32.wrap ((y : Int) * 65536) = yb := by rw [wrap32]; omega
    obtain ⟨s, hs'⟩ : ∃ s, s = x + yb := ⟨_, rfl⟩
    have a2 : IntKind.u32.wrap ((x : Int) + (yb : Int)) = s := by rw [wrap32]; omega
    obtain ⟨z, hz⟩ : ∃ z, z = s / 2 ^ n := ⟨_, rfl⟩
    have a3 : ((s : Int)).fdiv (2 ^ n) = z := by rw [hz]; exact fdiv_pow s n
    obtain ⟨r, hr⟩ : ∃ r, r = z % 65536 := ⟨_, rfl⟩
    have a4 : ((z : Int)).tmod 65536 = r := by rw [hr]; exact tmod_nat z 65536
    have hmin : min n 32 = n := by omega
    have hn0 : ¬ (n : Int) < 0 := by omega
    have hdig := shr_digit (B := 65536) (p := 16) (r := n) (by decide) (by omega) hd i
    rw [← hV, ← hi2, ← hx, ← hy, show x + 65536 * y = s by omega, ← hz, ← hr] at hdig
    obtain ⟨v', H', ha, hL⟩ := isL_one (r := r) hv (by omega)
    have hnew : ∀ j, j < i2 → dg (M ++ [r]) j = V / 65536 ^ j % 65536 := fun j hj => by
      rcases Nat.lt_or_eq_of_le (show j ≤ i by omega) with h | h
      · rw [← hs j h]; simp [dg, List.getD_eq_getElem?_getD, List.getElem?_append_left (show j < M.length by omega)]
      · subst h; rw [hdig]; simp [dg, List.getD_eq_getElem?_getD, ← hMl]
    by_cases hj : i2 < u.length
    · have hjl : (i2 : Int) < u.length := by omega
      simp [go_sem, t26, t5, hN', f0, f1, f25, hi, hil, hj, hjl, ← hx, ← hy, e2, e5, a1, a2, a3, a4, a6, hmin, hn0, ha, IntKind.bits]
      exact ⟨m - 1, by omega, i2, by omega, rfl, M ++ [r], hL, by simp; omega, digs_snoc hMd (by omega), hnew⟩
    · have hjl : ¬ (i2 : Int) < u.length := by omega
      have hy0 : y = 0 := by rw [hy]; exact getD_out (by omega)
      have hsx : s = x := by omega
      rw [hsx] at a3
      simp [go_sem, t26, t5, hN', f0, f1, f25, hi, hil, hj, hjl, ← hx, e2, e5, a3, a4, a6, hmin, hn0, ha, IntKind.bits]
      exact ⟨m - 1, by omega, i2, by omega, rfl, M ++ [r], hL, by simp; omega, digs_snoc hMd (by omega), hnew⟩
  · have hil : ¬ (i : Int) < u.length := by omega
    have hiu : i = u.length := by omega
    have hfin := take_of_digits (B := 65536) (L := M) (V := V) (by omega) i hs
    rw [List.take_of_length_le (by omega), hiu, Nat.mod_eq_of_lt (Nat.lt_of_le_of_lt (by rw [hV]; exact Nat.div_le_self _ _) (val_lt (by omega) hd)), hV, hva] at hfin
    simp [go_sem, t26, t5, hN', f25, hil]
    refine trim_isL L hv (by omega) fun v' hv' _ => ?_
    simp [go_sem, hN', isL_frz hv', strip_eq hB16 hMd, hfin]
theorem shr16_call (L : LibR E) (hu : (dig 65536 a).length < 1000000000) (hn : n < 16) : wpA E id_ref01_NatShr [N16 a, .int .i64 (n : Int)] H nx fz R ↔ R ⟨.ret (N16 (a / 2 ^ n)), H, nx, fz, false⟩ := wpA_iff (shr16_val L hu hn) rfl
end
end Go.Am
end
section
set_option maxHeartbeats 16000000
namespace Go.Am
open Go Go.Nt
section
variable {E : Env} {l : List Nat} {n m a b k x g : Nat} {H : Heap} {nx : Nat} {fz : List Nat} {R : Back → Prop} {v : AV} {M N : List Nat}
theorem cmp16_call' (L : LibR E) (ha : (dig 65536 a).length < 9223372036854775808) (hb : (dig 65536 b).length < 9223372036854775808) : wpA E id_ref01_NatCmp [N16 a, N16 b] H nx fz R ↔ R ⟨.ret (.int .i64 (ord a b)), H, nx, fz, false⟩ := wpA_iff (cmp16_val L ha hb) rfl
theorem sz16_mul : (dig 65536 (a * b)).length ≤ (dig 65536 a).length + (dig 65536 b).length := by
  refine (dig_len_le hB16 _ _).2 ?_
  rw [Nat.pow_add]
  exact Nat.mul_lt_mul'' ((dig_len_le hB16 _ a).1 (Nat.le_refl _)) ((dig_len_le hB16 _ b).1 (Nat.le_refl _))
theorem less16_val (L : LibR E) {W d : List Nat} (hW : digs 65536 W) (hd : digs 65536 d) (hWl : W.length < 1000000000) (hdl : d.length < 1000000000) (hg : g < 18446744073709551616) : Val E id_ref01_less [R32 W, R32 d, .int .u64 (g : Int)] (.bool (decide (val 65536 W < val 65536 d * g))) := by
  refine val_fn L.less rfl (by simp) fun T hN hA => ?_
  have h0 := hA 0 _ rfl
  have h1 := hA 1 _ rfl
  have h2 := hA 2 _ rfl
  have hgl : (dig 65536 g).length ≤ 4 := (dig_len_le hB16 4 g).2 (by simpa using hg)
  have s1 := sz16_mul (a := val 65536 d) (b := g)
  have s2 := dig_length_le hB16 hd
  have s3 := dig_length_le hB16 hW
  have mc := fun H nx fz R => mul16_call (H := H) (nx := nx) (fz := fz) (R := R) L hd (digs16 g) hdl (by omega)
  rw [val_dig hB16] at mc
  have cm := fun H nx fz R => cmp16_call' (H := H) (nx := nx) (fz := fz) (R := R) (a := val 65536 W) (b := val 65536 d * g) L (by omega) (by omega)
  simp [go_sem, h0, h1, h2, hN, natOf_call L hg, mc]
  refine trim_call L (by omega) ?_
  rw [strip_eq hB16 hW]
  simp [go_sem, h0, h1, h2, hN, cm]
  unfold ord; split
  · simp [*]
  · split <;> simp [*]
theorem less16_call (L : LibR E) {W d : List Nat} {args : List AV} (hW : digs 65536 W) (hd : digs 65536 d) (hWl : W.length < 1000000000) (hdl : d.length < 1000000000) (hg : g < 18446744073709551616) (hfr : args.mapM (frz H (depthOf nx)) = some [R32 W, R32 d, .int .u64 (g : Int)]) :
    wpA E id_ref01_less args H nx [] R ↔ R ⟨.ret (.bool (decide (val 65536 W < val 65536 d * g))), H, nx, [], false⟩ := by
  rw [wpA_frz_iff (less16_val L hW hd hWl hdl hg) hfr]
  rfl
theorem and_low (s : Int) : binInt .and .i64 s 65535 = some (.int .i64 (s % 65536)) := by
  have h : (BitVec.ofInt 64 s &&& BitVec.ofInt 64 65535).toNat = (s % 65536).toNat := by
    rw [BitVec.toNat_and]
    have e1 : (BitVec.ofInt 64 65535).toNat = 2 ^ 16 - 1 := by decide
    rw [e1, Nat.and_two_pow_sub_one_eq_mod, BitVec.toNat_ofInt]
    omega
  show some (AV.int .i64 (IntKind.i64.wrap ((BitVec.ofInt 64 s &&& BitVec.ofInt 64 65535).toNat : Int))) = _
  rw [h]
  rw [wrapI_id (by omega) (by omega)]
  congr 2
  omega
theorem frz_mid {bu j N k : Nat} {P W S : List Nat} (hg : getB H bu = some (.cells 191 1 (ints .u32 (P ++ (W ++ S))))) (hj : j = P.length) (hN : N = W.length) (hk : 2 ≤ k) : frz H k (.sl bu j N) = some (R32 W) := by
  subst hj
  subst hN
  rw [frz_sli hg hk (by simp)]
  simp
theorem frz_pre {bv n k : Nat} {cs : List AV} {d : List Nat} (hg : getB H bv = some (.cells 191 1 cs)) (hcs : cs.take n = ints .u32 d) (hn : d.length = n) (hk : 2 ≤ k) : frz H k (.sl bv 0 n) = some (R32 d) := by
  subst hn
  exact isL_frz (nx := bv + 1) (.inr ⟨bv, cs, rfl, by omega, hg, hcs⟩) hk
theorem guess_ge {D V T dt p : Nat} (hdt : 0 < dt) (hD : p * dt ≤ D) (hV : V < p * (T + 1)) (hDp : 0 < D) : V / D ≤ T / dt := by
  refine (Nat.le_div_iff_mul_le hdt).2 ?_
  have h1 := Nat.div_mul_le_self V D
  generalize V / D = q at *
  have h2 : q * (p * dt) ≤ q * D := Nat.mul_le_mul_left _ hD
  have h3 : p * (q * dt) < p * (T + 1) := by rw [Nat.mul_left_comm]; omega
  have := Nat.lt_of_mul_lt_mul_left h3
  omega
end
end Go.Am
end
section
set_option maxHeartbeats 16000000
namespace Go.Am
open Go Go.Nt
section
variable {E : Env} {l : List Nat} {n m a b k x g : Nat} {H : Heap} {nx : Nat} {fz : List Nat} {R : Back → Prop} {v : AV} {M N : List Nat}
theorem sub_num {x o p r o2 : Nat} {s : Int} (hx : x < 65536) (ho : o ≤ 65535) (hp : p ≤ 4294836225) (hs : s = (x : Int) - (o : Int) - (p : Int)) (hr : (r : Int) = s % 65536) (ho2 : (o2 : Int) = -(s / 65536)) : r < 65536 ∧ o2 ≤ 65535 ∧ r + p + o = x + 65536 * o2 := by
  omega
theorem msub1_step {B : Nat} {W W2 D : List Nat} {i q o r p o2 : Nat} (hi : i < W2.length) (h : val B (W2.take i) + q * val B (D.take i) = val B (W.take i) + B ^ i * o) (hp : p = q * dg D i) (ht : r + p + o = dg W i + B * o2) :
    val B ((W2.set i r).take (i + 1)) + q * val B (D.take (i + 1)) = val B (W.take (i + 1)) + B ^ (i + 1) * o2 := by
  rw [val_take_set hi, val_take_succ D, val_take_succ W, Nat.pow_succ, Nat.mul_add q]
  have e : B ^ i * (r + p + o) = B ^ i * (dg W i + B * o2) := by rw [ht]
  have e2 : q * (B ^ i * dg D i) = B ^ i * p := by rw [hp, Nat.mul_left_comm]
  rw [Nat.mul_add, Nat.mul_add, Nat.mul_add, ← Nat.mul_assoc] at e
  omega
theorem msub1_end {B : Nat} {W W2 D : List Nat} {q o N : Nat} (hB : 0 < B) (hW2l : W2.length = N) (hW2 : digs B W2) (hq : q = val B W / val B D) (h : val B W2 + q * val B D = val B W + B ^ N * o) : val B W2 = val B W % val B D := by
  have h1 := val_lt hB hW2
  rw [hW2l] at h1
  have h2 := Nat.div_add_mod (val B W) (val B D)
  rw [← hq, Nat.mul_comm] at h2
  have h3 : o = 0 := by
    rcases Nat.eq_zero_or_pos o with h | h
    · exact h
    · have : B ^ N * 1 ≤ B ^ N * o := Nat.mul_le_mul_left _ h
      omega
  rw [h3] at h
  omega
theorem digit16_rest (L : LibR E) {T : List AV} {P W S d : List Nat} {cs : List AV} {bu bv j N q : Nat} (hW : digs 65536 W) (hd : digs 65536 d) (hdl : d.length = n) (hWl : W.length = N) (hN1 : N = n + 1) (hj : j = P.length) (hsz : P.length + (n + 1 + S.length) < 1000000000) (hne : bv ≠ bu) (hDp : 0 < val 65536 d) (hq : q = val 65536 W / val 65536 d)
    (hgu : getB H bu = some (.cells 191 1 (ints .u32 (P ++ (W ++ S))))) (hgv : getB H bv = some (.cells 191 1 cs)) (hcs : cs.take n = ints .u32 d)
    (hR : ∀ H' W', W'.length = N → digs 65536 W' → val 65536 W' = val 65536 W % val 65536 d → getB H' bu = some (.cells 191 1 (ints .u32 (P ++ (W' ++ S)))) → (∀ k, k ≠ bu → getB H' k = getB H k) → R ⟨.ret (.int .u32 (q : Int)), H', nx, [], false⟩)
    (hg : q ≤ g) (hgB : g < 65536) (hN : T.length = 78) (h0 : getT T 0 = .sl bu j N) (h1 : getT T 1 = .sl bv 0 n) (h5 : getT T 5 = .int .i64 (n : Int)) (h7 : getT T 7 = .int .u64 (g : Int)) :
    vC E (restC (restC (restC (restC (restC fn_ref01_digit.body))))) ⟨T, H, nx, [], [], false⟩ (leaveV E [.tmp 4] R) := by
  simp only [restC, fn_ref01_digit]
  simp [go_sem]
  refine wpC.mono (Q := fun x s => x = .exit 0 ∧ ∃ (t : List AV), s = ⟨t, H, nx, [], [], false⟩ ∧ t.length = 78 ∧ getT t 0 = .sl bu j N ∧ getT t 1 = .sl bv 0 n ∧ getT t 5 = .int .i64 (n : Int) ∧ getT t 7 = .int .u64 (q : Int)) ?_ ?_
  · refine loop_v _ rfl (fun m t H' nx' fz => H' = H ∧ nx' = nx ∧ fz = [] ∧ ∃ (g : Nat), m = g ∧ getT t 7 = .int .u64 (g : Int) ∧ q ≤ g ∧ g < 65536) g ?_ ?_
    · exact ⟨rfl, rfl, rfl, g, rfl, h7, hg, hgB⟩
    rintro m t _ _ _ ⟨rfl, rfl, rfl, g, rfl, t7, hg, hgB⟩ hF
    have hN' : t.length = 78 := by rw [hF.1, hN]
    have f0 : getT t 0 = .sl bu j N := by rw [hF.2 0 (by decide)]; exact h0
    have f1 : getT t 1 = .sl bv 0 n := by rw [hF.2 1 (by decide)]; exact h1
    have f5 : getT t 5 = .int .i64 (n : Int) := by rw [hF.2 5 (by decide)]; exact h5
    clear hF
    have hls : decide (val 65536 W < val 65536 d * m) = decide (q < m) := by
      rw [decide_eq_decide, hq, Nat.div_lt_iff_lt_mul hDp, Nat.mul_comm]
    by_cases hlt : q < m
    · obtain ⟨g2, hg2⟩ : ∃ g2, g2 = m - 1 := ⟨_, rfl⟩
      have a1 : IntKind.u64.wrap ((m : Int) - 1) = g2 := by rw [wrap64]; omega
      simp [go_sem, hN', t7, f0, f1]
      rw [less16_call (g := m) L hW hd (by omega) (by omega) (by omega) (by simp [go_sem, frz_mid hgu hj hWl.symm, frz_pre hgv hcs hdl])]
      rw [hls]
      simp [go_sem, hN', t7, f0, f1, f5, hlt, a1]
      exact ⟨g2, by omega, rfl, by omega, by omega⟩
    · have hmq : m = q := by omega
      simp [go_sem, hN', t7, f0, f1]
      rw [less16_call (g := m) L hW hd (by omega) (by omega) (by omega) (by simp [go_sem, frz_mid hgu hj hWl.symm, frz_pre hgv hcs hdl])]
      rw [hls]
      simp [go_sem, hN', t7, f0, f1, f5, hlt, hmq]
  rintro x s ⟨rfl, t, rfl, hN', f0, f1, f5, f7⟩
  have cD : ∀ i, i < n → partA false (cs.drop i) 0 1 = some (.int .u32 ((dg d i : Nat) : Int)) := fun i hi => cs_at (M := d) (by rw [hdl]; exact hcs) (by omega)
  have hqd := Nat.div_mul_le_self (val 65536 W) (val 65536 d)
  rw [← hq] at hqd
  have hqB : q < 65536 := by omega
  obtain ⟨SL, hSL⟩ : ∃ SL, SL = S.length := ⟨_, rfl⟩
  have q32 : IntKind.u32.wrap (q : Int) = q := by rw [wrap32]; omega
  have q64 : IntKind.i64.wrap (q : Int) = q := wrapI_id (by omega) (by omega)
  have k64 : ∀ y : Nat, y < 65536 → IntKind.i64.wrap (y : Int) = y := fun y hy => wrapI_id (by omega) (by omega)
  simp [go_sem, hN', f0, f1, f5, f7]
  refine loop_v _ rfl (fun m t H' nx' fz => nx' = nx ∧ fz = [] ∧ (∀ k, k ≠ bu → getB H' k = getB H k) ∧ ∃ (i o : Nat) (W2 : List Nat), m + i = N ∧ getT t 44 = .int .i64 (i : Int) ∧ getT t 8 = .int .i64 (-(o : Int)) ∧ o ≤ 65535 ∧ W2.length = N ∧ digs 65536 W2 ∧ getB H' bu = some (.cells 191 1 (ints .u32 (P ++ (W2 ++ S)))) ∧ val 65536 (W2.take i) + q * val 65536 (d.take i) = val 65536 (W.take i) + 65536 ^ i * o ∧ ∀ k, i ≤ k → dg W2 k = dg W k) N ?_ ?_
  · exact ⟨rfl, rfl, fun _ _ => rfl, 0, 0, W, rfl, by simp [go_sem, hN'], by simp [go_sem, hN'], by omega, hWl, hW, hgu, by simp [val], fun _ _ => rfl⟩
  rintro m t2 H' _ _ ⟨rfl, rfl, hkeep, i, o, W2, hm, t44, t8, ho, hW2l, hW2d, hgu2, hv, hsame⟩ hF
  have hN2 : t2.length = 78 := by rw [hF.1]; simp [hN']
  have g0 : getT t2 0 = .sl bu j N := by rw [hF.2 0 (by decide)]; simp [go_sem, f0]
  have g1 : getT t2 1 = .sl bv 0 n := by rw [hF.2 1 (by decide)]; simp [go_sem, f1]
  have g5 : getT t2 5 = .int .i64 (n : Int) := by rw [hF.2 5 (by decide)]; simp [go_sem, f5]
  have g7 : getT t2 7 = .int .u64 (q : Int) := by rw [hF.2 7 (by decide)]; simp [go_sem, f7]
  have g43 : getT t2 43 = .int .i64 (N : Int) := by rw [hF.2 43 (by decide)]; simp [go_sem, hN']
  clear hF
  have hgv2 : getB H' bv = some (.cells 191 1 cs) := by rw [hkeep bv hne]; exact hgv
  by_cases hi : i < N
  · have hil : (i : Int) < N := by omega
    obtain ⟨x, hx⟩ : ∃ x, x = dg W i := ⟨_, rfl⟩
    have xB : x < 65536 := by rw [hx]; exact getD_lt hW (by omega) i
    have mi : dg (P ++ (W2 ++ S)) (j + i) = x := by rw [hj, dg_mid P W2 S (by omega), hsame i (Nat.le_refl _), hx]
    obtain ⟨y, hy⟩ : ∃ y, y = dg d i := ⟨_, rfl⟩
    have yB : y < 65536 := by rw [hy]; exact getD_lt hd (by omega) i
    obtain ⟨p, hp⟩ : ∃ p, p = q * y := ⟨_, rfl⟩
    have pB : p ≤ 4294836225 := by rw [hp]; exact Nat.mul_le_mul (show q ≤ 65535 by omega) (show y ≤ 65535 by omega)
    obtain ⟨xo, hxo⟩ : ∃ xo : Int, xo = (x : Int) - (o : Int) := ⟨_, rfl⟩
    have a1 : IntKind.i64.wrap ((x : Int) + -(o : Int)) = xo := by rw [wrapI_id (by omega) (by omega)]; omega
    have a2 : IntKind.i64.wrap ((q : Int) * (y : Int)) = p := by
      rw [← Int.natCast_mul, ← hp]; exact wrapI_id (by omega) (by omega)
    obtain ⟨s, hs⟩ : ∃ s : Int, s = xo - (p : Int) := ⟨_, rfl⟩
    have a3 : IntKind.i64.wrap (xo - (p : Int)) = s := by rw [wrapI_id (by omega) (by omega)]; exact hs.symm
    obtain ⟨r, hr⟩ : ∃ r : Nat, (r : Int) = s % 65536 := ⟨(s % 65536).toNat, by omega⟩
    obtain ⟨o2, ho2⟩ : ∃ o2 : Nat, (o2 : Int) = -(s / 65536) := ⟨(-(s / 65536)).toNat, by omega⟩
    obtain ⟨rB, o2B, hnum⟩ := sub_num xB ho pB (by omega) hr ho2
    have a4 : IntKind.u32.wrap (r : Int) = r := by rw [wrap32]; omega
    have a5 : s.fdiv 65536 = -(o2 : Int) := by rw [Int.fdiv_eq_ediv_of_nonneg _ (by omega)]; omega
    have hset : (P ++ (W2 ++ S)).set (j + i) r = P ++ (W2.set i r ++ S) := by rw [hj]; exact set_mid P W2 S (by omega)
    obtain ⟨i2, hi2⟩ : ∃ i2, i2 = i + 1 := ⟨_, rfl⟩
    have a6 : IntKind.i64.wrap ((i : Int) + 1) = i2 := by rw [wrapI_id (by omega) (by omega)]; omega
    have a7 : binInt .and .i64 s 65535 = some (.int .i64 (r : Int)) := by rw [and_low, hr]
    have i10 : i < N + SL := by omega
    have hst := msub1_step (B := 65536) (W := W) (W2 := W2) (D := d) (r := r) (p := p) (o2 := o2) (by omega) hv (by rw [hp, hy]) (by rw [← hx]; exact hnum)
    by_cases hin : i < n
    · have hini : (i : Int) < n := by omega
      have cDi := cD i hin
      rw [← hy] at cDi
      simp [go_sem, hN2, g0, g1, g5, g7, g43, t44, t8, hi, hil, hin, hini, hgu2, hgv2, cDi, mi, ← hj, hW2l, ← hSL, i10, q64, k64 x xB, k64 y yB, a1, a2, a3, a4, a5, a6, a7, hset, IntKind.bits]
      exact ⟨m - 1, by omega, fun k hk => by rw [if_neg hk]; exact hkeep k hk, i2, by omega, rfl, o2B, W2.set i r, by simpa using hW2l, hW2d.set rB _, rfl, by rw [hi2]; exact hst, fun k hk => by rw [Go.Nt.getD_set_ne (by omega)]; exact hsame k (by omega)⟩
    · have hini : ¬ (i : Int) < n := by omega
      have hy0 : y = 0 := by rw [hy]; exact getD_out (by omega)
      have hp0 : p = 0 := by rw [hp, hy0]; rfl
      have hsx : s = xo := by omega
      rw [hsx] at a5 a7
      simp [go_sem, hN2, g0, g1, g5, g7, g43, t44, t8, hi, hil, hin, hini, hgu2, hgv2, mi, ← hj, hW2l, ← hSL, i10, q64, k64 x xB, a1, a4, a5, a6, a7, hset, IntKind.bits]
      exact ⟨m - 1, by omega, fun k hk => by rw [if_neg hk]; exact hkeep k hk, i2, by omega, rfl, o2B, W2.set i r, by simpa using hW2l, hW2d.set rB _, rfl, by rw [hi2]; exact hst, fun k hk => by rw [Go.Nt.getD_set_ne (by omega)]; exact hsame k (by omega)⟩
  · have hil : ¬ (i : Int) < N := by omega
    have hiN : i = N := by omega
    rw [List.take_of_length_le (by omega), List.take_of_length_le (by omega), List.take_of_length_le (by omega), hiN] at hv
    have hmod := msub1_end (B := 65536) (by omega) hW2l hW2d hq hv
    simp [go_sem, hN2, g0, g1, g5, g7, g43, t44, t8, hil, q32]
    exact hR H' W2 hW2l hW2d hmod hgu2 hkeep
theorem digit16_wp (L : LibR E) {P W S d : List Nat} {cs : List AV} {bu bv j N : Nat} (hW : digs 65536 W) (hd : digs 65536 d) (hdl : d.length = n) (hWl : W.length = N) (hN1 : N = n + 1) (hn : 1 ≤ n) (htop : 0 < dg d (n - 1)) (hlt : val 65536 W < 65536 * val 65536 d) (hj : j = P.length) (hsz : P.length + (n + 1 + S.length) < 1000000000) (hne : bv ≠ bu)
    (hgu : getB H bu = some (.cells 191 1 (ints .u32 (P ++ (W ++ S))))) (hgv : getB H bv = some (.cells 191 1 cs)) (hcs : cs.take n = ints .u32 d)
    (hR : ∀ H' W', W'.length = N → digs 65536 W' → val 65536 W' = val 65536 W % val 65536 d → getB H' bu = some (.cells 191 1 (ints .u32 (P ++ (W' ++ S)))) → (∀ k, k ≠ bu → getB H' k = getB H k) → R ⟨.ret (.int .u32 ((val 65536 W / val 65536 d : Nat) : Int)), H', nx, [], false⟩) :
    wpF E id_ref01_digit [.sl bu j N, .sl bv 0 n] H nx [] R := by
  have hDp : 0 < val 65536 d := by
    have := top_split (B := 65536) hdl hn
    have h2 : 0 < 65536 ^ (n - 1) * dg d (n - 1) := Nat.mul_pos (Nat.pow_pos (by omega)) htop
    omega
  obtain ⟨n1, hn1⟩ : ∃ n1, n1 = n - 1 := ⟨_, rfl⟩
  obtain ⟨un, hun⟩ : ∃ y, y = dg W n := ⟨_, rfl⟩
  obtain ⟨u1, hu1⟩ : ∃ y, y = dg W n1 := ⟨_, rfl⟩
  obtain ⟨d1, hd1⟩ : ∃ y, y = dg d n1 := ⟨_, rfl⟩
  have unB : un < 65536 := by rw [hun]; exact getD_lt hW (by omega) _
  have u1B : u1 < 65536 := by rw [hu1]; exact getD_lt hW (by omega) _
  have d1B : d1 < 65536 := by rw [hd1]; exact getD_lt hd (by omega) _
  rw [← hn1, ← hd1] at htop
  obtain ⟨tB, htB⟩ : ∃ tB, tB = un * 65536 := ⟨_, rfl⟩
  obtain ⟨top, htp⟩ : ∃ top, top = tB + u1 := ⟨_, rfl⟩
  obtain ⟨q, hq⟩ : ∃ q, q = val 65536 W / val 65536 d := ⟨_, rfl⟩
  have hqB : q < 65536 := by rw [hq]; exact (Nat.div_lt_iff_lt_mul hDp).2 hlt
  have hge : q ≤ top / d1 := by
    rw [hq]
    refine guess_ge (p := 65536 ^ n1) htop ?_ ?_ hDp
    · have := top_split (B := 65536) hdl hn
      rw [← hn1, ← hd1] at this
      omega
    · have e1 := val_take_drop (B := 65536) W n1 (by omega)
      have e2 := val_lt (B := 65536) (by omega) (hW.take n1)
      rw [List.length_take, Nat.min_eq_left (by omega)] at e2
      rw [val_drop W n1, val_drop W (n1 + 1), List.drop_of_length_le (show W.length ≤ n1 + 1 + 1 by omega), show n1 + 1 = n by omega, ← hu1, ← hun] at e1
      simp only [val, Nat.mul_zero, Nat.add_zero] at e1
      rw [Nat.mul_add]
      have : u1 + 65536 * un = top := by omega
      rw [this] at e1
      omega
  have w1 : IntKind.i64.wrap ((n : Int) - 1) = n1 := by rw [wrapI_id (by omega) (by omega)]; omega
  have w2 : IntKind.u64.wrap ((un : Int) * 65536) = tB := by rw [wrap64]; omega
  have w3 : IntKind.u64.wrap ((tB : Int) + (u1 : Int)) = top := by rw [wrap64]; omega
  have k64 : ∀ y : Nat, y < 65536 → IntKind.u64.wrap (y : Int) = y := fun y hy => by rw [wrap64]; omega
  obtain ⟨g0, hg0⟩ : ∃ g0, g0 = top / d1 := ⟨_, rfl⟩
  have w4 : ((top : Int)).tdiv (d1 : Int) = g0 := by rw [hg0]; exact tdiv_nat top d1
  have hg0B : g0 ≤ top := by rw [hg0]; exact Nat.div_le_self _ _
  have w5 : IntKind.u64.wrap (g0 : Int) = g0 := by rw [wrap64]; omega
  rw [← hg0] at hge
  have d1ne : ¬ d1 = 0 := by omega
  have mn : dg (P ++ (W ++ S)) (j + n) = un := by rw [hj, dg_mid P W S (by omega), hun]
  have mn1 : dg (P ++ (W ++ S)) (j + n1) = u1 := by rw [hj, dg_mid P W S (by omega), hu1]
  obtain ⟨SL, hSL⟩ : ∃ SL, SL = S.length := ⟨_, rfl⟩
  have i1 : n1 < n := by omega
  have i3 : n < N := by omega
  have i4 : n1 < N := by omega
  have i6 : n < N + SL := by omega
  have i7 : n1 < N + SL := by omega
  have hnN : (n : Int) < (N : Int) := by omega
  have hn1N : (n1 : Int) < (N : Int) := by omega
  have hn1n : (n1 : Int) < (n : Int) := by omega
  have cD : ∀ i, i < n → partA false (cs.drop i) 0 1 = some (.int .u32 ((dg d i : Nat) : Int)) := fun i hi => cs_at (M := d) (by rw [hdl]; exact hcs) (by omega)
  have cD1 := cD n1 i1
  rw [← hd1] at cD1
  have key := fun T g hg hgB hN h0 h1 h5 h7 => digit16_rest (E := E) (R := R) (T := T) (g := g) (q := q) L hW hd hdl hWl hN1 hj hsz hne hDp hq hgu hgv hcs (by rw [hq]; exact hR) hg hgB hN h0 h1 h5 h7
  refine wpF_v (body := .seq (firstC fn_ref01_digit.body) (.seq (firstC (restC fn_ref01_digit.body)) (.seq (firstC (restC (restC fn_ref01_digit.body))) (.seq (firstC (restC (restC (restC fn_ref01_digit.body)))) (.seq (firstC (restC (restC (restC (restC fn_ref01_digit.body))))) (restC (restC (restC (restC (restC fn_ref01_digit.body)))))))))) L.digit.2.2 rfl (by simp) fun T hN hA => ?_
  generalize restC (restC (restC (restC (restC fn_ref01_digit.body)))) = rest at key ⊢
  simp only [firstC, restC, fn_ref01_digit]
  have h0 := hA 0 _ rfl
  have h1 := hA 1 _ rfl
  by_cases hbig : 65536 ≤ g0
  · have hbigi : (65536 : Int) ≤ g0 := by omega
    simp [go_sem, h0, h1, hN, w1, w2, w3, w4, w5, mn, mn1, ← hj, hWl, ← hSL, i1, i3, i4, i6, i7, hnN, hn1N, hn1n, k64 un unB, k64 u1 u1B, k64 d1 d1B, d1ne, hgu, hgv, cD1, hbig, hbigi, IntKind.bits]
    exact key _ 65535 (by omega) (by omega) (by simp [hN]) (by simp [go_sem, hN, h0]) (by simp [go_sem, hN, h1]) (by simp [go_sem, hN]) (by simp [go_sem, hN])
  · have hbigi : ¬ (65536 : Int) ≤ g0 := by omega
    simp [go_sem, h0, h1, hN, w1, w2, w3, w4, w5, mn, mn1, ← hj, hWl, ← hSL, i1, i3, i4, i6, i7, hnN, hn1N, hn1n, k64 un unB, k64 u1 u1B, k64 d1 d1B, d1ne, hgu, hgv, cD1, hbig, hbigi, IntKind.bits]
    exact key _ g0 hge (by omega) (by simp [hN]) (by simp [go_sem, hN, h0]) (by simp [go_sem, hN, h1]) (by simp [go_sem, hN]) (by simp [go_sem, hN])
end
end Go.Am
end
section
set_option maxHeartbeats 16000000
namespace Go.Am
open Go Go.Nt
section
variable {E : Env} {l : List Nat} {n m a b k x g : Nat} {H : Heap} {nx : Nat} {fz : List Nat} {R : Back → Prop} {v : AV} {M N : List Nat}
theorem digit16_call (L : LibR E) {P W S d : List Nat} {cs : List AV} {bu bv j N : Nat} (hW : digs 65536 W) (hd : digs 65536 d) (hdl : d.length = n) (hWl : W.length = N) (hN1 : N = n + 1) (hn : 1 ≤ n) (htop : 0 < dg d (n - 1)) (hlt : val 65536 W < 65536 * val 65536 d) (hj : j = P.length) (hsz : P.length + (n + 1 + S.length) < 1000000000) (hne : bv ≠ bu)
    (hgu : getB H bu = some (.cells 191 1 (ints .u32 (P ++ (W ++ S))))) (hgv : getB H bv = some (.cells 191 1 cs)) (hcs : cs.take n = ints .u32 d)
    (hR : ∀ H' W', W'.length = N → digs 65536 W' → val 65536 W' = val 65536 W % val 65536 d → getB H' bu = some (.cells 191 1 (ints .u32 (P ++ (W' ++ S)))) → (∀ k, k ≠ bu → getB H' k = getB H k) → R ⟨.ret (.int .u32 ((val 65536 W / val 65536 d : Nat) : Int)), H', nx, [], false⟩) :
    wpA E id_ref01_digit [.sl bu j N, .sl bv 0 n] H nx [] R := by
  refine wpA_heap L.digit.1 L.digit.2.1 L.digit.2.2 rfl ?_
  have e : [AV.sl bu j N, AV.sl bv 0 n].flatMap (tch H (depthOf nx)) = [bu, bv] := by
    show (bu :: (match getB H bu with | some (.cells _ sz cs) => ((cs.drop j).take (N * sz)).flatMap _ | _ => [])) ++ ((bv :: (match getB H bv with | some (.cells _ sz cs) => ((cs.drop 0).take (n * sz)).flatMap _ | _ => [])) ++ []) = [bu, bv]
    rw [hgu, hgv]
    simp only [Nat.mul_one, List.drop_zero, hcs, ints_drop, ints_take, tch_ints]
    rfl
  rw [e]
  have r1 : ∀ k, k = bu ∨ k = bv → getB (restrict H [bu, bv]) k = getB H k := fun k hk => by
    simp only [restrict, getB_setB]
    by_cases h1 : k = bu
    · rw [if_pos h1, h1]
    · rw [if_neg h1]
      have h2 : k = bv := hk.resolve_left h1
      rw [if_pos h2, h2]
  refine digit16_wp (cs := cs) L hW hd hdl hWl hN1 hn htop hlt hj hsz hne ((r1 bu (.inl rfl)).trans hgu) ((r1 bv (.inr rfl)).trans hgv) hcs fun H' W' h1 h2 h3 h4 h5 => ⟨Nat.le_refl _, ?_⟩
  unfold mergeB
  refine hR _ W' h1 h2 h3 ?_ ?_
  · rw [getB_merge, if_pos (.inl (by simp))]; exact h4
  · intro k hk
    rw [getB_merge]
    split
    · rename_i hc
      have hkv : k = bv := by
        rcases hc with hc | hc
        · simpa [hk] using hc
        · exact absurd (show nx ≤ k ∧ k < nx from hc) (by omega)
      rw [h5 k hk]; exact r1 k (.inr hkv)
    · rfl
theorem ndiv_shift {top k0 : Nat} (ht : 0 < top) (hB : top < 65536) (hk : k0 = 16 - (dig 2 top).length) (i : Nat) : top * 2 ^ i < 32768 ↔ i < k0 := by
  obtain ⟨h1, h2, h3, h4⟩ := norm_word (p := 16) (k := k0) ht (by simpa using hB) rfl hk (by omega)
  constructor
  · intro h
    refine Classical.byContradiction fun hno => ?_
    have : top * 2 ^ k0 ≤ top * 2 ^ i := Nat.mul_le_mul_left _ (Nat.pow_le_pow_right (by omega) (by omega))
    omega
  · intro h
    have h5 : top * 2 ^ (i + 1) ≤ top * 2 ^ k0 := Nat.mul_le_mul_left _ (Nat.pow_le_pow_right (by omega) (by omega))
    have h6 : top * 2 ^ k0 < 65536 := by
      have := Nat.mul_lt_mul_of_pos_right (show top < top + 1 by omega) (show 0 < 2 ^ k0 from Nat.pow_pos (by omega))
      omega
    rw [Nat.pow_succ, ← Nat.mul_assoc] at h5
    omega
theorem app_sl {b by' : Nat} {cs : List AV} (hg : getB H b = some (.cells 191 1 cs)) (hcs : cs.take M.length = ints .u32 M) (hl : (M.length + N.length) * by' ≤ room) : appendA [] nx H 191 1 by' (.sl b 0 M.length) (ints .u32 N) N.length = some (.sl nx 0 (M.length + N.length), setB (setB H b none) nx (some (.cells 191 1 (ints .u32 (M ++ N)))), nx + 1) := by
  have := take_ints_len hcs
  simp only [appendA, hg]
  rw [if_pos ⟨trivial, trivial, by omega, hl, rfl⟩, Nat.mul_one, hcs, ints_append]
theorem tch_sl_ints {b o m d : Nat} {e : TypeId} {k : IntKind} {l : List Nat} (hg : getB H b = some (.cells e 1 (ints k l))) : tch H (d + 2) (.sl b o m) = [b] := by
  show b :: (match getB H b with | some (.cells _ sz cs) => ((cs.drop o).take (m * sz)).flatMap _ | _ => []) = [b]
  rw [hg]
  simp only [Nat.mul_one, ints_drop, ints_take, tch_ints]
theorem isL_sl (h : isL H nx v M) (hM : M ≠ []) : ∃ b cs, v = .sl b 0 M.length ∧ b < nx ∧ getB H b = some (.cells 191 1 cs) ∧ cs.take M.length = ints .u32 M := by
  rcases h with ⟨_, h⟩ | h
  · exact absurd h hM
  · exact h
theorem ndiv_val (L : LibR E) (hsa : (dig 65536 a).length < 100000000) (hsb : (dig 65536 b).length < 100000000) (hb : 0 < b) : Val E id_ref01_NatDiv [N16 a, N16 b] (.tuple [N16 (a / b), N16 (a % b)]) := by
  have hbl := dig_len_pos hB16 hb
  have hble : ¬ dig 65536 b = [] := fun e => by rw [e] at hbl; simp at hbl
  refine val_fn L.div rfl (by simp) fun T hN hA => ?_
  have h0 := hA 0 _ rfl
  have h1 := hA 1 _ rfl
  by_cases hlt : a < b
  · have e1 : a / b = 0 := Nat.div_eq_of_lt hlt
    have e2 : a % b = a := Nat.mod_eq_of_lt hlt
    have e3 : ord a b = -1 := by simp [ord, hlt]
    obtain ⟨v', H', ha, hL⟩ := isL_app (by' := 4) (N := dig 65536 a) (isL_make (H := []) (nx := 0) (M := []) (cs := []) rfl) (.inr (by simp)) (by simp [room]; omega)
    have ha' : appendA [] 1 [some (.cells 191 1 [])] 191 1 4 (.sl 0 0 0) (ints .u32 (dig 65536 a)) (dig 65536 a).length = some (v', H', 2) := ha
    simp [go_sem, h0, h1, hN, hble, cmp16_call' L (show (dig 65536 a).length < 9223372036854775808 by omega) (show (dig 65536 b).length < 9223372036854775808 by omega), e3, e1, e2, dig_zero, ints_nil, ha', isL_frz hL]
  have ho : ¬ ord a b < 0 := by unfold ord; rw [if_neg hlt]; split <;> omega
  by_cases hs1 : (dig 65536 b).length = 1
  · have hbB : b < 65536 := by have := (dig_len_le hB16 1 b).1 (by omega); simpa using this
    have e1 : dig 65536 b = [b] := by rw [dig_pos hB16 hb, Nat.mod_eq_of_lt hbB, Nat.div_eq_of_lt hbB, dig_zero]
    have hm : a % b < b := Nat.mod_lt _ hb
    obtain ⟨r, hr⟩ : ∃ r, r = a % b := ⟨_, rfl⟩
    have hr' : ((a : Nat) : Int) % (b : Int) = r := by rw [hr]; simp
    have e3 : IntKind.u64.wrap (r : Int) = r := by rw [wrap64]; omega
    have hg : dg (dig 65536 b) 0 = b := by rw [e1]; rfl
    simp [go_sem, h0, h1, hN, hble, cmp16_call' L (show (dig 65536 a).length < 9223372036854775808 by omega) (show (dig 65536 b).length < 9223372036854775808 by omega), ho, hs1, hg, small16_call L (digs16 a) (show (dig 65536 a).length < 1000000000 by omega) hb hbB, val_dig hB16, hr', e3, natOf_call L (show r < 18446744073709551616 by omega), resV]
    rw [hr]; exact ⟨rfl, rfl⟩
  obtain ⟨n, hn⟩ : ∃ n, n = (dig 65536 b).length := ⟨_, rfl⟩
  have hn2 : 2 ≤ n := by omega
  obtain ⟨top, ht⟩ : ∃ top, top = dg (dig 65536 b) (n - 1) := ⟨_, rfl⟩
  have htB : top < 65536 := by rw [ht]; exact getD_lt (digs16 b) (by omega) _
  have htp : 0 < top := by rw [ht, hn]; exact top_pos hB16 hb
  obtain ⟨k0, hk0⟩ : ∃ k0, k0 = 16 - (dig 2 top).length := ⟨_, rfl⟩
  obtain ⟨q1, q2, q3, q4⟩ := norm_word (p := 16) htp (by simpa using htB) rfl hk0 (by omega)
  have hshift := ndiv_shift htp htB hk0
  obtain ⟨n1, hn1⟩ : ∃ n1, n1 = n - 1 := ⟨_, rfl⟩
  have w1 : IntKind.i64.wrap ((n : Int) - 1) = n1 := by rw [wrapI_id (by omega) (by omega)]; omega
  have i1 : n1 < n := by omega
  have i2 : (n1 : Int) < (n : Int) := by omega
  have hs1' : ¬ n = 1 := by omega
  have hs0' : ¬ n = 0 := by omega
  have hs0i : ¬ (n : Int) = 0 := by omega
  have hs1i : ¬ (n : Int) = 1 := by omega
  rw [← hn1] at ht
  simp [go_sem, h0, h1, hN, hble, cmp16_call' L (show (dig 65536 a).length < 9223372036854775808 by omega) (show (dig 65536 b).length < 9223372036854775808 by omega), ho, ← hn, hs1', hs1i, hs0', hs0i]
  refine wpC.mono (Q := fun x s => x = .exit 0 ∧ ∃ (t : List AV), s = ⟨t, [], 0, [], [], false⟩ ∧ t.length = 95 ∧ getT t 0 = N16 a ∧ getT t 1 = N16 b ∧ getT t 8 = .int .i64 (k0 : Int)) ?_ ?_
  · refine loop_v _ rfl (fun m t H nx fz => H = [] ∧ nx = 0 ∧ fz = [] ∧ ∃ (i : Nat), m + i = k0 ∧ getT t 8 = .int .i64 (i : Int)) k0 ?_ ?_
    · exact ⟨rfl, rfl, rfl, 0, rfl, by simp [go_sem, hN]⟩
    rintro m t _ _ _ ⟨rfl, rfl, rfl, i, hm, t8⟩ hF
    have hN' : t.length = 95 := by rw [hF.1]; simp [hN]
    have f0 : getT t 0 = N16 a := by rw [hF.2 0 (by decide)]; simp [go_sem, h0]
    have f1 : getT t 1 = N16 b := by rw [hF.2 1 (by decide)]; simp [go_sem, h1]
    clear hF
    obtain ⟨i2', hi2⟩ : ∃ i2, i2 = i + 1 := ⟨_, rfl⟩
    have a1 : IntKind.i64.wrap ((i : Int) + 1) = i2' := by rw [wrapI_id (by omega) (by omega)]; omega
    have a2 : IntKind.u64.wrap (i : Int) = i := by rw [wrap64]; omega
    have hmin : min i 32 = i := by omega
    have hi0 : ¬ (i : Int) < 0 := by omega
    obtain ⟨s, hs⟩ : ∃ s, s = top * 2 ^ i := ⟨_, rfl⟩
    have hsB : s < 4294967296 := by
      have h1 := Nat.pow_le_pow_right (show 0 < 2 by omega) (show i ≤ 16 by omega)
      have := Nat.mul_le_mul (show top ≤ 65535 by omega) h1
      rw [hs]; omega
    have a3 : IntKind.u32.wrap ((top : Int) * 2 ^ i) = s := by
      have : (top : Int) * 2 ^ i = (s : Int) := by rw [hs]; simp
      rw [this, wrap32]; omega
    by_cases hi : i < k0
    · have hsl : s < 32768 := by rw [hs]; exact (hshift i).2 hi
      have hsli : (s : Int) < 32768 := by omega
      simp [go_sem, hN', f0, f1, t8, ← hn, w1, i1, i2, ← ht, a1, a2, a3, hmin, hi0, hsl, hsli, IntKind.bits]
      exact ⟨m - 1, by omega, by omega⟩
    · have hsl : ¬ s < 32768 := by rw [hs]; exact fun h => hi ((hshift i).1 h)
      have hsli : ¬ (s : Int) < 32768 := by omega
      have hik : i = k0 := by omega
      simp [go_sem, hN', f0, f1, t8, ← hn, w1, i1, i2, ← ht, a1, a2, a3, hmin, hi0, hsl, hsli, IntKind.bits]
      omega
  rintro x s ⟨rfl, t, rfl, hN', f0, f1, f8⟩
  simp [go_sem, hN', f0, f1, f8]
  obtain ⟨D, hD⟩ : ∃ D, D = b * 2 ^ k0 := ⟨_, rfl⟩
  obtain ⟨A, hA'⟩ : ∃ A, A = a * 2 ^ k0 := ⟨_, rfl⟩
  have hc0 : 0 < 2 ^ k0 := Nat.pow_pos (by omega)
  have hDpos : 0 < D := by rw [hD]; exact Nat.mul_pos hb hc0
  have hApos : 0 < A := by rw [hA']; exact Nat.mul_pos (by omega) hc0
  obtain ⟨dl, dtop, dge⟩ := norm_top (B := 65536) (e := 32768) hB16 hb hn (ht.trans (by rw [hn1])) (by simpa using q1) (by simpa using q2) hc0
  rw [← hD] at dl dtop dge
  have k16 : k0 < 16 := by omega
  refine shl16_call L (by omega) k16 fun v1 H1 nx1 hL1 hnx1 hk1 hb1 => ?_
  rw [← hD] at hL1
  obtain ⟨bv, cs, rfl, hbv, hgv, hcs⟩ := isL_sl hL1 (fun e => by rw [e] at dl; simp at dl; omega)
  rw [dl] at hcs
  simp [go_sem, hN', f0, f1, f8, dl]
  refine shl16_call L (by omega) k16 fun v2 H2 nx2 hL2 hnx2 hk2 hb2 => ?_
  rw [← hA'] at hL2
  have hAne : dig 65536 A ≠ [] := fun e => by have := dig_len_pos hB16 hApos; rw [e] at this; simp at this
  obtain ⟨bu, cu, rfl, hbu, hgu, hcu⟩ := isL_sl hL2 hAne
  have hlow2 := hb2 bu 0 _ rfl
  obtain ⟨lA, hlA⟩ : ∃ lA, lA = (dig 65536 A).length := ⟨_, rfl⟩
  obtain ⟨N3, hN3⟩ : ∃ N3, N3 = lA + 1 := ⟨_, rfl⟩
  obtain ⟨M3, hM3⟩ : ∃ M3, M3 = dig 65536 A ++ [0] := ⟨_, rfl⟩
  have hlAB : lA ≤ (dig 65536 a).length + 1 := by
    rw [hlA]
    refine (dig_len_le hB16 _ _).2 ?_
    rw [Nat.pow_succ, hA']
    have h3 := (dig_len_le hB16 (dig 65536 a).length a).1 (Nat.le_refl _)
    have h4 : 2 ^ k0 ≤ 65536 := by
      have := Nat.pow_le_pow_right (show 0 < 2 by omega) (show k0 ≤ 16 by omega)
      simpa using this
    exact Nat.lt_of_le_of_lt (Nat.mul_le_mul_left a h4) (Nat.mul_lt_mul_of_pos_right h3 (by omega))
  have ha3 := app_sl (nx := nx2 + 1) (H := setB H2 nx2 (some (.cells 191 1 [.int .u32 0]))) (b := bu) (by' := 4) (M := dig 65536 A) (N := [0]) (cs := cu) (by rw [getB_setB, if_neg (by omega)]; exact hgu) hcu (by simp [room]; omega)
  have ha3' : appendA [] (nx2 + 1) (setB H2 nx2 (some (.cells 191 1 [.int .u32 0]))) 191 1 4 (.sl bu 0 lA) [.int .u32 0] 1 = some (.sl (nx2 + 1) 0 N3, setB (setB (setB H2 nx2 (some (.cells 191 1 [.int .u32 0]))) bu none) (nx2 + 1) (some (.cells 191 1 (ints .u32 M3))), nx2 + 1 + 1) := by
    rw [hlA, hM3, hN3, hlA]; exact ha3
  obtain ⟨H3, hH3⟩ : ∃ H3, H3 = setB (setB (setB H2 nx2 (some (.cells 191 1 [.int .u32 0]))) bu none) (nx2 + 1) (some (.cells 191 1 (ints .u32 M3))) := ⟨_, rfl⟩
  rw [← hH3] at ha3'
  have g3u : getB H3 (nx2 + 1) = some (.cells 191 1 (ints .u32 M3)) := by rw [hH3, getB_setB, if_pos rfl]
  have g3v : getB H3 bv = some (.cells 191 1 cs) := by
    rw [hH3, getB_setB, if_neg (by omega), getB_setB, if_neg (by omega), getB_setB, if_neg (by omega), hk2 bv hbv]; exact hgv
  rw [← hlA]
  obtain ⟨Q, hQ⟩ : ∃ Q, Q = N3 - n := ⟨_, rfl⟩
  have hlAn : n ≤ lA := by
    rw [hlA, ← dl]
    refine Classical.byContradiction fun hno => ?_
    have h5 := dig_len_lt hB16 (n := A) (m := D) (by omega)
    have h6 : D ≤ A := by rw [hD, hA']; exact Nat.mul_le_mul_right _ (by omega)
    omega
  have w2 : IntKind.i64.wrap ((N3 : Int) - (n : Int)) = Q := by rw [wrapI_id (by omega) (by omega)]; omega
  have w3 : IntKind.i64.wrap ((Q : Int) - 1) = (Q : Int) - 1 := wrapI_id (by omega) (by omega)
  have r3 : (Q : Int) * 4 ≤ 140737488355328 := by omega
  have r4 : (Q : Int) ≤ 9223372036854775807 := by omega
  simp [go_sem, hN', f0, f1, f8, ha3', w2, w3, r3, r4]
  clear r3 r4
  obtain ⟨bw, hbw⟩ : ∃ bw, bw = nx2 + 1 := ⟨_, rfl⟩
  obtain ⟨bq, hbq⟩ : ∃ bq, bq = nx2 + 1 + 1 := ⟨_, rfl⟩
  obtain ⟨nx3, hnx3⟩ : ∃ nx3, nx3 = nx2 + 1 + 1 + 1 := ⟨_, rfl⟩
  rw [← hbw] at g3u
  rw [← hnx3, ← hbq, ← hbw]
  have hroom := div_room (B := 65536) (a := A) (k := 1) (e := 32768) (la := lA) (lb := n) ((dig_len_le hB16 lA A).1 (by omega)) (Nat.mul_one A).symm dge (by omega) hlAn (by omega) (by omega)
  rw [show lA - n + 1 = Q by omega] at hroom
  refine loop_v _ rfl (fun m t H nx fz => nx = nx3 ∧ fz = [] ∧ getB H bv = some (.cells 191 1 cs) ∧ ∃ (M q : List Nat), getB H bw = some (.cells 191 1 (ints .u32 M)) ∧ getB H bq = some (.cells 191 1 (ints .u32 q)) ∧ m ≤ Q ∧ getT t 13 = .int .i64 ((m : Int) - 1) ∧ M.length = N3 ∧ digs 65536 M ∧ q.length = Q ∧ digs 65536 q ∧ val 65536 M + D * (65536 ^ m * val 65536 (q.drop m)) = A ∧ val 65536 M < D * 65536 ^ m) Q ?_ ?_
  · refine ⟨rfl, rfl, by rw [getB_setB, if_neg (by omega)]; exact g3v, M3, List.replicate Q 0, by rw [getB_setB, if_neg (by omega)]; exact g3u, by rw [getB_setB, if_pos rfl], Nat.le_refl _, by simp [go_sem, hN'], by rw [hM3]; simp; omega, by rw [hM3]; exact digs_snoc (digs16 A) (by omega), by simp, digs_replicate (by omega) _, ?_, ?_⟩
    · rw [List.drop_of_length_le (by simp), hM3, val_snoc, val_dig hB16]; simp [val]
    · rw [hM3, val_snoc, val_dig hB16]; simpa using hroom
  rintro m t2 H nx fz ⟨rfl, rfl, hgv2, M, q, hgw, hgq, hm, t13, hML, hMd, hqL, hqd, hv, hlt2⟩ hF
  have hN2 : t2.length = 95 := by rw [hF.1]; simp [hN']
  have e8 : getT t2 8 = .int .i64 (k0 : Int) := by rw [hF.2 8 (by decide)]; simp [go_sem, f8]
  have e9 : getT t2 9 = .sl bv 0 n := by rw [hF.2 9 (by decide)]; simp [go_sem, hN']
  have e10 : getT t2 10 = .sl bw 0 N3 := by rw [hF.2 10 (by decide)]; simp [go_sem, hN']
  have e11 : getT t2 11 = .int .i64 (n : Int) := by rw [hF.2 11 (by decide)]; simp [go_sem, hN']
  have e12 : getT t2 12 = .sl bq 0 Q := by rw [hF.2 12 (by decide)]; simp [go_sem, hN']
  clear hF
  by_cases hm0 : m = 0
  · subst hm0
    rw [List.drop_zero, Nat.pow_zero, Nat.one_mul] at hv
    rw [Nat.pow_zero, Nat.mul_one] at hlt2
    have g1 : val 65536 q = a / b := by
      have : A / D = val 65536 q := by rw [← hv, Nat.add_comm, Nat.mul_add_div hDpos, Nat.div_eq_of_lt hlt2, Nat.add_zero]
      rw [← this, hA', hD, Nat.mul_div_mul_right _ _ hc0]
    have g2 : val 65536 M / 2 ^ k0 = a % b := by
      have : A % D = val 65536 M := by rw [← hv, Nat.add_comm, Nat.mul_add_mod, Nat.mod_eq_of_lt hlt2]
      rw [← this, hA', hD, Nat.mul_mod_mul_right, Nat.mul_div_cancel _ hc0]
    simp [go_sem, hN2, t13, e8, e9, e10, e11, e12]
    have iq : isL H nx (.sl bq 0 Q) q := .inr ⟨bq, _, by rw [hqL], by omega, hgq, by rw [List.take_of_length_le (by rw [ints_len]; omega)]⟩
    have bvt : byValue E id_ref01_trim = false := by simp [byValue, L.trim.1, L.trim.2.1, L.trim.2.2]; rfl
    refine trim_isL L iq (by omega) fun v1 iv1 _ => ?_
    have tq : tch H (2 * nx + 5 + 1) (.sl bq 0 Q) = [bq] := tch_sl_ints (d := 2 * nx + 4) hgq
    have tw : tch H (2 * nx + 5 + 1) (.sl bw 0 n) = [bw] := tch_sl_ints (d := 2 * nx + 4) hgw
    have szw : sizeB H bw = some 1 := by simp [sizeB, hgw]
    have hnN : n ≤ N3 := by omega
    have hMn : (M.take n).length = n := by rw [List.length_take]; omega
    have iw : isL H nx (.sl bw 0 n) (M.take n) := .inr ⟨bw, _, by rw [hMn], by omega, hgw, by rw [hMn, ints_take]⟩
    simp [go_sem, hN2, t13, e8, e9, e10, e11, e12, bvt, tq, szw, hnN]
    refine trim_isL L iw (by omega) fun v2 iv2 _ => ?_
    have hvn : val 65536 (M.take n) = val 65536 M := by
      have h1 := val_take_drop (B := 65536) M n (by omega)
      have h2 := val_lt (B := 65536) (by omega) (digs16 D)
      rw [val_dig hB16, dl] at h2
      have h3 : val 65536 (M.drop n) = 0 := by
        rcases Nat.eq_zero_or_pos (val 65536 (M.drop n)) with h | h
        · exact h
        · have : 65536 ^ n * 1 ≤ 65536 ^ n * val 65536 (M.drop n) := Nat.mul_le_mul_left _ h
          omega
      rw [h3, Nat.mul_zero, Nat.add_zero] at h1
      exact h1.symm
    rw [strip_eq hB16 (hMd.take n), hvn] at iv2
    rw [strip_eq hB16 hqd, g1] at iv1
    have hshr := shr16_val (a := val 65536 M) L (Nat.lt_of_le_of_lt (dig_length_le hB16 hMd) (by omega)) k16
    rw [g2] at hshr
    simp [go_sem, hN2, t13, e8, e9, e10, e11, e12, bvt, tq, tw, szw, hnN]
    have bvs := L.shr.bv rfl
    have hqw : ¬ bq = bw := by omega
    have hwq : ¬ bw = bq := by omega
    rw [wpA_frz_iff hshr (by simp [go_sem, isL_frz iv2])]
    simp [go_sem, hN2, e8, e9, e10, e11, e12, bvt, bvs, tq, tw, hqw, hwq, resV, isL_frz iv1]
  obtain ⟨i, rfl⟩ : ∃ i, m = i + 1 := ⟨m - 1, by omega⟩
  obtain ⟨P, W, S, rfl, lP, dP, dS, lS, dW, lW, hWlt, hMv, hS0⟩ := div_cut (B := 65536) (n := n) (i := i) (by omega) hMd (digs16 D) dl (by omega) (by rw [val_dig hB16]; exact hlt2)
  obtain ⟨ei, hei⟩ : ∃ ei, ei = i + (n + 1) := ⟨_, rfl⟩
  obtain ⟨es, hes⟩ : ∃ es, es = i + n := ⟨_, rfl⟩
  have v1 : IntKind.i64.wrap ((i : Int) + (n : Int)) = es := by rw [wrapI_id (by omega) (by omega)]; omega
  have v2 : IntKind.i64.wrap ((es : Int) + 1) = ei := by rw [wrapI_id (by omega) (by omega)]; omega
  have v3 : IntKind.i64.wrap ((i : Int) - 1) = (i : Int) - 1 := wrapI_id (by omega) (by omega)
  have j1 : i ≤ ei := by omega
  have j2 : ei ≤ N3 := by omega
  have j3 : i < Q := by omega
  obtain ⟨nn, hnn⟩ : ∃ nn, nn = n + 1 := ⟨_, rfl⟩
  have j4 : ei - i = nn := by omega
  have j5 : ¬ ei = i := by omega
  have lN : P.length + (n + 1 + S.length) = N3 := by rw [lP]; omega
  simp [go_sem, sizeB, j4, j5, hN2, t13, e8, e9, e10, e11, e12, v1, v2, v3, j1, j2, j3, hgw]
  refine digit16_call (cs := cs) (P := P) (W := W) (S := S) (d := dig 65536 D) L dW (digs16 D) dl (lW.trans hnn.symm) hnn (by omega) (by omega) hWlt lP.symm (by omega) (by omega) hgw hgv2 hcs fun H' W' l1 l2 l3 l4 l5 => ?_
  obtain ⟨y, hy⟩ : ∃ y, y = val 65536 W / val 65536 (dig 65536 D) := ⟨_, rfl⟩
  have hyB : y < 65536 := by rw [hy]; exact (Nat.div_lt_iff_lt_mul (by rw [val_dig hB16]; exact hDpos)).2 hWlt
  rw [← hy]
  rw [val_dig hB16] at hy l3
  have hiq : i < q.length := by omega
  obtain ⟨z1, z2⟩ := div_next (A := A) (B := 65536) (by omega) dP lP hS0 hDpos hiq (by rw [← hMv]; exact hv) l3 hy
  have hgq' : getB H' bq = some (.cells 191 1 (ints .u32 q)) := by rw [l5 bq (by omega)]; exact hgq
  simp [go_sem, hN2, t13, e8, e9, e10, e11, e12, v3, j3, hqL, hgq']
  exact ⟨i, by omega, by rw [if_neg (by omega), l5 bv (by omega)]; exact hgv2, P ++ (W' ++ S), by rw [if_neg (by omega)]; exact l4, q.set i y, rfl, by omega, rfl, by simp; omega, digs_append.2 ⟨dP, digs_append.2 ⟨l2, dS⟩⟩, by simpa using hqL, hqd.set hyB _, z1, z2⟩
theorem ndiv_call (L : LibR E) (hb : 0 < b) (hsa : (dig 65536 a).length < 100000000) (hsb : (dig 65536 b).length < 100000000) : wpA E id_ref01_NatDiv [N16 a, N16 b] H nx fz R ↔ R ⟨.ret (.tuple [N16 (a / b), N16 (a % b)]), H, nx, fz, false⟩ := wpA_iff (ndiv_val L hsa hsb hb) rfl
end
end Go.Am
end
section
set_option maxHeartbeats 16000000
namespace Go.Am
open Go Go.Nt
section
variable {E : Env} {n m a b k x d : Nat} {H : Heap} {nx : Nat} {fz : List Nat} {R : Back → Prop}
theorem sz16_mono (h : a ≤ b) : (dig 65536 a).length ≤ (dig 65536 b).length := by
  refine Classical.byContradiction fun hno => ?_
  have := dig_len_lt hB16 (n := b) (m := a) (by omega)
  omega
theorem dig16_nil : dig 65536 n = [] ↔ n = 0 := by
  constructor
  · intro h
    rcases Nat.eq_zero_or_pos n with h0 | h0
    · exact h0
    · have := dig_len_pos hB16 h0; rw [h] at this; simp at this
  · rintro rfl; exact dig_zero
theorem ngcd_val (L : LibR E) (hsa : (dig 65536 a).length < 100000000) (hsb : (dig 65536 b).length < 100000000) : Val E id_ref01_NatGcd [N16 a, N16 b] (N16 (Nat.gcd a b)) := by
  refine val_fn L.gcd rfl (by simp) fun T hN hA => ?_
  have h0 := hA 0 _ rfl
  have h1 := hA 1 _ rfl
  simp [go_sem, h0, h1, hN]
  refine loop_v _ rfl (fun m t H nx fz => H = [] ∧ nx = 0 ∧ fz = [] ∧ ∃ (x y : Nat), m = y ∧ getT t 0 = N16 x ∧ getT t 1 = N16 y ∧ (dig 65536 x).length < 100000000 ∧ (dig 65536 y).length < 100000000 ∧ Nat.gcd x y = Nat.gcd a b) b ?_ ?_
  · exact ⟨rfl, rfl, rfl, a, b, rfl, by simp [go_sem, h0], by simp [go_sem, h1], hsa, hsb, rfl⟩
  rintro m t H nx fz ⟨rfl, rfl, rfl, x, y, rfl, t0, t1, hx, hy, hg⟩ hF
  have hN' : t.length = 19 := by rw [hF.1]; simp [hN]
  clear hF
  by_cases hm0 : m = 0
  · subst hm0
    rw [Nat.gcd_zero_right] at hg
    simp [go_sem, hN', t0, t1, dig_zero, hg]
  · have hl := dig_len_pos hB16 (n := m) (by omega)
    have hne : ¬ dig 65536 m = [] := fun e => hm0 (dig16_nil.1 e)
    have hlt := Nat.mod_lt x (show 0 < m by omega)
    simp [go_sem, hN', t0, t1, hl, hne, ndiv_call L (show 0 < m by omega) hx hy]
    exact ⟨x % m, hlt, m, ⟨rfl, rfl⟩, ⟨rfl, rfl⟩, hy, Nat.lt_of_le_of_lt (sz16_mono (Nat.le_of_lt hlt)) hy, by rw [← hg, Nat.gcd_comm, ← Nat.gcd_rec, Nat.gcd_comm]⟩
theorem ngcd_call (L : LibR E) (hsa : (dig 65536 a).length < 100000000) (hsb : (dig 65536 b).length < 100000000) : wpA E id_ref01_NatGcd [N16 a, N16 b] H nx fz R ↔ R ⟨.ret (N16 (Nat.gcd a b)), H, nx, fz, false⟩ := wpA_iff (ngcd_val L hsa hsb) rfl
abbrev F16 (neg : Bool) (n d : Nat) : AV := .agg [.bool neg, N16 n, N16 d]
theorem dig16_one : dig 65536 1 = [1] := by rw [dig_pos hB16 (by omega)]; simp [dig_zero]
theorem make_val (L : LibR E) {neg : Bool} (hd : 0 < d) (hsa : (dig 65536 n).length < 10000000) (hsb : (dig 65536 d).length < 10000000) : Val E id_ref01_Make [.bool neg, N16 n, N16 d] (F16 (neg && decide (n ≠ 0)) (n / Nat.gcd n d) (d / Nat.gcd n d)) := by
  have hdl := dig_len_pos hB16 hd
  have hdne : ¬ dig 65536 d = [] := fun e => by rw [e] at hdl; simp at hdl
  refine val_fn L.make rfl (by simp) fun T hN hA => ?_
  have h0 := hA 0 _ rfl
  have h1 := hA 1 _ rfl
  have h2 := hA 2 _ rfl
  by_cases hn0 : n = 0
  · subst hn0
    simp [go_sem, h0, h1, h2, hN, natOf_one L, dig16_one, dig_zero, hd, ints_nil]
  have hn : 0 < n := by omega
  have hnne : ¬ dig 65536 n = [] := fun e => hn0 (dig16_nil.1 e)
  obtain ⟨g, hg⟩ : ∃ g, g = Nat.gcd n d := ⟨_, rfl⟩
  have hgp : 0 < g := by rw [hg]; exact Nat.gcd_pos_of_pos_left _ hn
  have hgs : (dig 65536 g).length < 100000000 := Nat.lt_of_le_of_lt (sz16_mono (by rw [hg]; exact Nat.le_of_dvd hn (Nat.gcd_dvd_left ..))) (show (dig 65536 n).length < 100000000 by omega)
  have gc := fun H nx fz R => ngcd_call (a := n) (b := d) (H := H) (nx := nx) (fz := fz) (R := R) L (by omega) (by omega)
  have dvn := fun H nx fz R => ndiv_call (a := n) (b := g) (H := H) (nx := nx) (fz := fz) (R := R) L hgp (by omega) hgs
  have dvd := fun H nx fz R => ndiv_call (a := d) (b := g) (H := H) (nx := nx) (fz := fz) (R := R) L hgp (by omega) hgs
  rw [← hg] at gc
  simp only [show (decide (n ≠ 0)) = true by simpa using hn0, Bool.and_true, ← hg]
  by_cases hs1 : (dig 65536 d).length = 1
  · have hdB : d < 65536 := by have := (dig_len_le hB16 1 d).1 (by omega); simpa using this
    have e1 : dig 65536 d = [d] := by rw [dig_pos hB16 hd, Nat.mod_eq_of_lt hdB, Nat.div_eq_of_lt hdB, dig_zero]
    have hdg : dg (dig 65536 d) 0 = d := by rw [e1]; rfl
    by_cases hd1 : d = 1
    · subst hd1
      have hg1 : g = 1 := by rw [hg]; simp
      have ha : appendA [] 2 [some (.cells 97 3 [.bool false, .nils, .nils]), some (.cells 191 1 [])] 191 1 4 (.sl 1 0 0) (ints .u32 (dig 65536 n)) (dig 65536 n).length = some (.sl 2 0 (dig 65536 n).length, [some (.cells 97 3 [.bool false, .nils, .nils]), none, some (.cells 191 1 (ints .u32 (dig 65536 n)))], 3) := by
        have := app_sl (nx := 2) (H := [some (.cells 97 3 [.bool false, .nils, .nils]), some (.cells 191 1 [])]) (b := 1) (by' := 4) (M := []) (N := dig 65536 n) (cs := []) rfl rfl (by simp [room]; omega)
        rw [List.nil_append, List.length_nil, Nat.zero_add] at this
        exact this
      simp [go_sem, h0, h1, h2, hN, hnne, hdne, natOf_one L, hs1, hdg, ha]
      rw [frz_sli (l := dig 65536 n) (k := .u32) (e := 191) rfl (by omega) (by omega), hg1]
      simp [dig16_one]
    · have hd1i : ¬ (d : Int) = 1 := by omega
      simp [go_sem, h0, h1, h2, hN, hnne, hdne, hs1, hdg, hd1, hd1i, gc, dvn, dvd]
  · have hs1i : ¬ ((dig 65536 d).length : Int) = 1 := by omega
    simp [go_sem, h0, h1, h2, hN, hnne, hdne, hs1, hs1i, gc, dvn, dvd]
theorem make_call (L : LibR E) {neg : Bool} (hd : 0 < d) (hsa : (dig 65536 n).length < 10000000) (hsb : (dig 65536 d).length < 10000000) : wpA E id_ref01_Make [.bool neg, N16 n, N16 d] H nx fz R ↔ R ⟨.ret (F16 (neg && decide (n ≠ 0)) (n / Nat.gcd n d) (d / Nat.gcd n d)), H, nx, fz, false⟩ := wpA_iff (make_val L hd hsa hsb) rfl
def ofF (neg : Bool) (n d : Nat) : AV := F16 (neg && decide (n ≠ 0)) (n / Nat.gcd n (readD d)) (readD d / Nat.gcd n (readD d))
theorem of16_val (L : LibR E) {neg : Bool} {u v : List Nat} (hu : digs 4294967296 u) (hv : digs 4294967296 v) (hul : u.length < 4000000) (hvl : v.length < 4000000) : Val E id_ref01_Of [.agg [.bool neg, R32 u, R32 v]] (ofF neg (val 4294967296 u) (val 4294967296 v)) := by
  refine val_fn L.of rfl (by simp) fun T hN hA => ?_
  have h0 := hA 0 _ rfl
  obtain ⟨n, hn⟩ : ∃ n, n = val 4294967296 u := ⟨_, rfl⟩
  obtain ⟨d, hd⟩ : ∃ d, d = val 4294967296 v := ⟨_, rfl⟩
  have wu := fun H nx fz R => words_call (H := H) (nx := nx) (fz := fz) (R := R) L hu (by omega)
  have wv := fun H nx fz R => words_call (H := H) (nx := nx) (fz := fz) (R := R) L hv (by omega)
  have su : (dig 65536 n).length ≤ 2 * u.length := by
    have := dig_length_le hB16 (digs_halves hu)
    rw [val_halves, halves_len, ← hn] at this; exact this
  have sv : (dig 65536 d).length ≤ 2 * v.length := by
    have := dig_length_le hB16 (digs_halves hv)
    rw [val_halves, halves_len, ← hd] at this; exact this
  rw [← hn] at wu
  rw [← hd] at wv
  rw [← hn, ← hd]
  have bv1 := L.words.bv rfl
  have bv2 := L.make.bv rfl
  have hne : ¬ dig 65536 d = [] ↔ ¬ d = 0 := not_congr dig16_nil
  by_cases hd0 : d = 0
  · have hD : readD d = 1 := by simp [readD, hd0]
    have mk := fun H nx fz R => make_call (neg := neg) (n := n) (d := 1) (H := H) (nx := nx) (fz := fz) (R := R) L (by omega) (by omega) (by rw [dig16_one]; simp)
    subst hd0
    simp [go_sem, h0, hN, wu, wv, dig_zero, ints_nil, natOf_one L, mk, bv1, bv2, ofF, hD]
  · have hD : readD d = d := by simp [readD, hd0]
    have hne' := hne.2 hd0
    have mk := fun H nx fz R => make_call (neg := neg) (n := n) (d := d) (H := H) (nx := nx) (fz := fz) (R := R) L (by omega) (by omega) (by omega)
    simp [go_sem, h0, hN, wu, wv, hne', mk, bv1, bv2, ofF, hD]
theorem of16_call (L : LibR E) {neg : Bool} {u v : List Nat} (hu : digs 4294967296 u) (hv : digs 4294967296 v) (hul : u.length < 4000000) (hvl : v.length < 4000000) : wpA E id_ref01_Of [.agg [.bool neg, R32 u, R32 v]] H nx fz R ↔ R ⟨.ret (ofF neg (val 4294967296 u) (val 4294967296 v)), H, nx, fz, false⟩ := wpA_iff (of16_val L hu hv hul hvl) rfl
end
end Go.Am
end
section
set_option maxHeartbeats 16000000
namespace Go.Am
open Go Go.Nt
section
variable {E : Env} {n m a b k x d : Nat} {H : Heap} {nx : Nat} {fz : List Nat} {R : Back → Prop} {neg : Bool}
def over16 (n d : Nat) : Bool := decide (128 < (dig 65536 n).length) || decide (128 < (dig 65536 d).length)
theorem over_val (L : LibR E) : Val E id_ref01_Over [F16 neg n d] (.bool (over16 n d)) := by
  refine val_fn L.over rfl (by simp) fun T hN hA => ?_
  have h0 := hA 0 _ rfl
  by_cases h1 : 128 < (dig 65536 n).length
  · have h1i : (128 : Int) < ((dig 65536 n).length : Int) := by omega
    simp [go_sem, h0, hN, h1, h1i, over16]
  · have h1i : ¬ (128 : Int) < ((dig 65536 n).length : Int) := by omega
    simp [go_sem, h0, hN, h1, h1i, over16]
    omega
theorem over_call (L : LibR E) : wpA E id_ref01_Over [F16 neg n d] H nx fz R ↔ R ⟨.ret (.bool (over16 n d)), H, nx, fz, false⟩ := wpA_iff (over_val L) rfl
def large16 (n d : Nat) : Bool := decide (512 < (dig 65536 n).length) || decide (512 < (dig 65536 d).length) || over16 (n / Nat.gcd n (readD d)) (readD d / Nat.gcd n (readD d))
theorem large_val (L : LibR E) {u v : List Nat} (hu : digs 4294967296 u) (hv : digs 4294967296 v) (hul : u.length < 4000000) (hvl : v.length < 4000000) : Val E id_ref01_Large [.agg [.bool neg, R32 u, R32 v]] (.bool (large16 (val 4294967296 u) (val 4294967296 v))) := by
  refine val_fn L.large rfl (by simp) fun T hN hA => ?_
  have h0 := hA 0 _ rfl
  have ofc := fun H nx fz R => of16_call (neg := neg) (H := H) (nx := nx) (fz := fz) (R := R) L hu hv hul hvl
  obtain ⟨n, hn⟩ : ∃ n, n = val 4294967296 u := ⟨_, rfl⟩
  obtain ⟨d, hd⟩ : ∃ d, d = val 4294967296 v := ⟨_, rfl⟩
  have wu := fun H nx fz R => words_call (H := H) (nx := nx) (fz := fz) (R := R) L hu (by omega)
  have wv := fun H nx fz R => words_call (H := H) (nx := nx) (fz := fz) (R := R) L hv (by omega)
  rw [← hn] at wu
  rw [← hd] at wv
  rw [← hn, ← hd] at ofc
  rw [← hn, ← hd]
  have bv1 := L.words.bv rfl
  by_cases h1 : 512 < (dig 65536 n).length
  · have h1i : (512 : Int) < ((dig 65536 n).length : Int) := by omega
    simp [go_sem, h0, hN, wu, wv, h1, h1i, bv1, large16]
  · have h1i : ¬ (512 : Int) < ((dig 65536 n).length : Int) := by omega
    by_cases h2 : 512 < (dig 65536 d).length
    · have h2i : (512 : Int) < ((dig 65536 d).length : Int) := by omega
      simp [go_sem, h0, hN, wu, wv, h1, h1i, h2, h2i, bv1, large16]
    · have h2i : ¬ (512 : Int) < ((dig 65536 d).length : Int) := by omega
      simp [go_sem, h0, hN, wu, wv, h1, h1i, h2, h2i, bv1, large16, ofc, ofF, over_call L]
theorem large_call (L : LibR E) {u v : List Nat} (hu : digs 4294967296 u) (hv : digs 4294967296 v) (hul : u.length < 4000000) (hvl : v.length < 4000000) : wpA E id_ref01_Large [.agg [.bool neg, R32 u, R32 v]] H nx fz R ↔ R ⟨.ret (.bool (large16 (val 4294967296 u) (val 4294967296 v))), H, nx, fz, false⟩ := wpA_iff (large_val L hu hv hul hvl) rfl
theorem sgn16_val (L : LibR E) : Val E id_ref01_Sgn [F16 neg n d] (.int .i64 (sgn neg n)) := by
  refine val_fn L.sgn rfl (by simp) fun T hN hA => ?_
  have h0 := hA 0 _ rfl
  by_cases hn : n = 0
  · subst hn
    simp [go_sem, h0, hN, sgn, dig_zero]
  · have hne : ¬ dig 65536 n = [] := fun e => hn (dig16_nil.1 e)
    cases neg <;> simp [go_sem, h0, hN, sgn, hn, hne]
theorem sgn16_call (L : LibR E) : wpA E id_ref01_Sgn [F16 neg n d] H nx fz R ↔ R ⟨.ret (.int .i64 (sgn neg n)), H, nx, fz, false⟩ := wpA_iff (sgn16_val L) rfl
theorem zero16_val (L : LibR E) {u v : List Nat} (hu : digs 4294967296 u) (hul : u.length < 4000000) : Val E id_ref01_Zero [.agg [.bool neg, R32 u, R32 v]] (.bool (decide (val 4294967296 u = 0))) := by
  refine val_fn L.zero rfl (by simp) fun T hN hA => ?_
  have h0 := hA 0 _ rfl
  simp [go_sem, h0, hN, words_call L hu (show u.length < 1000000000 by omega)]
  by_cases h : val 4294967296 u = 0
  · simp [h, dig_zero]
  · have hne : ¬ dig 65536 (val 4294967296 u) = [] := fun e => h (dig16_nil.1 e)
    simp [h, hne]
theorem zero16_call (L : LibR E) {u v : List Nat} (hu : digs 4294967296 u) (hul : u.length < 4000000) : wpA E id_ref01_Zero [.agg [.bool neg, R32 u, R32 v]] H nx fz R ↔ R ⟨.ret (.bool (decide (val 4294967296 u = 0))), H, nx, fz, false⟩ := wpA_iff (zero16_val L hu hul) rfl
theorem opp_val (L : LibR E) : Val E id_ref01_Opp [F16 neg n d] (F16 (!neg && decide (n ≠ 0)) n d) := by
  refine val_fn L.opp rfl (by simp) fun T hN hA => ?_
  have h0 := hA 0 _ rfl
  by_cases hn : n = 0
  · subst hn
    cases neg <;> simp [go_sem, h0, hN, dig_zero, ints_nil]
  · have hne : ¬ dig 65536 n = [] := fun e => hn (dig16_nil.1 e)
    have hp : 0 < (dig 65536 n).length := dig_len_pos hB16 (by omega)
    cases neg <;> simp [go_sem, h0, hN, hn, hne, hp]
theorem opp_call (L : LibR E) : wpA E id_ref01_Opp [F16 neg n d] H nx fz R ↔ R ⟨.ret (F16 (!neg && decide (n ≠ 0)) n d), H, nx, fz, false⟩ := wpA_iff (opp_val L) rfl
theorem den_val (L : LibR E) (hd : 0 < d) : Val E id_ref01_Q_den [F16 neg n d] (N16 d) := by
  refine val_fn L.den rfl (by simp) fun T hN hA => ?_
  have h0 := hA 0 _ rfl
  have hne : ¬ dig 65536 d = [] := fun e => by have := dig16_nil.1 e; omega
  simp [go_sem, h0, hN, hne]
theorem den_call (L : LibR E) (hd : 0 < d) : wpA E id_ref01_Q_den [F16 neg n d] H nx fz R ↔ R ⟨.ret (N16 d), H, nx, fz, false⟩ := wpA_iff (den_val L hd) rfl
end
end Go.Am
end
section
set_option maxHeartbeats 16000000
namespace Go.Am
open Go Go.Nt
section
variable {E : Env} {n m a b k x d : Nat} {H : Heap} {nx : Nat} {fz : List Nat} {R : Back → Prop} {neg : Bool}
def mkF (neg : Bool) (n d : Nat) : AV := F16 (neg && decide (n ≠ 0)) (n / Nat.gcd n d) (d / Nat.gcd n d)
def sumS (neg1 : Bool) (l : Nat) (neg2 : Bool) (r : Nat) : Bool := if neg1 = neg2 then neg1 else if r ≤ l then neg1 else neg2
def sumN (neg1 : Bool) (l : Nat) (neg2 : Bool) (r : Nat) : Nat := if neg1 = neg2 then l + r else if r ≤ l then l - r else r - l
theorem sz16_add : (dig 65536 (a + b)).length ≤ (dig 65536 a).length + (dig 65536 b).length + 1 := by
  refine (dig_len_le hB16 _ _).2 ?_
  have h1 := (dig_len_le hB16 (dig 65536 a).length a).1 (Nat.le_refl _)
  have h2 := (dig_len_le hB16 (dig 65536 b).length b).1 (Nat.le_refl _)
  have h3 : 65536 ^ (dig 65536 a).length ≤ 65536 ^ ((dig 65536 a).length + (dig 65536 b).length) := Nat.pow_le_pow_right (by omega) (by omega)
  have h4 : 65536 ^ (dig 65536 b).length ≤ 65536 ^ ((dig 65536 a).length + (dig 65536 b).length) := Nat.pow_le_pow_right (by omega) (by omega)
  rw [Nat.pow_succ]
  omega
theorem sum_val (L : LibR E) {neg1 neg2 : Bool} {n1 d1 n2 d2 : Nat} (hd1 : 0 < d1) (hd2 : 0 < d2) (s1 : (dig 65536 n1).length < 1000000) (s2 : (dig 65536 d1).length < 1000000) (s3 : (dig 65536 n2).length < 1000000) (s4 : (dig 65536 d2).length < 1000000) :
    Val E id_ref01_Sum [F16 neg1 n1 d1, F16 neg2 n2 d2] (mkF (sumS neg1 (n1 * d2) neg2 (n2 * d1)) (sumN neg1 (n1 * d2) neg2 (n2 * d1)) (d1 * d2)) := by
  obtain ⟨l, hl⟩ : ∃ l, l = n1 * d2 := ⟨_, rfl⟩
  obtain ⟨r, hr⟩ : ∃ r, r = n2 * d1 := ⟨_, rfl⟩
  obtain ⟨dd, hdd⟩ : ∃ dd, dd = d1 * d2 := ⟨_, rfl⟩
  have hddp : 0 < dd := by rw [hdd]; exact Nat.mul_pos hd1 hd2
  have m1 := fun H nx fz R => mul16_call (H := H) (nx := nx) (fz := fz) (R := R) L (digs16 n1) (digs16 d2) (by omega) (by omega)
  have m2 := fun H nx fz R => mul16_call (H := H) (nx := nx) (fz := fz) (R := R) L (digs16 n2) (digs16 d1) (by omega) (by omega)
  have m3 := fun H nx fz R => mul16_call (H := H) (nx := nx) (fz := fz) (R := R) L (digs16 d1) (digs16 d2) (by omega) (by omega)
  rw [val_dig hB16, val_dig hB16, ← hl] at m1
  rw [val_dig hB16, val_dig hB16, ← hr] at m2
  rw [val_dig hB16, val_dig hB16, ← hdd] at m3
  have sl := sz16_mul (a := n1) (b := d2)
  have sr := sz16_mul (a := n2) (b := d1)
  have sd := sz16_mul (a := d1) (b := d2)
  rw [← hl] at sl
  rw [← hr] at sr
  rw [← hdd] at sd
  rw [← hl, ← hr, ← hdd]
  have slr := sz16_add (a := l) (b := r)
  have bv1 := L.den.bv rfl
  have bv2 := L.mul.bv rfl
  have bv3 := L.add.bv rfl
  have bv4 := L.sub.bv rfl
  have bv5 := L.make.bv rfl
  refine val_fn L.sum rfl (by simp) fun T hN hA => ?_
  have h0 := hA 0 _ rfl
  have h1 := hA 1 _ rfl
  by_cases hs : neg1 = neg2
  · subst hs
    have ad := fun H nx fz R => add16_call (a := l) (b := r) (H := H) (nx := nx) (fz := fz) (R := R) L (by omega) (by omega)
    have mk := fun H nx fz R => make_call (neg := neg1) (n := l + r) (d := dd) (H := H) (nx := nx) (fz := fz) (R := R) L hddp (by omega) (by omega)
    simp [go_sem, h0, h1, hN, den_call L hd1, den_call L hd2, m1, m2, m3, ad, mk, bv1, bv2, bv3, bv4, bv5, mkF, sumS, sumN]
  · have hsb : (neg1 == neg2) = false := by simpa using hs
    have cm := fun H nx fz R => cmp16_call' (a := l) (b := r) (H := H) (nx := nx) (fz := fz) (R := R) L (by omega) (by omega)
    by_cases hle : r ≤ l
    · have ho : 0 ≤ ord l r := by unfold ord; rw [if_neg (by omega)]; split <;> omega
      have sb := fun H nx fz R => sub16_call (a := l) (b := r) (H := H) (nx := nx) (fz := fz) (R := R) L hle (by omega)
      have mk := fun H nx fz R => make_call (neg := neg1) (n := l - r) (d := dd) (H := H) (nx := nx) (fz := fz) (R := R) L hddp (Nat.lt_of_le_of_lt (sz16_mono (Nat.sub_le l r)) (by omega)) (by omega)
      simp [go_sem, h0, h1, hN, den_call L hd1, den_call L hd2, m1, m2, m3, hs, hsb, cm, ho, sb, mk, bv1, bv2, bv3, bv4, bv5, mkF, sumS, sumN, hle]
    · have ho : ¬ 0 ≤ ord l r := by unfold ord; rw [if_pos (by omega)]; omega
      have sb := fun H nx fz R => sub16_call (a := r) (b := l) (H := H) (nx := nx) (fz := fz) (R := R) L (by omega) (by omega)
      have mk := fun H nx fz R => make_call (neg := neg2) (n := r - l) (d := dd) (H := H) (nx := nx) (fz := fz) (R := R) L hddp (Nat.lt_of_le_of_lt (sz16_mono (Nat.sub_le r l)) (by omega)) (by omega)
      simp [go_sem, h0, h1, hN, den_call L hd1, den_call L hd2, m1, m2, m3, hs, hsb, cm, ho, sb, mk, bv1, bv2, bv3, bv4, bv5, mkF, sumS, sumN, hle]
def qcmp (neg1 : Bool) (n1 d1 : Nat) (neg2 : Bool) (n2 d2 : Nat) : Int :=
  sgn (sumS neg1 (n1 * d2) (!neg2 && decide (n2 ≠ 0)) (n2 * d1) && decide (sumN neg1 (n1 * d2) (!neg2 && decide (n2 ≠ 0)) (n2 * d1) ≠ 0)) (sumN neg1 (n1 * d2) (!neg2 && decide (n2 ≠ 0)) (n2 * d1) / Nat.gcd (sumN neg1 (n1 * d2) (!neg2 && decide (n2 ≠ 0)) (n2 * d1)) (d1 * d2))
theorem diff_val (L : LibR E) {neg1 neg2 : Bool} {n1 d1 n2 d2 : Nat} (hd1 : 0 < d1) (hd2 : 0 < d2) (s1 : (dig 65536 n1).length < 1000000) (s2 : (dig 65536 d1).length < 1000000) (s3 : (dig 65536 n2).length < 1000000) (s4 : (dig 65536 d2).length < 1000000) :
    Val E id_ref01_Diff [F16 neg1 n1 d1, F16 neg2 n2 d2] (mkF (sumS neg1 (n1 * d2) (!neg2 && decide (n2 ≠ 0)) (n2 * d1)) (sumN neg1 (n1 * d2) (!neg2 && decide (n2 ≠ 0)) (n2 * d1)) (d1 * d2)) := by
  have bv1 := L.opp.bv rfl
  have bv2 := L.sum.bv rfl
  have op := fun H nx fz R => opp_call (neg := neg2) (n := n2) (d := d2) (H := H) (nx := nx) (fz := fz) (R := R) L
  have sm := fun H nx fz R => wpA_iff (H := H) (nx := nx) (fz := fz) (R := R) (sum_val (neg1 := neg1) (neg2 := !neg2 && decide (n2 ≠ 0)) L hd1 hd2 s1 s2 s3 s4) rfl
  generalize (!neg2 && decide (n2 ≠ 0)) = neg3 at *
  refine val_fn L.diff rfl (by simp) fun T hN hA => ?_
  have h0 := hA 0 _ rfl
  have h1 := hA 1 _ rfl
  simp [go_sem, h0, h1, hN, op, sm, bv1, bv2, mkF]
theorem cmpQ_val (L : LibR E) {neg1 neg2 : Bool} {n1 d1 n2 d2 : Nat} (hd1 : 0 < d1) (hd2 : 0 < d2) (s1 : (dig 65536 n1).length < 1000000) (s2 : (dig 65536 d1).length < 1000000) (s3 : (dig 65536 n2).length < 1000000) (s4 : (dig 65536 d2).length < 1000000) :
    Val E id_ref01_Cmp [F16 neg1 n1 d1, F16 neg2 n2 d2] (.int .i64 (qcmp neg1 n1 d1 neg2 n2 d2)) := by
  have df := fun H nx fz R => wpA_iff (H := H) (nx := nx) (fz := fz) (R := R) (diff_val (neg1 := neg1) (neg2 := neg2) L hd1 hd2 s1 s2 s3 s4) rfl
  refine val_fn L.cmpQ rfl (by simp) fun T hN hA => ?_
  have h0 := hA 0 _ rfl
  have h1 := hA 1 _ rfl
  simp [go_sem, h0, h1, hN, df, mkF, sgn16_call L, qcmp]
end
end Go.Am
end
