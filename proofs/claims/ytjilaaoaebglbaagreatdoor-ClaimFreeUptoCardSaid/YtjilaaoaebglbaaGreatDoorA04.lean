/- Parts of the proof. -/
set_option linter.unusedVariables false
set_option linter.unusedSimpArgs false
set_option linter.unnecessarySimpa false
set_option linter.unusedSectionVars false
section
namespace Go.Nt
def val (B : Nat) : List Nat → Nat
  | [] => 0
  | d :: l => d + B * val B l
def dig (B : Nat) (n : Nat) : List Nat :=
  if h : n = 0 ∨ B < 2 then [] else n % B :: dig B (n / B)
  termination_by n
  decreasing_by
  have : 0 < n := by omega
  exact Nat.div_lt_self this (by omega)
def digs (B : Nat) (l : List Nat) : Prop := ∀ d ∈ l, d < B
def strip : List Nat → List Nat
  | [] => []
  | d :: l => match strip l with
    | [] => if d = 0 then [] else [d]
    | r => d :: r
section
variable {B n m : Nat} {l k : List Nat} {d : Nat}
theorem dig_zero : dig B 0 = [] := by rw [dig]; simp
theorem dig_pos (hB : 2 ≤ B) (hn : 0 < n) : dig B n = n % B :: dig B (n / B) := by
  rw [dig, dif_neg (by omega)]
theorem val_dig (hB : 2 ≤ B) (n : Nat) : val B (dig B n) = n := by
  induction n using Nat.strongRecOn with
  | _ n ih =>
    by_cases h : n = 0
    · subst h; rw [dig_zero]; rfl
    · rw [dig_pos hB (by omega), val, ih _ (Nat.div_lt_self (by omega) (by omega))]
      exact Nat.mod_add_div n B
theorem digs_dig (hB : 2 ≤ B) (n : Nat) : digs B (dig B n) := by
  induction n using Nat.strongRecOn with
  | _ n ih =>
    by_cases h : n = 0
    · subst h; rw [dig_zero]; intro d hd; cases hd
    · rw [dig_pos hB (by omega)]
      intro d hd
      rcases List.mem_cons.1 hd with rfl | hd
      · exact Nat.mod_lt _ (by omega)
      · exact ih _ (Nat.div_lt_self (by omega) (by omega)) d hd
theorem digs_nil : digs B [] := fun d h => by cases h
theorem digs_cons : digs B (d :: l) ↔ d < B ∧ digs B l := by simp [digs]
theorem digs_append : digs B (l ++ k) ↔ digs B l ∧ digs B k := by
  simp only [digs, List.mem_append]
  exact ⟨fun h => ⟨fun d hd => h d (.inl hd), fun d hd => h d (.inr hd)⟩, fun h d hd => hd.elim (h.1 d) (h.2 d)⟩
theorem digs.take (h : digs B l) (n : Nat) : digs B (l.take n) := fun d hd => h d (List.mem_of_mem_take hd)
theorem digs.drop (h : digs B l) (n : Nat) : digs B (l.drop n) := fun d hd => h d (List.mem_of_mem_drop hd)
theorem digs.set (h : digs B l) (hd : d < B) (n : Nat) : digs B (l.set n d) := fun e he => by
  rcases List.mem_or_eq_of_mem_set he with he | rfl
  · exact h e he
  · exact hd
theorem digs.get (h : digs B l) {i : Nat} (hi : i < l.length) : l[i] < B := h _ (List.getElem_mem hi)
theorem digs_replicate (hB : 0 < B) (n : Nat) : digs B (List.replicate n 0) := fun d hd => by
  rw [(List.mem_replicate.1 hd).2]; exact hB
theorem val_append : ∀ (l k : List Nat), val B (l ++ k) = val B l + B ^ l.length * val B k
  | [], k => by simp [val]
  | d :: l, k => by
    rw [List.cons_append, val, val, val_append l k, List.length_cons, Nat.pow_succ, Nat.mul_add, ← Nat.mul_assoc, Nat.mul_comm B (B ^ l.length), Nat.add_assoc]
theorem val_replicate : ∀ (n : Nat), val B (List.replicate n 0) = 0
  | 0 => rfl
  | n + 1 => by rw [List.replicate_succ, val, val_replicate n]; simp
theorem val_lt (hB : 0 < B) : ∀ {l : List Nat}, digs B l → val B l < B ^ l.length
  | [], _ => by simp [val]
  | d :: l, h => by
    obtain ⟨h1, h2⟩ := digs_cons.1 h
    have ih := val_lt hB h2
    rw [val, List.length_cons, Nat.pow_succ]
    have : B * (val B l + 1) ≤ B * B ^ l.length := Nat.mul_le_mul_left _ ih
    rw [Nat.mul_comm (B ^ l.length) B]
    rw [Nat.mul_add] at this
    omega
theorem val_take_drop (l : List Nat) (n : Nat) (hn : n ≤ l.length) : val B l = val B (l.take n) + B ^ n * val B (l.drop n) := by
  have := val_append (B := B) (l.take n) (l.drop n)
  rw [List.take_append_drop] at this
  rw [this, List.length_take, Nat.min_eq_left hn]
theorem val_set : ∀ (l : List Nat) (i : Nat) (d : Nat) (hi : i < l.length), val B (l.set i d) + B ^ i * l[i] = val B l + B ^ i * d
  | [], i, d, hi => by simp at hi
  | e :: l, 0, d, hi => by simp [val]; omega
  | e :: l, i + 1, d, hi => by
    have ih := val_set l i d (by simpa using hi)
    simp only [List.set_cons_succ, val, List.getElem_cons_succ, Nat.pow_succ]
    have h1 : B * (val B (l.set i d) + B ^ i * l[i]'(by simpa using hi)) = B * (val B l + B ^ i * d) := by rw [ih]
    rw [Nat.mul_add, Nat.mul_add, ← Nat.mul_assoc, ← Nat.mul_assoc, Nat.mul_comm B (B ^ i)] at h1
    omega
theorem val_strip : ∀ (l : List Nat), val B (strip l) = val B l
  | [] => rfl
  | d :: l => by
    have ih := val_strip l
    rw [strip]
    split
    · rename_i h
      rw [h] at ih
      split
      · rename_i h0
        have e : val B l = 0 := ih.symm
        rw [val, val, e, h0]; simp
      · have e : val B l = 0 := ih.symm
        rw [val, val, val, e]
    · rw [val, val, ih]
theorem digs_strip : ∀ {l : List Nat}, digs B l → digs B (strip l)
  | [], h => h
  | d :: l, h => by
    obtain ⟨h1, h2⟩ := digs_cons.1 h
    have ih := digs_strip h2
    rw [strip]
    split
    · split
      · exact digs_nil
      · exact digs_cons.2 ⟨h1, digs_nil⟩
    · exact digs_cons.2 ⟨h1, ih⟩
theorem strip_nil_iff (hB : 2 ≤ B) : ∀ {l : List Nat}, strip l = [] ↔ val B l = 0
  | [] => by simp [strip, val]
  | d :: l => by
    have ih := strip_nil_iff hB (l := l)
    rw [strip]
    split
    · rename_i h
      rw [ih] at h
      rw [val, h]
      split <;> simp <;> omega
    · rename_i h
      rw [ih] at h
      rw [val]
      simp
      intro _
      exact Nat.ne_of_gt (Nat.mul_pos (by omega) (Nat.pos_of_ne_zero h))
theorem strip_eq (hB : 2 ≤ B) : ∀ {l : List Nat}, digs B l → strip l = dig B (val B l)
  | [], _ => by rw [strip, val, dig_zero]
  | d :: l, h => by
    obtain ⟨h1, h2⟩ := digs_cons.1 h
    have ih := strip_eq hB h2
    rw [strip]
    split
    · rename_i hs
      rw [ih] at hs
      have h0 : val B l = 0 := by
        have := val_dig hB (val B l)
        rw [hs] at this
        exact this.symm
      rw [val, h0, Nat.mul_zero, Nat.add_zero]
      split
      · rename_i hd; rw [hd, dig_zero]
      · rw [dig_pos hB (by omega), Nat.mod_eq_of_lt h1, Nat.div_eq_of_lt h1, dig_zero]
    · rename_i hs
      have h0 : 0 < val B l := by
        rcases Nat.eq_zero_or_pos (val B l) with h | h
        · exact absurd ((strip_nil_iff hB).2 h) (by simpa using hs)
        · exact h
      have hp : 0 < B * val B l := Nat.mul_pos (by omega) h0
      rw [val, dig_pos hB (by omega), ih, Nat.add_mul_mod_self_left, Nat.mod_eq_of_lt h1, Nat.add_mul_div_left _ _ (by omega : 0 < B), Nat.div_eq_of_lt h1, Nat.zero_add]
theorem strip_last (h : l.getLast? ≠ some 0) : strip l = l := by
  induction l with
  | nil => rfl
  | cons d l ih =>
    cases l with
    | nil =>
      simp at h
      simp [strip, h]
    | cons e l =>
      rw [List.getLast?_cons_cons] at h
      rw [strip, ih h]
theorem dig_last (hB : 2 ≤ B) (n : Nat) : (dig B n).getLast? ≠ some 0 := by
  induction n using Nat.strongRecOn with
  | _ n ih =>
    by_cases h : n = 0
    · subst h; rw [dig_zero]; simp
    · rw [dig_pos hB (by omega)]
      by_cases h2 : n / B = 0
      · rw [h2, dig_zero]
        simp
        have := Nat.mod_add_div n B
        rw [h2] at this
        simp at this
        omega
      · have h3 : 0 < n / B := Nat.pos_of_ne_zero h2
        rw [dig_pos hB h3, List.getLast?_cons_cons, ← dig_pos hB h3]
        exact ih _ (Nat.div_lt_self (by omega) (by omega))
theorem dig_val (hB : 2 ≤ B) (h : digs B l) (hl : l.getLast? ≠ some 0) : dig B (val B l) = l := by
  rw [← strip_eq hB h, strip_last hl]
theorem dig_length_le (hB : 2 ≤ B) (h : digs B l) : (dig B (val B l)).length ≤ l.length := by
  rw [← strip_eq hB h]
  clear h
  induction l with
  | nil => simp [strip]
  | cons d l ih =>
    rw [strip]
    split
    · split <;> simp
    · simp; exact ih
theorem dig_len_pos (hB : 2 ≤ B) (hn : 0 < n) : 0 < (dig B n).length := by
  rw [dig_pos hB hn]; simp
theorem dig_len_le (hB : 2 ≤ B) : ∀ (k n : Nat), (dig B n).length ≤ k ↔ n < B ^ k
  | 0, n => by
    constructor
    · intro h
      rcases Nat.eq_zero_or_pos n with h0 | h0
      · simp [h0]
      · have := dig_len_pos hB h0; omega
    · intro h
      have : n = 0 := by simpa using h
      rw [this, dig_zero]; simp
  | k + 1, n => by
    rcases Nat.eq_zero_or_pos n with h0 | h0
    · rw [h0, dig_zero]
      simp
      exact Nat.pow_pos (by omega)
    · rw [dig_pos hB h0, List.length_cons, Nat.add_le_add_iff_right, dig_len_le hB k, Nat.div_lt_iff_lt_mul (by omega), Nat.pow_succ]
theorem pow_le_of_dig_len (hB : 2 ≤ B) (hn : 0 < n) : B ^ ((dig B n).length - 1) ≤ n := by
  rcases Nat.lt_or_ge n (B ^ ((dig B n).length - 1)) with h | h
  · have := (dig_len_le hB _ n).2 h
    have := dig_len_pos hB hn
    omega
  · exact h
theorem dig_len_lt (hB : 2 ≤ B) (h : (dig B n).length < (dig B m).length) : n < m := by
  have hm : 0 < m := by
    rcases Nat.eq_zero_or_pos m with h0 | h0
    · rw [h0, dig_zero] at h; simp at h
    · exact h0
  have h1 := (dig_len_le hB _ n).1 (show (dig B n).length ≤ (dig B m).length - 1 by omega)
  exact Nat.lt_of_lt_of_le h1 (pow_le_of_dig_len hB hm)
theorem dig_inj (hB : 2 ≤ B) (h : dig B n = dig B m) : n = m := by
  rw [← val_dig hB n, h, val_dig hB]
end
end Go.Nt
end
section
namespace Go.Nt
def dg (l : List Nat) (i : Nat) : Nat := l.getD i 0
section
variable {B n m i j : Nat} {l k a b L : List Nat} {d x c w : Nat}
theorem getD_lt (h : digs B l) (hB : 0 < B) (i : Nat) : dg l i < B := by
  rw [dg, List.getD_eq_getElem?_getD]
  cases hi : l[i]? with
  | none => exact hB
  | some d => exact h d (List.mem_of_getElem? hi)
theorem getD_eq (hi : i < l.length) : dg l i = l[i] := by simp [dg, List.getD_eq_getElem?_getD, hi]
theorem getD_out (hi : l.length ≤ i) : dg l i = 0 := by simp [dg, List.getD_eq_getElem?_getD, List.getElem?_eq_none hi]
theorem val_take_succ (l : List Nat) (i : Nat) : val B (l.take (i + 1)) = val B (l.take i) + B ^ i * dg l i := by
  by_cases hi : i < l.length
  · rw [List.take_succ_eq_append_getElem hi, val_append, getD_eq hi, List.length_take, Nat.min_eq_left (Nat.le_of_lt hi)]
    simp [val]
  · rw [List.take_of_length_le (by omega), List.take_of_length_le (by omega), getD_out (by omega)]; simp
theorem val_take_all (hl : l.length ≤ n) : val B (l.take n) = val B l := by rw [List.take_of_length_le hl]
theorem val_drop (l : List Nat) (i : Nat) : val B (l.drop i) = dg l i + B * val B (l.drop (i + 1)) := by
  by_cases hi : i < l.length
  · rw [List.drop_eq_getElem_cons hi, val, getD_eq hi]
  · rw [List.drop_of_length_le (by omega), List.drop_of_length_le (by omega), getD_out (by omega)]; simp [val]
theorem getD_set_self (hi : i < l.length) : dg (l.set i x) i = x := by simp [dg, List.getD_eq_getElem?_getD, hi]
theorem getD_set_ne (h : i ≠ j) : dg (l.set i x) j = dg l j := by simp [dg, List.getD_eq_getElem?_getD, List.getElem?_set_ne h]
theorem take_set (l : List Nat) (i x : Nat) : (l.set i x).take i = l.take i := by
  rw [List.take_set]
  exact List.set_eq_of_length_le (by simp; omega)
theorem val_take_set (hi : i < l.length) : val B ((l.set i x).take (i + 1)) = val B (l.take i) + B ^ i * x := by
  rw [val_take_succ, take_set, getD_set_self hi]
theorem val_set' (hi : i < l.length) : val B (l.set i x) + B ^ i * dg l i = val B l + B ^ i * x := by
  rw [getD_eq hi]; exact val_set l i x hi
theorem getD_replicate (n i : Nat) : dg (List.replicate n 0) i = 0 := by
  rw [dg, List.getD_eq_getElem?_getD, List.getElem?_replicate]
  split <;> rfl
theorem add_step {s : Nat} (hi : i < L.length) (h : val B (L.take i) + B ^ i * c = val B (a.take i) + val B (b.take i)) (hs : s = dg a i + c + dg b i) :
    val B ((L.set i (s % B)).take (i + 1)) + B ^ (i + 1) * (s / B) = val B (a.take (i + 1)) + val B (b.take (i + 1)) := by
  rw [val_take_set hi, val_take_succ a, val_take_succ b, Nat.pow_succ]
  have e : B ^ i * (s % B) + B ^ i * B * (s / B) = B ^ i * s := by
    rw [Nat.mul_assoc, ← Nat.mul_add, Nat.mod_add_div]
  have e2 : B ^ i * s = B ^ i * dg a i + B ^ i * c + B ^ i * dg b i := by rw [hs, Nat.mul_add, Nat.mul_add]
  omega
theorem add_carry {s : Nat} (hB : 2 ≤ B) (ha : digs B a) (hb : digs B b) (hc : c ≤ 1) (hs : s = dg a i + c + dg b i) : s / B ≤ 1 := by
  have h1 := getD_lt ha (by omega) i
  have h2 := getD_lt hb (by omega) i
  exact Nat.lt_succ_iff.1 ((Nat.div_lt_iff_lt_mul (by omega)).2 (by omega))
theorem sub_step {y e : Nat} (hi : i < L.length) (h : val B (L.take i) + val B (b.take i) = val B (a.take i) + B ^ i * c) (hy : y + dg b i + c = dg a i + B * e) :
    val B ((L.set i y).take (i + 1)) + val B (b.take (i + 1)) = val B (a.take (i + 1)) + B ^ (i + 1) * e := by
  rw [val_take_set hi, val_take_succ a, val_take_succ b, Nat.pow_succ]
  have e1 : B ^ i * (y + dg b i + c) = B ^ i * (dg a i + B * e) := by rw [hy]
  rw [Nat.mul_add, Nat.mul_add, Nat.mul_add, ← Nat.mul_assoc] at e1
  omega
theorem sub_end (hB : 0 < B) (hl : L.length = n) (hd : digs B L) (h : val B L + val B b = val B a + B ^ n * c) (hle : val B b ≤ val B a) : c = 0 ∧ val B L = val B a - val B b := by
  have h1 := val_lt hB hd
  rw [hl] at h1
  have : c = 0 := by
    rcases Nat.eq_zero_or_pos c with h0 | h0
    · exact h0
    · have : B ^ n * 1 ≤ B ^ n * c := Nat.mul_le_mul_left _ h0
      omega
  subst this
  simp at h
  exact ⟨rfl, by omega⟩
theorem mul_step {s V : Nat} (hk : n < L.length) (h : val B L + B ^ n * c = V + B ^ i * w * val B (b.take j)) (hn : n = i + j) (hs : s = w * dg b j + dg L n + c) :
    val B (L.set n (s % B)) + B ^ (n + 1) * (s / B) = V + B ^ i * w * val B (b.take (j + 1)) := by
  have h1 := val_set' (B := B) (x := s % B) hk
  rw [val_take_succ, Nat.mul_add, Nat.pow_succ]
  have e : B ^ n * (s % B) + B ^ n * B * (s / B) = B ^ n * s := by
    rw [Nat.mul_assoc, ← Nat.mul_add, Nat.mod_add_div]
  have e2 : B ^ n * s = B ^ n * (w * dg b j) + B ^ n * dg L n + B ^ n * c := by rw [hs, Nat.mul_add, Nat.mul_add]
  have e3 : B ^ i * w * (B ^ j * dg b j) = B ^ n * (w * dg b j) := by rw [hn, Nat.pow_add]; grind
  omega
theorem mul_carry {s : Nat} (hB : 0 < B) (hw : w < B) (hb : digs B b) (hL : digs B L) (hc : c < B) (hs : s = w * dg b j + dg L n + c) : s / B < B := by
  have h1 := getD_lt hb hB j
  have h2 := getD_lt hL hB n
  refine (Nat.div_lt_iff_lt_mul hB).2 ?_
  have h3 : w * dg b j ≤ (B - 1) * (B - 1) := Nat.mul_le_mul (by omega) (by omega)
  obtain ⟨r, rfl⟩ : ∃ r, B = r + 1 := ⟨B - 1, by omega⟩
  simp only [Nat.add_sub_cancel] at h3
  grind
theorem mul_row {V : Nat} (hk : n < L.length) (h0 : dg L n = 0) (h : val B L + B ^ n * c = V) : val B (L.set n c) = V := by
  have h1 := val_set' (B := B) (x := c) hk
  rw [h0] at h1
  omega
theorem divs_step {s r : Nat} (hi : i < L.length) (hd : 0 < d) (h : val B (a.drop (i + 1)) = d * val B (L.drop (i + 1)) + r) (hr : r < d) (hs : s = r * B + dg a i) :
    val B (a.drop i) = d * val B ((L.set i (s / d)).drop i) + s % d ∧ s % d < d := by
  refine ⟨?_, Nat.mod_lt _ hd⟩
  have e1 : (L.set i (s / d)).drop (i + 1) = L.drop (i + 1) := by
    rw [List.drop_set]
    simp
  rw [val_drop a i, val_drop (L.set i (s / d)) i, e1, getD_set_self hi, h]
  have := Nat.div_add_mod s d
  grind
theorem divs_digit {s r : Nat} (ha : digs B a) (hB : 0 < B) (hr : r < d) (hs : s = r * B + dg a i) : s / d < B := by
  have h1 := getD_lt ha hB i
  refine (Nat.div_lt_iff_lt_mul (by omega)).2 ?_
  have h2 : (r + 1) * B ≤ d * B := Nat.mul_le_mul_right B hr
  rw [Nat.add_mul] at h2
  rw [Nat.mul_comm B d]
  omega
theorem val_lt_top (hB : 0 < B) (ha : digs B a) (hb : digs B b) (hl : a.length = b.length) (hi : i < a.length) (he : a.drop (i + 1) = b.drop (i + 1)) (hlt : dg a i < dg b i) : val B a < val B b := by
  have h1 := val_take_drop (B := B) a i (by omega)
  have h2 := val_take_drop (B := B) b i (by omega)
  rw [val_drop a i, he] at h1
  rw [val_drop b i] at h2
  have h3 := val_lt hB (ha.take i)
  rw [List.length_take, Nat.min_eq_left (by omega)] at h3
  have h4 : B ^ i * (dg a i + 1 + B * val B (b.drop (i + 1))) ≤ B ^ i * (dg b i + B * val B (b.drop (i + 1))) := Nat.mul_le_mul_left _ (by omega)
  have h5 : B ^ i * (dg a i + 1 + B * val B (b.drop (i + 1))) = B ^ i * (dg a i + B * val B (b.drop (i + 1))) + B ^ i := by
    rw [show dg a i + 1 + B * val B (b.drop (i + 1)) = (dg a i + B * val B (b.drop (i + 1))) + 1 by omega, Nat.mul_add, Nat.mul_one]
  omega
theorem digit_low {D X P U T low ulow g : Nat} (hD : D = X * P + low) (hU : U = T * P + ulow) (hu : ulow < P) (h : T < g * X) : U < g * D := by
  have h1 : (T + 1) * P ≤ g * X * P := Nat.mul_le_mul_right P h
  have h2 : (T + 1) * P = T * P + P := by grind
  have h3 : g * D = g * X * P + g * low := by rw [hD]; grind
  omega
theorem digit_high {D X P U T low ulow g : Nat} (hD : D = X * P + low) (hl : low < P) (hU : U = T * P + ulow) (h : g * X ≤ T) (hg : 1 ≤ g) (hgX : g ≤ X + 1) : (g - 1) * D ≤ U := by
  obtain ⟨k, rfl⟩ : ∃ k, g = k + 1 := ⟨g - 1, by omega⟩
  simp only [Nat.add_sub_cancel]
  have h1 : D ≤ (X + 1) * P := by grind
  have h2 : k * D ≤ k * ((X + 1) * P) := Nat.mul_le_mul_left k h1
  have h3 : (k + 1) * X * P ≤ T * P := Nat.mul_le_mul_right P h
  have h4 : k * P ≤ X * P := Nat.mul_le_mul_right P (by omega)
  grind
end
end Go.Nt
end
section
namespace Go.Nt
theorem or_add {h t r : Nat} (hh : h < 2 ^ r) : h ||| 2 ^ r * t = h + 2 ^ r * t := by
  rw [Nat.or_comm, Nat.add_comm, Nat.two_pow_add_eq_or_of_lt hh]
section
variable {B n m i j q r p k : Nat} {l a b L : List Nat} {d x c w : Nat}
theorem shl_step {s : Nat} (hp : B = 2 ^ p) (hr : r ≤ p) (hi : q + i + 1 < L.length) (h : val B L = B ^ q * 2 ^ r * val B (a.take i)) (h0 : dg L (q + i + 1) = 0) (hh : dg L (q + i) < 2 ^ r) (hw : dg a i = w) (hs : s = w * 2 ^ r) :
    val B ((L.set (q + i) (dg L (q + i) ||| s % B)).set (q + i + 1) (s / B)) = B ^ q * 2 ^ r * val B (a.take (i + 1)) := by
  have e1 : dg L (q + i) ||| s % B = dg L (q + i) + s % B := by
    have : s % B = 2 ^ r * (w % 2 ^ (p - r)) := by
      rw [hs, hp, show p = r + (p - r) by omega, Nat.pow_add, Nat.mul_comm w, Nat.mul_mod_mul_left]
      congr 3
      omega
    rw [this, or_add hh]
  rw [e1]
  have h1 := val_set' (B := B) (l := L) (x := dg L (q + i) + s % B) (i := q + i) (by omega)
  have h2 := val_set' (B := B) (l := L.set (q + i) (dg L (q + i) + s % B)) (x := s / B) (i := q + i + 1) (by simpa using hi)
  rw [getD_set_ne (by omega), h0] at h2
  have h3 := val_take_succ (B := B) a i
  rw [hw] at h3
  have h4 := Nat.mod_add_div s B
  rw [h3, Nat.mul_add, ← h]
  have e2 : B ^ q * 2 ^ r * (B ^ i * w) = B ^ (q + i) * (s % B) + B ^ (q + i + 1) * (s / B) := by
    rw [Nat.pow_succ, Nat.mul_assoc (B ^ (q + i)) B, ← Nat.mul_add, h4, hs, Nat.pow_add]; grind
  have e3 : B ^ (q + i) * (dg L (q + i) + s % B) = B ^ (q + i) * dg L (q + i) + B ^ (q + i) * (s % B) := Nat.mul_add ..
  omega
theorem val_div_pow (hB : 0 < B) : ∀ (i : Nat) {l : List Nat}, digs B l → val B l / B ^ i = val B (l.drop i)
  | 0, l, h => by simp
  | i + 1, [], h => by simp [val]
  | i + 1, d :: l, h => by
    obtain ⟨h1, h2⟩ := digs_cons.1 h
    rw [val, Nat.pow_succ, Nat.mul_comm (B ^ i) B, ← Nat.div_div_eq_div_mul, Nat.add_mul_div_left _ _ hB, Nat.div_eq_of_lt h1, Nat.zero_add, val_div_pow hB i h2]
    simp
theorem shr_digit (hp : B = 2 ^ p) (hr : r ≤ p) (hd : digs B l) (i : Nat) : (val B l / 2 ^ r) / B ^ i % B = (dg l i + B * dg l (i + 1)) / 2 ^ r % B := by
  have hB : 0 < B := by rw [hp]; exact Nat.pow_pos (by omega)
  rw [Nat.div_div_eq_div_mul, Nat.mul_comm, ← Nat.div_div_eq_div_mul, val_div_pow hB i hd, val_drop, val_drop]
  have e : dg l i + B * (dg l (i + 1) + B * val B (l.drop (i + 1 + 1))) = (dg l i + B * dg l (i + 1)) + 2 ^ r * (B * (2 ^ (p - r) * val B (l.drop (i + 1 + 1)))) := by
    have : B = 2 ^ r * 2 ^ (p - r) := by rw [hp, ← Nat.pow_add]; congr 1; omega
    have e2 : B * (B * val B (l.drop (i + 1 + 1))) = 2 ^ r * (B * (2 ^ (p - r) * val B (l.drop (i + 1 + 1)))) := by
      conv => lhs; arg 1; rw [this]
      grind
    rw [Nat.mul_add, e2]; omega
  rw [e, Nat.add_mul_div_left _ _ (Nat.pow_pos (by omega)), Nat.add_mul_mod_self_left]
theorem take_of_digits (hB : 0 < B) {V : Nat} : ∀ (n : Nat), (∀ i, i < n → dg L i = V / B ^ i % B) → val B (L.take n) = V % B ^ n
  | 0, _ => by simp [val, Nat.mod_one]
  | n + 1, h => by
    rw [val_take_succ, take_of_digits hB n fun i hi => h i (by omega), h n (by omega), Nat.pow_succ, Nat.mod_mul]
def twos (n k : Nat) : Prop := ∃ m, n = 2 ^ k * (2 * m + 1)
theorem twos_digit (hp : B = 2 ^ p) (h0 : ∀ j, j < i → dg l j = 0) (hi : i < l.length) (ht : twos (dg l i) k) (hk : k < p) : twos (val B l) (p * i + k) := by
  have hz : ∀ n, n ≤ i → val B (l.take n) = 0 := by
    intro n
    induction n with
    | zero => intro _; simp [val]
    | succ n ih => intro hn; rw [val_take_succ, ih (by omega), h0 n (by omega)]; simp
  have h1 := val_take_drop (B := B) l i (by omega)
  rw [hz i (Nat.le_refl _), val_drop] at h1
  obtain ⟨m, hm⟩ := ht
  refine ⟨m + 2 ^ (p - k - 1) * val B (l.drop (i + 1)), ?_⟩
  rw [h1, hm, hp, ← Nat.pow_mul, Nat.pow_add]
  have : 2 ^ p = 2 ^ k * (2 * 2 ^ (p - k - 1)) := by
    rw [← Nat.pow_succ', ← Nat.pow_add]; congr 1; omega
  rw [Nat.mul_add 2 m, this]
  grind
theorem twos_pos (h : twos n k) : 0 < n := by
  obtain ⟨m, rfl⟩ := h
  exact Nat.mul_pos (Nat.pow_pos (by omega)) (by omega)
theorem and_neg {x : Nat} (ht : twos x k) (hx : x < 2 ^ p) : x &&& (2 ^ p - x) = 2 ^ k := by
  obtain ⟨m, rfl⟩ := ht
  have hk : 2 ^ k ≤ 2 ^ k * (2 * m + 1) := Nat.le_mul_of_pos_right _ (by omega)
  have hkp : k < p := (Nat.pow_lt_pow_iff_right (by omega : 1 < 2)).1 (by omega)
  have hc : ∀ i, i < p → (2 ^ p - 2 ^ k * (2 * m + 1)).testBit i = !((2 ^ k * (2 * m + 1) - 1).testBit i) := by
    intro i hi
    have hpos : 0 < 2 ^ k * (2 * m + 1) := Nat.lt_of_lt_of_le (Nat.pow_pos (by omega)) hk
    have := Nat.testBit_two_pow_sub_succ (n := p) (x := 2 ^ k * (2 * m + 1) - 1) (Nat.lt_of_le_of_lt (Nat.sub_le _ _) hx) i
    rw [Nat.sub_add_cancel hpos] at this
    rw [this]; simp [hi]
  have e1 : 2 ^ k * (2 * m + 1) = 2 ^ (k + 1) * m + 2 ^ k := by rw [Nat.pow_succ]; grind
  have e2 : 2 ^ k * (2 * m + 1) - 1 = 2 ^ (k + 1) * m + (2 ^ k - 1) := by
    have : 0 < 2 ^ k := Nat.pow_pos (by omega)
    omega
  have hlt : 2 ^ k < 2 ^ (k + 1) := Nat.pow_lt_pow_right (by omega) (by omega)
  apply Nat.eq_of_testBit_eq
  intro i
  rw [Nat.testBit_and, Nat.testBit_two_pow]
  by_cases hi : i < p
  · rw [hc i hi, e2, e1, Nat.testBit_two_pow_mul_add _ hlt, Nat.testBit_two_pow_mul_add _ (by omega)]
    by_cases h1 : i < k + 1
    · simp only [h1, if_true, Nat.testBit_two_pow, Nat.testBit_two_pow_sub_one]
      by_cases h2 : k = i
      · subst h2; simp
      · have : i < k := by omega
        simp [h2]
    · simp only [h1, if_false]
      have : k ≠ i := by omega
      simp [this]
  · have hxi : (2 ^ k * (2 * m + 1)).testBit i = false := Nat.testBit_lt_two_pow (Nat.lt_of_lt_of_le hx (Nat.pow_le_pow_right (by omega) (by omega)))
    rw [hxi]
    have : k ≠ i := by omega
    simp [this]
theorem twos_exists : ∀ (n : Nat), 0 < n → ∃ k, twos n k := by
  intro n
  induction n using Nat.strongRecOn with
  | _ n ih =>
    intro hn
    rcases Nat.mod_two_eq_zero_or_one n with h | h
    · obtain ⟨k, m, hk⟩ := ih (n / 2) (by omega) (by omega)
      exact ⟨k + 1, m, by rw [Nat.pow_succ, Nat.mul_comm (2 ^ k) 2, Nat.mul_assoc, ← hk]; omega⟩
    · exact ⟨0, n / 2, by simp; omega⟩
theorem gcd_two_pow_odd {a j m : Nat} (h : a % 2 = 1) : Nat.gcd a (2 ^ j) = 1 := by
  have : Nat.Coprime a 2 := by
    rw [Nat.coprime_iff_gcd_eq_one, Nat.gcd_comm, Nat.gcd_rec, h]; rfl
  exact (Nat.Coprime.pow_right j this)
theorem div_gcd_shift {a b t : Nat} (ha : 2 ^ t ∣ a) (hb : 2 ^ t ∣ b) (hpos : 0 < a) : a / Nat.gcd a b = (a / 2 ^ t) / Nat.gcd (a / 2 ^ t) (b / 2 ^ t) ∧ b / Nat.gcd a b = (b / 2 ^ t) / Nat.gcd (a / 2 ^ t) (b / 2 ^ t) := by
  obtain ⟨x, rfl⟩ := ha
  obtain ⟨y, rfl⟩ := hb
  have h2 : 0 < 2 ^ t := Nat.pow_pos (by omega)
  rw [Nat.gcd_mul_left, Nat.mul_div_cancel_left _ h2, Nat.mul_div_cancel_left _ h2]
  constructor
  · rw [Nat.mul_div_mul_left _ _ h2]
  · rw [Nat.mul_div_mul_left _ _ h2]
end
end Go.Nt
end
section
namespace Go.Nt
section
variable {B n i j : Nat} {W W2 D P S M : List Nat} {g x : Nat}
theorem dg_mid (P W S : List Nat) (hi : i < W.length) : dg (P ++ (W ++ S)) (P.length + i) = dg W i := by
  unfold dg
  rw [List.getD_eq_getElem?_getD, List.getD_eq_getElem?_getD, List.getElem?_append_right (by omega), Nat.add_sub_cancel_left, List.getElem?_append_left hi]
theorem set_mid (P W S : List Nat) (hi : i < W.length) : (P ++ (W ++ S)).set (P.length + i) x = P ++ (W.set i x ++ S) := by
  rw [List.set_append_right _ _ (by omega), Nat.add_sub_cancel_left, List.set_append_left _ _ hi]
theorem msub_step {s t c b c2 b2 : Nat} (hi : i < W2.length) (h : val B (W2.take i) + g * val B (D.take i) = val B (W.take i) + B ^ i * (c + b)) (hs : s = g * dg D i + c) (hc : c2 = s / B) (ht : t + s % B + b = dg W i + B * b2) :
    val B ((W2.set i t).take (i + 1)) + g * val B (D.take (i + 1)) = val B (W.take (i + 1)) + B ^ (i + 1) * (c2 + b2) := by
  rw [val_take_set hi, val_take_succ D, val_take_succ W, Nat.pow_succ]
  have e0 := Nat.mod_add_div s B
  rw [← hc] at e0
  have e1 : t + g * dg D i + c + b = dg W i + B * (c2 + b2) := by
    have : t + s + b = dg W i + B * b2 + B * c2 := by omega
    rw [Nat.mul_add]; omega
  have e2 : B ^ i * (t + g * dg D i + c + b) = B ^ i * (dg W i + B * (c2 + b2)) := by rw [e1]
  have e3 : B ^ i * (t + g * dg D i + c + b) = B ^ i * t + g * (B ^ i * dg D i) + B ^ i * (c + b) := by grind
  have e4 : B ^ i * (dg W i + B * (c2 + b2)) = B ^ i * dg W i + B ^ i * B * (c2 + b2) := by grind
  have e5 : g * (val B (D.take i) + B ^ i * dg D i) = g * val B (D.take i) + g * (B ^ i * dg D i) := Nat.mul_add ..
  omega
theorem msub_carry {s c : Nat} (hB : 0 < B) (hg : g < B) (hD : digs B D) (hc : c < B) (hs : s = g * dg D i + c) : s / B < B ∧ s < B * B := by
  have h1 := getD_lt hD hB i
  have h2 : g * dg D i ≤ (B - 1) * (B - 1) := Nat.mul_le_mul (by omega) (by omega)
  obtain ⟨r, rfl⟩ : ∃ r, B = r + 1 := ⟨B - 1, by omega⟩
  simp only [Nat.add_sub_cancel] at h2
  have h3 : s < (r + 1) * (r + 1) := by grind
  exact ⟨(Nat.div_lt_iff_lt_mul hB).2 h3, h3⟩
end
end Go.Nt
end
