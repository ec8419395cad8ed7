/- Parts of the proof. -/
import Derived.Test.YtjilaaoaebglbaaGreatDoorA05
set_option linter.unusedVariables false
set_option linter.unusedSimpArgs false
set_option linter.unnecessarySimpa false
set_option linter.unusedSectionVars false
section
namespace Go.Am
open Go Go.Nt
abbrev R32 (l : List Nat) : AV := .row l.length (ints .u32 l)
abbrev N32 (n : Nat) : AV := R32 (dig 4294967296 n)
structure LibW (E : Env) : Prop where
  glob : E.glob 3 = some ([0, 1, 28, 2, 29, 14, 24, 3, 30, 22, 20, 15, 25, 17, 4, 8, 31, 27, 13, 23, 21, 19, 16, 7, 26, 12, 18, 6, 11, 5, 10, 9].map fun (n : Nat) => AV.int .u8 n)
  of : At E id_word_Of fn_word_Of
  small : At E id_word_Small fn_word_Small
  zero : At E id_word_Nat_Zero fn_word_Nat_Zero
  one : At E id_word_Nat_One fn_word_Nat_One
  cmp : At E id_word_Nat_Cmp fn_word_Nat_Cmp
  bits : At E id_word_Nat_Bits fn_word_Nat_Bits
  twos : At E id_word_Nat_Twos fn_word_Nat_Twos
  add : At E id_word_Nat_Add fn_word_Nat_Add
  shl : At E id_word_Nat_Shl fn_word_Nat_Shl
  shr : At E id_word_Nat_Shr fn_word_Nat_Shr
  mul : At E id_word_Nat_Mul fn_word_Nat_Mul
  divs : At E id_word_Nat_DivSmall fn_word_Nat_DivSmall
  div : At E id_word_Nat_Div fn_word_Nat_Div
  digit : At E id_word_digit fn_word_digit
  gcd : At E id_word_Nat_GCD fn_word_Nat_GCD
  reduce : At E id_word_Reduce fn_word_Reduce
  read : At E id_word_Read fn_word_Read
  fits : At E id_word_Frac_Fits fn_word_Frac_Fits
  sign : At E id_word_Frac_Sign fn_word_Frac_Sign
  fcmp : At E id_word_Frac_Cmp fn_word_Frac_Cmp
  len32 : At E id_bits_Len32 fn_bits_Len32
  ctz32 : At E id_bits_TrailingZeros32 fn_bits_TrailingZeros32
  clz32 : At E id_bits_LeadingZeros32 fn_bits_LeadingZeros32
section
variable {E : Env} {l : List Nat} {n m : Nat} {H : Heap} {nx : Nat} {fz : List Nat} {R : Back → Prop}
theorem hB : 2 ≤ 4294967296 := by decide
theorem digs_N (n : Nat) : digs 4294967296 (dig 4294967296 n) := digs_dig hB n
theorem of_val (L : LibW E) (l : List Nat) (hd : digs 4294967296 l) (hl : l.length < 9223372036854775808) : Val E id_word_Of [R32 l] (N32 (val 4294967296 l)) := by
  have hst := strip_eq hB hd
  refine val_fn L.of rfl (by simp) fun T hN hA => ?_
  have h0 := hA 0 _ rfl
  simp [go_sem, h0, hN]
  refine loop_v _ rfl (fun m t H nx fz => H = [] ∧ nx = 0 ∧ fz = [] ∧ m ≤ l.length ∧ getT t 0 = .row m (ints .u32 (l.take m)) ∧ strip (l.take m) = strip l) l.length ?_ ?_
  · simp [go_sem, h0, hN]
  · rintro m t H nx fz ⟨rfl, rfl, rfl, hm, ht, hs⟩ hF
    have hN' : t.length = 21 := by rw [hF.1]; simp [hN]
    by_cases h0 : m = 0
    · subst h0
      simp [go_sem, ht, hN']
      have : strip l = [] := by rw [← hs]; rfl
      rw [← hst, this]; simp [ints]
    · have hw : IntKind.i64.wrap ((m : Int) - 1) = ((m - 1 : Nat) : Int) := by rw [wrapI_id (by omega) (by omega)]; omega
      have hlt : m - 1 < m := by omega
      have hp : 0 < m := by omega
      have hlen : m - 1 < l.length := by omega
      have hmin : min m l.length = m := by omega
      have hg : dg (l.take m) (m - 1) = dg l (m - 1) := by simp [dg, List.getD_eq_getElem?_getD, hlt]
      have he : l.take m = l.take (m - 1) ++ [dg l (m - 1)] := by
        conv => lhs; rw [show m = m - 1 + 1 by omega, List.take_succ_eq_append_getElem hlen]
        rw [getD_eq hlen]
      have hstrip : ∀ (a : List Nat) (d : Nat), strip (a ++ [d]) = if d = 0 then strip a else a ++ [d] := by
        intro a d
        induction a with
        | nil => by_cases e : d = 0 <;> simp [strip, e]
        | cons x a ih =>
          rw [List.cons_append, strip, ih]
          by_cases e : d = 0
          · simp [e, strip]
          · simp only [e, if_false]
            cases ha : a ++ [d] with
            | nil => simp at ha
            | cons y r => simp [← ha]
      by_cases hz : dg l (m - 1) = 0
      · simp only [hz] at hg
        simp [go_sem, ht, hN', hw, hg, hlt, hp, hlen, hmin]
        refine ⟨m - 1, hlt, by omega, ⟨rfl, ?_⟩, ?_⟩
        · rw [ints_take, List.take_take, Nat.min_eq_left (by omega)]
        · rw [← hs, he, hstrip, if_pos hz]
      · simp [go_sem, ht, hN', hw, hz, hg, hlt, hp, hlen, hmin]
        have e2 : l.take m = dig 4294967296 (val 4294967296 l) := by
          rw [← hst, ← hs, he, hstrip, if_neg hz]
        rw [← e2]
        exact ⟨by simp; omega, rfl⟩
theorem of_call (L : LibW E) (hd : digs 4294967296 l) (hl : l.length < 9223372036854775808) : wpA E id_word_Of [R32 l] H nx fz R ↔ R ⟨.ret (N32 (val 4294967296 l)), H, nx, fz, false⟩ := wpA_iff (of_val L l hd hl) rfl
theorem small_val (L : LibW E) (hn : n < 18446744073709551616) : Val E id_word_Small [.int .u64 (n : Int)] (N32 n) := by
  refine val_fn L.small rfl (by simp) fun T hN hA => ?_
  have h0 := hA 0 _ rfl
  have e1 : ((n : Int)).fdiv 4294967296 = ((n / 4294967296 : Nat) : Int) := by rw [Int.fdiv_eq_ediv_of_nonneg _ (by omega)]; omega
  have e2 : IntKind.u32.wrap ((n : Int) / 4294967296) = (n : Int) / 4294967296 := by rw [wrap32]; omega
  simp [go_sem, h0, hN, wrap32_nat, e1, e2, IntKind.bits]
  have hd : digs 4294967296 [n % 4294967296, n / 4294967296] := by
    intro d hd
    simp at hd
    rcases hd with rfl | rfl
    · exact Nat.mod_lt _ (by decide)
    · exact (Nat.div_lt_iff_lt_mul (by decide)).2 (by omega)
  have hv : val 4294967296 [n % 4294967296, n / 4294967296] = n := by simp [val]; omega
  rw [wpA_frz_iff (of_val L [n % 4294967296, n / 4294967296] hd (by simp)) (by simp [go_sem, frz, ints])]
  simp [go_sem, hN, resV, hv]
theorem small_call (L : LibW E) (hn : n < 18446744073709551616) : wpA E id_word_Small [.int .u64 (n : Int)] H nx fz R ↔ R ⟨.ret (N32 n), H, nx, fz, false⟩ := wpA_iff (small_val L hn) rfl
theorem N32_one : dig 4294967296 1 = [1] := by rw [dig_pos hB (by omega)]; simp [dig_zero]
theorem small_one (L : LibW E) : wpA E id_word_Small [.int .u64 1] H nx fz R ↔ R ⟨.ret (N32 1), H, nx, fz, false⟩ := small_call (n := 1) L (by omega)
theorem dig_nil : dig 4294967296 n = [] ↔ n = 0 := by
  constructor
  · intro h
    rcases Nat.eq_zero_or_pos n with h0 | h0
    · exact h0
    · have := dig_len_pos hB h0; rw [h] at this; simp at this
  · rintro rfl; exact dig_zero
theorem sz_zero : (dig 4294967296 n).length = 0 ↔ n = 0 := by rw [List.length_eq_zero_iff, dig_nil]
theorem zero_val (L : LibW E) : Val E id_word_Nat_Zero [N32 n] (.bool (decide (n = 0))) := by
  refine val_fn L.zero rfl (by simp) fun T hN hA => ?_
  have h0 := hA 0 _ rfl
  simp [go_sem, h0, hN]
  by_cases h : n = 0
  · subst h; simp [dig_zero]
  · have := sz_zero (n := n)
    simp only [h, iff_false] at this
    have h2 : dig 4294967296 n ≠ [] := fun e => h (dig_nil.1 e)
    simp [h, h2]
theorem zero_call (L : LibW E) : wpA E id_word_Nat_Zero [N32 n] H nx fz R ↔ R ⟨.ret (.bool (decide (n = 0))), H, nx, fz, false⟩ := wpA_iff (zero_val L) rfl
theorem dig_getD_zero (n : Nat) : dg (dig 4294967296 n) 0 = n % 4294967296 := by
  rcases Nat.eq_zero_or_pos n with h | h
  · subst h; rw [dig_zero]; rfl
  · rw [dig_pos hB h]; rfl
theorem sz_one (h : (dig 4294967296 n).length = 1) : dig 4294967296 n = [n] ∧ n < 4294967296 := by
  have hn : 0 < n := by
    rcases Nat.eq_zero_or_pos n with h0 | h0
    · subst h0; simp [dig_zero] at h
    · exact h0
  have h1 : n < 4294967296 := by have := (dig_len_le hB 1 n).1 (by omega); simpa using this
  refine ⟨?_, h1⟩
  rw [dig_pos hB hn, Nat.mod_eq_of_lt h1, Nat.div_eq_of_lt h1, dig_zero]
theorem one_val (L : LibW E) : Val E id_word_Nat_One [N32 n] (.bool (decide (n = 1))) := by
  refine val_fn L.one rfl (by simp) fun T hN hA => ?_
  have h0 := hA 0 _ rfl
  by_cases h : (dig 4294967296 n).length = 1
  · have h2 := sz_one h
    simp [go_sem, h0, hN, h2.1, ints]
    by_cases e : n = 1
    · simp [e]
    · simp [e]; omega
  · have h1 : ¬ ((dig 4294967296 n).length : Int) = 1 := by omega
    have h3 : ¬ n = 1 := by rintro rfl; rw [N32_one] at h; simp at h
    simp [go_sem, h0, hN, h1, h3]
theorem one_call (L : LibW E) : wpA E id_word_Nat_One [N32 n] H nx fz R ↔ R ⟨.ret (.bool (decide (n = 1))), H, nx, fz, false⟩ := wpA_iff (one_val L) rfl
theorem fits_val (L : LibW E) (neg : Bool) : Val E id_word_Frac_Fits [.agg [.bool neg, N32 n, N32 m]] (.bool (decide ((dig 4294967296 n).length ≤ 64) && decide ((dig 4294967296 m).length ≤ 64))) := by
  refine val_fn L.fits rfl (by simp) fun T hN hA => ?_
  have h0 := hA 0 _ rfl
  by_cases h1 : ((dig 4294967296 n).length : Int) ≤ 64
  · have : (dig 4294967296 n).length ≤ 64 := by omega
    simp [go_sem, h0, h1, hN, this]
    omega
  · simp [go_sem, h0, h1, hN]
    omega
theorem fits_call (L : LibW E) (neg : Bool) : wpA E id_word_Frac_Fits [.agg [.bool neg, N32 n, N32 m]] H nx fz R ↔ R ⟨.ret (.bool (decide ((dig 4294967296 n).length ≤ 64) && decide ((dig 4294967296 m).length ≤ 64))), H, nx, fz, false⟩ := wpA_iff (fits_val L neg) rfl
def sgn (neg : Bool) (n : Nat) : Int := if n = 0 then 0 else if neg then -1 else 1
theorem sign_val (L : LibW E) (neg : Bool) : Val E id_word_Frac_Sign [.agg [.bool neg, N32 n, N32 m]] (.int .i64 (sgn neg n)) := by
  refine val_fn L.sign rfl (by simp) fun T hN hA => ?_
  have h0 := hA 0 _ rfl
  by_cases h : n = 0
  · simp [go_sem, h0, hN, h, zero_call L, sgn]
  · cases neg
    · simp [go_sem, h0, hN, h, zero_call L, sgn]
    · simp [go_sem, h0, hN, h, zero_call L, sgn]
end
end Go.Am
end
section
namespace Go.Am
open Go Go.Nt
def ord (a b : Nat) : Int := if a < b then -1 else if a = b then 0 else 1
section
variable {E : Env} {l : List Nat} {n m a b : Nat} {H : Heap} {nx : Nat} {fz : List Nat} {R : Back → Prop}
theorem cmp_val (L : LibW E) (ha : (dig 4294967296 a).length < 9223372036854775808) (hb : (dig 4294967296 b).length < 9223372036854775808) : Val E id_word_Nat_Cmp [N32 a, N32 b] (.int .i64 (ord a b)) := by
  refine val_fn L.cmp rfl (by simp) fun T hN hA => ?_
  have h0 := hA 0 _ rfl
  have h1 := hA 1 _ rfl
  by_cases he : (dig 4294967296 a).length = (dig 4294967296 b).length
  · have he' : ((dig 4294967296 a).length : Int) = (dig 4294967296 b).length := by omega
    have hw : IntKind.i64.wrap (((dig 4294967296 b).length : Int) - 1) = ((dig 4294967296 b).length : Int) - 1 := wrapI_id (by omega) (by omega)
    simp [go_sem, h0, h1, hN, he', hw]
    refine loop_v _ rfl (fun m t H nx fz => H = [] ∧ nx = 0 ∧ fz = [] ∧ m ≤ (dig 4294967296 b).length ∧ getT t 5 = .int .i64 ((m : Int) - 1) ∧ (dig 4294967296 a).drop m = (dig 4294967296 b).drop m) (dig 4294967296 b).length ?_ ?_
    · simp [go_sem, h0, hN]
      rw [← he]; simp
    · rintro m t H nx fz ⟨rfl, rfl, rfl, hm, ht, hs⟩ hF
      have hN' : t.length = 41 := by rw [hF.1]; simp [hN]
      have f0 : getT t 0 = N32 a := by rw [hF.2 0 (by decide)]; simp [go_sem, h0]
      have f1 : getT t 1 = N32 b := by rw [hF.2 1 (by decide)]; simp [go_sem, h1]
      by_cases hm0 : m = 0
      · subst hm0
        have : a = b := by
          have := dig_inj hB (n := a) (m := b) (by simpa using hs)
          exact this
        simp [go_sem, ht, hN', this, ord]
      · obtain ⟨i, rfl⟩ : ∃ i, m = i + 1 := ⟨m - 1, by omega⟩
        have i1 : i < (dig 4294967296 a).length := by omega
        have i2 : i < (dig 4294967296 b).length := by omega
        have hw : IntKind.i64.wrap ((i : Int) - 1) = (i : Int) - 1 := wrapI_id (by omega) (by omega)
        by_cases c1 : dg (dig 4294967296 a) i < dg (dig 4294967296 b) i
        · have := val_lt_top (by decide) (digs_N a) (digs_N b) he i1 hs c1
          rw [val_dig hB, val_dig hB] at this
          simp [go_sem, ht, hN', f0, f1, i1, i2, c1, ord, this]
        · by_cases c2 : dg (dig 4294967296 b) i < dg (dig 4294967296 a) i
          · have := val_lt_top (by decide) (digs_N b) (digs_N a) he.symm i2 hs.symm c2
            rw [val_dig hB, val_dig hB] at this
            have h2 : ¬ a < b := by omega
            have h3 : ¬ a = b := by omega
            simp [go_sem, ht, hN', f0, f1, i1, i2, c1, c2, ord, h2, h3]
          · simp [go_sem, ht, hN', f0, f1, i1, i2, c1, c2, hw]
            refine ⟨i, by omega, by omega, rfl, ?_⟩
            have : dg (dig 4294967296 a) i = dg (dig 4294967296 b) i := by omega
            rw [getD_eq i1, getD_eq i2] at this
            rw [List.drop_eq_getElem_cons i1, List.drop_eq_getElem_cons i2, this, hs]
  · by_cases hlt : (dig 4294967296 a).length < (dig 4294967296 b).length
    · have := dig_len_lt hB hlt
      simp [go_sem, h0, h1, hN, he, hlt, ord, this]
    · have := dig_len_lt hB (n := b) (m := a) (by omega)
      have h2 : ¬ a < b := by omega
      have h3 : ¬ a = b := by omega
      simp [go_sem, h0, h1, hN, he, hlt, ord, h2, h3]
end
end Go.Am
end
section
namespace Go.Am
open Go Go.Nt
section
variable {E : Env} {l : List Nat} {n m a b k x : Nat} {H : Heap} {nx : Nat} {fz : List Nat} {R : Back → Prop}
noncomputable def ctz (n : Nat) : Nat := if h : 0 < n then Classical.choose (twos_exists n h) else 0
theorem ctz_spec (h : 0 < n) : twos n (ctz n) := by
  unfold ctz; rw [dif_pos h]; exact Classical.choose_spec (twos_exists n h)
theorem twos_unique (h1 : twos n k) (h2 : twos n m) : k = m := by
  obtain ⟨a, ha⟩ := h1
  obtain ⟨b, hb⟩ := h2
  have key : ∀ {k m a b : Nat}, k < m → 2 ^ k * (2 * a + 1) = 2 ^ m * (2 * b + 1) → False := by
    intro k m a b hlt he
    obtain ⟨d, rfl⟩ : ∃ d, m = k + 1 + d := ⟨m - k - 1, by omega⟩
    rw [Nat.pow_add, Nat.pow_succ, Nat.mul_assoc, Nat.mul_assoc] at he
    have := Nat.eq_of_mul_eq_mul_left (Nat.pow_pos (by omega)) he
    have h3 : (2 * a + 1) % 2 = (2 * (2 ^ d * (2 * b + 1))) % 2 := by rw [this]
    omega
  rcases Nat.lt_trichotomy k m with h | h | h
  · exact (key h (ha.symm.trans hb)).elim
  · exact h
  · exact (key h (hb.symm.trans ha)).elim
theorem ctz_eq (h : twos n k) : ctz n = k := twos_unique (ctz_spec (twos_pos h)) h
theorem twos_lt (h : twos x k) (hx : x < 2 ^ m) : k < m := by
  obtain ⟨a, rfl⟩ := h
  have h1 : 2 ^ k ≤ 2 ^ k * (2 * a + 1) := Nat.le_mul_of_pos_right _ (by omega)
  exact (Nat.pow_lt_pow_iff_right (by omega : 1 < 2)).1 (by omega)
def deB : List Nat := [0, 1, 28, 2, 29, 14, 24, 3, 30, 22, 20, 15, 25, 17, 4, 8, 31, 27, 13, 23, 21, 19, 16, 7, 26, 12, 18, 6, 11, 5, 10, 9]
theorem deB_ok : ∀ k, k < 32 → dg deB (2 ^ k * 125613361 % 4294967296 / 134217728) = k := by decide
theorem ctz32_run (L : LibW E) {x y p q i c : Nat} {tb : List Nat} (hne : ¬ x = 0) (hx : x < 4294967296) (hy : y < 4294967296) (hneg : IntKind.u32.wrap (-(x : Int)) = (y : Int)) (han : x &&& y = p) (hm : IntKind.u32.wrap ((p : Int) * 125613361) = (q : Int))
    (hfd : ((q : Int)).fdiv 134217728 = (i : Int)) (hi : i < tb.length) (hii : (i : Int) < 32) (hgl : ∀ t, opT E t (.glob 3) = .sp (ints .u8 tb)) (hok : dg tb i = c) (hw : IntKind.i64.wrap (c : Int) = c) : Val E id_bits_TrailingZeros32 [.int .u32 (x : Int)] (.int .i64 (c : Int)) := by
  refine val_fn L.ctz32 rfl (by simp) fun T hN hA => ?_
  have h0 := hA 0 _ rfl
  simp [go_sem, h0, hN, hne, hneg, hx, hy, han, hgl, hm, hfd, hi, hii, hok, hw, IntKind.bits]
theorem ctz32_val (L : LibW E) (hx0 : 0 < x) (hx : x < 4294967296) : Val E id_bits_TrailingZeros32 [.int .u32 (x : Int)] (.int .i64 (ctz x : Int)) := by
  have ht := ctz_spec hx0
  have e32 : (2 : Nat) ^ 32 = 4294967296 := by decide
  have hk := twos_lt (m := 32) ht (by rw [e32]; exact hx)
  have han := and_neg (p := 32) ht (by rw [e32]; exact hx)
  rw [e32] at han
  refine ctz32_run (tb := deB) L (by omega) hx (y := 4294967296 - x) (by omega) (by rw [wrap32]; omega) han (q := 2 ^ ctz x * 125613361 % 4294967296) ?_ (i := 2 ^ ctz x * 125613361 % 4294967296 / 134217728) ?_ ?_ ?_ (fun t => by simp [opT, L.glob, ints, deB]) (deB_ok _ hk) (wrapI_id (by omega) (by omega))
  · generalize 2 ^ ctz x = p
    rw [wrap32]; omega
  · generalize 2 ^ ctz x * 125613361 % 4294967296 = q
    rw [Int.fdiv_eq_ediv_of_nonneg _ (by omega)]; omega
  · have : 2 ^ ctz x * 125613361 % 4294967296 < 4294967296 := Nat.mod_lt _ (by omega)
    show _ < 32
    omega
  · have : 2 ^ ctz x * 125613361 % 4294967296 < 4294967296 := Nat.mod_lt _ (by omega)
    omega
theorem ctz32_call (L : LibW E) (hx0 : 0 < x) (hx : x < 4294967296) : wpA E id_bits_TrailingZeros32 [.int .u32 (x : Int)] H nx fz R ↔ R ⟨.ret (.int .i64 (ctz x : Int)), H, nx, fz, false⟩ := wpA_iff (ctz32_val L hx0 hx) rfl
abbrev bitlen (n : Nat) : Nat := (dig 2 n).length
theorem bitlen_shift (h : 0 < x) (k : Nat) (hx : 2 ^ k ≤ x) : (dig 2 x).length = k + (dig 2 (x / 2 ^ k)).length := by
  induction k generalizing x with
  | zero => simp
  | succ k ih =>
    have h2 : 1 < x := by
      have : 2 ≤ 2 ^ (k + 1) := by rw [Nat.pow_succ]; have := Nat.pow_pos (n := k) (show 0 < 2 by omega); omega
      omega
    have h3 : 2 ^ k ≤ x / 2 := by rw [Nat.le_div_iff_mul_le (by omega)]; rw [Nat.pow_succ] at hx; exact hx
    rw [dig_pos (by omega) h, List.length_cons, ih (by omega) h3, Nat.div_div_eq_div_mul, Nat.pow_succ']
    omega
def bl : Nat → Nat → Nat
  | 0, _ => 0
  | f + 1, n => if n = 0 then 0 else bl f (n / 2) + 1
theorem bl_eq : ∀ (f n : Nat), n < 2 ^ f → (dig 2 n).length = bl f n
  | 0, n, h => by
    have : n = 0 := by simpa using h
    subst this; rw [dig_zero]; rfl
  | f + 1, n, h => by
    rw [bl]
    by_cases h0 : n = 0
    · subst h0; rw [dig_zero]; rfl
    · rw [if_neg h0, dig_pos (by omega) (by omega), List.length_cons, bl_eq f (n / 2) (by rw [Nat.pow_succ] at h; omega)]
theorem len8_ok : ∀ x, x < 256 → tab_bits_Len32[x]? = some (UInt8.ofNat (bl 8 x)) := by decide +kernel
theorem bl_le : ∀ (f n : Nat), bl f n ≤ f
  | 0, _ => Nat.le_refl _
  | f + 1, n => by
    rw [bl]
    split
    · omega
    · have := bl_le f (n / 2); omega
theorem len8_get (hx : x < 256) : tab_bits_Len32[x]? = some (UInt8.ofNat (dig 2 x).length) ∧ (UInt8.ofNat (dig 2 x).length).toNat = (dig 2 x).length := by
  rw [bl_eq 8 x (by simpa using hx)]
  refine ⟨len8_ok x hx, ?_⟩
  have := bl_le 8 x
  simp; omega
theorem len32_fin (y : Nat) (hy : y < 256) (c : Nat) (hc : c ≤ 24) : IntKind.u8.wrap (y : Int) = (y : Int) ∧ tab_bits_Len32[y]? = some (UInt8.ofNat (dig 2 y).length) ∧ (UInt8.ofNat (dig 2 y).length).toNat = (dig 2 y).length ∧ IntKind.i64.wrap ((dig 2 y).length : Int) = (dig 2 y).length ∧ IntKind.i64.wrap ((c : Int) + (dig 2 y).length) = (c : Int) + (dig 2 y).length := by
  obtain ⟨e1, e2⟩ := len8_get hy
  have e3 := bl_eq 8 y (by simpa using hy)
  have e4 := bl_le 8 y
  rw [← e3] at e4
  exact ⟨by rw [wrap8]; omega, e1, e2, wrapI_id (by omega) (by omega), wrapI_id (by omega) (by omega)⟩
theorem len32_run (L : LibW E) {x y n : Nat} (w1 : IntKind.u8.wrap (y : Int) = (y : Int)) (e1 : tab_bits_Len32[y]? = some (UInt8.ofNat n)) (e2 : (UInt8.ofNat n).toNat = n) (e2' : n % 256 = n) (w2 : IntKind.i64.wrap (n : Int) = (n : Int)) :
    ((¬ (65536 : Int) ≤ x) → (¬ (256 : Int) ≤ x) → y = x → IntKind.i64.wrap ((0 : Int) + (n : Int)) = (n : Int) → Val E id_bits_Len32 [.int .u32 (x : Int)] (.int .i64 (n : Int))) ∧
    ((¬ (65536 : Int) ≤ x) → ((256 : Int) ≤ x) → ((x : Int)).fdiv 256 = y → IntKind.i64.wrap ((8 : Int) + (n : Int)) = (8 : Int) + (n : Int) → Val E id_bits_Len32 [.int .u32 (x : Int)] (.int .i64 (8 + (n : Int)))) ∧
    (((65536 : Int) ≤ x) → ∀ z : Nat, ((x : Int)).fdiv 65536 = z → (¬ (256 : Int) ≤ z) → y = z → IntKind.i64.wrap ((16 : Int) + (n : Int)) = (16 : Int) + (n : Int) → Val E id_bits_Len32 [.int .u32 (x : Int)] (.int .i64 (16 + (n : Int)))) ∧
    (((65536 : Int) ≤ x) → ∀ z : Nat, ((x : Int)).fdiv 65536 = z → ((256 : Int) ≤ z) → ((z : Int)).fdiv 256 = y → IntKind.i64.wrap ((24 : Int) + (n : Int)) = (24 : Int) + (n : Int) → Val E id_bits_Len32 [.int .u32 (x : Int)] (.int .i64 (24 + (n : Int)))) := by
  have k8 : IntKind.i64.wrap 8 = 8 := by decide
  have k24 : IntKind.i64.wrap 24 = 24 := by decide
  refine ⟨fun h1 h2 h3 w3 => ?_, fun h1 h2 h3 w3 => ?_, fun h1 z h2 h3 h4 w3 => ?_, fun h1 z h2 h3 h4 w3 => ?_⟩
  · subst h3
    refine val_fn L.len32 rfl (by simp) fun T hN hA => ?_
    have h0 := hA 0 _ rfl
    simp at w3
    simp [go_sem, h0, hN, h1, h2, w1, e1, e2, e2', w2, w3, IntKind.bits]
  · refine val_fn L.len32 rfl (by simp) fun T hN hA => ?_
    have h0 := hA 0 _ rfl
    simp [go_sem, h0, hN, h1, h2, h3, w1, e1, e2, e2', w2, w3, k8, IntKind.bits]
  · subst h4
    refine val_fn L.len32 rfl (by simp) fun T hN hA => ?_
    have h0 := hA 0 _ rfl
    simp [go_sem, h0, hN, h1, h2, h3, w1, e1, e2, e2', w2, w3, IntKind.bits]
  · refine val_fn L.len32 rfl (by simp) fun T hN hA => ?_
    have h0 := hA 0 _ rfl
    simp [go_sem, h0, hN, h1, h2, h3, h4, w1, e1, e2, e2', w2, w3, k24, IntKind.bits]
theorem fdiv_nat (y d : Nat) : ((y : Int)).fdiv (d : Int) = ((y / d : Nat) : Int) := by rw [Int.fdiv_eq_ediv_of_nonneg _ (by omega)]; rfl
theorem len_le (m n : Nat) (h : n < 2 ^ m) : (dig 2 n).length ≤ m := (dig_len_le (by omega) m n).2 h
theorem len32_val (L : LibW E) (hx : x < 4294967296) : Val E id_bits_Len32 [.int .u32 (x : Int)] (.int .i64 ((dig 2 x).length : Int)) := by
  have use : ∀ y c, y < 256 → c ≤ 24 → (dig 2 y).length % 256 = (dig 2 y).length := fun y c hy hc => by
    have := len_le 8 y (by simpa using hy); omega
  by_cases h1 : 65536 ≤ x
  · have e1 := bitlen_shift (x := x) (by omega) 16 (by simpa using h1)
    have f1 := fdiv_nat x 65536
    by_cases h2 : 256 ≤ x / 65536
    · have e2 := bitlen_shift (x := x / 65536) (by omega) 8 (by simpa using h2)
      have f2 := fdiv_nat (x / 65536) 256
      have hy : x / 65536 / 256 < 256 := by omega
      obtain ⟨w1, w2, w3, w4, w5⟩ := len32_fin _ hy 24 (by omega)
      have := (len32_run (x := x) L w1 w2 w3 (use _ 24 hy (by omega)) w4).2.2.2 (by omega) _ f1 (by omega) f2 w5
      rw [e1, show (2 : Nat) ^ 16 = 65536 by decide, e2, show (2 : Nat) ^ 8 = 256 by decide]
      rw [show (24 : Int) + ((dig 2 (x / 65536 / 256)).length : Int) = ((16 + (8 + (dig 2 (x / 65536 / 256)).length) : Nat) : Int) by omega] at this
      exact this
    · have hy : x / 65536 < 256 := by omega
      obtain ⟨w1, w2, w3, w4, w5⟩ := len32_fin _ hy 16 (by omega)
      have := (len32_run (x := x) L w1 w2 w3 (use _ 16 hy (by omega)) w4).2.2.1 (by omega) _ f1 (by omega) rfl w5
      rw [e1, show (2 : Nat) ^ 16 = 65536 by decide]
      rw [show (16 : Int) + ((dig 2 (x / 65536)).length : Int) = ((16 + (dig 2 (x / 65536)).length : Nat) : Int) by omega] at this
      exact this
  · by_cases h2 : 256 ≤ x
    · have e2 := bitlen_shift (x := x) (by omega) 8 (by simpa using h2)
      have f2 := fdiv_nat x 256
      have hy : x / 256 < 256 := by omega
      obtain ⟨w1, w2, w3, w4, w5⟩ := len32_fin _ hy 8 (by omega)
      have := (len32_run (x := x) L w1 w2 w3 (use _ 8 hy (by omega)) w4).2.1 (by omega) (by omega) f2 w5
      rw [e2, show (2 : Nat) ^ 8 = 256 by decide]
      rw [show (8 : Int) + ((dig 2 (x / 256)).length : Int) = ((8 + (dig 2 (x / 256)).length : Nat) : Int) by omega] at this
      exact this
    · have hy : x < 256 := by omega
      obtain ⟨w1, w2, w3, w4, w5⟩ := len32_fin _ hy 0 (by omega)
      exact (len32_run (x := x) L w1 w2 w3 (use _ 0 hy (by omega)) w4).1 (by omega) (by omega) rfl (by simpa using w4)
theorem len32_call (L : LibW E) (hx : x < 4294967296) : wpA E id_bits_Len32 [.int .u32 (x : Int)] H nx fz R ↔ R ⟨.ret (.int .i64 ((dig 2 x).length : Int)), H, nx, fz, false⟩ := wpA_iff (len32_val L hx) rfl
theorem clz32_val (L : LibW E) (hx : x < 4294967296) : Val E id_bits_LeadingZeros32 [.int .u32 (x : Int)] (.int .i64 (32 - ((dig 2 x).length : Int))) := by
  have h := len_le 32 x (by simpa using hx)
  have hw : IntKind.i64.wrap (32 - ((dig 2 x).length : Int)) = 32 - ((dig 2 x).length : Int) := wrapI_id (by omega) (by omega)
  refine val_fn L.clz32 rfl (by simp) fun T hN hA => ?_
  have h0 := hA 0 _ rfl
  simp [go_sem, h0, hN, len32_call L hx, hw]
theorem clz32_call (L : LibW E) (hx : x < 4294967296) : wpA E id_bits_LeadingZeros32 [.int .u32 (x : Int)] H nx fz R ↔ R ⟨.ret (.int .i64 (32 - ((dig 2 x).length : Int))), H, nx, fz, false⟩ := wpA_iff (clz32_val L hx) rfl
theorem bits_words (hn : 0 < n) : (dig 2 n).length = 32 * ((dig 4294967296 n).length - 1) + (dig 2 (dg (dig 4294967296 n) ((dig 4294967296 n).length - 1))).length := by
  have hl := dig_len_pos hB hn
  have h1 := val_take_drop (B := 4294967296) (dig 4294967296 n) ((dig 4294967296 n).length - 1) (by omega)
  have h2 := val_drop (B := 4294967296) (dig 4294967296 n) ((dig 4294967296 n).length - 1)
  rw [List.drop_of_length_le (by omega : (dig 4294967296 n).length ≤ (dig 4294967296 n).length - 1 + 1)] at h2
  simp only [val, Nat.mul_zero, Nat.add_zero] at h2
  rw [h2, val_dig hB] at h1
  have h3 := val_lt (by omega) ((digs_N n).take ((dig 4294967296 n).length - 1))
  rw [List.length_take, Nat.min_eq_left (by omega)] at h3
  have hle := pow_le_of_dig_len hB hn
  have e : (2 : Nat) ^ (32 * ((dig 4294967296 n).length - 1)) = 4294967296 ^ ((dig 4294967296 n).length - 1) := by rw [Nat.pow_mul]
  have h4 := bitlen_shift hn (32 * ((dig 4294967296 n).length - 1)) (by rw [e]; exact hle)
  rw [e] at h4
  rw [h4]
  generalize 4294967296 ^ ((dig 4294967296 n).length - 1) = q at *
  generalize dg (dig 4294967296 n) ((dig 4294967296 n).length - 1) = x at *
  generalize val 4294967296 (List.take ((dig 4294967296 n).length - 1) (dig 4294967296 n)) = v at *
  have hq : 0 < q := by omega
  have h5 : n / q = x := by rw [h1, Nat.add_mul_div_left _ _ hq, Nat.div_eq_of_lt h3, Nat.zero_add]
  rw [h5]
theorem bits_run (L : LibW E) {l : List Nat} {x y i : Nat} (hl : ¬ l = []) (hi : i < l.length) (w1 : IntKind.i64.wrap ((l.length : Int) - 1) = (i : Int)) (hx : x < 4294967296) (hg : dg l i = x) (hy : (dig 2 x).length = y) (w2 : IntKind.i64.wrap (32 * (i : Int)) = 32 * (i : Int)) (w3 : IntKind.i64.wrap (32 * (i : Int) + (y : Int)) = 32 * (i : Int) + y) :
    Val E id_word_Nat_Bits [R32 l] (.int .i64 (32 * (i : Int) + y)) := by
  refine val_fn L.bits rfl (by simp) fun T hN hA => ?_
  have h0 := hA 0 _ rfl
  simp [go_sem, h0, hN, hl, hi, w1, hg, hy, w2, w3, len32_call L hx]
theorem bits_val (L : LibW E) (hs : (dig 4294967296 n).length < 1000000000) : Val E id_word_Nat_Bits [N32 n] (.int .i64 ((dig 2 n).length : Int)) := by
  by_cases hn : n = 0
  · subst hn
    refine val_fn L.bits rfl (by simp) fun T hN hA => ?_
    have h0 := hA 0 _ rfl
    simp [go_sem, h0, hN, dig_zero]
  · have h1 := bits_words (n := n) (by omega)
    have hl := dig_len_pos hB (n := n) (by omega)
    have hd : dg (dig 4294967296 n) ((dig 4294967296 n).length - 1) < 4294967296 := getD_lt (digs_N n) (by omega) _
    have hb := len_le 32 _ (show dg (dig 4294967296 n) ((dig 4294967296 n).length - 1) < 2 ^ 32 by simpa using hd)
    have hne : ¬ dig 4294967296 n = [] := fun e => hn (dig_nil.1 e)
    have := bits_run L hne (i := (dig 4294967296 n).length - 1) (by omega) (by rw [wrapI_id (by omega) (by omega)]; omega) hd rfl rfl (wrapI_id (by omega) (by omega)) (wrapI_id (by omega) (by omega))
    rw [show (32 : Int) * (((dig 4294967296 n).length - 1 : Nat) : Int) + ((dig 2 (dg (dig 4294967296 n) ((dig 4294967296 n).length - 1))).length : Int) = ((dig 2 n).length : Int) by omega] at this
    exact this
theorem bits_call (L : LibW E) (hs : (dig 4294967296 n).length < 1000000000) : wpA E id_word_Nat_Bits [N32 n] H nx fz R ↔ R ⟨.ret (.int .i64 ((dig 2 n).length : Int)), H, nx, fz, false⟩ := wpA_iff (bits_val L hs) rfl
theorem twos_words {i : Nat} (h0 : ∀ j, j < i → dg l j = 0) (hi : i < l.length) (hp : 0 < dg l i) (hd : digs 4294967296 l) : ctz (val 4294967296 l) = 32 * i + ctz (dg l i) := by
  have hlt := getD_lt hd (by omega) i
  have ht := ctz_spec hp
  have hk := twos_lt (m := 32) ht (by simpa using hlt)
  exact ctz_eq (twos_digit (p := 32) (by decide) h0 hi ht hk)
theorem ctz_zero : ctz 0 = 0 := by unfold ctz; rw [dif_neg (by omega)]
theorem twos_val (L : LibW E) (hs : (dig 4294967296 n).length < 1000000000) : Val E id_word_Nat_Twos [N32 n] (.int .i64 (ctz n : Int)) := by
  have hd := digs_N n
  have hv := val_dig hB n
  show Val E id_word_Nat_Twos [R32 (dig 4294967296 n)] _
  generalize dig 4294967296 n = l at *
  refine val_fn L.twos rfl (by simp) fun T hN hA => ?_
  have h0 := hA 0 _ rfl
  simp [go_sem, h0, hN]
  refine loop_v _ rfl (fun m t H nx fz => H = [] ∧ nx = 0 ∧ fz = [] ∧ ∃ i, m + i = l.length ∧ getT t 7 = .int .i64 (i : Int) ∧ (∀ j, j < i → dg l j = 0)) l.length ?_ ?_
  · simp [go_sem, hN]
  · rintro m t H nx fz ⟨rfl, rfl, rfl, i, hm, ht, hz⟩ hF
    have hN' : t.length = 20 := by rw [hF.1]; simp [hN]
    have f5 : getT t 5 = R32 l := by rw [hF.2 5 (by decide)]; simp [go_sem, hN]
    have f6 : getT t 6 = .int .i64 (l.length : Int) := by rw [hF.2 6 (by decide)]; simp [go_sem, hN]
    by_cases hm0 : i < l.length
    · have hlt := getD_lt hd (by omega) i
      have hil : (i : Int) < l.length := by omega
      have w : IntKind.i64.wrap ((i : Int) + 1) = ((i + 1 : Nat) : Int) := by rw [wrapI_id (by omega) (by omega)]; omega
      by_cases hx : dg l i = 0
      · simp [go_sem, ht, hN', f5, f6, hil, hm0, hx, w]
        refine ⟨m - 1, by omega, i + 1, by omega, by simp, fun j hj => ?_⟩
        by_cases e : j = i
        · rw [e]; exact hx
        · exact hz j (by omega)
      · have hr := twos_words hz hm0 (by omega) hd
        rw [hv] at hr
        have hk := twos_lt (m := 32) (ctz_spec (show 0 < dg l i by omega)) (by simpa using hlt)
        have w1 : IntKind.i64.wrap (32 * (i : Int)) = 32 * (i : Int) := wrapI_id (by omega) (by omega)
        have w2 : IntKind.i64.wrap (32 * (i : Int) + (ctz (dg l i) : Int)) = 32 * (i : Int) + (ctz (dg l i) : Int) := wrapI_id (by omega) (by omega)
        simp [go_sem, ht, hN', f5, f6, hil, hm0, hx, w1, w2, ctz32_call L (show 0 < dg l i by omega) hlt, hr]
    · have hz2 : ∀ j, dg l j = 0 := fun j => by
        by_cases hj : j < i
        · exact hz j hj
        · exact getD_out (by omega)
      have : val 4294967296 l = 0 := by
        have : ∀ k, val 4294967296 (l.take k) = 0 := by
          intro k
          induction k with
          | zero => simp [val]
          | succ k ih => rw [val_take_succ, ih, hz2]; simp
        rw [← this l.length, List.take_length]
      have hn : n = 0 := by rw [← hv, this]
      have hil : ¬ (i : Int) < l.length := by omega
      simp [go_sem, ht, hN', f5, f6, hil, hn, ctz_zero]
theorem twos_call (L : LibW E) (hs : (dig 4294967296 n).length < 1000000000) : wpA E id_word_Nat_Twos [N32 n] H nx fz R ↔ R ⟨.ret (.int .i64 (ctz n : Int)), H, nx, fz, false⟩ := wpA_iff (twos_val L hs) rfl
end
end Go.Am
end
section
set_option maxHeartbeats 4000000
namespace Go.Am
open Go Go.Nt
section
variable {E : Env} {l : List Nat} {n m a b k x : Nat} {H : Heap} {nx : Nat} {fz : List Nat} {R : Back → Prop}
abbrev cell (L : List Nat) : Option Blk := some (.cells 191 1 (ints .u32 L))
theorem mul_list (L : LibW E) {u v : List Nat} (hda : digs 4294967296 u) (hdb : digs 4294967296 v) (ha : u.length < 1000000000) (hb : v.length < 1000000000) : Val E id_word_Nat_Mul [R32 u, R32 v] (N32 (val 4294967296 u * val 4294967296 v)) := by
  refine val_fn L.mul rfl (by simp) fun T hN hA => ?_
  have h0 := hA 0 _ rfl
  have h1 := hA 1 _ rfl
  by_cases h3 : u = []
  · subst h3; simp [go_sem, h0, h1, hN, dig_zero, ints, val]
  by_cases h4 : v = []
  · subst h4; simp [go_sem, h0, h1, hN, dig_zero, ints, val, h3]
  have w1 : IntKind.i64.wrap ((u.length : Int) + (v.length : Int)) = ((u.length + v.length : Nat) : Int) := by rw [wrapI_id (by omega) (by omega)]; omega
  generalize hn : u.length + v.length = N at *
  have r1 : (N : Int) * 4 ≤ 140737488355328 := by omega
  have r2 : (N : Int) ≤ 9223372036854775807 := by omega
  simp [go_sem, h0, h1, hN, h3, h4, w1, r1, r2]
  clear w1 r1 r2
  refine loop_v _ rfl (fun m t H nx fz => nx = 1 ∧ fz = [] ∧ ∃ (i : Nat) (M : List Nat), H = [some (.cells 191 1 (ints .u32 M))] ∧ m + i = u.length ∧ getT t 28 = .int .i64 (i : Int) ∧ M.length = N ∧ digs 4294967296 M ∧ val 4294967296 M = val 4294967296 (u.take i) * val 4294967296 v ∧ ∀ k, i + v.length ≤ k → dg M k = 0) u.length ?_ ?_
  · refine ⟨rfl, rfl, 0, List.replicate N 0, rfl, rfl, by simp [go_sem, hN], by simp, digs_replicate (by omega) N, ?_, fun k _ => getD_replicate N k⟩
    rw [val_replicate]; simp [val]
  rintro m t H nx fz ⟨rfl, rfl, i, M, rfl, hm, ht, hML, hMd, hMv, hMz⟩ hF
  have hN' : t.length = 76 := by rw [hF.1]; simp [hN]
  have f0 : getT t 0 = R32 u := by rw [hF.2 0 (by decide)]; simp [go_sem, h0]
  have f1 : getT t 1 = R32 v := by rw [hF.2 1 (by decide)]; simp [go_sem, h1]
  have f5 : getT t 5 = .sl 0 0 N := by rw [hF.2 5 (by decide)]; simp [go_sem, hN]
  have f26 : getT t 26 = R32 u := by rw [hF.2 26 (by decide)]; simp [go_sem, hN]
  have f27 : getT t 27 = .int .i64 (u.length : Int) := by rw [hF.2 27 (by decide)]; simp [go_sem, hN]
  clear hF
  by_cases hi : i < u.length
  · have hil : (i : Int) < u.length := by omega
    obtain ⟨w, hw⟩ : ∃ w, w = dg u i := ⟨_, rfl⟩
    have hwB : w < 4294967296 := by rw [hw]; exact getD_lt hda (by omega) i
    simp [go_sem, ht, hN', f1, f5, f26, f27, hi, hil, ← hw]
    refine loop_v _ rfl (fun m2 t H nx fz => nx = 1 ∧ fz = [] ∧ ∃ (j c : Nat) (M2 : List Nat), H = [some (.cells 191 1 (ints .u32 M2))] ∧ m2 + j = v.length ∧ getT t 35 = .int .i64 (j : Int) ∧ getT t 8 = .int .u64 (c : Int) ∧ c < 4294967296 ∧ M2.length = N ∧ digs 4294967296 M2 ∧ val 4294967296 M2 + 4294967296 ^ (i + j) * c = val 4294967296 M + 4294967296 ^ i * w * val 4294967296 (v.take j) ∧ ∀ k, i + j ≤ k → dg M2 k = dg M k) v.length ?_ ?_
    · refine ⟨rfl, rfl, 0, 0, M, rfl, rfl, by simp [go_sem, hN'], by simp [go_sem, hN'], by omega, hML, hMd, by simp [val], fun _ _ => rfl⟩
    rintro m2 t2 H nx fz ⟨rfl, rfl, j, c, M2, rfl, hm2, ht35, ht8, hc, hM2L, hM2d, hM2v, hM2z⟩ hF2
    have hN2 : t2.length = 76 := by rw [hF2.1]; simp [hN']
    have g0 : getT t2 0 = R32 u := by rw [hF2.2 0 (by decide)]; simp [go_sem, f0]
    have g1 : getT t2 1 = R32 v := by rw [hF2.2 1 (by decide)]; simp [go_sem, f1]
    have g5 : getT t2 5 = .sl 0 0 N := by rw [hF2.2 5 (by decide)]; simp [go_sem, f5]
    have g6 : getT t2 6 = .int .i64 (i : Int) := by rw [hF2.2 6 (by decide)]; simp [go_sem, hN']
    have g7 : getT t2 7 = .int .u32 (w : Int) := by rw [hF2.2 7 (by decide)]; simp [go_sem, hN']
    have g28 : getT t2 28 = .int .i64 (i : Int) := by rw [hF2.2 28 (by decide)]; simp [go_sem, ht]
    have g33 : getT t2 33 = R32 v := by rw [hF2.2 33 (by decide)]; simp [go_sem, hN']
    have g34 : getT t2 34 = .int .i64 (v.length : Int) := by rw [hF2.2 34 (by decide)]; simp [go_sem, hN']
    clear hF2
    by_cases hj : j < v.length
    · have hjl : (j : Int) < v.length := by omega
      obtain ⟨z, hz⟩ : ∃ z, z = dg v j := ⟨_, rfl⟩
      have hzB : z < 4294967296 := by rw [hz]; exact getD_lt hdb (by omega) j
      obtain ⟨q, hq⟩ : ∃ q, q = i + j := ⟨_, rfl⟩
      have hqN : q < N := by omega
      rw [← hq] at hM2v
      obtain ⟨x, hx⟩ : ∃ x, x = dg M2 q := ⟨_, rfl⟩
      have hxB : x < 4294967296 := by rw [hx]; exact getD_lt hM2d (by omega) q
      obtain ⟨p, hp⟩ : ∃ p, p = w * z := ⟨_, rfl⟩
      have hpB : p ≤ 18446744065119617025 := by
        rw [hp]; exact Nat.mul_le_mul (show w ≤ 4294967295 by omega) (show z ≤ 4294967295 by omega)
      obtain ⟨s, hs⟩ : ∃ s, s = p + x + c := ⟨_, rfl⟩
      have e1 : IntKind.u64.wrap (w : Int) = w := by rw [wrap64]; omega
      have e2 : IntKind.u64.wrap (z : Int) = z := by rw [wrap64]; omega
      have e3 : IntKind.u64.wrap ((w : Int) * (z : Int)) = p := by rw [wrap64, ← Int.natCast_mul, ← hp]; omega
      have e4 : IntKind.i64.wrap ((i : Int) + (j : Int)) = q := by rw [wrapI_id (by omega) (by omega)]; omega
      have e5 : IntKind.u64.wrap (x : Int) = x := by rw [wrap64]; omega
      have e6 : IntKind.u64.wrap ((p : Int) + (x : Int)) = ((p + x : Nat) : Int) := by rw [wrap64]; omega
      obtain ⟨px, hpx⟩ : ∃ px, px = p + x := ⟨_, rfl⟩
      rw [← hpx] at e6
      have e7 : IntKind.u64.wrap ((px : Int) + (c : Int)) = s := by rw [wrap64]; omega
      obtain ⟨y, hy⟩ : ∃ y, y = s % 4294967296 := ⟨_, rfl⟩
      obtain ⟨c2, hc2⟩ : ∃ c2, c2 = s / 4294967296 := ⟨_, rfl⟩
      have e8 : IntKind.u32.wrap (s : Int) = y := by rw [wrap32]; omega
      have e9 : ((s : Int)).fdiv 4294967296 = c2 := by rw [hc2]; exact fdiv_nat s 4294967296
      have e10 : IntKind.i64.wrap ((j : Int) + 1) = ((j + 1 : Nat) : Int) := by rw [wrapI_id (by omega) (by omega)]; omega
      obtain ⟨j2, hj2⟩ : ∃ j2, j2 = j + 1 := ⟨_, rfl⟩
      rw [← hj2] at e10
      have hqM : q < M2.length := by omega
      have hqi : (q : Int) < N := by omega
      have hs' : s = w * dg v j + dg M2 q + c := by rw [hs, hp, hz, hx]
      have k1 := mul_step (B := 4294967296) (s := s) hqM hM2v hq hs'
      have k2 := mul_carry (B := 4294967296) (s := s) (by omega) hwB hdb hM2d hc hs'
      simp [go_sem, ht35, ht8, hN2, g1, g5, g6, g7, g33, g34, hj, hjl, ← hz, ← hx, e1, e2, e3, e4, e5, e6, e7, e8, e9, e10, hqM, hqi, hM2L, hqN, IntKind.bits]
      refine ⟨m2 - 1, by omega, j2, c2, M2.set q y, rfl, by omega, rfl, rfl, by rw [hc2]; exact k2, by simpa using hM2L, hM2d.set (by rw [hy]; exact Nat.mod_lt _ (by omega)) _, ?_, fun k hk => ?_⟩
      · rw [hy, hc2, show i + j2 = q + 1 by omega, hj2]; exact k1
      · rw [Go.Nt.getD_set_ne (by omega)]; exact hM2z k (by omega)
    · have hjl : ¬ (j : Int) < v.length := by omega
      have hjv : j = v.length := by omega
      obtain ⟨q, hq⟩ : ∃ q, q = i + v.length := ⟨_, rfl⟩
      have hqN : q < N := by omega
      have e4 : IntKind.i64.wrap ((i : Int) + (v.length : Int)) = q := by rw [wrapI_id (by omega) (by omega)]; omega
      have e8 : IntKind.u32.wrap (c : Int) = c := by rw [wrap32]; omega
      have e10 : IntKind.i64.wrap ((i : Int) + 1) = ((i + 1 : Nat) : Int) := by rw [wrapI_id (by omega) (by omega)]; omega
      obtain ⟨i2, hi2⟩ : ∃ i2, i2 = i + 1 := ⟨_, rfl⟩
      rw [← hi2] at e10
      have hqM : q < M2.length := by omega
      have hqi : (q : Int) < N := by omega
      simp [go_sem, ht35, ht8, hN2, g1, g5, g6, g28, g33, g34, hjl, e4, e8, e10, hqM, hqi, hM2L, hqN]
      rw [hjv, List.take_length] at hM2v
      rw [← hq] at hM2v
      have k1 := mul_row (B := 4294967296) hqM (by rw [hM2z q (by omega)]; exact hMz q (by omega)) hM2v
      refine ⟨m - 1, by omega, i2, M2.set q c, rfl, by omega, rfl, by simpa using hM2L, hM2d.set hc _, ?_, fun k hk => ?_⟩
      · rw [k1, hMv, hi2, val_take_succ, hw, Nat.add_mul]
      · rw [Go.Nt.getD_set_ne (by omega), hM2z k (by omega)]; exact hMz k (by omega)
  · have hil : ¬ (i : Int) < u.length := by omega
    simp [go_sem, ht, hN', f5, f26, f27, hil]
    rw [wpA_frz_iff (of_val L M hMd (by omega)) (by simp [go_sem, frz_sli (l := M) (b := 0) getB_cons_zero, ← hML])]
    have hiu : i = u.length := by omega
    rw [hiu, List.take_length] at hMv
    simp [go_sem, hN', resV, hMv]
theorem mul_call (L : LibW E) {u v : List Nat} (hda : digs 4294967296 u) (hdb : digs 4294967296 v) (ha : u.length < 1000000000) (hb : v.length < 1000000000) : wpA E id_word_Nat_Mul [R32 u, R32 v] H nx fz R ↔ R ⟨.ret (N32 (val 4294967296 u * val 4294967296 v)), H, nx, fz, false⟩ := wpA_iff (mul_list L hda hdb ha hb) rfl
end
end Go.Am
end
section
set_option maxHeartbeats 4000000
namespace Go.Am
open Go Go.Nt
section
variable {E : Env} {l : List Nat} {n m a b k x : Nat} {H : Heap} {nx : Nat} {fz : List Nat} {R : Back → Prop}
theorem tdiv_nat (y d : Nat) : ((y : Int)).tdiv (d : Int) = ((y / d : Nat) : Int) := by rw [Int.tdiv_eq_ediv_of_nonneg (by omega)]; rfl
theorem tmod_nat (y d : Nat) : ((y : Int)).tmod (d : Int) = ((y % d : Nat) : Int) := by rw [Int.tmod_eq_emod_of_nonneg (by omega)]; rfl
theorem fdiv_pow (y r : Nat) : ((y : Int)).fdiv (2 ^ r) = ((y / 2 ^ r : Nat) : Int) := by
  have := fdiv_nat y (2 ^ r)
  rw [← this]; simp
theorem dg_drop (l : List Nat) (k i : Nat) : dg (l.drop k) i = dg l (k + i) := by simp [dg, List.getD_eq_getElem?_getD]
theorem val_drop_lt {u : List Nat} (hd : digs 4294967296 u) (k : Nat) : val 4294967296 (u.drop k) < 4294967296 ^ (u.length - k) := by
  have := val_lt (by omega) (hd.drop k)
  rwa [List.length_drop] at this
theorem div_pow_words {u : List Nat} (hd : digs 4294967296 u) (n : Nat) : val 4294967296 u / 2 ^ n = val 4294967296 (u.drop (n / 32)) / 2 ^ (n % 32) := by
  have e : (2 : Nat) ^ n = 4294967296 ^ (n / 32) * 2 ^ (n % 32) := by
    rw [show (4294967296 : Nat) = 2 ^ 32 by decide, ← Nat.pow_mul, ← Nat.pow_add]; congr 1; omega
  rw [e, ← Nat.div_div_eq_div_mul, val_div_pow (by omega) _ hd]
theorem shr_list (L : LibW E) {u : List Nat} (hd : digs 4294967296 u) (hu : u.length < 1000000000) (hn : n < 1000000000000) : Val E id_word_Nat_Shr [R32 u, .int .i64 (n : Int)] (N32 (val 4294967296 u / 2 ^ n)) := by
  have hval := div_pow_words hd n
  obtain ⟨ws, hws⟩ : ∃ ws, ws = n / 32 := ⟨_, rfl⟩
  obtain ⟨r, hr⟩ : ∃ r, r = n % 32 := ⟨_, rfl⟩
  rw [← hws, ← hr] at hval
  have hr32 : r < 32 := by omega
  refine val_fn L.shr rfl (by simp) fun T hN hA => ?_
  have h0 := hA 0 _ rfl
  have h1 := hA 1 _ rfl
  have e1 : ((n : Int)).tdiv 32 = ws := by rw [hws]; exact tdiv_nat n 32
  have e2 : ((n : Int)).tmod 32 = r := by rw [hr]; exact tmod_nat n 32
  have e3 : IntKind.i64.wrap (ws : Int) = ws := wrapI_id (by omega) (by omega)
  have e4 : IntKind.u64.wrap (r : Int) = r := by rw [wrap64]; omega
  by_cases hw : u.length ≤ ws
  · have : val 4294967296 u / 2 ^ n = 0 := by rw [hval, List.drop_of_length_le hw]; simp [val]
    simp [go_sem, h0, h1, hN, e1, e2, e3, e4, hw, this, dig_zero, ints]
  have hw1 : ¬ (u.length : Int) ≤ ws := by omega
  obtain ⟨N, hNv⟩ : ∃ N, N = u.length - ws := ⟨_, rfl⟩
  have e5 : IntKind.i64.wrap ((u.length : Int) - (ws : Int)) = N := by rw [wrapI_id (by omega) (by omega)]; omega
  have r1 : (N : Int) * 4 ≤ 140737488355328 := by omega
  have r2 : (N : Int) ≤ 9223372036854775807 := by omega
  simp [go_sem, h0, h1, hN, e1, e2, e3, e4, hw, hw1, e5, r1, r2]
  clear r1 r2
  refine loop_v _ rfl (fun m t H nx fz => nx = 1 ∧ fz = [] ∧ ∃ (i : Nat) (M : List Nat), H = [some (.cells 191 1 (ints .u32 M))] ∧ m + i = N ∧ getT t 26 = .int .i64 (i : Int) ∧ M.length = N ∧ digs 4294967296 M ∧ ∀ k, k < i → dg M k = val 4294967296 (u.drop ws) / 2 ^ r / 4294967296 ^ k % 4294967296) N ?_ ?_
  · exact ⟨rfl, rfl, 0, List.replicate N 0, rfl, rfl, by simp [go_sem, hN], by simp, digs_replicate (by omega) N, fun k hk => by omega⟩
  rintro m t H nx fz ⟨rfl, rfl, i, M, rfl, hm, ht, hML, hMd, hMz⟩ hF
  have hN' : t.length = 64 := by rw [hF.1]; simp [hN]
  have f0 : getT t 0 = R32 u := by rw [hF.2 0 (by decide)]; simp [go_sem, h0]
  have f5 : getT t 5 = .int .i64 (ws : Int) := by rw [hF.2 5 (by decide)]; simp [go_sem, hN]
  have f6 : getT t 6 = .int .u64 (r : Int) := by rw [hF.2 6 (by decide)]; simp [go_sem, hN]
  have f7 : getT t 7 = .sl 0 0 N := by rw [hF.2 7 (by decide)]; simp [go_sem, hN]
  have f25 : getT t 25 = .int .i64 (N : Int) := by rw [hF.2 25 (by decide)]; simp [go_sem, hN]
  clear hF
  by_cases hi : i < N
  · have hil : (i : Int) < N := by omega
    obtain ⟨q, hq⟩ : ∃ q, q = ws + i := ⟨_, rfl⟩
    have hqu : q < u.length := by omega
    have hqi : (q : Int) < u.length := by omega
    have a1 : IntKind.i64.wrap ((ws : Int) + (i : Int)) = q := by rw [wrapI_id (by omega) (by omega)]; omega
    obtain ⟨q1, hq1⟩ : ∃ q1, q1 = q + 1 := ⟨_, rfl⟩
    have a2 : IntKind.i64.wrap ((q : Int) + 1) = q1 := by rw [wrapI_id (by omega) (by omega)]; omega
    obtain ⟨x, hx⟩ : ∃ x, x = dg u q := ⟨_, rfl⟩
    have hxB : x < 4294967296 := by rw [hx]; exact getD_lt hd (by omega) q
    have a3 : IntKind.u64.wrap (x : Int) = x := by rw [wrap64]; omega
    have hmin : min r 64 = r := by omega
    have hr0 : ¬ (r : Int) < 0 := by omega
    obtain ⟨i2, hi2⟩ : ∃ i2, i2 = i + 1 := ⟨_, rfl⟩
    have a4 : IntKind.i64.wrap ((i : Int) + 1) = i2 := by rw [wrapI_id (by omega) (by omega)]; omega
    have hkey := shr_digit (B := 4294967296) (p := 32) (r := r) (by decide) (by omega) (hd.drop ws) i
    rw [dg_drop, dg_drop, ← hq, ← Nat.add_assoc, ← hq, ← hq1, ← hx] at hkey
    have hiM : i < M.length := by omega
    have fin : ∀ y, y = val 4294967296 (u.drop ws) / 2 ^ r / 4294967296 ^ i % 4294967296 → ∃ m', m' < m ∧ ∃ (i' : Nat) (M' : List Nat), ints .u32 (M.set i y) = ints .u32 M' ∧ m' + i' = N ∧ i2 = i' ∧ M'.length = N ∧ digs 4294967296 M' ∧ ∀ k, k < i' → dg M' k = val 4294967296 (u.drop ws) / 2 ^ r / 4294967296 ^ k % 4294967296 := by
      intro y hy
      refine ⟨m - 1, by omega, i2, M.set i y, rfl, by omega, rfl, by simpa using hML, hMd.set (by rw [hy]; exact Nat.mod_lt _ (by omega)) _, fun k hk => ?_⟩
      by_cases e : k = i
      · subst e; rw [Go.Nt.getD_set_self (by omega), hy]
      · rw [Go.Nt.getD_set_ne (Ne.symm e)]; exact hMz k (by omega)
    by_cases hh : q1 < u.length
    · have hhi : (q1 : Int) < u.length := by omega
      obtain ⟨z, hz⟩ : ∃ z, z = dg u q1 := ⟨_, rfl⟩
      have hzB : z < 4294967296 := by rw [hz]; exact getD_lt hd (by omega) q1
      have a5 : IntKind.u64.wrap (z : Int) = z := by rw [wrap64]; omega
      obtain ⟨z2, hz2⟩ : ∃ z2, z2 = z * 4294967296 := ⟨_, rfl⟩
      have a6 : IntKind.u64.wrap ((z : Int) * 4294967296) = z2 := by rw [wrap64]; omega
      obtain ⟨o, ho⟩ : ∃ o, o = x ||| z2 := ⟨_, rfl⟩
      have ho2 : o = x + 4294967296 * z := by
        rw [ho, hz2, Nat.mul_comm]
        exact or_add (r := 32) (by simpa using hxB)
      have l1 : x < 18446744073709551616 := by omega
      have l2 : z2 < 18446744073709551616 := by omega
      obtain ⟨y2, hy2⟩ : ∃ y2, y2 = o / 2 ^ r := ⟨_, rfl⟩
      have a7 : ((o : Int)).fdiv (2 ^ r) = y2 := by rw [hy2]; exact fdiv_pow o r
      obtain ⟨y, hy⟩ : ∃ y, y = y2 % 4294967296 := ⟨_, rfl⟩
      have a8 : IntKind.u32.wrap (y2 : Int) = y := by rw [wrap32]; omega
      simp [go_sem, ht, hN', f0, f5, f6, f7, f25, hi, hil, a1, a2, a3, a4, a5, a6, a7, a8, hqu, hqi, hh, hhi, ← hx, ← hz, ← ho, l1, l2, hmin, hr0, IntKind.bits, hML, hiM]
      exact fin y (by rw [hkey, hy, hy2, ho2, hz])
    · have hhi : ¬ (q1 : Int) < u.length := by omega
      obtain ⟨y2, hy2⟩ : ∃ y2, y2 = x / 2 ^ r := ⟨_, rfl⟩
      have a7 : ((x : Int)).fdiv (2 ^ r) = y2 := by rw [hy2]; exact fdiv_pow x r
      obtain ⟨y, hy⟩ : ∃ y, y = y2 % 4294967296 := ⟨_, rfl⟩
      have a8 : IntKind.u32.wrap (y2 : Int) = y := by rw [wrap32]; omega
      have hz : dg u q1 = 0 := getD_out (by omega)
      simp [go_sem, ht, hN', f0, f5, f6, f7, f25, hi, hil, a1, a2, a3, a4, a7, a8, hqu, hqi, hh, hhi, ← hx, hmin, hr0, IntKind.bits, hML, hiM]
      exact fin y (by rw [hkey, hy, hy2, hz]; simp)
  · have hil : ¬ (i : Int) < N := by omega
    simp [go_sem, ht, hN', f7, f25, hil]
    rw [wpA_frz_iff (of_val L M hMd (by omega)) (by simp [go_sem, frz_sli (l := M) (b := 0) getB_cons_zero, ← hML])]
    have hv : val 4294967296 M = val 4294967296 u / 2 ^ n := by
      have := take_of_digits (B := 4294967296) (L := M) (V := val 4294967296 (u.drop ws) / 2 ^ r) (by omega) N fun k hk => hMz k (by omega)
      rw [val_take_all (by omega)] at this
      rw [this, hval]
      refine Nat.mod_eq_of_lt (Nat.lt_of_le_of_lt (Nat.div_le_self _ _) ?_)
      have := val_drop_lt hd ws
      rwa [← hNv] at this
    simp [go_sem, hN', resV, hv]
theorem shr_call (L : LibW E) {u : List Nat} (hd : digs 4294967296 u) (hu : u.length < 1000000000) (hn : n < 1000000000000) : wpA E id_word_Nat_Shr [R32 u, .int .i64 (n : Int)] H nx fz R ↔ R ⟨.ret (N32 (val 4294967296 u / 2 ^ n)), H, nx, fz, false⟩ := wpA_iff (shr_list L hd hu hn) rfl
end
end Go.Am
end
section
set_option maxHeartbeats 4000000
namespace Go.Am
open Go Go.Nt
section
variable {E : Env} {l : List Nat} {n m a b k x : Nat} {H : Heap} {nx : Nat} {fz : List Nat} {R : Back → Prop}
theorem shl_list (L : LibW E) {u : List Nat} (hd : digs 4294967296 u) (hu : u.length < 1000000000) (hn : n < 10000000000) : Val E id_word_Nat_Shl [R32 u, .int .i64 (n : Int)] (N32 (val 4294967296 u * 2 ^ n)) := by
  obtain ⟨ws, hws⟩ : ∃ ws, ws = n / 32 := ⟨_, rfl⟩
  obtain ⟨r, hr⟩ : ∃ r, r = n % 32 := ⟨_, rfl⟩
  have hr32 : r < 32 := by omega
  have hpow : (2 : Nat) ^ n = 4294967296 ^ ws * 2 ^ r := by
    rw [show (4294967296 : Nat) = 2 ^ 32 by decide, ← Nat.pow_mul, ← Nat.pow_add]; congr 1; omega
  refine val_fn L.shl rfl (by simp) fun T hN hA => ?_
  have h0 := hA 0 _ rfl
  have h1 := hA 1 _ rfl
  by_cases hue : u = []
  · subst hue; simp [go_sem, h0, h1, hN, dig_zero, ints, val]
  have e1 : ((n : Int)).tdiv 32 = ws := by rw [hws]; exact tdiv_nat n 32
  have e2 : ((n : Int)).tmod 32 = r := by rw [hr]; exact tmod_nat n 32
  have e3 : IntKind.i64.wrap (ws : Int) = ws := wrapI_id (by omega) (by omega)
  have e4 : IntKind.u64.wrap (r : Int) = r := by rw [wrap64]; omega
  obtain ⟨p, hp⟩ : ∃ p, p = u.length + ws := ⟨_, rfl⟩
  obtain ⟨N, hNv⟩ : ∃ N, N = p + 1 := ⟨_, rfl⟩
  have e5 : IntKind.i64.wrap ((u.length : Int) + (ws : Int)) = p := by rw [wrapI_id (by omega) (by omega)]; omega
  have e6 : IntKind.i64.wrap ((p : Int) + 1) = N := by rw [wrapI_id (by omega) (by omega)]; omega
  have r1 : (N : Int) * 4 ≤ 140737488355328 := by omega
  have r2 : (N : Int) ≤ 9223372036854775807 := by omega
  simp [go_sem, h0, h1, hN, hue, e1, e2, e3, e4, e5, e6, r1, r2]
  clear r1 r2
  refine loop_v _ rfl (fun m t H nx fz => nx = 1 ∧ fz = [] ∧ ∃ (i : Nat) (M : List Nat), H = [some (.cells 191 1 (ints .u32 M))] ∧ m + i = u.length ∧ getT t 27 = .int .i64 (i : Int) ∧ M.length = N ∧ digs 4294967296 M ∧ val 4294967296 M = 4294967296 ^ ws * 2 ^ r * val 4294967296 (u.take i) ∧ dg M (ws + i) < 2 ^ r ∧ ∀ k, ws + i < k → dg M k = 0) u.length ?_ ?_
  · refine ⟨rfl, rfl, 0, List.replicate N 0, rfl, rfl, by simp [go_sem, hN], by simp, digs_replicate (by omega) N, ?_, ?_, fun k hk => getD_replicate N k⟩
    · rw [val_replicate]; simp [val]
    · rw [show dg (List.replicate N 0) (ws + 0) = 0 from getD_replicate N _]; exact Nat.pow_pos (by omega)
  rintro m t H nx fz ⟨rfl, rfl, i, M, rfl, hm, ht, hML, hMd, hMv, hMq, hMz⟩ hF
  have hN' : t.length = 58 := by rw [hF.1]; simp [hN]
  have f5 : getT t 5 = .int .i64 (ws : Int) := by rw [hF.2 5 (by decide)]; simp [go_sem, hN]
  have f6 : getT t 6 = .int .u64 (r : Int) := by rw [hF.2 6 (by decide)]; simp [go_sem, hN]
  have f7 : getT t 7 = .sl 0 0 N := by rw [hF.2 7 (by decide)]; simp [go_sem, hN]
  have f25 : getT t 25 = R32 u := by rw [hF.2 25 (by decide)]; simp [go_sem, hN]
  have f26 : getT t 26 = .int .i64 (u.length : Int) := by rw [hF.2 26 (by decide)]; simp [go_sem, hN]
  clear hF
  by_cases hi : i < u.length
  · have hil : (i : Int) < u.length := by omega
    obtain ⟨w, hw⟩ : ∃ w, w = dg u i := ⟨_, rfl⟩
    have hwB : w < 4294967296 := by rw [hw]; exact getD_lt hd (by omega) i
    have a1 : IntKind.u64.wrap (w : Int) = w := by rw [wrap64]; omega
    have hmin : min r 64 = r := by omega
    have hr0 : ¬ (r : Int) < 0 := by omega
    have hp31 : (2 : Nat) ^ r ≤ 2147483648 := by
      have := Nat.pow_le_pow_right (show 0 < 2 by omega) (show r ≤ 31 by omega)
      simpa using this
    have hp0 : 0 < (2 : Nat) ^ r := Nat.pow_pos (by omega)
    obtain ⟨s, hs⟩ : ∃ s, s = w * 2 ^ r := ⟨_, rfl⟩
    have hsB : s < 9223372036854775808 := by
      have := Nat.mul_le_mul (show w ≤ 4294967295 by omega) hp31
      rw [hs]; omega
    have hs2 : s < 4294967296 * 2 ^ r := by rw [hs]; exact Nat.mul_lt_mul_of_pos_right hwB hp0
    have a2 : IntKind.u64.wrap ((w : Int) * 2 ^ r) = s := by
      have : (w : Int) * 2 ^ r = (s : Int) := by rw [hs]; simp
      rw [this, wrap64]; omega
    obtain ⟨q, hq⟩ : ∃ q, q = ws + i := ⟨_, rfl⟩
    have a3 : IntKind.i64.wrap ((ws : Int) + (i : Int)) = q := by rw [wrapI_id (by omega) (by omega)]; omega
    obtain ⟨q1, hq1⟩ : ∃ q1, q1 = q + 1 := ⟨_, rfl⟩
    have a4 : IntKind.i64.wrap ((q : Int) + 1) = q1 := by rw [wrapI_id (by omega) (by omega)]; omega
    obtain ⟨x, hx⟩ : ∃ x, x = dg M q := ⟨_, rfl⟩
    have hxB : x < 4294967296 := by rw [hx]; exact getD_lt hMd (by omega) q
    obtain ⟨lo, hlo⟩ : ∃ lo, lo = s % 4294967296 := ⟨_, rfl⟩
    have hloB : lo < 4294967296 := by rw [hlo]; exact Nat.mod_lt _ (by omega)
    have a5 : IntKind.u32.wrap (s : Int) = lo := by rw [wrap32]; omega
    obtain ⟨o, ho⟩ : ∃ o, o = x ||| lo := ⟨_, rfl⟩
    have hoB : o < 4294967296 := by
      have := Nat.or_lt_two_pow (n := 32) (by simpa using hxB) (show lo < 2 ^ 32 by simpa using hloB)
      rw [ho]; simpa using this
    obtain ⟨hi', hhi⟩ : ∃ h, h = s / 4294967296 := ⟨_, rfl⟩
    have a6 : ((s : Int)).fdiv 4294967296 = hi' := by rw [hhi]; exact fdiv_nat s 4294967296
    have hhi2 : hi' < 2 ^ r := by rw [hhi]; exact (Nat.div_lt_iff_lt_mul (by omega)).2 (by rw [Nat.mul_comm]; exact hs2)
    have hhB : hi' < 4294967296 := by omega
    have a7 : IntKind.u32.wrap (hi' : Int) = hi' := by rw [wrap32]; omega
    obtain ⟨i2, hi2⟩ : ∃ i2, i2 = i + 1 := ⟨_, rfl⟩
    have a8 : IntKind.i64.wrap ((i : Int) + 1) = i2 := by rw [wrapI_id (by omega) (by omega)]; omega
    have hqM : q < M.length := by omega
    have hq1M : q1 < M.length := by omega
    have hqN : q < N := by omega
    have hq1N : q1 < N := by omega
    have hqi : (q : Int) < N := by omega
    have hq1i : (q1 : Int) < N := by omega
    have hstep := shl_step (B := 4294967296) (p := 32) (r := r) (L := M) (a := u) (w := w) (s := s) (q := ws) (i := i) (by decide) (by omega) (by omega) hMv (hMz _ (by omega)) hMq hw.symm hs
    rw [← hq, ← hq1, ← hx, ← hlo, ← ho, ← hhi, ← hi2] at hstep
    have fin : ∃ m', m' < m ∧ ∃ (i' : Nat) (M' : List Nat), ints .u32 ((M.set q o).set q1 hi') = ints .u32 M' ∧ m' + i' = u.length ∧ i2 = i' ∧ M'.length = N ∧ digs 4294967296 M' ∧ val 4294967296 M' = 4294967296 ^ ws * 2 ^ r * val 4294967296 (u.take i') ∧ dg M' (ws + i') < 2 ^ r ∧ ∀ k, ws + i' < k → dg M' k = 0 := by
      refine ⟨m - 1, by omega, i2, (M.set q o).set q1 hi', rfl, by omega, rfl, by simpa using hML, (hMd.set hoB _).set hhB _, hstep, ?_, fun k hk => ?_⟩
      · rw [show ws + i2 = q1 by omega, Go.Nt.getD_set_self (by simpa using hq1M)]; exact hhi2
      · rw [Go.Nt.getD_set_ne (by omega), Go.Nt.getD_set_ne (by omega)]; exact hMz k (by omega)
    simp [go_sem, ht, hN', f5, f6, f7, f25, f26, hi, hil, a1, a2, a3, a4, a5, a6, a7, a8, ← hw, ← hx, ← ho, hmin, hr0, IntKind.bits, hML, hqM, hq1M, hqN, hq1N, hqi, hq1i, hxB, hloB]
    exact fin
  · have hil : ¬ (i : Int) < u.length := by omega
    simp [go_sem, ht, hN', f7, f25, f26, hil]
    rw [wpA_frz_iff (of_val L M hMd (by omega)) (by simp [go_sem, frz_sli (l := M) (b := 0) getB_cons_zero, ← hML])]
    have hv : val 4294967296 M = val 4294967296 u * 2 ^ n := by
      rw [hMv, List.take_of_length_le (by omega), hpow, Nat.mul_comm]
    simp [go_sem, hN', resV, hv]
theorem shl_call (L : LibW E) {u : List Nat} (hd : digs 4294967296 u) (hu : u.length < 1000000000) (hn : n < 10000000000) : wpA E id_word_Nat_Shl [R32 u, .int .i64 (n : Int)] H nx fz R ↔ R ⟨.ret (N32 (val 4294967296 u * 2 ^ n)), H, nx, fz, false⟩ := wpA_iff (shl_list L hd hu hn) rfl
theorem divs_list (L : LibW E) {u : List Nat} {d : Nat} (hd : digs 4294967296 u) (hu : u.length < 1000000000) (hd0 : 0 < d) (hdB : d < 4294967296) : Val E id_word_Nat_DivSmall [R32 u, .int .u32 (d : Int)] (.tuple [N32 (val 4294967296 u / d), .int .u32 ((val 4294967296 u % d : Nat) : Int)]) := by
  refine val_fn L.divs rfl (by simp) fun T hN hA => ?_
  have h0 := hA 0 _ rfl
  have h1 := hA 1 _ rfl
  obtain ⟨N, hNv⟩ : ∃ N, N = u.length := ⟨_, rfl⟩
  rw [← hNv] at hu
  have r1 : (N : Int) * 4 ≤ 140737488355328 := by omega
  have r2 : (N : Int) ≤ 9223372036854775807 := by omega
  have e1 : IntKind.i64.wrap ((N : Int) - 1) = (N : Int) - 1 := wrapI_id (by omega) (by omega)
  simp [go_sem, h0, h1, hN, ← hNv, r1, r2, e1]
  clear r1 r2
  refine loop_v _ rfl (fun m t H nx fz => nx = 1 ∧ fz = [] ∧ ∃ (M : List Nat) (r : Nat), H = [some (.cells 191 1 (ints .u32 M))] ∧ m ≤ N ∧ getT t 8 = .int .i64 ((m : Int) - 1) ∧ getT t 7 = .int .u64 (r : Int) ∧ M.length = N ∧ digs 4294967296 M ∧ r < d ∧ val 4294967296 (u.drop m) = d * val 4294967296 (M.drop m) + r) N ?_ ?_
  · refine ⟨rfl, rfl, List.replicate N 0, 0, rfl, by omega, by simp [go_sem, hN], by simp [go_sem, hN], by simp, digs_replicate (by omega) N, hd0, ?_⟩
    rw [List.drop_of_length_le (by omega), List.drop_of_length_le (by simp)]; simp [val]
  rintro m t H nx fz ⟨rfl, rfl, M, r, rfl, hm, ht, ht7, hML, hMd, hrd, hMv⟩ hF
  have hN' : t.length = 44 := by rw [hF.1]; simp [hN]
  have f0 : getT t 0 = R32 u := by rw [hF.2 0 (by decide)]; simp [go_sem, h0]
  have f1 : getT t 1 = .int .u32 (d : Int) := by rw [hF.2 1 (by decide)]; simp [go_sem, h1]
  have f6 : getT t 6 = .sl 0 0 N := by rw [hF.2 6 (by decide)]; simp [go_sem, hN, hNv]
  clear hF
  by_cases hm0 : m = 0
  · subst hm0
    rw [List.drop_zero, List.drop_zero] at hMv
    have hq : val 4294967296 u / d = val 4294967296 M := by
      rw [hMv, Nat.mul_add_div hd0, Nat.div_eq_of_lt hrd]; rfl
    have hr : val 4294967296 u % d = r := by rw [hMv, Nat.mul_add_mod, Nat.mod_eq_of_lt hrd]
    have e2 : IntKind.u32.wrap (r : Int) = r := by rw [wrap32]; omega
    have hr' : ((val 4294967296 u : Nat) : Int) % (d : Int) = r := by rw [← hr]; simp
    simp [go_sem, ht, hN', f6]
    rw [wpA_frz_iff (of_val L M hMd (by omega)) (by simp [go_sem, frz_sli (l := M) (b := 0) getB_cons_zero, ← hML])]
    simp [go_sem, hN', resV, ht7, e2, hq, hr']
  · obtain ⟨i, rfl⟩ : ∃ i, m = i + 1 := ⟨m - 1, by omega⟩
    obtain ⟨x, hx⟩ : ∃ x, x = dg u i := ⟨_, rfl⟩
    have hxB : x < 4294967296 := by rw [hx]; exact getD_lt hd (by omega) i
    obtain ⟨rB, hrB⟩ : ∃ rB, rB = r * 4294967296 := ⟨_, rfl⟩
    have a1 : IntKind.u64.wrap ((r : Int) * 4294967296) = rB := by rw [wrap64]; omega
    have a2 : IntKind.u64.wrap (x : Int) = x := by rw [wrap64]; omega
    obtain ⟨s, hs⟩ : ∃ s, s = rB ||| x := ⟨_, rfl⟩
    have hs2 : s = r * 4294967296 + x := by
      rw [hs, hrB, Nat.or_comm, Nat.mul_comm]
      rw [or_add (r := 32) (by simpa using hxB)]; omega
    have l1 : rB < 18446744073709551616 := by omega
    have l2 : x < 18446744073709551616 := by omega
    have a3 : IntKind.u64.wrap (d : Int) = d := by rw [wrap64]; omega
    have hdne : ¬ d = 0 := by omega
    obtain ⟨y, hy⟩ : ∃ y, y = s / d := ⟨_, rfl⟩
    have hyB : y < 4294967296 := by rw [hy]; exact divs_digit hd (by omega) hrd (by rw [hs2, hx])
    have a4 : ((s : Int)).tdiv (d : Int) = y := by rw [hy]; exact tdiv_nat s d
    have a5 : IntKind.u64.wrap (y : Int) = y := by rw [wrap64]; omega
    have a6 : IntKind.u32.wrap (y : Int) = y := by rw [wrap32]; omega
    obtain ⟨r2, hr2⟩ : ∃ r2, r2 = s % d := ⟨_, rfl⟩
    have a7 : ((s : Int)).tmod (d : Int) = r2 := by rw [hr2]; exact tmod_nat s d
    have a8 : IntKind.i64.wrap ((i : Int) - 1) = (i : Int) - 1 := wrapI_id (by omega) (by omega)
    have hiN : i < N := by omega
    have hiu : i < u.length := by omega
    have hiM : i < M.length := by omega
    have hii : (i : Int) < N := by omega
    obtain ⟨k1, k2⟩ := divs_step (B := 4294967296) (L := M) (a := u) (s := s) hiM hd0 hMv hrd (by rw [hs2, hx])
    rw [← hy, ← hr2] at k1
    rw [← hr2] at k2
    simp [go_sem, ht, ht7, hN', f0, f1, f6, hiN, hiu, hiM, hii, a1, a2, a3, a4, a5, a6, a7, a8, ← hx, ← hs, l1, l2, hdne, IntKind.bits, ← hNv, hML]
    exact ⟨i, by omega, M.set i y, rfl, by omega, rfl, by simpa using hML, hMd.set hyB _, k2, k1⟩
theorem divs_call (L : LibW E) {u : List Nat} {d : Nat} (hd : digs 4294967296 u) (hu : u.length < 1000000000) (hd0 : 0 < d) (hdB : d < 4294967296) : wpA E id_word_Nat_DivSmall [R32 u, .int .u32 (d : Int)] H nx fz R ↔ R ⟨.ret (.tuple [N32 (val 4294967296 u / d), .int .u32 ((val 4294967296 u % d : Nat) : Int)]), H, nx, fz, false⟩ := wpA_iff (divs_list L hd hu hd0 hdB) rfl
end
end Go.Am
end
