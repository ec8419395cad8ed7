/- Parts of the proof. -/
import Derived.Test.YtjilaaoaebglbaaGreatDoorA07
import Derived.Test.YtjilaaoaebglbaaGreatDoorA04
set_option linter.unusedVariables false
set_option linter.unusedSimpArgs false
set_option linter.unnecessarySimpa false
set_option linter.unusedSectionVars false
section
set_option maxHeartbeats 8000000
namespace Go.Am
open Go Go.Nt
section
variable {E : Env} {n m a b k x : Nat} {H : Heap} {nx : Nat} {fz : List Nat} {R : Back → Prop}
theorem low_aux {a b c g d1 d0 r B : Nat} (hr : g * d1 + r = a * B + b) (hc : g * d0 > r * B + c) : (a * B + b) * B + c < g * (d1 * B + d0) := by
  have e1 : g * (d1 * B + d0) = g * d1 * B + g * d0 := by rw [Nat.mul_add, Nat.mul_assoc]
  have e3 : (a * B + b) * B = g * d1 * B + r * B := by rw [← hr, Nat.add_mul]
  rw [e1, e3]; omega
theorem high_aux {a b c g d1 d0 r B : Nat} (hr : g * d1 + r = a * B + b) (hc : g * d0 ≤ r * B + c) : g * (d1 * B + d0) ≤ (a * B + b) * B + c := by
  have e1 : g * (d1 * B + d0) = g * d1 * B + g * d0 := by rw [Nat.mul_add, Nat.mul_assoc]
  have e3 : (a * B + b) * B = g * d1 * B + r * B := by rw [← hr, Nat.add_mul]
  rw [e1, e3]; omega
structure Guess (W d : List Nat) (g : Nat) : Prop where
  lt : g < 4294967296
  low : val 4294967296 W / val 4294967296 d ≤ g
  high : g ≤ val 4294967296 W / val 4294967296 d + 1
structure Win (W d : List Nat) (n : Nat) : Prop where
  hd : digs 4294967296 d
  hW : digs 4294967296 W
  dl : d.length = n
  Wl : W.length = n + 1
  two : 2 ≤ n
  top : 2147483648 ≤ dg d (n - 1)
  lt : val 4294967296 W < 4294967296 * val 4294967296 d
theorem Win.parts {W d : List Nat} (h : Win W d n) : ∃ P lo ulo, P = 4294967296 ^ (n - 2) ∧ lo < P ∧ ulo < P ∧ val 4294967296 d = (dg d (n - 1) * 4294967296 + dg d (n - 2)) * P + lo ∧ val 4294967296 W = ((dg W n * 4294967296 + dg W (n - 1)) * 4294967296 + dg W (n - 2)) * P + ulo ∧ 0 < val 4294967296 d := by
  have h1 := val_take_drop (B := 4294967296) d (n - 2) (by rw [h.dl]; omega)
  have h2 := val_take_drop (B := 4294967296) W (n - 2) (by rw [h.Wl]; omega)
  have l1 := val_lt (by omega) (h.hd.take (n - 2))
  have l2 := val_lt (by omega) (h.hW.take (n - 2))
  have t2 := h.two
  have tl := h.dl
  have tw := h.Wl
  rw [List.length_take, Nat.min_eq_left (by omega)] at l1 l2
  rw [val_drop d (n - 2), val_drop d (n - 2 + 1), List.drop_of_length_le (show d.length ≤ n - 2 + 1 + 1 by omega), show n - 2 + 1 = n - 1 by omega] at h1
  rw [val_drop W (n - 2), val_drop W (n - 2 + 1), val_drop W (n - 2 + 1 + 1), List.drop_of_length_le (show W.length ≤ n - 2 + 1 + 1 + 1 by omega), show n - 2 + 1 = n - 1 by omega, show n - 1 + 1 = n by omega] at h2
  simp only [val, Nat.mul_zero, Nat.add_zero] at h1 h2
  have hp : 0 < 4294967296 ^ (n - 2) := Nat.pow_pos (by omega)
  have htop := h.top
  refine ⟨_, _, _, rfl, l1, l2, by rw [h1]; grind, by rw [h2]; grind, ?_⟩
  have : 0 < 4294967296 ^ (n - 2) * (dg d (n - 2) + 4294967296 * dg d (n - 1)) := Nat.mul_pos hp (by omega)
  omega
theorem Win.low {W d : List Nat} (h : Win W d n) {g r : Nat} (hr : g * dg d (n - 1) + r = dg W n * 4294967296 + dg W (n - 1)) (hc : g * dg d (n - 2) > r * 4294967296 + dg W (n - 2)) : val 4294967296 W / val 4294967296 d ≤ g - 1 := by
  obtain ⟨P, lo, ulo, hP, l1, l2, e1, e2, hpos⟩ := h.parts
  have := digit_low (g := g) e1 e2 l2 (low_aux hr hc)
  have := (Nat.div_lt_iff_lt_mul hpos).2 this
  omega
theorem Win.high {W d : List Nat} (h : Win W d n) {g r : Nat} (hr : g * dg d (n - 1) + r = dg W n * 4294967296 + dg W (n - 1)) (hg : g < 4294967296) (hc : g * dg d (n - 2) ≤ r * 4294967296 + dg W (n - 2)) : g ≤ val 4294967296 W / val 4294967296 d + 1 := by
  obtain ⟨P, lo, ulo, hP, l1, l2, e1, e2, hpos⟩ := h.parts
  rcases Nat.eq_zero_or_pos g with h0 | h0
  · rw [h0]; exact Nat.zero_le _
  have htop := h.top
  have := digit_high (g := g) e1 l1 e2 (high_aux hr hc) h0 (by omega)
  have := (Nat.le_div_iff_mul_le hpos).2 this
  omega
theorem Win.first {W d : List Nat} (h : Win W d n) : val 4294967296 W / val 4294967296 d < 4294967296 ∧ val 4294967296 W / val 4294967296 d ≤ (dg W n * 4294967296 + dg W (n - 1)) / dg d (n - 1) ∧ dg W n * 4294967296 + dg W (n - 1) < 4294967296 * (dg d (n - 1) + 1) := by
  obtain ⟨P, lo, ulo, hP, l1, l2, e1, e2, hpos⟩ := h.parts
  have hlt := h.lt
  have htop := h.top
  have hd0 := getD_lt h.hd (show 0 < 4294967296 by omega) (n - 2)
  have hp0 : 0 < P := by rw [hP]; exact Nat.pow_pos (by omega)
  refine ⟨(Nat.div_lt_iff_lt_mul hpos).2 hlt, ?_, ?_⟩
  · refine (Nat.le_div_iff_mul_le (by omega)).2 ?_
    have hq := Nat.div_mul_le_self (val 4294967296 W) (val 4294967296 d)
    generalize val 4294967296 W / val 4294967296 d = q at *
    refine Classical.byContradiction fun hno => ?_
    have h3 : (dg W n * 4294967296 + dg W (n - 1) + 1) * (4294967296 * P) ≤ q * dg d (n - 1) * (4294967296 * P) := Nat.mul_le_mul_right _ (by omega)
    have hu2 := getD_lt h.hW (show 0 < 4294967296 by omega) (n - 2)
    have h4 : val 4294967296 W < (dg W n * 4294967296 + dg W (n - 1) + 1) * (4294967296 * P) := by
      rw [e2]
      have : (dg W (n - 2) + 1) * P ≤ 4294967296 * P := Nat.mul_le_mul_right _ hu2
      grind
    have h5 : q * dg d (n - 1) * (4294967296 * P) ≤ q * val 4294967296 d := by
      rw [e1]
      have : q * ((dg d (n - 1) * 4294967296 + dg d (n - 2)) * P + lo) = q * dg d (n - 1) * (4294967296 * P) + q * (dg d (n - 2) * P + lo) := by grind
      omega
    omega
  · refine Classical.byContradiction fun hno => ?_
    have h3 : 4294967296 * (dg d (n - 1) + 1) * (4294967296 * P) ≤ (dg W n * 4294967296 + dg W (n - 1)) * (4294967296 * P) := Nat.mul_le_mul_right _ (by omega)
    have h4 : (dg W n * 4294967296 + dg W (n - 1)) * (4294967296 * P) ≤ val 4294967296 W := by rw [e2]; grind
    have h5 : val 4294967296 d < (dg d (n - 1) + 1) * (4294967296 * P) := by
      rw [e1]
      have : (dg d (n - 2) + 1) * P ≤ 4294967296 * P := Nat.mul_le_mul_right _ hd0
      grind
    have h6 : 4294967296 * val 4294967296 d < 4294967296 * ((dg d (n - 1) + 1) * (4294967296 * P)) := Nat.mul_lt_mul_of_pos_left h5 (by omega)
    have h7 : 4294967296 * ((dg d (n - 1) + 1) * (4294967296 * P)) = 4294967296 * (dg d (n - 1) + 1) * (4294967296 * P) := by rw [Nat.mul_assoc]
    omega
end
end Go.Am
end
section
set_option maxHeartbeats 16000000
namespace Go.Am
open Go Go.Nt
section
variable {E : Env} {n m a b k x : Nat} {H : Heap} {nx : Nat} {fz : List Nat} {R : Back → Prop}
theorem guess_exit {W d : List Nat} (h : Win W d n) {g r : Nat} (hr : g * dg d (n - 1) + r = dg W n * 4294967296 + dg W (n - 1)) (hl : val 4294967296 W / val 4294967296 d ≤ g) (hc : 4294967296 ≤ r ∨ (g < 4294967296 ∧ g * dg d (n - 2) ≤ r * 4294967296 + dg W (n - 2))) : Guess W d g := by
  rcases hc with hc | ⟨hg, hc⟩
  · obtain ⟨_, _, h3⟩ := h.first
    have htop := h.top
    have hg : g < 4294967296 := by
      refine Classical.byContradiction fun hno => ?_
      have : 4294967296 * dg d (n - 1) ≤ g * dg d (n - 1) := Nat.mul_le_mul_right _ (by omega)
      rw [Nat.mul_add] at h3
      omega
    have hd0 := getD_lt h.hd (show 0 < 4294967296 by omega) (n - 2)
    have h4 : g * dg d (n - 2) ≤ 4294967296 * 4294967296 := Nat.mul_le_mul (by omega) (by omega)
    have h5 : 4294967296 * 4294967296 ≤ r * 4294967296 := Nat.mul_le_mul_right _ hc
    exact ⟨hg, hl, h.high hr hg (by omega)⟩
  · exact ⟨hg, hl, h.high hr hg hc⟩
theorem sub_words {x lo b : Nat} (hx : x < 4294967296) (hlo : lo < 4294967296) (hb : b ≤ 1) : ∃ t1 tv y b2 : Nat, IntKind.u64.wrap ((x : Int) - (lo : Int)) = t1 ∧ IntKind.u64.wrap ((t1 : Int) - (b : Int)) = tv ∧ IntKind.u32.wrap (tv : Int) = y ∧ ((tv : Int)).fdiv 9223372036854775808 = b2 ∧ y + lo + b = x + 4294967296 * b2 ∧ b2 ≤ 1 ∧ y < 4294967296 := by
  obtain ⟨t1, ht1⟩ : ∃ t1, t1 = if lo ≤ x then x - lo else 18446744073709551616 + x - lo := ⟨_, rfl⟩
  obtain ⟨tv, htv⟩ : ∃ tv, tv = if b ≤ t1 then t1 - b else 18446744073709551616 + t1 - b := ⟨_, rfl⟩
  have e1 : IntKind.u64.wrap ((x : Int) - (lo : Int)) = t1 := by rw [wrap64, ht1]; split <;> omega
  have e2 : IntKind.u64.wrap ((t1 : Int) - (b : Int)) = tv := by
    rw [wrap64, htv]; split at ht1 <;> split <;> omega
  refine ⟨t1, tv, tv % 4294967296, tv / 9223372036854775808, e1, e2, by rw [wrap32]; omega, fdiv_nat tv 9223372036854775808, ?_, ?_, Nat.mod_lt _ (by omega)⟩
  · split at ht1 <;> split at htv <;> omega
  · split at ht1 <;> split at htv <;> omega
theorem fin_same {V D g W3 : Nat} (hpos : 0 < D) (hlow : V / D ≤ g) (h : W3 + g * D = V) : V / D = g ∧ W3 = V % D := by
  have h1 : g ≤ V / D := (Nat.le_div_iff_mul_le hpos).2 (by omega)
  have h2 : V / D = g := by omega
  refine ⟨h2, ?_⟩
  have := Nat.div_add_mod V D
  rw [h2, Nat.mul_comm] at this
  omega
theorem fin_back {V D g W3 W5 X e : Nat} (hpos : 0 < D) (hhigh : g ≤ V / D + 1) (h3 : W3 < X) (h5 : W5 < X) (hDX : D < X) (he : e ≤ 1) (h : W3 + g * D = V + X) (hb : W5 + X * e = W3 + D) : V / D = g - 1 ∧ W5 = V % D := by
  have h1 : V < g * D := by omega
  have h2 : V / D < g := (Nat.div_lt_iff_lt_mul hpos).2 h1
  have h4 : V / D = g - 1 := by
    obtain ⟨q, hq⟩ : ∃ q, q = V / D := ⟨_, rfl⟩
    rw [← hq] at hhigh h2 ⊢
    omega
  refine ⟨h4, ?_⟩
  have h6 := Nat.div_add_mod V D
  have h7 := Nat.mod_lt V hpos
  rw [h4, Nat.mul_comm] at h6
  have h8 : g * D = (g - 1) * D + D := by
    obtain ⟨k, rfl⟩ : ∃ k, g = k + 1 := ⟨g - 1, by omega⟩
    rw [Nat.add_sub_cancel, Nat.add_mul, Nat.one_mul]
  rcases Nat.eq_zero_or_pos e with h0 | h0
  · subst h0; omega
  · have : e = 1 := by omega
    subst this; omega
theorem val_top {W : List Nat} (h : W.length = n + 1) : val 4294967296 W = val 4294967296 (W.take n) + 4294967296 ^ n * dg W n := by
  rw [← val_take_succ, val_take_all (by omega)]
theorem win_end {V D g A A2 P y un cb b2 X : Nat} (hX : X = P * 4294967296) (hv : A2 + g * D = A + P * cb) (hy : y + cb = un + 4294967296 * b2) (hV : V = A + P * un) : (A2 + P * y) + g * D = V + X * b2 := by
  have e : P * y + P * cb = P * un + X * b2 := by rw [← Nat.mul_add, hy, Nat.mul_add, hX, Nat.mul_assoc]
  omega
theorem digit_wp (L : LibW E) {P W S d : List Nat} (h : Win W d n) (hsz : P.length + (n + 1 + S.length) < 1000000000) (hR : ∀ W', W'.length = n + 1 → digs 4294967296 W' → val 4294967296 W' = val 4294967296 W % val 4294967296 d → R ⟨.ret (.int .u32 ((val 4294967296 W / val 4294967296 d : Nat) : Int)), [some (.cells 191 1 (ints .u32 (P ++ (W' ++ S))))], nx, [], false⟩) :
    wpF E id_word_digit [.sl 0 P.length (n + 1), R32 d] [some (.cells 191 1 (ints .u32 (P ++ (W ++ S))))] nx [] R := by
  obtain ⟨hqB, hq1, htB⟩ := h.first
  have htop := h.top
  have hWl := h.Wl
  have hdl := h.dl
  have htwo := h.two
  refine wpF_v L.digit.2.2 rfl (by simp) fun T hN hA => ?_
  have h0 := hA 0 _ rfl
  have h1 := hA 1 _ rfl
  obtain ⟨j, hj⟩ : ∃ j, j = P.length := ⟨_, rfl⟩
  obtain ⟨n1, hn1⟩ : ∃ n1, n1 = n - 1 := ⟨_, rfl⟩
  obtain ⟨n2, hn2⟩ : ∃ n2, n2 = n - 2 := ⟨_, rfl⟩
  obtain ⟨N, hNn⟩ : ∃ N, N = n + 1 := ⟨_, rfl⟩
  obtain ⟨SL, hSL⟩ : ∃ SL, SL = S.length := ⟨_, rfl⟩
  obtain ⟨un, hun⟩ : ∃ y, y = dg W n := ⟨_, rfl⟩
  obtain ⟨u1, hu1⟩ : ∃ y, y = dg W n1 := ⟨_, rfl⟩
  obtain ⟨u2, hu2⟩ : ∃ y, y = dg W n2 := ⟨_, rfl⟩
  obtain ⟨d1, hd1⟩ : ∃ y, y = dg d n1 := ⟨_, rfl⟩
  obtain ⟨d2, hd2⟩ : ∃ y, y = dg d n2 := ⟨_, rfl⟩
  rw [← hn1, ← hun, ← hu1, ← hd1] at hq1 htB
  rw [← hn1, ← hd1] at htop
  have unB : un < 4294967296 := by rw [hun]; exact getD_lt h.hW (by omega) _
  have u1B : u1 < 4294967296 := by rw [hu1]; exact getD_lt h.hW (by omega) _
  have u2B : u2 < 4294967296 := by rw [hu2]; exact getD_lt h.hW (by omega) _
  have d1B : d1 < 4294967296 := by rw [hd1]; exact getD_lt h.hd (by omega) _
  have d2B : d2 < 4294967296 := by rw [hd2]; exact getD_lt h.hd (by omega) _
  have mn : dg (P ++ (W ++ S)) (j + n) = un := by rw [hj, dg_mid P W S (by omega), hun]
  have mn1 : dg (P ++ (W ++ S)) (j + n1) = u1 := by rw [hj, dg_mid P W S (by omega), hu1]
  have mn2 : dg (P ++ (W ++ S)) (j + n2) = u2 := by rw [hj, dg_mid P W S (by omega), hu2]
  have w1 : IntKind.i64.wrap ((n : Int) - 1) = n1 := by rw [wrapI_id (by omega) (by omega)]; omega
  have w2 : IntKind.i64.wrap ((n : Int) - 2) = n2 := by rw [wrapI_id (by omega) (by omega)]; omega
  have k64 : ∀ y : Nat, y < 4294967296 → IntKind.u64.wrap (y : Int) = y := fun y hy => by rw [wrap64]; omega
  obtain ⟨tB, htb⟩ : ∃ tB, tB = un * 4294967296 := ⟨_, rfl⟩
  have w3 : IntKind.u64.wrap ((un : Int) * 4294967296) = tB := by rw [wrap64]; omega
  obtain ⟨top, htp⟩ : ∃ top, top = tB ||| u1 := ⟨_, rfl⟩
  have htop2 : top = un * 4294967296 + u1 := by
    rw [htp, htb, Nat.or_comm, Nat.mul_comm, or_add (r := 32) (by simpa using u1B)]; omega
  rw [← htop2] at hq1 htB
  have l1 : tB < 18446744073709551616 := by omega
  have l2 : u1 < 18446744073709551616 := by omega
  have d1ne : ¬ d1 = 0 := by omega
  obtain ⟨g0, hg0⟩ : ∃ g0, g0 = top / d1 := ⟨_, rfl⟩
  obtain ⟨r0, hr0⟩ : ∃ r0, r0 = top % d1 := ⟨_, rfl⟩
  have w4 : ((top : Int)).tdiv (d1 : Int) = g0 := by rw [hg0]; exact tdiv_nat top d1
  have w5 : ((top : Int)).tmod (d1 : Int) = r0 := by rw [hr0]; exact tmod_nat top d1
  have hg0B : g0 ≤ 2 * 4294967296 := by
    rw [hg0]; refine Nat.div_le_of_le_mul ?_
    have : d1 * (2 * 4294967296) ≥ 2147483648 * (2 * 4294967296) := Nat.mul_le_mul_right _ htop
    omega
  have w6 : IntKind.u64.wrap (g0 : Int) = g0 := by rw [wrap64]; omega
  have hgr : g0 * d1 + r0 = top := by rw [hg0, hr0, Nat.mul_comm]; exact Nat.div_add_mod top d1
  have hr0B : r0 < 4294967296 := by rw [hr0]; exact Nat.lt_trans (Nat.mod_lt _ (by omega)) d1B
  have c0 : j + n < j + (N + SL) := by omega
  have i1 : n1 < n := by omega
  have i2 : n2 < n := by omega
  have i3 : n < N := by omega
  have i4 : n1 < N := by omega
  have i5 : n2 < N := by omega
  have i6 : n < N + SL := by omega
  have i7 : n1 < N + SL := by omega
  have i8 : n2 < N + SL := by omega
  rw [← hj, ← hNn] at h0
  have hWl' : W.length = N := by omega
  have hnN : (n : Int) < (N : Int) := by omega
  simp [go_sem, h0, h1, hN, hdl, w1, w2, w3, w4, w5, w6, mn, mn1, mn2, ← hj, ← hd1, ← hd2, ← htp, l1, l2, d1ne, i1, i2, i3, i4, i5, i6, i7, i8, hWl', ← hSL, hnN, k64 un unB, k64 u1 u1B, k64 d1 d1B, IntKind.bits]
  refine wpC.mono (Q := fun x s => x = .exit 0 ∧ ∃ (g : Nat) (t : List AV), s = ⟨t, [some (.cells 191 1 (ints .u32 (P ++ (W ++ S))))], nx, [], [], false⟩ ∧ t.length = 175 ∧ getT t 0 = .sl 0 j N ∧ getT t 1 = R32 d ∧ getT t 5 = .int .i64 (n : Int) ∧ getT t 7 = .int .u64 (g : Int) ∧ Guess W d g) ?_ ?_
  · refine loop_v _ rfl (fun m t H nx' fz => H = [some (.cells 191 1 (ints .u32 (P ++ (W ++ S))))] ∧ nx' = nx ∧ fz = [] ∧ ∃ (g r : Nat), m = g ∧ getT t 7 = .int .u64 (g : Int) ∧ getT t 8 = .int .u64 (r : Int) ∧ r < 4294967296 ∧ g * d1 + r = top ∧ val 4294967296 W / val 4294967296 d ≤ g ∧ g ≤ 2 * 4294967296) g0 ?_ ?_
    · exact ⟨rfl, rfl, rfl, g0, r0, rfl, by simp [go_sem, hN], by simp [go_sem, hN], hr0B, hgr, by rw [hg0]; exact hq1, hg0B⟩
    rintro m t H nx' fz ⟨rfl, rfl, rfl, g, r, hmg, t7, t8, hrB, hgr2, hql, hgB⟩ hF
    have hN' : t.length = 175 := by rw [hF.1]; simp [hN]
    have f0 : getT t 0 = .sl 0 j N := by rw [hF.2 0 (by decide)]; simp [go_sem, h0]
    have f1 : getT t 1 = R32 d := by rw [hF.2 1 (by decide)]; simp [go_sem, h1]
    have f5 : getT t 5 = .int .i64 (n : Int) := by rw [hF.2 5 (by decide)]; simp [go_sem, hN]
    clear hF
    have hgr3 : ∀ {g r : Nat}, g * d1 + r = top → g * dg d (n - 1) + r = dg W n * 4294967296 + dg W (n - 1) := fun h => by
      rw [← hn1, ← hd1, ← hun, ← hu1, h, htop2]
    obtain ⟨gh, hgh⟩ : ∃ gh, gh = g / 4294967296 := ⟨_, rfl⟩
    have a1 : ((g : Int)).fdiv 4294967296 = gh := by rw [hgh]; exact fdiv_nat g 4294967296
    obtain ⟨g2, hg2⟩ : ∃ g2, g2 = g - 1 := ⟨_, rfl⟩
    obtain ⟨r2, hr2⟩ : ∃ r2, r2 = r + d1 := ⟨_, rfl⟩
    have a2 : IntKind.u64.wrap ((r : Int) + (d1 : Int)) = r2 := by rw [wrap64]; omega
    obtain ⟨rh, hrh⟩ : ∃ rh, rh = r2 / 4294967296 := ⟨_, rfl⟩
    have a3 : ((r2 : Int)).fdiv 4294967296 = rh := by rw [hrh]; exact fdiv_nat r2 4294967296
    have hgr4 : 0 < g → g2 * d1 + r2 = top := fun hp => by
      obtain ⟨k, rfl⟩ : ∃ k, g = k + 1 := ⟨g - 1, by omega⟩
      rw [hg2, hr2, ← hgr2, Nat.add_sub_cancel, Nat.add_mul]; omega
    by_cases cA : 4294967296 ≤ g
    · have ghn : ¬ gh = 0 := by omega
      have a4 : IntKind.u64.wrap ((g : Int) - 1) = g2 := by rw [wrap64]; omega
      by_cases cr : rh = 0
      · simp [go_sem, t7, t8, hN', f0, f1, f5, hdl, w1, a1, a2, a3, a4, ghn, cr, ← hd1, i1, k64 d1 d1B, IntKind.bits]
        exact ⟨g2, by omega, rfl, by omega, hgr4 (by omega), by omega, by omega⟩
      · simp [go_sem, t7, t8, hN', f0, f1, f5, hdl, w1, a1, a2, a3, a4, ghn, cr, ← hd1, i1, k64 d1 d1B, IntKind.bits]
        exact guess_exit h (hgr3 (hgr4 (by omega))) (by omega) (.inl (by omega))
    · have ghn : gh = 0 := by omega
      obtain ⟨p, hp⟩ : ∃ p, p = g * d2 := ⟨_, rfl⟩
      have hpB : p < 18446744073709551616 := by
        have := Nat.mul_le_mul (show g ≤ 4294967295 by omega) (show d2 ≤ 4294967295 by omega)
        rw [hp]; omega
      have b1 : IntKind.u64.wrap ((g : Int) * (d2 : Int)) = p := by rw [wrap64, ← Int.natCast_mul, ← hp]; omega
      obtain ⟨rB, hrb⟩ : ∃ rB, rB = r * 4294967296 := ⟨_, rfl⟩
      have b2 : IntKind.u64.wrap ((r : Int) * 4294967296) = rB := by rw [wrap64]; omega
      obtain ⟨v, hv⟩ : ∃ v, v = rB ||| u2 := ⟨_, rfl⟩
      have hv2 : v = r * 4294967296 + u2 := by
        rw [hv, hrb, Nat.or_comm, Nat.mul_comm, or_add (r := 32) (by simpa using u2B)]; omega
      have l3 : rB < 18446744073709551616 := by omega
      have l4 : u2 < 18446744073709551616 := by omega
      by_cases cc : v < p
      · have hg1 : 0 < g := by
          rcases Nat.eq_zero_or_pos g with h0 | h0
          · rw [h0, Nat.zero_mul] at hp; omega
          · exact h0
        have hlow := h.low (hgr3 hgr2) (by rw [← hn2, ← hd2, ← hu2, ← hp, ← hv2]; exact cc)
        have a4 : IntKind.u64.wrap ((g : Int) - 1) = g2 := by rw [wrap64]; omega
        by_cases cr : rh = 0
        · simp [go_sem, t7, t8, hN', f0, f1, f5, hdl, w1, w2, a1, a2, a3, a4, b1, b2, ghn, cr, cc, ← hd1, ← hd2, ← hv, mn2, ← hj, hWl', ← hSL, i1, i2, i5, i8, l3, l4, k64 d1 d1B, k64 d2 d2B, k64 u2 u2B, IntKind.bits]
          exact ⟨g2, by omega, rfl, by omega, hgr4 hg1, by omega, by omega⟩
        · simp [go_sem, t7, t8, hN', f0, f1, f5, hdl, w1, w2, a1, a2, a3, a4, b1, b2, ghn, cr, cc, ← hd1, ← hd2, ← hv, mn2, ← hj, hWl', ← hSL, i1, i2, i5, i8, l3, l4, k64 d1 d1B, k64 d2 d2B, k64 u2 u2B, IntKind.bits]
          exact guess_exit h (hgr3 (hgr4 hg1)) (by omega) (.inl (by omega))
      · simp [go_sem, t7, t8, hN', f0, f1, f5, hdl, w2, a1, b1, b2, ghn, cc, ← hd2, ← hv, mn2, ← hj, hWl', ← hSL, i2, i5, i8, l3, l4, k64 d2 d2B, k64 u2 u2B, IntKind.bits]
        exact guess_exit h (hgr3 hgr2) hql (.inr ⟨by omega, by rw [← hn2, ← hd2, ← hu2, ← hp, ← hv2]; omega⟩)
  rintro x s ⟨rfl, g, t, rfl, hN2, f0, f1, f5, t7, hG⟩
  clear w3 w4 w5 w6 htp htop2 hgr hr0B hg0B hg0 hr0 htB hq1 l1 l2 hA h0 h1 hN
  have hgB := hG.lt
  simp [go_sem, hN2, f0, f1, f5, hdl]
  refine wpC.mono (Q := fun x s => x = .exit 2 ∧ ∃ (c b : Nat) (W2 : List Nat) (t : List AV), s = ⟨t, [some (.cells 191 1 (ints .u32 (P ++ (W2 ++ S))))], nx, [], [], false⟩ ∧ t.length = 175 ∧ getT t 0 = .sl 0 j N ∧ getT t 1 = R32 d ∧ getT t 5 = .int .i64 (n : Int) ∧ getT t 7 = .int .u64 (g : Int) ∧ getT t 10 = .int .u64 (c : Int) ∧ getT t 9 = .int .u64 (b : Int) ∧
      c < 4294967296 ∧ b ≤ 1 ∧ W2.length = N ∧ digs 4294967296 W2 ∧ val 4294967296 (W2.take n) + g * val 4294967296 d = val 4294967296 (W.take n) + 4294967296 ^ n * (c + b) ∧ dg W2 n = un) ?_ ?_
  · refine loop_v _ rfl (fun m t H nx' fz => nx' = nx ∧ fz = [] ∧ ∃ (i c b : Nat) (W2 : List Nat), H = [some (.cells 191 1 (ints .u32 (P ++ (W2 ++ S))))] ∧ m + i = n ∧ getT t 88 = .int .i64 (i : Int) ∧ getT t 10 = .int .u64 (c : Int) ∧ getT t 9 = .int .u64 (b : Int) ∧ c < 4294967296 ∧ b ≤ 1 ∧ W2.length = N ∧ digs 4294967296 W2 ∧ val 4294967296 (W2.take i) + g * val 4294967296 (d.take i) = val 4294967296 (W.take i) + 4294967296 ^ i * (c + b) ∧ ∀ k, i ≤ k → dg W2 k = dg W k) n ?_ ?_
    · exact ⟨rfl, rfl, 0, 0, 0, W, rfl, rfl, by simp [go_sem, hN2], by simp [go_sem, hN2], by simp [go_sem, hN2], by omega, by omega, hWl', h.hW, by simp [val], fun _ _ => rfl⟩
    rintro m t2 H nx' fz ⟨rfl, rfl, i, c, b, W2, rfl, hm, t88, t10, t9, hc, hb, hW2l, hW2d, hv, hsame⟩ hF
    have hN3 : t2.length = 175 := by rw [hF.1]; simp [hN2]
    have g0 : getT t2 0 = .sl 0 j N := by rw [hF.2 0 (by decide)]; simp [go_sem, f0]
    have g1 : getT t2 1 = R32 d := by rw [hF.2 1 (by decide)]; simp [go_sem, f1]
    have g5 : getT t2 5 = .int .i64 (n : Int) := by rw [hF.2 5 (by decide)]; simp [go_sem, f5]
    have g7 : getT t2 7 = .int .u64 (g : Int) := by rw [hF.2 7 (by decide)]; simp [go_sem, t7]
    have g86 : getT t2 86 = R32 d := by rw [hF.2 86 (by decide)]; simp [go_sem, hN2]
    have g87 : getT t2 87 = .int .i64 (n : Int) := by rw [hF.2 87 (by decide)]; simp [go_sem, hN2]
    clear hF
    by_cases hi : i < n
    · have hii : (i : Int) < n := by omega
      obtain ⟨di, hdi⟩ : ∃ y, y = dg d i := ⟨_, rfl⟩
      have diB : di < 4294967296 := by rw [hdi]; exact getD_lt h.hd (by omega) _
      obtain ⟨gd, hgd⟩ : ∃ gd, gd = g * di := ⟨_, rfl⟩
      have hgdB : gd ≤ 18446744065119617025 := by
        have := Nat.mul_le_mul (show g ≤ 4294967295 by omega) (show di ≤ 4294967295 by omega)
        rw [hgd]; omega
      have a1 : IntKind.u64.wrap ((g : Int) * (di : Int)) = gd := by rw [wrap64, ← Int.natCast_mul, ← hgd]; omega
      obtain ⟨s, hs⟩ : ∃ s, s = gd + c := ⟨_, rfl⟩
      have a2 : IntKind.u64.wrap ((gd : Int) + (c : Int)) = s := by rw [wrap64]; omega
      obtain ⟨c2, hc2⟩ : ∃ c2, c2 = s / 4294967296 := ⟨_, rfl⟩
      have a3 : ((s : Int)).fdiv 4294967296 = c2 := by rw [hc2]; exact fdiv_nat s 4294967296
      obtain ⟨lo, hlo⟩ : ∃ lo, lo = s % 4294967296 := ⟨_, rfl⟩
      have loB : lo < 4294967296 := by rw [hlo]; exact Nat.mod_lt _ (by omega)
      have a4 : IntKind.u32.wrap (s : Int) = lo := by rw [wrap32]; omega
      obtain ⟨x, hx⟩ : ∃ x, x = dg W i := ⟨_, rfl⟩
      have xB : x < 4294967296 := by rw [hx]; exact getD_lt h.hW (by omega) _
      obtain ⟨t1, tv, y, b2, s1, s2, s3, s4, s5, s6, s7⟩ := sub_words xB loB hb
      have mi : dg (P ++ (W2 ++ S)) (j + i) = x := by rw [hj, dg_mid P W2 S (by omega), hsame i (Nat.le_refl _), hx]
      have hset : (P ++ (W2 ++ S)).set (j + i) y = P ++ (W2.set i y ++ S) := by rw [hj]; exact set_mid P W2 S (by omega)
      obtain ⟨i', hi'⟩ : ∃ i', i' = i + 1 := ⟨_, rfl⟩
      have a5 : IntKind.i64.wrap ((i : Int) + 1) = i' := by rw [wrapI_id (by omega) (by omega)]; omega
      have i9 : i < N := by omega
      have i10 : i < N + SL := by omega
      have hiN : (i : Int) < (N : Int) := by omega
      have hstep := msub_step (B := 4294967296) (W2 := W2) (W := W) (D := d) (s := s) (t := y) (c := c) (b := b) (c2 := c2) (b2 := b2) (by omega) hv (by rw [hs, hgd, hdi]) hc2 (by rw [← hlo, ← hx]; exact s5)
      have hcar := (msub_carry (B := 4294967296) (D := d) (i := i) (g := g) (s := s) (c := c) (by omega) hgB h.hd hc (by rw [hs, hgd, hdi])).1
      rw [← hc2] at hcar
      rw [← hi'] at hstep
      simp [go_sem, t88, t10, t9, hN3, g0, g1, g7, g86, g87, hi, hii, hdl, ← hdi, a1, a2, a3, a4, a5, s1, s2, s3, s4, mi, hset, ← hj, hW2l, ← hSL, i9, i10, hiN, k64 di diB, k64 x xB, k64 lo loB, IntKind.bits]
      exact ⟨m - 1, by omega, i', c2, b2, W2.set i y, rfl, by omega, rfl, rfl, rfl, hcar, s6, by simpa using hW2l, hW2d.set s7 _, hstep, fun k hk => by rw [Go.Nt.getD_set_ne (by omega)]; exact hsame k (by omega)⟩
    · have hii : ¬ (i : Int) < n := by omega
      have hin : i = n := by omega
      subst hin
      rw [List.take_of_length_le (show d.length ≤ i by omega)] at hv
      simp [go_sem, t88, t10, t9, hN3, g0, g1, g5, g7, g86, g87, hii]
      exact ⟨c, b, W2, _, ⟨rfl, rfl⟩, by simp [hN3], by simp [go_sem, g0], by simp [go_sem, g1], by simp [go_sem, g5], by simp [go_sem, g7], by simp [go_sem, t10], by simp [go_sem, t9], hc, hb, hW2l, hW2d, hv, by rw [hsame _ (Nat.le_refl _), hun]⟩
  rintro x s ⟨rfl, c, b, W2, t2, rfl, hN3, g0, g1, g5, g7, t10, t9, hc, hb, hW2l, hW2d, hv, hun2⟩
  obtain ⟨t1, tv, y, b2, s1, s2, s3, s4, s5, s6, s7⟩ := sub_words unB hc hb
  have mi : dg (P ++ (W2 ++ S)) (j + n) = un := by rw [hj, dg_mid P W2 S (by omega), hun2]
  have hset : (P ++ (W2 ++ S)).set (j + n) y = P ++ (W2.set n y ++ S) := by rw [hj]; exact set_mid P W2 S (by omega)
  have hW3l : (W2.set n y).length = n + 1 := by simp; omega
  have hW3d : digs 4294967296 (W2.set n y) := hW2d.set s7 _
  have hW3v : val 4294967296 (W2.set n y) = val 4294967296 (W2.take n) + 4294967296 ^ n * y := by
    rw [val_top hW3l, Go.Nt.take_set, Go.Nt.getD_set_self (by omega)]
  have hVv := val_top hWl
  rw [← hun] at hVv
  have hsum := win_end (Nat.pow_succ 4294967296 n) hv (show y + (c + b) = un + 4294967296 * b2 by omega) hVv
  rw [← hW3v] at hsum
  have hpos : 0 < val 4294967296 d := by obtain ⟨_, _, _, _, _, _, _, _, hp⟩ := h.parts; exact hp
  have g32 : IntKind.u32.wrap (g : Int) = g := by rw [wrap32]; omega
  generalize hW3 : W2.set n y = W3 at *
  by_cases hb2 : b2 = 0
  · obtain ⟨e1, e2⟩ := fin_same hpos hG.low (by simpa [hb2] using hsum)
    simp [go_sem, g0, g1, g5, g7, t10, t9, hN3, s1, s2, s3, s4, hb2, mi, hset, ← hj, hW2l, ← hSL, i3, i6, hnN, k64 un unB, g32, IntKind.bits]
    rw [← e1]
    exact hR W3 hW3l hW3d e2
  have hb1 : b2 = 1 := by omega
  have hW3n : dg W3 n = y := by rw [← hW3, Go.Nt.getD_set_self (by omega)]
  have hW3N : W3.length = N := by omega
  have hXX := Nat.pow_succ 4294967296 n
  have hX3 := val_lt (by omega) hW3d
  rw [hW3l] at hX3
  have hXD := val_lt (by omega) h.hd
  rw [hdl] at hXD
  obtain ⟨X, hX⟩ : ∃ X, X = 4294967296 ^ (n + 1) := ⟨_, rfl⟩
  obtain ⟨Pn, hPn⟩ : ∃ Pn, Pn = 4294967296 ^ n := ⟨_, rfl⟩
  rw [hb1, ← hX, Nat.mul_one] at hsum
  rw [← hX] at hX3 hXX
  rw [← hPn] at hXD hXX
  simp [go_sem, g0, g1, g5, g7, t10, t9, hN3, s1, s2, s3, s4, hb2, mi, hset, ← hj, hW2l, ← hSL, i3, i6, hnN, k64 un unB, g32, hdl, IntKind.bits]
  refine wpC.mono (Q := fun x s => x = .exit 4 ∧ ∃ (c : Nat) (W4 : List Nat) (t : List AV), s = ⟨t, [some (.cells 191 1 (ints .u32 (P ++ (W4 ++ S))))], nx, [], [], false⟩ ∧ t.length = 175 ∧ getT t 0 = .sl 0 j N ∧ getT t 5 = .int .i64 (n : Int) ∧ getT t 7 = .int .u64 (g : Int) ∧ getT t 10 = .int .u64 (c : Int) ∧ c ≤ 1 ∧ W4.length = N ∧ digs 4294967296 W4 ∧ val 4294967296 (W4.take n) + 4294967296 ^ n * c = val 4294967296 (W3.take n) + val 4294967296 d ∧ dg W4 n = y) ?_ ?_
  · refine loop_v _ rfl (fun m t H nx' fz => nx' = nx ∧ fz = [] ∧ ∃ (i c : Nat) (W4 : List Nat), H = [some (.cells 191 1 (ints .u32 (P ++ (W4 ++ S))))] ∧ m + i = n ∧ getT t 141 = .int .i64 (i : Int) ∧ getT t 10 = .int .u64 (c : Int) ∧ c ≤ 1 ∧ W4.length = N ∧ digs 4294967296 W4 ∧ val 4294967296 (W4.take i) + 4294967296 ^ i * c = val 4294967296 (W3.take i) + val 4294967296 (d.take i) ∧ ∀ k, i ≤ k → dg W4 k = dg W3 k) n ?_ ?_
    · exact ⟨rfl, rfl, 0, 0, W3, rfl, rfl, by simp [go_sem, hN3], by simp [go_sem, hN3], by omega, hW3N, hW3d, by simp [val], fun _ _ => rfl⟩
    rintro m t3 H nx' fz ⟨rfl, rfl, i, c, W4, rfl, hm, u141, u10, hc, hW4l, hW4d, hv4, hsame⟩ hF
    have hN4 : t3.length = 175 := by rw [hF.1]; simp [hN3]
    have f0 : getT t3 0 = .sl 0 j N := by rw [hF.2 0 (by decide)]; simp [go_sem, g0]
    have f5 : getT t3 5 = .int .i64 (n : Int) := by rw [hF.2 5 (by decide)]; simp [go_sem, g5]
    have f7 : getT t3 7 = .int .u64 (g : Int) := by rw [hF.2 7 (by decide)]; simp [go_sem, g7]
    have f139 : getT t3 139 = R32 d := by rw [hF.2 139 (by decide)]; simp [go_sem, hN3]
    have f140 : getT t3 140 = .int .i64 (n : Int) := by rw [hF.2 140 (by decide)]; simp [go_sem, hN3]
    clear hF
    by_cases hi : i < n
    · have hii : (i : Int) < n := by omega
      obtain ⟨di, hdi⟩ : ∃ y, y = dg d i := ⟨_, rfl⟩
      have diB : di < 4294967296 := by rw [hdi]; exact getD_lt h.hd (by omega) _
      obtain ⟨x, hx⟩ : ∃ x, x = dg W3 i := ⟨_, rfl⟩
      have xB : x < 4294967296 := by rw [hx]; exact getD_lt hW3d (by omega) _
      have mi : dg (P ++ (W4 ++ S)) (j + i) = x := by rw [hj, dg_mid P W4 S (by omega), hsame i (Nat.le_refl _), hx]
      obtain ⟨xd, hxd⟩ : ∃ xd, xd = x + di := ⟨_, rfl⟩
      have a1 : IntKind.u64.wrap ((x : Int) + (di : Int)) = xd := by rw [wrap64]; omega
      obtain ⟨s, hs⟩ : ∃ s, s = xd + c := ⟨_, rfl⟩
      have a2 : IntKind.u64.wrap ((xd : Int) + (c : Int)) = s := by rw [wrap64]; omega
      obtain ⟨z, hz⟩ : ∃ z, z = s % 4294967296 := ⟨_, rfl⟩
      have a3 : IntKind.u32.wrap (s : Int) = z := by rw [wrap32]; omega
      obtain ⟨c2, hc2⟩ : ∃ c2, c2 = s / 4294967296 := ⟨_, rfl⟩
      have a4 : ((s : Int)).fdiv 4294967296 = c2 := by rw [hc2]; exact fdiv_nat s 4294967296
      have zB : z < 4294967296 := by rw [hz]; exact Nat.mod_lt _ (by omega)
      have hset : (P ++ (W4 ++ S)).set (j + i) z = P ++ (W4.set i z ++ S) := by rw [hj]; exact set_mid P W4 S (by omega)
      obtain ⟨i', hi'⟩ : ∃ i', i' = i + 1 := ⟨_, rfl⟩
      have a5 : IntKind.i64.wrap ((i : Int) + 1) = i' := by rw [wrapI_id (by omega) (by omega)]; omega
      have i9 : i < N := by omega
      have i10 : i < N + SL := by omega
      have hiN : (i : Int) < (N : Int) := by omega
      have hs' : s = dg W3 i + c + dg d i := by rw [hs, hxd, hx, hdi]; omega
      have hstep := add_step (B := 4294967296) (L := W4) (a := W3) (b := d) (c := c) (by omega) hv4 hs'
      have hcar := add_carry (B := 4294967296) (by omega) hW3d h.hd hc hs'
      rw [← hz, ← hc2, ← hi'] at hstep
      rw [← hc2] at hcar
      simp [go_sem, u141, u10, hN4, f0, f139, f140, hi, hii, hdl, ← hdi, a1, a2, a3, a4, a5, mi, hset, ← hj, hW4l, ← hSL, i9, i10, hiN, k64 di diB, k64 x xB, IntKind.bits]
      exact ⟨m - 1, by omega, i', c2, W4.set i z, rfl, by omega, rfl, rfl, hcar, by simpa using hW4l, hW4d.set zB _, hstep, fun k hk => by rw [Go.Nt.getD_set_ne (by omega)]; exact hsame k (by omega)⟩
    · have hii : ¬ (i : Int) < n := by omega
      have hin : i = n := by omega
      subst hin
      rw [List.take_of_length_le (show d.length ≤ i by omega)] at hv4
      simp [go_sem, u141, u10, hN4, f0, f5, f7, f139, f140, hii]
      exact ⟨c, W4, _, ⟨rfl, rfl⟩, by simp [hN4], by simp [go_sem, f0], by simp [go_sem, f5], by simp [go_sem, f7], by simp [go_sem, u10], hc, hW4l, hW4d, hv4, by rw [hsame _ (Nat.le_refl _), hW3n]⟩
  rintro x s ⟨rfl, c, W4, t3, rfl, hN4, f0, f5, f7, u10, hc, hW4l, hW4d, hv4, hy4⟩
  obtain ⟨z, hz⟩ : ∃ z, z = (y + c) % 4294967296 := ⟨_, rfl⟩
  obtain ⟨e, he⟩ : ∃ e, e = (y + c) / 4294967296 := ⟨_, rfl⟩
  have zB : z < 4294967296 := by rw [hz]; exact Nat.mod_lt _ (by omega)
  have a1 : IntKind.u32.wrap (c : Int) = c := by rw [wrap32]; omega
  have a2 : IntKind.u32.wrap ((y : Int) + (c : Int)) = z := by rw [wrap32]; omega
  have mi : dg (P ++ (W4 ++ S)) (j + n) = y := by rw [hj, dg_mid P W4 S (by omega), hy4]
  have hset : (P ++ (W4 ++ S)).set (j + n) z = P ++ (W4.set n z ++ S) := by rw [hj]; exact set_mid P W4 S (by omega)
  have hW5l : (W4.set n z).length = n + 1 := by simp; omega
  have hW5d : digs 4294967296 (W4.set n z) := hW4d.set zB _
  have hW5v : val 4294967296 (W4.set n z) = val 4294967296 (W4.take n) + 4294967296 ^ n * z := by
    rw [val_top hW5l, Go.Nt.take_set, Go.Nt.getD_set_self (by omega)]
  have hV3 := val_top hW3l
  rw [hW3n, ← hPn] at hV3
  have hX5 := val_lt (by omega) hW5d
  rw [hW5l, ← hX] at hX5
  rw [← hPn] at hv4 hW5v
  have hyce : z + 4294967296 * e = y + c := by omega
  have hb5 : val 4294967296 (W4.set n z) + X * e = val 4294967296 W3 + val 4294967296 d := by
    have k1 : Pn * z + X * e = Pn * y + Pn * c := by rw [← Nat.mul_add, ← hyce, Nat.mul_add, hXX, Nat.mul_assoc]
    omega
  have hDX : val 4294967296 d < X := by
    have : Pn * 1 ≤ Pn * 4294967296 := Nat.mul_le_mul_left _ (by omega)
    omega
  obtain ⟨e1, e2⟩ := fin_back hpos hG.high hX3 hX5 hDX (show e ≤ 1 by omega) hsum hb5
  have hg1 : 0 < g := by
    rcases Nat.eq_zero_or_pos g with h0 | h0
    · rw [h0, Nat.zero_mul] at hsum; omega
    · exact h0
  obtain ⟨g2, hg2⟩ : ∃ g2, g2 = g - 1 := ⟨_, rfl⟩
  have a4 : IntKind.u64.wrap ((g : Int) - 1) = g2 := by rw [wrap64]; omega
  have a5 : IntKind.u32.wrap (g2 : Int) = g2 := by rw [wrap32]; omega
  rw [← hg2] at e1
  generalize hW5 : W4.set n z = W5 at *
  simp [go_sem, f0, f5, f7, u10, hN4, a1, a2, a4, a5, mi, hset, ← hj, hW4l, ← hSL, i3, i6, hnN, IntKind.bits]
  rw [← e1]
  exact hR W5 hW5l hW5d e2
end
end Go.Am
end
section
set_option maxHeartbeats 16000000
namespace Go.Am
open Go Go.Nt
section
variable {E : Env} {n m a b k x : Nat} {H : Heap} {nx : Nat} {fz : List Nat} {R : Back → Prop}
theorem tch_ints {l : List Nat} {H : Heap} {k : IntKind} : (ints k l).flatMap (tch H (n + 1)) = [] := by
  rw [List.flatMap_eq_nil_iff]
  intro x hx
  obtain ⟨y, _, rfl⟩ := List.mem_map.1 hx
  rfl
theorem digit_call (L : LibW E) {P W S d : List Nat} {j N : Nat} {B1 : Option Blk} (h : Win W d n) (hsz : P.length + (n + 1 + S.length) < 1000000000) (hj : j = P.length) (hN : N = n + 1)
    (hR : ∀ W', W'.length = n + 1 → digs 4294967296 W' → val 4294967296 W' = val 4294967296 W % val 4294967296 d → R ⟨.ret (.int .u32 ((val 4294967296 W / val 4294967296 d : Nat) : Int)), [some (.cells 191 1 (ints .u32 (P ++ (W' ++ S)))), B1], 2, [], false⟩) :
    wpA E id_word_digit [.sl 0 j N, R32 d] [some (.cells 191 1 (ints .u32 (P ++ (W ++ S)))), B1] 2 [] R := by
  subst hj
  subst hN
  have ht : [AV.sl 0 P.length (n + 1), R32 d].flatMap (tch [some (.cells 191 1 (ints .u32 (P ++ (W ++ S)))), B1] (depthOf 2)) = [0] := by
    show 0 :: (((ints .u32 (P ++ (W ++ S))).drop P.length).take ((n + 1) * 1)).flatMap _ ++ [] = [0]
    rw [ints_drop, ints_take, tch_ints]; rfl
  refine wpA_heap L.digit.1 L.digit.2.1 L.digit.2.2 rfl ?_
  rw [ht]
  refine digit_wp L h hsz fun W' h1 h2 h3 => ⟨Nat.le_refl _, ?_⟩
  exact hR W' h1 h2 h3
end
section
variable {B n : Nat}
theorem div_cut {M d : List Nat} {i : Nat} (hB : 0 < B) (hM : digs B M) (hd : digs B d) (hdl : d.length = n) (hi : i + (n + 1) ≤ M.length) (hlt : val B M < val B d * B ^ (i + 1)) :
    ∃ P W S, M = P ++ (W ++ S) ∧ P.length = i ∧ digs B P ∧ digs B S ∧ M.length = i + (n + 1 + S.length) ∧ digs B W ∧ W.length = n + 1 ∧ val B W < B * val B d ∧ val B M = val B P + B ^ i * val B W ∧ val B S = 0 := by
  obtain ⟨P, hP⟩ : ∃ P, P = M.take i := ⟨_, rfl⟩
  obtain ⟨W, hW⟩ : ∃ W, W = (M.drop i).take (n + 1) := ⟨_, rfl⟩
  obtain ⟨S, hS⟩ : ∃ S, S = (M.drop i).drop (n + 1) := ⟨_, rfl⟩
  have e : M = P ++ (W ++ S) := by rw [hW, hS, List.take_append_drop, hP, List.take_append_drop]
  have lP : P.length = i := by rw [hP, List.length_take]; omega
  have lW : W.length = n + 1 := by rw [hW, List.length_take, List.length_drop]; omega
  have lS : M.length = i + (n + 1 + S.length) := by rw [e]; simp [lP, lW]
  have dP : digs B P := by rw [hP]; exact hM.take _
  have dW : digs B W := by rw [hW]; exact (hM.drop _).take _
  have dS : digs B S := by rw [hS]; exact (hM.drop _).drop _
  have v : val B M = val B P + B ^ i * (val B W + B ^ (n + 1) * val B S) := by
    rw [e, val_append, val_append, lP, lW]
  have hD := val_lt hB hd
  rw [hdl] at hD
  have hlt2 : B ^ i * (val B W + B ^ (n + 1) * val B S) < B ^ i * (B * val B d) := by
    have : val B d * B ^ (i + 1) = B ^ i * (B * val B d) := by
      rw [Nat.pow_succ, Nat.mul_comm, Nat.mul_assoc]
    rw [this] at hlt
    exact Nat.lt_of_le_of_lt (by omega) hlt
  have hlt3 := Nat.lt_of_mul_lt_mul_left hlt2
  have hS0 : val B S = 0 := by
    rcases Nat.eq_zero_or_pos (val B S) with h | h
    · exact h
    · have h1 : B ^ (n + 1) * 1 ≤ B ^ (n + 1) * val B S := Nat.mul_le_mul_left _ h
      have h3 : B ^ (n + 1) = B ^ n * B := Nat.pow_succ ..
      have h4 : B * val B d ≤ B * B ^ n := Nat.mul_le_mul_left _ (Nat.le_of_lt hD)
      rw [Nat.mul_comm B (B ^ n), ← h3] at h4
      omega
  rw [hS0] at hlt3 v
  exact ⟨P, W, S, e, lP, dP, dS, lS, dW, lW, by omega, by rw [v]; simp, hS0⟩
theorem div_next {P W W' S q : List Nat} {A D i y : Nat} (hB : 0 < B) (hP : digs B P) (lP : P.length = i) (hS0 : val B S = 0) (hD : 0 < D) (hiq : i < q.length)
    (hv : val B P + B ^ i * val B W + D * (B ^ (i + 1) * val B (q.drop (i + 1))) = A) (hW' : val B W' = val B W % D) (hy : y = val B W / D) :
    val B (P ++ (W' ++ S)) + D * (B ^ i * val B ((q.set i y).drop i)) = A ∧ val B (P ++ (W' ++ S)) < D * B ^ i := by
  have e1 : val B (P ++ (W' ++ S)) = val B P + B ^ i * (val B W % D) := by
    rw [val_append, val_append, lP, hS0, hW']; simp
  have e2 : val B ((q.set i y).drop i) = y + B * val B (q.drop (i + 1)) := by
    rw [val_drop, Go.Nt.getD_set_self hiq, List.drop_set_of_lt (by omega)]
  have hw : D * y + val B W % D = val B W := by rw [hy]; exact Nat.div_add_mod _ _
  have hr := Nat.mod_lt (val B W) hD
  have hP2 := val_lt hB hP
  rw [lP] at hP2
  rw [e1, e2]
  generalize val B W % D = r at *
  generalize val B (q.drop (i + 1)) = Q at *
  generalize val B P = p at *
  generalize val B W = w at *
  rw [Nat.pow_succ] at hv
  generalize B ^ i = X at *
  subst hw
  refine ⟨?_, ?_⟩
  · rw [← hv]
    have : X * (D * y + r) = X * r + D * (X * y) := by rw [Nat.mul_add, Nat.mul_left_comm X D y, Nat.add_comm]
    rw [this, Nat.mul_add X y, Nat.mul_add D, Nat.mul_assoc X B Q]
    omega
  · have h1 : X * r + X * 1 ≤ X * D := by rw [← Nat.mul_add]; exact Nat.mul_le_mul_left _ (by omega)
    rw [Nat.mul_comm D X]
    omega
theorem div_room {a A D k la lb e : Nat} (ha : a < B ^ la) (hA : A = a * k) (hD : B ^ (lb - 1) * e ≤ D) (hlb : 1 ≤ lb) (hl : lb ≤ la) (hk : k ≤ e) (he : 0 < e) : A < D * B ^ (la - lb + 1) := by
  have h1 : B ^ (lb - 1) * B ^ (la - lb + 1) = B ^ la := by rw [← Nat.pow_add]; congr 1; omega
  have h2 : B ^ la * e ≤ D * B ^ (la - lb + 1) := by
    rw [← h1, Nat.mul_right_comm]; exact Nat.mul_le_mul_right _ hD
  have h3 : a * k ≤ a * e := Nat.mul_le_mul_left _ hk
  have h4 : a * e < B ^ la * e := Nat.mul_lt_mul_of_pos_right ha he
  omega
theorem top_split {d : List Nat} (hl : d.length = n) (hn : 1 ≤ n) : val B d = val B (d.take (n - 1)) + B ^ (n - 1) * dg d (n - 1) := by
  rw [← val_take_succ, show n - 1 + 1 = n by omega, List.take_of_length_le (by omega)]
theorem top_ge {d : List Nat} {e : Nat} (hB : 0 < B) (hd : digs B d) (hl : d.length = n) (hn : 1 ≤ n) (h : B ^ (n - 1) * e ≤ val B d) : e ≤ dg d (n - 1) := by
  have h1 := top_split (B := B) hl hn
  have h2 := val_lt hB (hd.take (n - 1))
  rw [List.length_take, hl, Nat.min_eq_left (by omega)] at h2
  have h3 : B ^ (n - 1) * e < B ^ (n - 1) * (dg d (n - 1) + 1) := by rw [Nat.mul_add]; omega
  have := Nat.lt_of_mul_lt_mul_left h3
  omega
theorem norm_top {b top c e : Nat} (hB : 2 ≤ B) (hb : 0 < b) (hn : n = (dig B b).length) (ht : top = dg (dig B b) (n - 1)) (hc : (top + 1) * c ≤ B) (he : e ≤ top * c) (hc0 : 0 < c) : (dig B (b * c)).length = n ∧ e ≤ dg (dig B (b * c)) (n - 1) ∧ B ^ (n - 1) * e ≤ b * c := by
  have hn1 : 1 ≤ n := by rw [hn]; exact dig_len_pos hB hb
  have h1 := top_split (B := B) hn.symm hn1
  rw [val_dig hB, ← ht] at h1
  have h2 := val_lt (by omega) ((digs_dig hB b).take (n - 1))
  rw [List.length_take, ← hn, Nat.min_eq_left (by omega)] at h2
  have h3 : b * c < B ^ n := by
    have h4 : b < B ^ (n - 1) * (top + 1) := by rw [Nat.mul_add]; omega
    have h5 : b * c < B ^ (n - 1) * (top + 1) * c := Nat.mul_lt_mul_of_pos_right h4 hc0
    rw [Nat.mul_assoc] at h5
    have h6 : B ^ (n - 1) * ((top + 1) * c) ≤ B ^ (n - 1) * B := Nat.mul_le_mul_left _ hc
    rw [← Nat.pow_succ, show (n - 1).succ = n by omega] at h6
    omega
  have h7 : (dig B (b * c)).length ≤ n := (dig_len_le hB _ _).2 h3
  have h8 : n ≤ (dig B (b * c)).length := by
    refine Classical.byContradiction fun hno => ?_
    have h9 := dig_len_lt hB (n := b * c) (m := b) (by omega)
    have : b * 1 ≤ b * c := Nat.mul_le_mul_left _ hc0
    omega
  have hl : (dig B (b * c)).length = n := by omega
  have h10 : B ^ (n - 1) * e ≤ b * c := by
    have h11 : B ^ (n - 1) * e ≤ B ^ (n - 1) * (top * c) := Nat.mul_le_mul_left _ he
    have h12 : B ^ (n - 1) * top * c ≤ b * c := Nat.mul_le_mul_right _ (by omega)
    rw [← Nat.mul_assoc] at h11
    omega
  exact ⟨hl, top_ge (by omega) (digs_dig hB _) hl hn1 (by rw [val_dig hB]; exact h10), h10⟩
theorem norm_word {top len k p : Nat} (ht : 0 < top) (htB : top < 2 ^ p) (hlen : len = (dig 2 top).length) (hk : k = p - len) (hp : 1 ≤ p) : (top + 1) * 2 ^ k ≤ 2 ^ p ∧ 2 ^ (p - 1) ≤ top * 2 ^ k ∧ 1 ≤ len ∧ len ≤ p := by
  have h1 : len ≤ p := by rw [hlen]; exact (dig_len_le (by omega) _ _).2 htB
  have h2 : 1 ≤ len := by rw [hlen]; exact dig_len_pos (by omega) ht
  have h3 : top < 2 ^ len := (dig_len_le (by omega) _ _).1 (by omega)
  have h4 := pow_le_of_dig_len (B := 2) (by omega) ht
  rw [← hlen] at h4
  refine ⟨?_, ?_, h2, h1⟩
  · have := Nat.mul_le_mul_right (2 ^ k) (show top + 1 ≤ 2 ^ len by omega)
    rw [← Nat.pow_add, show len + k = p by omega] at this
    exact this
  · have := Nat.mul_le_mul_right (2 ^ k) h4
    rw [← Nat.pow_add, show len - 1 + k = p - 1 by omega] at this
    exact this
theorem top_pos {b : Nat} (hB : 2 ≤ B) (hb : 0 < b) : 0 < dg (dig B b) ((dig B b).length - 1) := by
  have h := dig_last hB b
  have hl := dig_len_pos hB hb
  refine Nat.pos_of_ne_zero fun h0 => h ?_
  rw [List.getLast?_eq_getElem?, List.getElem?_eq_getElem (by omega), ← getD_eq (by omega), h0]
end
end Go.Am
end
section
set_option maxHeartbeats 16000000
namespace Go.Am
open Go Go.Nt
section
variable {E : Env} {n m a b k x : Nat} {H : Heap} {nx : Nat} {fz : List Nat} {R : Back → Prop}
@[go_sem] theorem pure_some {v : AV} : Out.pure H nx (some v) = some (v, H, nx) := rfl
@[go_sem] theorem part_ints0 {l : List Nat} {k : IntKind} (h : 0 < l.length) : partA false (ints k l) 0 1 = some (.int k ((dg l 0 : Nat) : Int)) := by
  have := part_ints (k := k) h
  rwa [List.drop_zero] at this
theorem cmp_call' (L : LibW E) (ha : (dig 4294967296 a).length < 1000000000) (hb : (dig 4294967296 b).length < 1000000000) : wpA E id_word_Nat_Cmp [N32 a, N32 b] H nx fz R ↔ R ⟨.ret (.int .i64 (ord a b)), H, nx, fz, false⟩ := wpA_iff (cmp_val L (by omega) (by omega)) rfl
theorem div_val (L : LibW E) (hb : 0 < b) (hsa : (dig 4294967296 a).length < 100000000) (hsb : (dig 4294967296 b).length < 100000000) : Val E id_word_Nat_Div [N32 a, N32 b] (.tuple [N32 (a / b), N32 (a % b)]) := by
  refine val_fn L.div rfl (by simp) fun T hN hA => ?_
  have h0 := hA 0 _ rfl
  have h1 := hA 1 _ rfl
  by_cases hlt : a < b
  · have e1 : a / b = 0 := Nat.div_eq_of_lt hlt
    have e2 : a % b = a := Nat.mod_eq_of_lt hlt
    have e3 : ord a b = -1 := by simp [ord, hlt]
    simp [go_sem, h0, h1, hN, cmp_call' L (show (dig 4294967296 a).length < 1000000000 by omega) (show (dig 4294967296 b).length < 1000000000 by omega), e3, e1, e2, dig_zero, ints]
  have ho : ¬ ord a b < 0 := by unfold ord; rw [if_neg hlt]; split <;> omega
  by_cases hs1 : (dig 4294967296 b).length = 1
  · obtain ⟨e1, e2⟩ := sz_one hs1
    have hm : a % b < b := Nat.mod_lt _ hb
    obtain ⟨r, hr⟩ : ∃ r, r = a % b := ⟨_, rfl⟩
    have hr' : ((a : Nat) : Int) % (b : Int) = r := by rw [hr]; simp
    have e3 : IntKind.u64.wrap (r : Int) = r := by rw [wrap64]; omega
    have hg : dg (dig 4294967296 b) 0 = b := by rw [e1]; rfl
    simp [go_sem, h0, h1, hN, cmp_call' L (show (dig 4294967296 a).length < 1000000000 by omega) (show (dig 4294967296 b).length < 1000000000 by omega), ho, hs1, hg, divs_call L (digs_N a) (show (dig 4294967296 a).length < 1000000000 by omega) hb e2, val_dig hB, hr', e3, small_call L (show r < 18446744073709551616 by omega), resV]
    rw [hr]; exact ⟨rfl, rfl⟩
  obtain ⟨n, hn⟩ : ∃ n, n = (dig 4294967296 b).length := ⟨_, rfl⟩
  have hn1 : 1 ≤ n := by rw [hn]; exact dig_len_pos hB hb
  have hn2 : 2 ≤ n := by omega
  obtain ⟨top, ht⟩ : ∃ top, top = dg (dig 4294967296 b) (n - 1) := ⟨_, rfl⟩
  have htB : top < 4294967296 := by rw [ht]; exact getD_lt (digs_N b) (by omega) _
  have htp : 0 < top := by rw [ht, hn]; exact top_pos hB hb
  obtain ⟨len, hlen⟩ : ∃ len, len = (dig 2 top).length := ⟨_, rfl⟩
  obtain ⟨k, hk⟩ : ∃ k, k = 32 - len := ⟨_, rfl⟩
  obtain ⟨q1, q2, q3, q4⟩ := norm_word (p := 32) htp (by simpa using htB) hlen hk (by omega)
  have hc0 : 0 < 2 ^ k := Nat.pow_pos (by omega)
  obtain ⟨c, hc⟩ : ∃ c, c = 2 ^ k := ⟨_, rfl⟩
  rw [← hc] at q1 q2 hc0
  obtain ⟨dl, dtop, dge⟩ := norm_top (e := 2147483648) hB hb hn ht (by simpa using q1) (by simpa using q2) hc0
  obtain ⟨D, hD⟩ : ∃ D, D = b * c := ⟨_, rfl⟩
  obtain ⟨A, hA'⟩ : ∃ A, A = a * c := ⟨_, rfl⟩
  rw [← hD] at dl dtop dge
  have hcB : c ≤ 2147483648 := by
    have : k ≤ 31 := by omega
    have := Nat.pow_le_pow_right (show 0 < 2 by omega) this
    rw [hc]; simpa using this
  have hDpos : 0 < D := by rw [hD]; exact Nat.mul_pos hb hc0
  obtain ⟨la, hla⟩ : ∃ la, la = (dig 4294967296 a).length := ⟨_, rfl⟩
  have hsz : n ≤ la := by
    rw [hn, hla]
    refine Classical.byContradiction fun hno => ?_
    have := dig_len_lt hB (n := a) (m := b) (by omega)
    omega
  have haB : a < 4294967296 ^ la := (dig_len_le hB la a).1 (by omega)
  obtain ⟨Q, hQ⟩ : ∃ Q, Q = la - n + 1 := ⟨_, rfl⟩
  have hroom := div_room (B := 4294967296) (e := 2147483648) haB hA' dge hn1 hsz hcB (by omega)
  rw [← hQ] at hroom
  obtain ⟨N, hN1⟩ : ∃ N, N = la + 1 := ⟨_, rfl⟩
  have hAl : (dig 4294967296 A).length ≤ N := by
    refine (dig_len_le hB _ _).2 ?_
    rw [hN1, Nat.pow_succ, hA']
    exact Nat.lt_of_le_of_lt (Nat.mul_le_mul_left a (show c ≤ 4294967296 by omega)) (Nat.mul_lt_mul_of_pos_right haB (by omega))
  have w1 : IntKind.i64.wrap ((n : Int) - 1) = ((n - 1 : Nat) : Int) := by rw [wrapI_id (by omega) (by omega)]; omega
  have w2 : (32 : Int) - (len : Int) = (k : Int) := by omega
  have w3 : IntKind.i64.wrap ((la : Int) + 1) = N := by rw [wrapI_id (by omega) (by omega)]; omega
  obtain ⟨z, hz⟩ : ∃ z, z = la - n := ⟨_, rfl⟩
  have w4 : IntKind.i64.wrap ((la : Int) - (n : Int)) = z := by rw [wrapI_id (by omega) (by omega)]; omega
  have w5 : IntKind.i64.wrap ((z : Int) + 1) = Q := by rw [wrapI_id (by omega) (by omega)]; omega
  have w6 : IntKind.i64.wrap ((Q : Int) - 1) = (Q : Int) - 1 := wrapI_id (by omega) (by omega)
  have i1 : n - 1 < n := by omega
  have i2 : ((n - 1 : Nat) : Int) < (n : Int) := by omega
  have r1 : (N : Int) * 4 ≤ 140737488355328 := by omega
  have r2 : (N : Int) ≤ 9223372036854775807 := by omega
  have r3 : (Q : Int) * 4 ≤ 140737488355328 := by omega
  have r4 : (Q : Int) ≤ 9223372036854775807 := by omega
  have hs1' : ¬ n = 1 := by omega
  have hs1i : ¬ (n : Int) = 1 := by omega
  have clz := fun H nx fz R => clz32_call (H := H) (nx := nx) (fz := fz) (R := R) L htB
  rw [← hlen, w2] at clz
  have shb := fun H nx fz R => shl_call (n := k) (H := H) (nx := nx) (fz := fz) (R := R) L (digs_N b) (show (dig 4294967296 b).length < 1000000000 by omega) (by omega)
  have sha := fun H nx fz R => shl_call (n := k) (H := H) (nx := nx) (fz := fz) (R := R) L (digs_N a) (show (dig 4294967296 a).length < 1000000000 by omega) (by omega)
  rw [val_dig hB, ← hc, ← hD] at shb
  rw [val_dig hB, ← hc, ← hA'] at sha
  simp [go_sem, srcA, h0, h1, hN, cmp_call' L (show (dig 4294967296 a).length < 1000000000 by omega) (show (dig 4294967296 b).length < 1000000000 by omega), ho, ← hn, ← hla, hs1', hs1i, w1, w3, w4, w5, w6, i1, i2, ← ht, clz, shb, sha, r1, r2, r3, r4, dl]
  have hcopy : List.take (min (dig 4294967296 A).length N) (ints .u32 (dig 4294967296 A)) ++ List.drop (min (dig 4294967296 A).length N) (ints .u32 (List.replicate N 0)) = ints .u32 (dig 4294967296 A ++ List.replicate (N - (dig 4294967296 A).length) 0) := by
    rw [Nat.min_eq_left hAl, ints_take, ints_drop, List.take_of_length_le (Nat.le_refl _), List.drop_replicate, ints_append]
  rw [hcopy]
  clear hcopy
  clear clz shb sha r1 r2 r3 r4
  refine loop_v _ rfl (fun m t H nx fz => nx = 2 ∧ fz = [] ∧ ∃ (M q : List Nat), H = [some (.cells 191 1 (ints .u32 M)), some (.cells 191 1 (ints .u32 q))] ∧ m ≤ Q ∧ getT t 12 = .int .i64 ((m : Int) - 1) ∧ M.length = N ∧ digs 4294967296 M ∧ q.length = Q ∧ digs 4294967296 q ∧ val 4294967296 M + D * (4294967296 ^ m * val 4294967296 (q.drop m)) = A ∧ val 4294967296 M < D * 4294967296 ^ m) Q ?_ ?_
  · refine ⟨rfl, rfl, _, List.replicate Q 0, rfl, Nat.le_refl _, by simp [go_sem, hN], by simp; omega, digs_append.2 ⟨digs_N A, digs_replicate (by omega) _⟩, by simp, digs_replicate (by omega) _, ?_, ?_⟩
    · rw [List.drop_of_length_le (by simp), val_append, val_replicate, val_dig hB]; simp [val]
    · rw [val_append, val_replicate, val_dig hB]; simpa using hroom
  rintro m t H nx fz ⟨rfl, rfl, M, q, rfl, hm, ht12, hML, hMd, hqL, hqd, hv, hlt2⟩ hF
  have hN' : t.length = 85 := by rw [hF.1]; simp [hN]
  have f8 : getT t 8 = .int .i64 (k : Int) := by rw [hF.2 8 (by decide)]; simp [go_sem, hN]
  have f9 : getT t 9 = N32 D := by rw [hF.2 9 (by decide)]; simp [go_sem, hN]
  have f10 : getT t 10 = .sl 0 0 N := by rw [hF.2 10 (by decide)]; simp [go_sem, hN]
  have f11 : getT t 11 = .sl 1 0 Q := by rw [hF.2 11 (by decide)]; simp [go_sem, hN]
  clear hF
  by_cases hm0 : m = 0
  · subst hm0
    rw [List.drop_zero, Nat.pow_zero, Nat.one_mul] at hv
    rw [Nat.pow_zero, Nat.mul_one] at hlt2
    have g1 : val 4294967296 q = a / b := by
      have : A / D = val 4294967296 q := by rw [← hv, Nat.add_comm, Nat.mul_add_div hDpos, Nat.div_eq_of_lt hlt2, Nat.add_zero]
      rw [← this, hA', hD, Nat.mul_div_mul_right _ _ hc0]
    have g2 : val 4294967296 M / 2 ^ k = a % b := by
      have : A % D = val 4294967296 M := by rw [← hv, Nat.add_comm, Nat.mul_add_mod, Nat.mod_eq_of_lt hlt2]
      rw [← this, hA', hD, Nat.mul_mod_mul_right, ← hc, Nat.mul_div_cancel _ hc0]
    simp [go_sem, hN', ht12, f8, f9, f10, f11]
    rw [wpA_frz_iff (of_val L q hqd (by omega)) (by simp [go_sem, frz_sli (l := q) (b := 1) (getB_cons_succ.trans getB_cons_zero), ← hqL])]
    simp [go_sem, hN', ht12, f8, f9, f10, f11, resV]
    rw [wpA_frz_iff (of_val L M hMd (by omega)) (by simp [go_sem, frz_sli (l := M) (b := 0) getB_cons_zero, ← hML])]
    have shr := fun H nx fz R => shr_call (n := k) (H := H) (nx := nx) (fz := fz) (R := R) L (digs_N (val 4294967296 M)) (Nat.lt_of_le_of_lt (dig_length_le hB hMd) (by omega)) (by omega)
    rw [val_dig hB, g2] at shr
    simp [go_sem, hN', ht12, f8, f9, f10, f11, resV, shr, g1]
  obtain ⟨i, rfl⟩ : ∃ i, m = i + 1 := ⟨m - 1, by omega⟩
  obtain ⟨P, W, S, rfl, lP, dP, dS, lS, dW, lW, hWlt, hMv, hS0⟩ := div_cut (B := 4294967296) (n := n) (i := i) (by omega) hMd (digs_N D) dl (by omega) (by rw [val_dig hB]; exact hlt2)
  have hwin : Win W (dig 4294967296 D) n := ⟨digs_N D, dW, dl, lW, hn2, dtop, hWlt⟩
  obtain ⟨ei, hei⟩ : ∃ ei, ei = i + (n + 1) := ⟨_, rfl⟩
  obtain ⟨es, hes⟩ : ∃ es, es = i + n := ⟨_, rfl⟩
  have v1 : IntKind.i64.wrap ((i : Int) + (n : Int)) = es := by rw [wrapI_id (by omega) (by omega)]; omega
  have v2 : IntKind.i64.wrap ((es : Int) + 1) = ei := by rw [wrapI_id (by omega) (by omega)]; omega
  have v3 : IntKind.i64.wrap ((i : Int) - 1) = (i : Int) - 1 := wrapI_id (by omega) (by omega)
  have j1 : i ≤ ei := by omega
  have j2 : ei ≤ N := by omega
  have j3 : i < Q := by omega
  obtain ⟨nn, hnn⟩ : ∃ nn, nn = n + 1 := ⟨_, rfl⟩
  have j4 : ei - i = nn := by omega
  have j5 : ¬ ei = i := by omega
  simp [go_sem, sizeB, j4, j5, hN', ht12, f8, f9, f10, f11, dl, v1, v2, v3, j1, j2, j3, hML, hqL]
  have lN : P.length + (n + 1 + S.length) = N := by rw [lP]; omega
  refine digit_call L hwin (by omega) lP.symm hnn fun W' l1 l2 l3 => ?_
  obtain ⟨y, hy⟩ : ∃ y, y = val 4294967296 W / val 4294967296 (dig 4294967296 D) := ⟨_, rfl⟩
  have hyB : y < 4294967296 := by rw [hy]; exact hwin.first.1
  rw [← hy]
  rw [val_dig hB] at hy l3
  have hiq : i < q.length := by omega
  obtain ⟨z1, z2⟩ := div_next (A := A) (B := 4294967296) (by omega) dP lP hS0 hDpos hiq (by rw [← hMv]; exact hv) l3 hy
  simp [go_sem, hN', ht12, f8, f9, f10, f11, v3, j3, hqL]
  exact ⟨i, by omega, P ++ (W' ++ S), q.set i y, ⟨rfl, rfl⟩, by omega, rfl, by simp; omega, digs_append.2 ⟨dP, digs_append.2 ⟨l2, dS⟩⟩, by simpa using hqL, hqd.set hyB _, z1, z2⟩
end
end Go.Am
end
section
set_option maxHeartbeats 16000000
namespace Go.Am
open Go Go.Nt
section
variable {E : Env} {n m a b k x d : Nat} {H : Heap} {nx : Nat} {fz : List Nat} {R : Back → Prop}
theorem sz_mono (h : a ≤ b) : (dig 4294967296 a).length ≤ (dig 4294967296 b).length := by
  refine Classical.byContradiction fun hno => ?_
  have := dig_len_lt hB (n := b) (m := a) (by omega)
  omega
theorem div_call (L : LibW E) (hb : 0 < b) (hsa : (dig 4294967296 a).length < 100000000) (hsb : (dig 4294967296 b).length < 100000000) : wpA E id_word_Nat_Div [N32 a, N32 b] H nx fz R ↔ R ⟨.ret (.tuple [N32 (a / b), N32 (a % b)]), H, nx, fz, false⟩ := wpA_iff (div_val L hb hsa hsb) rfl
theorem gcd_val (L : LibW E) (hsa : (dig 4294967296 a).length < 100000000) (hsb : (dig 4294967296 b).length < 100000000) : Val E id_word_Nat_GCD [N32 a, N32 b] (N32 (Nat.gcd a b)) := by
  refine val_fn L.gcd rfl (by simp) fun T hN hA => ?_
  have h0 := hA 0 _ rfl
  have h1 := hA 1 _ rfl
  simp [go_sem, h0, h1, hN]
  refine loop_v _ rfl (fun m t H nx fz => H = [] ∧ nx = 0 ∧ fz = [] ∧ ∃ (x y : Nat), m = y ∧ getT t 0 = N32 x ∧ getT t 1 = N32 y ∧ (dig 4294967296 x).length < 100000000 ∧ (dig 4294967296 y).length < 100000000 ∧ Nat.gcd x y = Nat.gcd a b) b ?_ ?_
  · exact ⟨rfl, rfl, rfl, a, b, rfl, by simp [go_sem, h0], by simp [go_sem, h1], hsa, hsb, rfl⟩
  rintro m t H nx fz ⟨rfl, rfl, rfl, x, y, rfl, t0, t1, hx, hy, hg⟩ hF
  have hN' : t.length = 19 := by rw [hF.1]; simp [hN]
  clear hF
  by_cases hm0 : m = 0
  · subst hm0
    rw [Nat.gcd_zero_right] at hg
    simp [go_sem, hN', t0, t1, dig_zero, hg]
  · have hl := dig_len_pos hB (n := m) (by omega)
    have hne : ¬ dig 4294967296 m = [] := fun e => hm0 (dig_nil.1 e)
    have hlt := Nat.mod_lt x (show 0 < m by omega)
    simp [go_sem, hN', t0, t1, hl, hne, div_call L (show 0 < m by omega) hx hy]
    exact ⟨x % m, hlt, m, ⟨rfl, rfl⟩, ⟨rfl, rfl⟩, hy, Nat.lt_of_le_of_lt (sz_mono (Nat.le_of_lt hlt)) hy, by rw [← hg, Nat.gcd_comm, ← Nat.gcd_rec, Nat.gcd_comm]⟩
theorem gcd_call (L : LibW E) (hsa : (dig 4294967296 a).length < 100000000) (hsb : (dig 4294967296 b).length < 100000000) : wpA E id_word_Nat_GCD [N32 a, N32 b] H nx fz R ↔ R ⟨.ret (N32 (Nat.gcd a b)), H, nx, fz, false⟩ := wpA_iff (gcd_val L hsa hsb) rfl
abbrev F32 (neg : Bool) (n d : Nat) : AV := .agg [.bool neg, N32 n, N32 d]
theorem ctz_lt_len (hn : 0 < n) : ctz n < (dig 2 n).length := by
  obtain ⟨m, hm⟩ := ctz_spec hn
  have h3 := (dig_len_le (B := 2) (by omega) (dig 2 n).length n).1 (Nat.le_refl _)
  have h4 : 2 ^ ctz n * 1 ≤ n := by
    have : 2 ^ ctz n * 1 ≤ 2 ^ ctz n * (2 * m + 1) := Nat.mul_le_mul_left _ (by omega)
    omega
  exact (Nat.pow_lt_pow_iff_right (show 1 < 2 by omega)).1 (by omega)
theorem len_sz (hn : 0 < n) : (dig 2 n).length ≤ 32 * (dig 4294967296 n).length := by
  have h1 := bits_words hn
  have hl := dig_len_pos hB hn
  have hd : dg (dig 4294967296 n) ((dig 4294967296 n).length - 1) < 4294967296 := getD_lt (digs_N n) (by omega) _
  have hb := len_le 32 _ (show dg (dig 4294967296 n) ((dig 4294967296 n).length - 1) < 2 ^ 32 by simpa using hd)
  omega
theorem pow_iff (hn : 0 < n) : ctz n = (dig 2 n).length - 1 ↔ n = 2 ^ ctz n := by
  have h1 := ctz_spec hn
  have h2 := pow_le_of_dig_len (B := 2) (by omega) hn
  have h3 := (dig_len_le (B := 2) (by omega) (dig 2 n).length n).1 (Nat.le_refl _)
  have h4 := dig_len_pos (B := 2) (by omega) hn
  obtain ⟨m, hm⟩ := h1
  generalize ctz n = k at *
  generalize (dig 2 n).length = l at *
  constructor
  · rintro rfl
    have e : (2 : Nat) ^ l = 2 ^ (l - 1) * 2 := by rw [← Nat.pow_succ]; congr 1; omega
    have h5 : 2 ^ (l - 1) * (2 * m + 1) < 2 ^ (l - 1) * 2 := by omega
    have h6 := Nat.lt_of_mul_lt_mul_left h5
    have : m = 0 := by omega
    rw [this] at hm; simpa using hm
  · intro h
    rw [h] at h2 h3
    have h5 := (Nat.pow_le_pow_iff_right (show 1 < 2 by omega)).1 h2
    have h6 := (Nat.pow_lt_pow_iff_right (show 1 < 2 by omega)).1 h3
    omega
theorem two_parts {n d t : Nat} (hn : 0 < n) (hd : 0 < d) (ht : t = min (ctz n) (ctz d)) : 0 < n / 2 ^ t ∧ 0 < d / 2 ^ t ∧ n / Nat.gcd n d = (n / 2 ^ t) / Nat.gcd (n / 2 ^ t) (d / 2 ^ t) ∧ d / Nat.gcd n d = (d / 2 ^ t) / Nat.gcd (n / 2 ^ t) (d / 2 ^ t) ∧ ((n / 2 ^ t) % 2 = 1 ∨ (d / 2 ^ t) % 2 = 1) := by
  obtain ⟨a, ha⟩ := ctz_spec hn
  obtain ⟨b, hb⟩ := ctz_spec hd
  have hp : 0 < 2 ^ t := Nat.pow_pos (by omega)
  have e1 : 2 ^ ctz n = 2 ^ t * 2 ^ (ctz n - t) := by rw [← Nat.pow_add]; congr 1; omega
  have e2 : 2 ^ ctz d = 2 ^ t * 2 ^ (ctz d - t) := by rw [← Nat.pow_add]; congr 1; omega
  have d1 : 2 ^ t ∣ n := ⟨2 ^ (ctz n - t) * (2 * a + 1), by rw [← Nat.mul_assoc, ← e1]; exact ha⟩
  have d2 : 2 ^ t ∣ d := ⟨2 ^ (ctz d - t) * (2 * b + 1), by rw [← Nat.mul_assoc, ← e2]; exact hb⟩
  obtain ⟨g1, g2⟩ := div_gcd_shift d1 d2 hn
  have p1 : 0 < n / 2 ^ t := Nat.div_pos (Nat.le_of_dvd hn d1) hp
  have p2 : 0 < d / 2 ^ t := Nat.div_pos (Nat.le_of_dvd hd d2) hp
  refine ⟨p1, p2, g1, g2, ?_⟩
  have f1 : n / 2 ^ t = 2 ^ (ctz n - t) * (2 * a + 1) := by
    have : n = 2 ^ t * (2 ^ (ctz n - t) * (2 * a + 1)) := by rw [← Nat.mul_assoc, ← e1]; exact ha
    rw [this, Nat.mul_div_cancel_left _ hp, ← this]
  have f2 : d / 2 ^ t = 2 ^ (ctz d - t) * (2 * b + 1) := by
    have : d = 2 ^ t * (2 ^ (ctz d - t) * (2 * b + 1)) := by rw [← Nat.mul_assoc, ← e2]; exact hb
    rw [this, Nat.mul_div_cancel_left _ hp, ← this]
  rcases Nat.le_total (ctz n) (ctz d) with h | h
  · left
    rw [f1, show ctz n - t = 0 by omega]; omega
  · right
    rw [f2, show ctz d - t = 0 by omega]; omega
theorem gcd_pow {n d : Nat} (hd : 0 < d) (ho : n % 2 = 1 ∨ d % 2 = 1) (h : d = 2 ^ ctz d) : Nat.gcd n d = 1 := by
  rcases ho with ho | ho
  · rw [h]; exact gcd_two_pow_odd (m := 0) ho
  · have : ctz d = 0 := by
      rcases Nat.eq_zero_or_pos (ctz d) with h0 | h0
      · exact h0
      · have e : 2 ^ ctz d = 2 ^ (ctz d - 1) * 2 := by rw [← Nat.pow_succ]; congr 1; omega
        omega
    rw [h, this]; simp
theorem reduce_val (L : LibW E) {neg : Bool} (hd : 0 < d) (hsa : (dig 4294967296 n).length < 10000000) (hsb : (dig 4294967296 d).length < 10000000) : Val E id_word_Reduce [.bool neg, N32 n, N32 d] (F32 (neg && decide (n ≠ 0)) (n / Nat.gcd n d) (d / Nat.gcd n d)) := by
  refine val_fn L.reduce rfl (by simp) fun T hN hA => ?_
  have h0 := hA 0 _ rfl
  have h1 := hA 1 _ rfl
  have h2 := hA 2 _ rfl
  by_cases hn0 : n = 0
  · subst hn0
    simp [go_sem, h0, h1, h2, hN, zero_call L, small_one L, N32_one, dig_zero, hd, ints_nil]
  have hn : 0 < n := by omega
  obtain ⟨t, ht⟩ : ∃ t, t = min (ctz n) (ctz d) := ⟨_, rfl⟩
  have hti : (if ctz d < ctz n then ((ctz d : Nat) : Int) else ((ctz n : Nat) : Int)) = (t : Int) := by split <;> omega
  obtain ⟨n', hn'⟩ : ∃ n', n' = n / 2 ^ t := ⟨_, rfl⟩
  obtain ⟨d', hd'⟩ : ∃ d', d' = d / 2 ^ t := ⟨_, rfl⟩
  obtain ⟨p1, p2, g1, g2, ho⟩ := two_parts hn hd ht
  rw [← hn'] at p1 g1 g2 ho
  rw [← hd'] at p2 g1 g2 ho
  have s1 : (dig 4294967296 n').length < 10000000 := Nat.lt_of_le_of_lt (sz_mono (by rw [hn']; exact Nat.div_le_self _ _)) hsa
  have s2 : (dig 4294967296 d').length < 10000000 := Nat.lt_of_le_of_lt (sz_mono (by rw [hd']; exact Nat.div_le_self _ _)) hsb
  have htB : t < 1000000000000 := by
    have := ctz_lt_len hd
    have := len_sz hd
    omega
  have shn := fun H nx fz R => shr_call (n := t) (H := H) (nx := nx) (fz := fz) (R := R) L (digs_N n) (show (dig 4294967296 n).length < 1000000000 by omega) htB
  have shd := fun H nx fz R => shr_call (n := t) (H := H) (nx := nx) (fz := fz) (R := R) L (digs_N d) (show (dig 4294967296 d).length < 1000000000 by omega) htB
  rw [val_dig hB, ← hn'] at shn
  rw [val_dig hB, ← hd'] at shd
  obtain ⟨bl, hbl⟩ : ∃ bl, bl = (dig 2 d').length := ⟨_, rfl⟩
  have hbl1 : 1 ≤ bl := by rw [hbl]; exact dig_len_pos (by omega) p2
  have hblB : bl ≤ 32 * (dig 4294967296 d').length := by rw [hbl]; exact len_sz p2
  have w1 : IntKind.i64.wrap ((bl : Int) - 1) = ((bl - 1 : Nat) : Int) := by rw [wrapI_id (by omega) (by omega)]; omega
  have hpi := pow_iff p2
  rw [← hbl] at hpi
  obtain ⟨cd, hcd⟩ : ∃ cd, cd = ctz d' := ⟨_, rfl⟩
  obtain ⟨b1, hb1⟩ : ∃ b1, b1 = bl - 1 := ⟨_, rfl⟩
  rw [← hcd, ← hb1] at hpi
  rw [← hb1] at w1
  have tw := fun H nx fz R => twos_call (n := d') (H := H) (nx := nx) (fz := fz) (R := R) L (show (dig 4294967296 d').length < 1000000000 by omega)
  have bt := fun H nx fz R => bits_call (n := d') (H := H) (nx := nx) (fz := fz) (R := R) L (show (dig 4294967296 d').length < 1000000000 by omega)
  rw [← hcd] at tw
  rw [← hbl] at bt
  obtain ⟨g, hg⟩ : ∃ g, g = Nat.gcd n' d' := ⟨_, rfl⟩
  have hgp : 0 < g := by rw [hg]; exact Nat.gcd_pos_of_pos_left _ p1
  have hgs : (dig 4294967296 g).length < 100000000 := Nat.lt_of_le_of_lt (sz_mono (by rw [hg]; exact Nat.le_of_dvd p1 (Nat.gcd_dvd_left ..))) (show (dig 4294967296 n').length < 100000000 by omega)
  have gc := fun H nx fz R => gcd_call (a := n') (b := d') (H := H) (nx := nx) (fz := fz) (R := R) L (by omega) (by omega)
  rw [← hg] at gc g1 g2
  have hpow : cd = b1 → g = 1 := fun h => by rw [hg]; exact gcd_pow p2 ho (by rw [← hcd]; exact hpi.1 h)
  have dvn := fun H nx fz R => div_call (a := n') (b := g) (H := H) (nx := nx) (fz := fz) (R := R) L hgp (by omega) hgs
  have dvd := fun H nx fz R => div_call (a := d') (b := g) (H := H) (nx := nx) (fz := fz) (R := R) L hgp (by omega) hgs
  simp only [show (decide (n ≠ 0)) = true by simpa using hn0, Bool.and_true, g1, g2]
  have twn := fun H nx fz R => twos_call (n := n) (H := H) (nx := nx) (fz := fz) (R := R) L (by omega)
  have twd := fun H nx fz R => twos_call (n := d) (H := H) (nx := nx) (fz := fz) (R := R) L (by omega)
  by_cases ht0 : 0 < t
  · have hti0 : (0 : Int) < t := by omega
    by_cases hc : cd = b1
    · have := hpow hc
      simp [go_sem, h0, h1, h2, hN, zero_call L, hn0, twn, twd, hti, shn, shd, tw, bt, w1, gc, one_call L, dvn, dvd, hc, this, ht0, hti0]
    by_cases hg1 : g = 1
    · simp [go_sem, h0, h1, h2, hN, zero_call L, hn0, twn, twd, hti, shn, shd, tw, bt, w1, gc, one_call L, dvn, dvd, hc, hg1, ht0, hti0]
    · simp [go_sem, h0, h1, h2, hN, zero_call L, hn0, twn, twd, hti, shn, shd, tw, bt, w1, gc, one_call L, dvn, dvd, hc, hg1, ht0, hti0]
  · have hti0 : t = 0 := by omega
    rw [hti0, Nat.pow_zero, Nat.div_one] at hn' hd'
    subst hn'
    subst hd'
    rw [← hcd] at hti twd
    by_cases hc : cd = b1
    · have := hpow hc
      rw [hc] at hti
      simp [go_sem, h0, h1, h2, hN, zero_call L, hn0, twn, twd, hti, shn, shd, tw, bt, w1, gc, one_call L, dvn, dvd, hc, this, hti0]
    by_cases hg1 : g = 1
    · simp [go_sem, h0, h1, h2, hN, zero_call L, hn0, twn, twd, hti, shn, shd, tw, bt, w1, gc, one_call L, dvn, dvd, hc, hg1, hti0]
    · simp [go_sem, h0, h1, h2, hN, zero_call L, hn0, twn, twd, hti, shn, shd, tw, bt, w1, gc, one_call L, dvn, dvd, hc, hg1, hti0]
theorem reduce_call (L : LibW E) {neg : Bool} (hd : 0 < d) (hsa : (dig 4294967296 n).length < 10000000) (hsb : (dig 4294967296 d).length < 10000000) : wpA E id_word_Reduce [.bool neg, N32 n, N32 d] H nx fz R ↔ R ⟨.ret (F32 (neg && decide (n ≠ 0)) (n / Nat.gcd n d) (d / Nat.gcd n d)), H, nx, fz, false⟩ := wpA_iff (reduce_val L hd hsa hsb) rfl
end
end Go.Am
end
section
set_option maxHeartbeats 16000000
namespace Go.Am
open Go Go.Nt
section
variable {E : Env} {n m a b k x d : Nat} {H : Heap} {nx : Nat} {fz : List Nat} {R : Back → Prop} {f : FuncId} {fn : AFn}
theorem At.bv (h : At E f fn) (hh : fn.heap = false) : byValue E f = true := by simp [byValue, h.1, h.2.1, h.2.2, hh]
def readOk (n d : Nat) : Bool := decide ((dig 4294967296 n).length ≤ 256) && decide ((dig 4294967296 d).length ≤ 256)
def readD (d : Nat) : Nat := if d = 0 then 1 else d
def readF (neg : Bool) (n d : Nat) : AV := if readOk n d then F32 (neg && decide (n ≠ 0)) (n / Nat.gcd n (readD d)) (readD d / Nat.gcd n (readD d)) else F32 false 0 0
def readB (n d : Nat) : Bool := readOk n d && (decide ((dig 4294967296 (n / Nat.gcd n (readD d))).length ≤ 64) && decide ((dig 4294967296 (readD d / Nat.gcd n (readD d))).length ≤ 64))
theorem read_val (L : LibW E) {neg : Bool} {u v : List Nat} (hu : digs 4294967296 u) (hv : digs 4294967296 v) (hul : u.length < 1000000000) (hvl : v.length < 1000000000) :
    Val E id_word_Read [.agg [.bool neg, R32 u, R32 v]] (.tuple [readF neg (val 4294967296 u) (val 4294967296 v), .bool (readB (val 4294967296 u) (val 4294967296 v))]) := by
  refine val_fn L.read rfl (by simp) fun T hN hA => ?_
  have h0 := hA 0 _ rfl
  obtain ⟨n, hn⟩ : ∃ n, n = val 4294967296 u := ⟨_, rfl⟩
  obtain ⟨d, hd⟩ : ∃ d, d = val 4294967296 v := ⟨_, rfl⟩
  have ofu := fun H nx fz R => of_call (H := H) (nx := nx) (fz := fz) (R := R) L hu (by omega)
  have ofv := fun H nx fz R => of_call (H := H) (nx := nx) (fz := fz) (R := R) L hv (by omega)
  rw [← hn] at ofu
  rw [← hd] at ofv
  rw [← hn, ← hd]
  have bv1 := L.of.bv rfl
  have bv2 := L.fits.bv rfl
  by_cases hs1 : (dig 4294967296 n).length ≤ 256
  · have hs1' : ¬ (256 : Int) < ((dig 4294967296 n).length : Int) := by omega
    by_cases hs2 : (dig 4294967296 d).length ≤ 256
    · have hs2' : ¬ (256 : Int) < ((dig 4294967296 d).length : Int) := by omega
      have hok : readOk n d = true := by simp [readOk, hs1, hs2]
      by_cases hd0 : d = 0
      · subst hd0
        have red := fun H nx fz R => reduce_call (neg := neg) (n := n) (d := 1) (H := H) (nx := nx) (fz := fz) (R := R) L (by omega) (by omega) (by rw [N32_one]; simp)
        have hD : readD 0 = 1 := rfl
        simp [go_sem, h0, hN, ofu, ofv, hs1', hs2', zero_call L, small_one L, red, fits_call L, bv1, bv2, readF, readB, hok, hD, dig_zero, ints_nil]
      · have red := fun H nx fz R => reduce_call (neg := neg) (n := n) (d := d) (H := H) (nx := nx) (fz := fz) (R := R) L (by omega) (by omega) (by omega)
        have hD : readD d = d := by simp [readD, hd0]
        simp [go_sem, h0, hN, ofu, ofv, hs1', hs2', zero_call L, hd0, red, fits_call L, bv1, bv2, readF, readB, hok, hD]
    · have hs2' : (256 : Int) < ((dig 4294967296 d).length : Int) := by omega
      have hok : readOk n d = false := by simp [readOk, hs1, hs2]
      simp [go_sem, h0, hN, ofu, ofv, hs1', hs2', bv1, bv2, readF, readB, hok, dig_zero, ints_nil]
  · have hs1' : (256 : Int) < ((dig 4294967296 n).length : Int) := by omega
    have hok : readOk n d = false := by simp [readOk, hs1]
    simp [go_sem, h0, hN, ofu, ofv, hs1', bv1, bv2, readF, readB, hok, dig_zero, ints_nil]
theorem read_call (L : LibW E) {neg : Bool} {u v : List Nat} (hu : digs 4294967296 u) (hv : digs 4294967296 v) (hul : u.length < 1000000000) (hvl : v.length < 1000000000) : wpA E id_word_Read [.agg [.bool neg, R32 u, R32 v]] H nx fz R ↔ R ⟨.ret (.tuple [readF neg (val 4294967296 u) (val 4294967296 v), .bool (readB (val 4294967296 u) (val 4294967296 v))]), H, nx, fz, false⟩ := wpA_iff (read_val L hu hv hul hvl) rfl
theorem sz_mul : (dig 4294967296 (a * b)).length ≤ (dig 4294967296 a).length + (dig 4294967296 b).length := by
  refine (dig_len_le hB _ _).2 ?_
  rw [Nat.pow_add]
  have h1 := (dig_len_le hB (dig 4294967296 a).length a).1 (Nat.le_refl _)
  have h2 := (dig_len_le hB (dig 4294967296 b).length b).1 (Nat.le_refl _)
  exact Nat.mul_lt_mul'' h1 h2
def fcmpV (neg1 : Bool) (n1 d1 : Nat) (neg2 : Bool) (n2 d2 : Nat) : Int := if sgn neg1 n1 = sgn neg2 n2 then (if neg1 then - ord (n1 * d2) (n2 * d1) else ord (n1 * d2) (n2 * d1)) else if sgn neg1 n1 < sgn neg2 n2 then -1 else 1
theorem fcmp_val (L : LibW E) {neg1 neg2 : Bool} {n1 d1 n2 d2 : Nat} (h1 : (dig 4294967296 n1).length < 100000000) (h2 : (dig 4294967296 d1).length < 100000000) (h3 : (dig 4294967296 n2).length < 100000000) (h4 : (dig 4294967296 d2).length < 100000000) :
    Val E id_word_Frac_Cmp [F32 neg1 n1 d1, F32 neg2 n2 d2] (.int .i64 (fcmpV neg1 n1 d1 neg2 n2 d2)) := by
  refine val_fn L.fcmp rfl (by simp) fun T hN hA => ?_
  have h0 := hA 0 _ rfl
  have h1' := hA 1 _ rfl
  have bv1 := L.sign.bv rfl
  have bv2 := L.mul.bv rfl
  have bv3 := L.cmp.bv rfl
  have s1 := sz_mul (a := n1) (b := d2)
  have s2 := sz_mul (a := n2) (b := d1)
  have sg1 := fun H nx fz R => wpA_iff (H := H) (nx := nx) (fz := fz) (R := R) (sign_val (n := n1) (m := d1) L neg1) rfl
  have sg2 := fun H nx fz R => wpA_iff (H := H) (nx := nx) (fz := fz) (R := R) (sign_val (n := n2) (m := d2) L neg2) rfl
  have m1 := fun H nx fz R => mul_call (H := H) (nx := nx) (fz := fz) (R := R) L (digs_N n1) (digs_N d2) (by omega) (by omega)
  have m2 := fun H nx fz R => mul_call (H := H) (nx := nx) (fz := fz) (R := R) L (digs_N n2) (digs_N d1) (by omega) (by omega)
  have cm := fun H nx fz R => cmp_call' (a := n1 * d2) (b := n2 * d1) (H := H) (nx := nx) (fz := fz) (R := R) L (by omega) (by omega)
  rw [val_dig hB, val_dig hB] at m1 m2
  have hord : IntKind.i64.wrap (- ord (n1 * d2) (n2 * d1)) = - ord (n1 * d2) (n2 * d1) := by
    unfold ord; split
    · rfl
    · split <;> rfl
  by_cases hs : sgn neg1 n1 = sgn neg2 n2
  · cases neg1
    · simp [go_sem, h0, h1', hN, bv1, bv2, bv3, sg1, sg2, m1, m2, cm, hs, fcmpV]
    · simp [go_sem, h0, h1', hN, bv1, bv2, bv3, sg1, sg2, m1, m2, cm, hs, fcmpV, hord]
  · by_cases hlt : sgn neg1 n1 < sgn neg2 n2
    · simp [go_sem, h0, h1', hN, bv1, bv2, bv3, sg1, sg2, hs, hlt, fcmpV]
    · simp [go_sem, h0, h1', hN, bv1, bv2, bv3, sg1, sg2, hs, hlt, fcmpV]
end
end Go.Am
end
