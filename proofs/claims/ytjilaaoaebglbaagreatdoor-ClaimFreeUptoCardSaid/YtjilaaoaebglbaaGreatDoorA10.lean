/- Parts of the proof. -/
import Derived.Test.YtjilaaoaebglbaaGreatDoorA05
import Derived.Test.YtjilaaoaebglbaaGreatDoorA06
import Derived.Test.YtjilaaoaebglbaaGreatDoorA09
set_option linter.unusedVariables false
set_option linter.unusedSimpArgs false
set_option linter.unnecessarySimpa false
set_option linter.unusedSectionVars false
section
set_option maxHeartbeats 16000000
namespace Go.Am
open Go Go.Nt
structure LibN (E : Env) : Prop where
  letter : At E id_syntax_letter fn_syntax_letter
  digit : At E id_syntax_digit fn_syntax_digit
  word : At E id_syntax_word fn_syntax_word
  isName : At E id_syntax_IsName fn_syntax_IsName
  reserved : At E id_syntax_Reserved fn_syntax_Reserved
  find : At E id_elem_Find fn_elem_Find
  names : At E id_elem_names fn_elem_names
  isName2 : At E id_expr_IsName fn_expr_IsName
  rreserved : At E id_ref04_reserved fn_ref04_reserved
  rword : At E id_ref04_word fn_ref04_word
  risName : At E id_ref04_IsName fn_ref04_IsName
def isLet (b : UInt8) : Bool := decide (97 ≤ b.toNat) && decide (b.toNat ≤ 122)
def isDig (b : UInt8) : Bool := decide (48 ≤ b.toNat) && decide (b.toNat ≤ 57)
def okB (b : UInt8) : Bool := isLet b || isDig b
def wordLen : List UInt8 → Nat
  | [] => 0
  | b :: r => if isLet b then 1 + (r.takeWhile okB).length else 0
def elemNames : List (List UInt8) := [[101, 120, 112], [108, 111, 103], [115, 105, 110], [99, 111, 115], [116, 97, 110], [97, 115, 105, 110], [97, 99, 111, 115], [97, 116, 97, 110]]
section
variable {E : Env} {n m : Nat} {s : List UInt8} {b : UInt8} {H : Heap} {nx : Nat} {fz : List Nat} {R : Back → Prop}
theorem letter_val (L : LibN E) : Val E id_syntax_letter [.int .u8 (b.toNat : Int)] (.bool (isLet b)) := by
  refine val_fn L.letter rfl (by simp) fun T hN hA => ?_
  have h0 := hA 0 _ rfl
  by_cases h : 97 ≤ b.toNat
  · have hi : (97 : Int) ≤ (b.toNat : Int) := by omega
    simp [go_sem, h0, hN, h, hi, isLet]
    omega
  · have hi : ¬ (97 : Int) ≤ (b.toNat : Int) := by omega
    simp [go_sem, h0, hN, h, hi, isLet]
theorem letter_call (L : LibN E) : wpA E id_syntax_letter [.int .u8 (b.toNat : Int)] H nx fz R ↔ R ⟨.ret (.bool (isLet b)), H, nx, fz, false⟩ := wpA_iff (letter_val L) rfl
theorem digitc_val (L : LibN E) : Val E id_syntax_digit [.int .u8 (b.toNat : Int)] (.bool (isDig b)) := by
  refine val_fn L.digit rfl (by simp) fun T hN hA => ?_
  have h0 := hA 0 _ rfl
  by_cases h : 48 ≤ b.toNat
  · have hi : (48 : Int) ≤ (b.toNat : Int) := by omega
    simp [go_sem, h0, hN, h, hi, isDig]
    omega
  · have hi : ¬ (48 : Int) ≤ (b.toNat : Int) := by omega
    simp [go_sem, h0, hN, h, hi, isDig]
theorem digitc_call (L : LibN E) : wpA E id_syntax_digit [.int .u8 (b.toNat : Int)] H nx fz R ↔ R ⟨.ret (.bool (isDig b)), H, nx, fz, false⟩ := wpA_iff (digitc_val L) rfl
theorem names_val (L : LibN E) : Val E id_elem_names [] (.row 8 (elemNames.map .str)) := by
  refine val_fn L.names rfl (by simp) fun T hN hA => ?_
  simp [go_sem, hN, elemNames]
  rfl
theorem names_call (L : LibN E) : wpA E id_elem_names [] H nx fz R ↔ R ⟨.ret (.row 8 (elemNames.map .str)), H, nx, fz, false⟩ := wpA_iff (names_val L) rfl
theorem part_strs {l : List (List UInt8)} {i : Nat} (h : i < l.length) : partA false ((l.map AV.str).drop i) 0 1 = some (.str (l.getD i [])) := by
  have h1 : 0 + 1 ≤ ((l.map AV.str).drop i).length := by rw [List.length_drop, List.length_map]; omega
  simp only [partA, if_pos h1]
  simp [h]
theorem find_at {s : List UInt8} : ∀ {l : List (List UInt8)} {i : Nat}, i < l.length → l.getD i [] = s → (∀ j, j < i → l.getD j [] ≠ s) → l.idxOf s = i ∧ s ∈ l
  | [], i, h, _, _ => by simp at h
  | x :: l, 0, h, h1, _ => by
    have : x = s := by simpa using h1
    subst this
    simp
  | x :: l, i + 1, h, h1, h2 => by
    have hx : x ≠ s := by simpa using h2 0 (by omega)
    obtain ⟨h3, h4⟩ := find_at (l := l) (i := i) (by simpa using h) (by simpa using h1) (fun j hj => by simpa using h2 (j + 1) (by omega))
    refine ⟨?_, List.mem_cons_of_mem _ h4⟩
    have hb : (x == s) = false := by simpa using hx
    rw [List.idxOf_cons, h3, hb]
    rfl
theorem not_mem_getD {s : List UInt8} {l : List (List UInt8)} (h : ∀ j, j < l.length → l.getD j [] ≠ s) : ¬ s ∈ l := fun hm => by
  obtain ⟨j, hj, he⟩ := List.getElem_of_mem hm
  exact h j hj (by simp [hj, he])
def findN (l : List (List UInt8)) (s : List UInt8) : Nat := if l.contains s then l.idxOf s + 1 else 0
theorem find_val (L : LibN E) : Val E id_elem_Find [.str s] (.tuple [.int .i64 (findN elemNames s : Int), .bool (elemNames.contains s)]) := by
  refine val_fn L.find rfl (by simp) fun T hN hA => ?_
  have h0 := hA 0 _ rfl
  obtain ⟨l, hl⟩ : ∃ l, l = elemNames := ⟨_, rfl⟩
  have hl8 : l.length = 8 := by rw [hl]; rfl
  have nm := fun H nx fz R => names_call (H := H) (nx := nx) (fz := fz) (R := R) L
  rw [← hl] at nm ⊢
  simp [go_sem, h0, hN, nm]
  refine loop_v _ rfl (fun m t H nx fz => H = [] ∧ nx = 0 ∧ fz = [] ∧ ∃ (i : Nat), m + i = 8 ∧ getT t 8 = .int .i64 (i : Int) ∧ ∀ j, j < i → l.getD j [] ≠ s) 8 ?_ ?_
  · exact ⟨rfl, rfl, rfl, 0, rfl, by simp [go_sem, hN], fun j hj => by omega⟩
  rintro m t _ _ _ ⟨rfl, rfl, rfl, i, hm, t8, hno⟩ hF
  have hN' : t.length = 19 := by rw [hF.1]; simp [hN]
  have f0 : getT t 0 = .str s := by rw [hF.2 0 (by decide)]; simp [go_sem, h0]
  have f6 : getT t 6 = .row 8 (l.map .str) := by rw [hF.2 6 (by decide)]; simp [go_sem, hN]
  have f7 : getT t 7 = .int .i64 8 := by rw [hF.2 7 (by decide)]; simp [go_sem, hN]
  clear hF
  by_cases hi : i < 8
  · have hil : (i : Int) < 8 := by omega
    have hp := part_strs (l := l) (i := i) (by omega)
    obtain ⟨x, hx⟩ : ∃ x, x = l.getD i [] := ⟨_, rfl⟩
    rw [← hx] at hp
    obtain ⟨i2, hi2⟩ : ∃ i2, i2 = i + 1 := ⟨_, rfl⟩
    have a1 : IntKind.i64.wrap ((i : Int) + 1) = i2 := by rw [wrapI_id (by omega) (by omega)]; omega
    by_cases he : x = s
    · simp [go_sem, t8, hN', f0, f6, f7, hi, hil, hp, he, a1]
      obtain ⟨k1, k2⟩ := find_at (l := l) (i := i) (s := s) (by omega) (by rw [← hx]; exact he) hno
      refine ⟨?_, k2⟩
      unfold findN
      rw [if_pos (by simpa using k2), k1, hi2]
    · simp [go_sem, t8, hN', f0, f6, f7, hi, hil, hp, he, a1]
      refine ⟨m - 1, by omega, i2, by omega, rfl, fun j hj => ?_⟩
      rcases Nat.lt_or_eq_of_le (show j ≤ i by omega) with h | h
      · simpa using hno j h
      · subst h
        intro h2
        exact he (by rw [hx]; simpa using h2)
  · have hil : ¬ (i : Int) < 8 := by omega
    simp [go_sem, t8, hN', f0, f6, f7, hil]
    have hnm := not_mem_getD (l := l) (s := s) (fun j hj => hno j (by omega))
    refine ⟨?_, hnm⟩
    unfold findN
    rw [if_neg (by simpa using hnm)]; rfl
theorem find_call (L : LibN E) : wpA E id_elem_Find [.str s] H nx fz R ↔ R ⟨.ret (.tuple [.int .i64 (findN elemNames s : Int), .bool (elemNames.contains s)]), H, nx, fz, false⟩ := wpA_iff (find_val L) rfl
end
end Go.Am
end
section
set_option maxHeartbeats 16000000
namespace Go.Am
open Go Go.Nt
def otherNames : List (List UInt8) := [[112, 105], [97, 98, 115], [109, 105, 110], [109, 97, 120], [114, 111, 111, 116], [115, 113, 114, 116], [105, 102], [105, 110, 102], [102, 111, 114], [105, 110], [119, 104, 101, 114, 101]]
def isRes (s : List UInt8) : Bool := otherNames.contains s || elemNames.contains s
section
variable {E : Env} {n m : Nat} {s : List UInt8} {b : UInt8} {H : Heap} {nx : Nat} {fz : List Nat} {R : Back → Prop}
theorem reserved_val (L : LibN E) : Val E id_syntax_Reserved [.str s] (.bool (isRes s)) := by
  refine val_fn L.reserved rfl (by simp) fun T hN hA => ?_
  have h0 := hA 0 _ rfl
  by_cases h : s ∈ otherNames
  · have hr : isRes s = true := by unfold isRes; rw [show otherNames.contains s = true by simpa using h]; rfl
    rw [hr]
    simp only [otherNames, List.mem_cons, List.not_mem_nil, or_false] at h
    rcases h with rfl | rfl | rfl | rfl | rfl | rfl | rfl | rfl | rfl | rfl | rfl <;> simp [go_sem, h0, hN]
  · have hr : isRes s = elemNames.contains s := by unfold isRes; rw [show otherNames.contains s = false by simpa using h]; rfl
    rw [hr]
    simp only [otherNames, List.mem_cons, List.not_mem_nil, or_false, not_or] at h
    obtain ⟨k1, k2, k3, k4, k5, k6, k7, k8, k9, k10, k11⟩ := h
    simp [go_sem, h0, hN, k1, k2, k3, k4, k5, k6, k7, k8, k9, k10, k11, find_call L]
theorem reserved_call (L : LibN E) : wpA E id_syntax_Reserved [.str s] H nx fz R ↔ R ⟨.ret (.bool (isRes s)), H, nx, fz, false⟩ := wpA_iff (reserved_val L) rfl
@[go_sem] theorem vO_guard_undef {pan : Option (Option AV)} {dd : Option Nat} {n : Nat} {b : Bool} {i : Insn} {t : List AV} {fz : List Nat} {ds : List (FuncId × List AV)} {rc : Bool} {Z : Ex → St → Prop} (h : getT t n = undefA) : vO E pan ⟨dd, some (n, b), i⟩ ⟨t, H, nx, fz, ds, rc⟩ Z ↔ Z .normal (St.put ⟨t, H, nx, fz, ds, rc⟩ dd undefA) := by
  rw [vO_guard]
  simp only [h]
  rfl
theorem tw_next {p : UInt8 → Bool} : ∀ {r : List UInt8} {k : Nat} {c : UInt8}, k ≤ (r.takeWhile p).length → r[k]? = some c → (p c = true ↔ k < (r.takeWhile p).length)
  | [], k, c, _, h => by simp at h
  | x :: r, 0, c, _, h => by
    have : x = c := by simpa using h
    subst this
    rw [List.takeWhile_cons]
    cases hp : p x <;> simp
  | x :: r, k + 1, c, hk, h => by
    rw [List.takeWhile_cons] at hk ⊢
    cases hp : p x
    · rw [hp] at hk; simp at hk
    · rw [hp] at hk
      simp only [if_true, List.length_cons] at hk ⊢
      rw [tw_next (r := r) (k := k) (by omega) (by simpa using h)]
      omega
theorem tw_le {p : UInt8 → Bool} (r : List UInt8) : (r.takeWhile p).length ≤ r.length := (List.takeWhile_sublist p).length_le
theorem word_val (L : LibN E) (hs : s.length < 1000000000000) : Val E id_syntax_word [.str s] (.int .i64 (wordLen s : Int)) := by
  refine val_fn L.word rfl (by simp) fun T hN hA => ?_
  have h0 := hA 0 _ rfl
  by_cases hs0 : s = []
  · subst hs0
    simp [go_sem, h0, hN, wordLen]
  obtain ⟨b, r, hbr⟩ : ∃ b r, s = b :: r := by
    cases s with
    | nil => exact absurd rfl hs0
    | cons b r => exact ⟨b, r, rfl⟩
  have hb : s[0]? = some b := by rw [hbr]; rfl
  have hlp : 0 < s.length := by rw [hbr]; simp
  by_cases hlet : isLet b = true
  · simp [go_sem, h0, hN, hs0, hb, letter_call L, hlet]
    obtain ⟨tw, htw⟩ : ∃ tw, tw = (r.takeWhile okB).length := ⟨_, rfl⟩
    have htl : tw ≤ r.length := by rw [htw]; exact tw_le r
    have hsl : s.length = r.length + 1 := by rw [hbr]; simp
    have hw : wordLen s = 1 + tw := by rw [hbr]; simp [wordLen, hlet, htw]
    rw [hw]
    refine loop_v _ rfl (fun m t H nx fz => H = [] ∧ nx = 0 ∧ fz = [] ∧ ∃ (i : Nat), m + i = 1 + tw ∧ 1 ≤ i ∧ getT t 3 = .int .i64 (i : Int)) tw ?_ ?_
    · exact ⟨rfl, rfl, rfl, 1, by omega, by omega, by simp [go_sem, hN]⟩
    rintro m t _ _ _ ⟨rfl, rfl, rfl, i, hm, hi1, t3⟩ hF
    have hN' : t.length = 31 := by rw [hF.1]; simp [hN]
    have f0 : getT t 0 = .str s := by rw [hF.2 0 (by decide)]; simp [go_sem, h0]
    clear hF
    obtain ⟨i2, hi2⟩ : ∃ i2, i2 = i + 1 := ⟨_, rfl⟩
    have a1 : IntKind.i64.wrap ((i : Int) + 1) = i2 := by rw [wrapI_id (by omega) (by omega)]; omega
    by_cases hi : i < s.length
    · have hil : (i : Int) < s.length := by omega
      obtain ⟨c, hc⟩ : ∃ c, s[i]? = some c := ⟨_, List.getElem?_eq_getElem hi⟩
      have hgc : s[i] = c := (List.getElem?_eq_some_iff.1 hc).2
      have hc2 : r[i - 1]? = some c := by
        rw [hbr] at hc
        obtain ⟨k, rfl⟩ : ∃ k, i = k + 1 := ⟨i - 1, by omega⟩
        simpa using hc
      have hn := tw_next (p := okB) (k := i - 1) (by omega) hc2
      rw [← htw] at hn
      by_cases hcl : isLet c = true
      · have : okB c = true := by unfold okB; rw [hcl]; rfl
        have := hn.1 this
        simp [go_sem, t3, hN', f0, hi, hil, hc, hgc, letter_call L, hcl, a1]
        exact ⟨m - 1, by omega, by omega, by omega⟩
      · by_cases hcd : isDig c = true
        · have : okB c = true := by unfold okB; rw [hcd, Bool.or_true]
          have := hn.1 this
          simp [go_sem, t3, hN', f0, hi, hil, hc, hgc, letter_call L, digitc_call L, hcl, hcd, a1]
          exact ⟨m - 1, by omega, by omega, by omega⟩
        · have : ¬ okB c = true := by unfold okB; simp [hcl, hcd]
          have hno : ¬ i - 1 < tw := fun h => this (hn.2 h)
          have hie : i = 1 + tw := by omega
          simp [go_sem, t3, hN', f0, hi, hil, hc, hgc, letter_call L, digitc_call L, hcl, hcd, a1]
          omega
    · have hil : ¬ (i : Int) < s.length := by omega
      have hie : i = 1 + tw := by omega
      simp [go_sem, t3, hN', f0, hi, hil]
      omega
  · have hw : wordLen s = 0 := by rw [hbr]; simp [wordLen, hlet]
    simp [go_sem, h0, hN, hs0, hb, letter_call L, hlet, hw]
theorem word_call (L : LibN E) (hs : s.length < 1000000000000) : wpA E id_syntax_word [.str s] H nx fz R ↔ R ⟨.ret (.int .i64 (wordLen s : Int)), H, nx, fz, false⟩ := wpA_iff (word_val L hs) rfl
end
end Go.Am
end
section
set_option maxHeartbeats 16000000
namespace Go.Am
open Go Go.Nt
def isWord (s : List UInt8) : Bool := decide (wordLen s = s.length) && !(s == [])
def isNm (s : List UInt8) : Bool := decide (s.length ≤ 8) && isWord s && !isRes s
section
variable {E : Env} {n m : Nat} {s : List UInt8} {b : UInt8} {H : Heap} {nx : Nat} {fz : List Nat} {R : Back → Prop}
theorem isName_val (L : LibN E) (hs : s.length < 1000000000000) : Val E id_syntax_IsName [.str s] (.bool (isNm s)) := by
  refine val_fn L.isName rfl (by simp) fun T hN hA => ?_
  have h0 := hA 0 _ rfl
  by_cases h1 : s.length ≤ 8
  · have h1i : (s.length : Int) ≤ 8 := by omega
    by_cases h2 : wordLen s = s.length
    · by_cases h3 : s = []
      · subst h3
        simp [go_sem, h0, hN, h2, word_call L, reserved_call L, isNm, isWord, wordLen]
      · simp [go_sem, h0, hN, h1, h1i, h2, h3, word_call L hs, reserved_call L, isNm, isWord]
    · simp [go_sem, h0, hN, h1, h1i, h2, word_call L hs, reserved_call L, isNm, isWord]
  · have h1i : ¬ (s.length : Int) ≤ 8 := by omega
    simp [go_sem, h0, hN, h1, h1i, isNm]
theorem isName_call (L : LibN E) (hs : s.length < 1000000000000) : wpA E id_syntax_IsName [.str s] H nx fz R ↔ R ⟨.ret (.bool (isNm s)), H, nx, fz, false⟩ := wpA_iff (isName_val L hs) rfl
theorem isName2_val (L : LibN E) (hs : s.length < 1000000000000) : Val E id_expr_IsName [.str s] (.bool (isNm s)) := by
  refine val_fn L.isName2 rfl (by simp) fun T hN hA => ?_
  have h0 := hA 0 _ rfl
  simp [go_sem, h0, hN, isName_call L hs]
theorem isName2_call (L : LibN E) (hs : s.length < 1000000000000) : wpA E id_expr_IsName [.str s] H nx fz R ↔ R ⟨.ret (.bool (isNm s)), H, nx, fz, false⟩ := wpA_iff (isName2_val L hs) rfl
end
end Go.Am
end
section
set_option maxHeartbeats 16000000
namespace Go.Am
open Go Go.Nt
section
variable {E : Env} {n m : Nat} {s : List UInt8} {b : UInt8} {H : Heap} {nx : Nat} {fz : List Nat} {R : Back → Prop}
theorem tw_all {p : UInt8 → Bool} : ∀ {r : List UInt8}, (r.takeWhile p).length = r.length ↔ ∀ c ∈ r, p c = true
  | [] => by simp
  | x :: r => by
    have ih := tw_all (p := p) (r := r)
    have hle := tw_le (p := p) r
    rw [List.takeWhile_cons]
    cases hp : p x
    · simp [hp]
    · simp [hp, ih]
def okAt (i : Nat) (b : UInt8) : Bool := isLet b || (decide (i ≠ 0) && isDig b)
theorem isWord_iff : isWord s = true ↔ s ≠ [] ∧ ∀ i b, s[i]? = some b → okAt i b = true := by
  cases s with
  | nil => simp [isWord, wordLen]
  | cons b r =>
    have hlen := tw_all (p := okB) (r := r)
    have h0 : isWord (b :: r) = true ↔ isLet b = true ∧ (r.takeWhile okB).length = r.length := by
      unfold isWord wordLen
      have hle := tw_le (p := okB) r
      cases hl : isLet b
      · simp [hl]
      · simp [hl]; omega
    rw [h0, hlen]
    constructor
    · rintro ⟨h1, h2⟩
      refine ⟨by simp, fun i c hc => ?_⟩
      cases i with
      | zero => have : b = c := by simpa using hc
                subst this; simp [okAt, h1]
      | succ i =>
        have hc' : r[i]? = some c := by simpa using hc
        have := h2 c (List.mem_of_getElem? hc')
        simpa [okAt, okB] using this
    · rintro ⟨_, h⟩
      refine ⟨by simpa [okAt] using h 0 b rfl, fun c hc => ?_⟩
      obtain ⟨i, hi⟩ := List.getElem?_of_mem hc
      have := h (i + 1) c (by simpa using hi)
      simpa [okAt, okB] using this
theorem rword_val (L : LibN E) (hs : s.length < 1000000000000) : Val E id_ref04_word [.str s] (.bool (isWord s)) := by
  refine val_fn L.rword rfl (by simp) fun T hN hA => ?_
  have h0 := hA 0 _ rfl
  simp [go_sem, h0, hN]
  refine loop_v _ rfl (fun m t H nx fz => H = [] ∧ nx = 0 ∧ fz = [] ∧ ∃ (i : Nat), m + i = s.length ∧ getT t 3 = .int .i64 (i : Int) ∧ ∀ j b, j < i → s[j]? = some b → okAt j b = true) s.length ?_ ?_
  · exact ⟨rfl, rfl, rfl, 0, rfl, by simp [go_sem, hN], fun j b hj => by omega⟩
  rintro m t _ _ _ ⟨rfl, rfl, rfl, i, hm, t3, hok⟩ hF
  have hN' : t.length = 42 := by rw [hF.1]; simp [hN]
  have f0 : getT t 0 = .str s := by rw [hF.2 0 (by decide)]; simp [go_sem, h0]
  clear hF
  obtain ⟨i2, hi2⟩ : ∃ i2, i2 = i + 1 := ⟨_, rfl⟩
  have a1 : IntKind.i64.wrap ((i : Int) + 1) = i2 := by rw [wrapI_id (by omega) (by omega)]; omega
  by_cases hi : i < s.length
  · have hil : (i : Int) < s.length := by omega
    obtain ⟨c, hc⟩ : ∃ c, s[i]? = some c := ⟨_, List.getElem?_eq_getElem hi⟩
    have hgc : s[i] = c := (List.getElem?_eq_some_iff.1 hc).2
    have hnext : okAt i c = true → ∀ j b, j < i2 → s[j]? = some b → okAt j b = true := fun h j b hj hb => by
      rcases Nat.lt_or_eq_of_le (show j ≤ i by omega) with h2 | h2
      · exact hok j b h2 hb
      · subst h2; rw [hc] at hb; cases hb; exact h
    have hfalse : okAt i c = false → isWord s = false := fun h => by
      refine Bool.eq_false_iff.2 fun hw => ?_
      have := (isWord_iff.1 hw).2 i c hc
      rw [h] at this; cases this
    by_cases c1 : 97 ≤ c.toNat
    · have c1i : (97 : Int) ≤ (c.toNat : Int) := by omega
      by_cases c2 : c.toNat ≤ 122
      · have c2i : (c.toNat : Int) ≤ 122 := by omega
        have hk := hnext (by simp [okAt, isLet, c1, c2])
        simp [go_sem, t3, hN', f0, hi, hil, hc, hgc, c1, c1i, c2, c2i, a1]
        exact ⟨m - 1, by omega, i2, by omega, rfl, hk⟩
      · have c2i : ¬ (c.toNat : Int) ≤ 122 := by omega
        by_cases hz : i = 0
        · subst hz
          have hf := hfalse (by simp [okAt, isLet, c1, c2])
          simp [go_sem, t3, hN', f0, hi, hil, hc, hgc, c1, c1i, c2, c2i, hf]
        · have hzi : ¬ (i : Int) = 0 := by omega
          by_cases d1 : c.toNat < 48
          · have d1i : (c.toNat : Int) < 48 := by omega
            have hf := hfalse (by simp [okAt, isLet, isDig, c1, c2]; omega)
            simp [go_sem, t3, hN', f0, hi, hil, hc, hgc, c1, c1i, c2, c2i, a1, hz, hzi, d1, d1i, hf]
          · have d1i : ¬ (c.toNat : Int) < 48 := by omega
            by_cases d2 : 57 < c.toNat
            · have d2i : (57 : Int) < (c.toNat : Int) := by omega
              have hf := hfalse (by simp [okAt, isLet, isDig, c1, c2]; omega)
              simp [go_sem, t3, hN', f0, hi, hil, hc, hgc, c1, c1i, c2, c2i, a1, hz, hzi, d1, d1i, d2, d2i, hf]
            · have d2i : ¬ (57 : Int) < (c.toNat : Int) := by omega
              have hk := hnext (by simp [okAt, isLet, isDig, c1, c2, hz]; omega)
              simp [go_sem, t3, hN', f0, hi, hil, hc, hgc, c1, c1i, c2, c2i, a1, hz, hzi, d1, d1i, d2, d2i]
              exact ⟨m - 1, by omega, i2, by omega, rfl, hk⟩
    · have c1i : ¬ (97 : Int) ≤ (c.toNat : Int) := by omega
      by_cases hz : i = 0
      · subst hz
        have hf := hfalse (by simp [okAt, isLet, c1])
        simp [go_sem, t3, hN', f0, hi, hil, hc, hgc, c1, c1i, hf]
      · have hzi : ¬ (i : Int) = 0 := by omega
        by_cases d1 : c.toNat < 48
        · have d1i : (c.toNat : Int) < 48 := by omega
          have hf := hfalse (by simp [okAt, isLet, isDig, c1]; omega)
          simp [go_sem, t3, hN', f0, hi, hil, hc, hgc, c1, c1i, a1, hz, hzi, d1, d1i, hf]
        · have d1i : ¬ (c.toNat : Int) < 48 := by omega
          by_cases d2 : 57 < c.toNat
          · have d2i : (57 : Int) < (c.toNat : Int) := by omega
            have hf := hfalse (by simp [okAt, isLet, isDig, c1]; omega)
            simp [go_sem, t3, hN', f0, hi, hil, hc, hgc, c1, c1i, a1, hz, hzi, d1, d1i, d2, d2i, hf]
          · have d2i : ¬ (57 : Int) < (c.toNat : Int) := by omega
            have hk := hnext (by simp [okAt, isLet, isDig, c1, hz]; omega)
            simp [go_sem, t3, hN', f0, hi, hil, hc, hgc, c1, c1i, a1, hz, hzi, d1, d1i, d2, d2i]
            exact ⟨m - 1, by omega, i2, by omega, rfl, hk⟩
  · have hil : ¬ (i : Int) < s.length := by omega
    have hie : i = s.length := by omega
    simp [go_sem, t3, hN', f0, hi, hil]
    rw [Bool.eq_iff_iff, isWord_iff]
    simp only [decide_eq_true_eq]
    constructor
    · exact fun h => ⟨fun e => by rw [e] at h; simp at h, fun j b hb => hok j b (by have := (List.getElem?_eq_some_iff.1 hb).1; omega) hb⟩
    · exact fun h => List.length_pos_iff.2 h.1
theorem rword_call (L : LibN E) (hs : s.length < 1000000000000) : wpA E id_ref04_word [.str s] H nx fz R ↔ R ⟨.ret (.bool (isWord s)), H, nx, fz, false⟩ := wpA_iff (rword_val L hs) rfl
end
end Go.Am
end
section
set_option maxHeartbeats 16000000
namespace Go.Am
open Go Go.Nt
section
variable {E : Env} {n m : Nat} {s : List UInt8} {b : UInt8} {H : Heap} {nx : Nat} {fz : List Nat} {R : Back → Prop}
theorem rreserved_val (L : LibN E) : Val E id_ref04_reserved [] (.row 19 ((elemNames ++ otherNames).map .str)) := by
  refine val_fn L.rreserved rfl (by simp) fun T hN hA => ?_
  simp [go_sem, hN, elemNames, otherNames]
  rfl
theorem rreserved_call (L : LibN E) : wpA E id_ref04_reserved [] H nx fz R ↔ R ⟨.ret (.row 19 ((elemNames ++ otherNames).map .str)), H, nx, fz, false⟩ := wpA_iff (rreserved_val L) rfl
theorem risName_val (L : LibN E) (hs : s.length < 1000000000000) : Val E id_ref04_IsName [.str s] (.bool (isNm s)) := by
  refine val_fn L.risName rfl (by simp) fun T hN hA => ?_
  have h0 := hA 0 _ rfl
  obtain ⟨l, hl⟩ : ∃ l, l = elemNames ++ otherNames := ⟨_, rfl⟩
  have hl8 : l.length = 19 := by rw [hl]; rfl
  have nm := fun H nx fz R => rreserved_call (H := H) (nx := nx) (fz := fz) (R := R) L
  rw [← hl] at nm
  have hres : isRes s = l.contains s := by
    unfold isRes; rw [hl, Bool.eq_iff_iff]; simp [or_comm]
  by_cases h1 : s.length ≤ 8
  · have h1i : ¬ (8 : Int) < (s.length : Int) := by omega
    by_cases h2 : isWord s = true
    · have hnm : isNm s = !l.contains s := by unfold isNm; rw [hres, h2]; simp [h1]
      rw [hnm]
      simp [go_sem, h0, hN, h1i, h2, rword_call L hs, nm]
      refine loop_v _ rfl (fun m t H nx fz => H = [] ∧ nx = 0 ∧ fz = [] ∧ ∃ (i : Nat), m + i = 19 ∧ getT t 4 = .int .i64 (i : Int) ∧ ∀ j, j < i → l.getD j [] ≠ s) 19 ?_ ?_
      · exact ⟨rfl, rfl, rfl, 0, rfl, by simp [go_sem, hN], fun j hj => by omega⟩
      rintro m t _ _ _ ⟨rfl, rfl, rfl, i, hm, t4, hno⟩ hF
      have hN' : t.length = 26 := by rw [hF.1]; simp [hN]
      have f0 : getT t 0 = .str s := by rw [hF.2 0 (by decide)]; simp [go_sem, h0]
      have f3 : getT t 3 = .row 19 (l.map .str) := by rw [hF.2 3 (by decide)]; simp [go_sem, hN]
      clear hF
      by_cases hi : i < 19
      · have hil : (i : Int) < 19 := by omega
        have hp := part_strs (l := l) (i := i) (by omega)
        obtain ⟨x, hx⟩ : ∃ x, x = l.getD i [] := ⟨_, rfl⟩
        rw [← hx] at hp
        obtain ⟨i2, hi2⟩ : ∃ i2, i2 = i + 1 := ⟨_, rfl⟩
        have a1 : IntKind.i64.wrap ((i : Int) + 1) = i2 := by rw [wrapI_id (by omega) (by omega)]; omega
        by_cases he : x = s
        · obtain ⟨k1, k2⟩ := find_at (l := l) (i := i) (s := s) (by omega) (by rw [← hx]; exact he) hno
          simp [go_sem, t4, hN', f0, f3, hi, hil, hp, he, a1, k2]
        · simp [go_sem, t4, hN', f0, f3, hi, hil, hp, he, a1]
          refine ⟨m - 1, by omega, i2, by omega, rfl, fun j hj => ?_⟩
          rcases Nat.lt_or_eq_of_le (show j ≤ i by omega) with h | h
          · simpa using hno j h
          · subst h
            intro h2
            exact he (by rw [hx]; simpa using h2)
      · have hil : ¬ (i : Int) < 19 := by omega
        have hnm := not_mem_getD (l := l) (s := s) (fun j hj => hno j (by omega))
        simp [go_sem, t4, hN', f0, f3, hil, hnm]
    · have hnm : isNm s = false := by unfold isNm; simp [h2]
      simp [go_sem, h0, hN, h1i, h2, rword_call L hs, hnm]
  · have h1i : (8 : Int) < (s.length : Int) := by omega
    have hnm : isNm s = false := by unfold isNm; simp [h1]
    simp [go_sem, h0, hN, h1i, hnm]
theorem risName_call (L : LibN E) (hs : s.length < 1000000000000) : wpA E id_ref04_IsName [.str s] H nx fz R ↔ R ⟨.ret (.bool (isNm s)), H, nx, fz, false⟩ := wpA_iff (risName_val L hs) rfl
end
end Go.Am
end
section
set_option maxHeartbeats 16000000
namespace Go.Am
open Go Go.Nt
structure LibX (E : Env) : Prop where
  kids : At E id_expr_kids fn_expr_kids
  fields : At E id_expr_fields fn_expr_fields
  count : At E id_expr_count fn_expr_count
  valid : At E id_expr_Valid fn_expr_Valid
  rkids : At E id_ref04_kids fn_ref04_kids
  rarg : At E id_ref04_argument fn_ref04_argument
  rnode : At E id_ref04_node fn_ref04_node
  rwalk : At E id_ref04_walk fn_ref04_walk
  rvalid : At E id_ref04_Valid fn_ref04_Valid
  rhas : At E id_ref04_Has fn_ref04_Has
  rnames : At E id_ref04_Names fn_ref04_Names
  rput : At E id_ref04_put fn_ref04_put
def kidsN (op : Int) : Int :=
  if op ∈ [1, 2, 3] then 0 else if op ∈ [4, 9, 10, 11, 12] then 1 else if op ∈ [5, 6, 7, 8, 13, 14] then 2 else if op = 15 then 3 else -1
section
variable {E : Env} {n m : Nat} {op : Int} {H : Heap} {nx : Nat} {fz : List Nat} {R : Back → Prop}
theorem kids_cases (op : Int) : (op = 1 ∨ op = 2 ∨ op = 3 ∨ op = 4 ∨ op = 5 ∨ op = 6 ∨ op = 7 ∨ op = 8 ∨ op = 9 ∨ op = 10 ∨ op = 11 ∨ op = 12 ∨ op = 13 ∨ op = 14 ∨ op = 15) ∨ (kidsN op = -1 ∧ ¬ op = 1 ∧ ¬ op = 2 ∧ ¬ op = 3 ∧ ¬ op = 4 ∧ ¬ op = 5 ∧ ¬ op = 6 ∧ ¬ op = 7 ∧ ¬ op = 8 ∧ ¬ op = 9 ∧ ¬ op = 10 ∧ ¬ op = 11 ∧ ¬ op = 12 ∧ ¬ op = 13 ∧ ¬ op = 14 ∧ ¬ op = 15) := by
  by_cases h : 1 ≤ op ∧ op ≤ 15
  · left; omega
  · right
    refine ⟨?_, by omega, by omega, by omega, by omega, by omega, by omega, by omega, by omega, by omega, by omega, by omega, by omega, by omega, by omega, by omega⟩
    unfold kidsN
    simp only [List.mem_cons, List.not_mem_nil, or_false]
    rw [if_neg (by omega), if_neg (by omega), if_neg (by omega), if_neg (by omega)]
theorem rkids_val (L : LibX E) : Val E id_ref04_kids [.int .i64 op] (.int .i64 (kidsN op)) := by
  refine val_fn L.rkids rfl (by simp) fun T hN hA => ?_
  have h0 := hA 0 _ rfl
  rcases kids_cases op with h | ⟨hk, k1, k2, k3, k4, k5, k6, k7, k8, k9, k10, k11, k12, k13, k14, k15⟩
  · rcases h with rfl | rfl | rfl | rfl | rfl | rfl | rfl | rfl | rfl | rfl | rfl | rfl | rfl | rfl | rfl <;> simp [go_sem, h0, hN, kidsN]
  · simp [go_sem, h0, hN, hk, k1, k2, k3, k4, k5, k6, k7, k8, k9, k10, k11, k12, k13, k14, k15]
theorem rkids_call (L : LibX E) : wpA E id_ref04_kids [.int .i64 op] H nx fz R ↔ R ⟨.ret (.int .i64 (kidsN op)), H, nx, fz, false⟩ := wpA_iff (rkids_val L) rfl
theorem kids_val (L : LibX E) : Val E id_expr_kids [.int .i64 op] (.tuple [.int .i64 (if kidsN op = -1 then 0 else kidsN op), .bool (decide (kidsN op ≠ -1))]) := by
  refine val_fn L.kids rfl (by simp) fun T hN hA => ?_
  have h0 := hA 0 _ rfl
  rcases kids_cases op with h | ⟨hk, k1, k2, k3, k4, k5, k6, k7, k8, k9, k10, k11, k12, k13, k14, k15⟩
  · rcases h with rfl | rfl | rfl | rfl | rfl | rfl | rfl | rfl | rfl | rfl | rfl | rfl | rfl | rfl | rfl <;> simp [go_sem, h0, hN, kidsN]
  · simp [go_sem, h0, hN, hk, k1, k2, k3, k4, k5, k6, k7, k8, k9, k10, k11, k12, k13, k14, k15]
theorem kids_call (L : LibX E) : wpA E id_expr_kids [.int .i64 op] H nx fz R ↔ R ⟨.ret (.tuple [.int .i64 (if kidsN op = -1 then 0 else kidsN op), .bool (decide (kidsN op ≠ -1))]), H, nx, fz, false⟩ := wpA_iff (kids_val L) rfl
end
end Go.Am
end
section
set_option maxHeartbeats 16000000
namespace Go.Am
open Go Go.Nt
structure Rt where
  neg : Bool
  num : List Nat
  den : List Nat
def Rt.n (r : Rt) : Nat := val 4294967296 r.num
def Rt.d (r : Rt) : Nat := val 4294967296 r.den
def Rt.cells (r : Rt) : List AV := [.bool r.neg, R32 r.num, R32 r.den]
structure Rt.ok (r : Rt) : Prop where
  num : digs 4294967296 r.num
  den : digs 4294967296 r.den
  nl : r.num.length < 4000000
  dl : r.den.length < 4000000
inductive Xp where
  | mk (op arg : Int) (num : Rt) (name : List UInt8) (kids : List Xp)
mutual
def Xp.cells : Xp → List AV
  | .mk op arg r name kids => [.int .i64 op, .int .i64 arg, .bool r.neg, R32 r.num, R32 r.den, .str name, .row kids.length (Xp.cellsL kids)]
def Xp.cellsL : List Xp → List AV
  | [] => []
  | x :: l => x.cells ++ Xp.cellsL l
end
def argLo (op : Int) : Int := if op = 9 then -32 else if op = 10 then 2 else if op = 11 then 1 else 0
def argHi (op : Int) : Int := if op = 9 then 32 else if op = 10 then 8 else if op = 11 then 8 else 0
def numOk (r : Rt) : Bool := readB r.n r.d && decide (0 ≤ sgn (r.neg && decide (r.n ≠ 0)) (r.n / Nat.gcd r.n (readD r.d)))
def fieldsP (op arg : Int) (r : Rt) (name : List UInt8) (k : Nat) : Bool :=
  decide ((k : Int) = kidsN op) && (decide (argLo op ≤ arg) && decide (arg ≤ argHi op)) && (if op = 2 then isNm name else name == []) && (if op = 1 then numOk r else decide (r.n = 0))
section
variable {E : Env} {n m : Nat} {op arg : Int} {r : Rt} {name : List UInt8} {k : Nat} {cs : List AV} {H : Heap} {nx : Nat} {fz : List Nat} {R : Back → Prop}
theorem fields_rest (LW : LibW E) (LN : LibN E) (L : LibX E) {T : List AV} {lo hi : Int} (hr : r.ok) (hs : name.length < 1000000000000) (hN : T.length = 83) (h1 : getT T 1 = .ptr 0 0) (h3 : getT T 3 = .int .i64 lo) (h4 : getT T 4 = .int .i64 hi) (hlo : argLo op = lo) (hhi : argHi op = hi) :
    vC E (restC (restC (restC fn_expr_fields.body))) ⟨T, [some (.cells 27 7 [.int .i64 op, .int .i64 arg, .bool r.neg, R32 r.num, R32 r.den, .str name, .row k cs])], 1, [], [], false⟩ (leaveV E [.tmp 2] (retV (.bool (fieldsP op arg r name k)))) := by
  simp only [restC, fn_expr_fields]
  have kc := fun H nx fz R => kids_call (op := op) (H := H) (nx := nx) (fz := fz) (R := R) L
  have of' := fun H nx fz R => of_call (H := H) (nx := nx) (fz := fz) (R := R) LW hr.num (by have := hr.nl; omega)
  have rd := fun H nx fz R => read_call (neg := r.neg) (H := H) (nx := nx) (fz := fz) (R := R) LW hr.num hr.den (by have := hr.nl; omega) (by have := hr.dl; omega)
  have nmc := fun H nx fz R => isName2_call (s := name) (H := H) (nx := nx) (fz := fz) (R := R) LN hs
  change ∀ H nx fz R, wpA E id_word_Of [R32 r.num] H nx fz R ↔ R ⟨.ret (N32 r.n), H, nx, fz, false⟩ at of'
  change ∀ H nx fz R, wpA E id_word_Read [.agg [.bool r.neg, R32 r.num, R32 r.den]] H nx fz R ↔ R ⟨.ret (.tuple [readF r.neg r.n r.d, .bool (readB r.n r.d)]), H, nx, fz, false⟩ at rd
  by_cases hk : kidsN op = -1
  · have hf : fieldsP op arg r name k = false := by
      unfold fieldsP
      rw [show decide ((k : Int) = kidsN op) = false by rw [hk]; simp]; rfl
    simp [go_sem, hN, h1, h3, h4, kc, hk, hf]
  by_cases hkk : (k : Int) = kidsN op
  · by_cases ha : lo ≤ arg
    · by_cases hb : arg ≤ hi
      · have hf : fieldsP op arg r name k = ((if op = 2 then isNm name else name == []) && (if op = 1 then numOk r else decide (r.n = 0))) := by
          unfold fieldsP; rw [hlo, hhi]; simp [hkk, ha, hb]
        rw [hf]
        have ha2 : ¬ arg < lo := by omega
        have hb2 : ¬ hi < arg := by omega
        by_cases hop2 : op = 2
        · subst hop2
          by_cases hnm : isNm name = true
          · simp [go_sem, hN, h1, h3, h4, kc, hk, hkk, ha2, hb2, nmc, hnm, of', zero_call LW]
          · simp [go_sem, hN, h1, h3, h4, kc, hk, hkk, ha2, hb2, nmc, hnm]
        · by_cases hne : name = []
          · by_cases hop1 : op = 1
            · subst hop1
              by_cases hrb : readB r.n r.d = true
              · have hok : readOk r.n r.d = true := by
                  unfold readB at hrb; simp only [Bool.and_eq_true] at hrb; exact hrb.1
                have hF : readF r.neg r.n r.d = F32 (r.neg && decide (r.n ≠ 0)) (r.n / Nat.gcd r.n (readD r.d)) (readD r.d / Nat.gcd r.n (readD r.d)) := by unfold readF; rw [if_pos hok]
                have sg := fun H nx fz R => wpA_iff (H := H) (nx := nx) (fz := fz) (R := R) (sign_val (n := r.n / Nat.gcd r.n (readD r.d)) (m := readD r.d / Nat.gcd r.n (readD r.d)) LW (r.neg && decide (r.n ≠ 0))) rfl
                rw [hF] at rd
                have hno : numOk r = decide (0 ≤ sgn (r.neg && decide (r.n ≠ 0)) (r.n / Nat.gcd r.n (readD r.d))) := by unfold numOk; rw [hrb, Bool.true_and]
                rw [hno]
                generalize (r.neg && decide (r.n ≠ 0)) = ng at *
                simp [go_sem, hN, h1, h3, h4, kc, hk, hkk, ha2, hb2, hne, rd, hrb, sg]
              · have hno : numOk r = false := by unfold numOk; simp [hrb]
                obtain ⟨b', n', d', hF⟩ : ∃ b' n' d', readF r.neg r.n r.d = F32 b' n' d' := by unfold readF; split <;> exact ⟨_, _, _, rfl⟩
                rw [hF] at rd
                simp [go_sem, hN, h1, h3, h4, kc, hk, hkk, ha2, hb2, hne, hno, rd, hrb]
            · simp [go_sem, hN, h1, h3, h4, kc, hk, hkk, ha2, hb2, hop1, hop2, hne, of', zero_call LW]
          · have hb : (name == []) = false := by simpa using hne
            simp [go_sem, hN, h1, h3, h4, kc, hk, hkk, ha2, hb2, hop2, hne, hb]
      · have hf : fieldsP op arg r name k = false := by unfold fieldsP; rw [hlo, hhi]; simp [hb]
        have ha2 : ¬ arg < lo := by omega
        have hb2 : hi < arg := by omega
        simp [go_sem, hN, h1, h3, h4, kc, hk, hkk, ha2, hb2, hf]
    · have hf : fieldsP op arg r name k = false := by unfold fieldsP; rw [hlo, hhi]; simp [ha]
      have ha2 : arg < lo := by omega
      simp [go_sem, hN, h1, h3, h4, kc, hk, hkk, ha2, hf]
  · have hf : fieldsP op arg r name k = false := by unfold fieldsP; simp [hkk]
    simp [go_sem, hN, h1, h3, h4, kc, hk, hkk, hf]
theorem fields_val (LW : LibW E) (LN : LibN E) (L : LibX E) (hr : r.ok) (hs : name.length < 1000000000000) : Val E id_expr_fields [.agg [.int .i64 op, .int .i64 arg, .bool r.neg, R32 r.num, R32 r.den, .str name, .row k cs]] (.bool (fieldsP op arg r name k)) := by
  refine val_fn (body := .seq (firstC fn_expr_fields.body) (.seq (firstC (restC fn_expr_fields.body)) (.seq (firstC (restC (restC fn_expr_fields.body))) (restC (restC (restC fn_expr_fields.body)))))) L.fields rfl (by simp) fun T hN hA => ?_
  have h0 := hA 0 _ rfl
  have key := fun T lo hi hN h1 h3 h4 hlo hhi => fields_rest (E := E) (T := T) (lo := lo) (hi := hi) (op := op) (arg := arg) (k := k) (cs := cs) LW LN L hr hs hN h1 h3 h4 hlo hhi
  generalize restC (restC (restC fn_expr_fields.body)) = rest at key ⊢
  simp only [firstC, restC, fn_expr_fields]
  by_cases h9 : op = 9
  · subst h9
    simp [go_sem, h0, hN]
    exact key _ (-32) 32 (by simp [hN]) (by simp [go_sem, hN]) (by simp [go_sem, hN]) (by simp [go_sem, hN]) rfl rfl
  by_cases h10 : op = 10
  · subst h10
    simp [go_sem, h0, hN]
    exact key _ 2 8 (by simp [hN]) (by simp [go_sem, hN]) (by simp [go_sem, hN]) (by simp [go_sem, hN]) rfl rfl
  by_cases h11 : op = 11
  · subst h11
    simp [go_sem, h0, hN]
    exact key _ 1 8 (by simp [hN]) (by simp [go_sem, hN]) (by simp [go_sem, hN]) (by simp [go_sem, hN]) rfl rfl
  simp [go_sem, h0, hN, h9, h10, h11]
  exact key _ 0 0 (by simp [hN]) (by simp [go_sem, hN]) (by simp [go_sem, hN]) (by simp [go_sem, hN]) (by simp [argLo, h9, h10, h11]) (by simp [argHi, h9, h10, h11])
theorem fields_call (LW : LibW E) (LN : LibN E) (L : LibX E) (hr : r.ok) (hs : name.length < 1000000000000) : wpA E id_expr_fields [.agg [.int .i64 op, .int .i64 arg, .bool r.neg, R32 r.num, R32 r.den, .str name, .row k cs]] H nx fz R ↔ R ⟨.ret (.bool (fieldsP op arg r name k)), H, nx, fz, false⟩ := wpA_iff (fields_val LW LN L hr hs) rfl
end
end Go.Am
end
section
set_option maxHeartbeats 16000000
namespace Go.Am
open Go Go.Nt
mutual
def Xp.cnt : Xp → Int → Int → Int
  | .mk op arg r name kids, d, n => if n + 1 > 300 ∨ d > 30 ∨ fieldsP op arg r name kids.length = false then 301 else Xp.cntL kids (d + 1) (n + 1)
def Xp.cntL : List Xp → Int → Int → Int
  | [], _, n => n
  | x :: l, d, n => if x.cnt d n > 300 then x.cnt d n else Xp.cntL l d (x.cnt d n)
end
mutual
def Xp.ok : Xp → Prop
  | .mk op arg r name kids => r.ok ∧ name.length < 1000000000000 ∧ kids.length < 1000000000 ∧ Xp.okL kids
def Xp.okL : List Xp → Prop
  | [] => True
  | x :: l => x.ok ∧ Xp.okL l
end
theorem Xp.okL_mem : ∀ {l : List Xp} {x : Xp}, Xp.okL l → x ∈ l → x.ok
  | [], _, _, h => by simp at h
  | y :: l, x, h, hx => by
    simp only [Xp.okL] at h
    rcases List.mem_cons.1 hx with rfl | hx
    · exact h.1
    · exact Xp.okL_mem h.2 hx
theorem Xp.cells_len (x : Xp) : x.cells.length = 7 := by cases x; simp [Xp.cells]
theorem Xp.cellsL_len : ∀ (l : List Xp), (Xp.cellsL l).length = 7 * l.length
  | [] => rfl
  | x :: l => by simp only [Xp.cellsL, List.length_append, Xp.cells_len, Xp.cellsL_len l, List.length_cons]; omega
theorem Xp.cellsL_get : ∀ {l : List Xp} {i : Nat} (h : i < l.length), ((Xp.cellsL l).drop (i * 7)).take 7 = (l[i]).cells
  | [], i, h => by simp at h
  | x :: l, 0, h => by simp only [Xp.cellsL, Nat.zero_mul, List.drop_zero, List.getElem_cons_zero]; rw [List.take_append_of_le_length (by rw [Xp.cells_len]; omega), List.take_of_length_le (by rw [Xp.cells_len]; omega)]
  | x :: l, i + 1, h => by
    simp only [Xp.cellsL, List.getElem_cons_succ]
    rw [show (i + 1) * 7 = x.cells.length + i * 7 by rw [Xp.cells_len]; omega, ← List.drop_drop, List.drop_left]
    exact Xp.cellsL_get (by simpa using h)
theorem Xp.cellsL_part {l : List Xp} {i : Nat} (h : i < l.length) : partA true ((Xp.cellsL l).drop (i * 7)) 0 7 = some (.agg (l[i]).cells) := by
  have h1 : 0 + 7 ≤ ((Xp.cellsL l).drop (i * 7)).length := by rw [List.length_drop, Xp.cellsL_len]; omega
  simp only [partA, if_pos h1, if_true, List.drop_zero, Xp.cellsL_get h]
section
variable {E : Env} {H : Heap} {nx : Nat} {fz : List Nat} {R : Back → Prop}
mutual
theorem Xp.cnt_ge : ∀ (x : Xp) (d n : Int), 0 ≤ n → 0 ≤ x.cnt d n
  | .mk op arg r name kids, d, n, hn => by
    rw [Xp.cnt]
    split
    · omega
    · exact Xp.cntL_ge kids (d + 1) (n + 1) (by omega)
theorem Xp.cntL_ge : ∀ (l : List Xp) (d n : Int), 0 ≤ n → 0 ≤ Xp.cntL l d n
  | [], d, n, hn => by rw [Xp.cntL]; exact hn
  | x :: l, d, n, hn => by
    rw [Xp.cntL]
    have := Xp.cnt_ge x d n hn
    split
    · exact this
    · exact Xp.cntL_ge l d _ this
end
theorem closed_cells (x : Xp) (d n : Int) : closedL [.agg x.cells, .int .i64 d, .int .i64 n] = true := by
  cases x; rfl
theorem count_step (LW : LibW E) (LN : LibN E) (L : LibX E) {op arg : Int} {r : Rt} {name : List UInt8} {kids : List Xp} {d n : Int} (hok : (Xp.mk op arg r name kids).ok) (hd : 1 ≤ d) (hd2 : d ≤ 31) (hn : 0 ≤ n) (hn2 : n ≤ 300)
    (ih : ∀ x ∈ kids, ∀ d n : Int, 1 ≤ d → d ≤ 31 → 0 ≤ n → n ≤ 300 → Val E id_expr_count [.agg x.cells, .int .i64 d, .int .i64 n] (.int .i64 (x.cnt d n))) :
    Val E id_expr_count [.agg (Xp.mk op arg r name kids).cells, .int .i64 d, .int .i64 n] (.int .i64 ((Xp.mk op arg r name kids).cnt d n)) := by
  simp only [Xp.ok] at hok
  obtain ⟨hr, hnl, hkl, hkids⟩ := hok
  simp only [Xp.cells]
  refine val_fn L.count rfl (by simp) fun T hN hA => ?_
  have h0 := hA 0 _ rfl
  have h1 := hA 1 _ rfl
  have h2 := hA 2 _ rfl
  have fc := fun H nx fz R => fields_call (op := op) (arg := arg) (k := kids.length) (cs := Xp.cellsL kids) (H := H) (nx := nx) (fz := fz) (R := R) LW LN L hr hnl
  obtain ⟨n1, hn1⟩ : ∃ n1, n1 = n + 1 := ⟨_, rfl⟩
  have w1 : IntKind.i64.wrap (n + 1) = n1 := by rw [wrapI_id (by omega) (by omega)]; omega
  have hcn : (Xp.mk op arg r name kids).cnt d n = if n1 > 300 ∨ d > 30 ∨ fieldsP op arg r name kids.length = false then 301 else Xp.cntL kids (d + 1) n1 := by rw [Xp.cnt, hn1]
  rw [hcn]
  by_cases c1 : 300 < n1
  · simp [go_sem, h0, h1, h2, hN, w1, c1]
  by_cases c2 : 30 < d
  · simp [go_sem, h0, h1, h2, hN, w1, c1, c2]
  by_cases c3 : fieldsP op arg r name kids.length = false
  · simp [go_sem, h0, h1, h2, hN, w1, c1, c2, c3, fc]
  have c3' : fieldsP op arg r name kids.length = true := by simpa using c3
  simp [go_sem, h0, h1, h2, hN, w1, c1, c2, c3', fc]
  refine loop_v _ rfl (fun m t H nx fz => fz = [] ∧ ∃ (i : Nat) (q : Int), m + i = kids.length ∧ getT t 25 = .int .i64 (i : Int) ∧ getT t 2 = .int .i64 q ∧ 0 ≤ q ∧ q ≤ 300 ∧ Xp.cntL (kids.drop i) (d + 1) q = Xp.cntL kids (d + 1) n1) kids.length ?_ ?_
  · exact ⟨rfl, 0, n1, rfl, by simp [go_sem, hN], by simp [go_sem, hN], by omega, by omega, rfl⟩
  rintro m t H nx fz ⟨rfl, i, q, hm, t25, t2, hq0, hq, hcl⟩ hF
  have hN' : t.length = 39 := by rw [hF.1]; simp [hN]
  have f1 : getT t 1 = .int .i64 d := by rw [hF.2 1 (by decide)]; simp [go_sem, h1]
  have f23 : getT t 23 = .row kids.length (Xp.cellsL kids) := by rw [hF.2 23 (by decide)]; simp [go_sem, hN]
  have f24 : getT t 24 = .int .i64 (kids.length : Int) := by rw [hF.2 24 (by decide)]; simp [go_sem, hN]
  clear hF
  by_cases hi : i < kids.length
  · have hil : (i : Int) < kids.length := by omega
    have hp := Xp.cellsL_part hi
    obtain ⟨x, hx⟩ : ∃ x, x = kids[i] := ⟨_, rfl⟩
    rw [← hx] at hp
    have hmem : x ∈ kids := by rw [hx]; exact List.getElem_mem hi
    obtain ⟨d2, hd2'⟩ : ∃ d2, d2 = d + 1 := ⟨_, rfl⟩
    have w2 : IntKind.i64.wrap (d + 1) = d2 := by rw [wrapI_id (by omega) (by omega)]; omega
    obtain ⟨i2, hi2⟩ : ∃ i2, i2 = i + 1 := ⟨_, rfl⟩
    have w3 : IntKind.i64.wrap ((i : Int) + 1) = i2 := by rw [wrapI_id (by omega) (by omega)]; omega
    have cc := fun H nx fz R => wpA_iff (H := H) (nx := nx) (fz := fz) (R := R) (ih x hmem d2 q (by omega) (by omega) hq0 hq) (closed_cells x d2 q)
    have hcl2 : Xp.cntL kids d2 n1 = if x.cnt d2 q > 300 then x.cnt d2 q else Xp.cntL (kids.drop (i + 1)) d2 (x.cnt d2 q) := by
      rw [hd2', ← hcl, List.drop_eq_getElem_cons hi, ← hx, Xp.cntL]
    have hge := Xp.cnt_ge x d2 q hq0
    obtain ⟨q2, hq2⟩ : ∃ q2, q2 = x.cnt d2 q := ⟨_, rfl⟩
    rw [← hq2] at cc hcl2 hge
    have hxl : ∃ (o a : Int) (bb : Bool) (u v : List Nat) (s : List UInt8) (k : Nat) (cs : List AV), x.cells = [.int .i64 o, .int .i64 a, .bool bb, R32 u, R32 v, .str s, .row k cs] := by
      cases x; exact ⟨_, _, _, _, _, _, _, _, rfl⟩
    obtain ⟨o, a, bb, u, v, s, k, cs, hxl⟩ := hxl
    rw [hxl] at hp cc
    by_cases hc : 300 < q2
    · simp [go_sem, t25, t2, hN', f1, f23, f24, hi, hil, hp, w2, w3, cc, hc]
      rw [← hd2', hcl2, if_pos (by omega)]
    · simp [go_sem, t25, t2, hN', f1, f23, f24, hi, hil, hp, w2, w3, cc, hc]
      exact ⟨m - 1, by omega, i2, by omega, rfl, hge, by omega, by rw [← hd2', hcl2, if_neg (by omega), hi2]⟩
  · have hil : ¬ (i : Int) < kids.length := by omega
    rw [List.drop_of_length_le (by omega), Xp.cntL] at hcl
    simp [go_sem, t25, t2, hN', f23, f24, hil]
    exact hcl
theorem count_val (LW : LibW E) (LN : LibN E) (L : LibX E) : ∀ (x : Xp), x.ok → ∀ d n : Int, 1 ≤ d → d ≤ 31 → 0 ≤ n → n ≤ 300 → Val E id_expr_count [.agg x.cells, .int .i64 d, .int .i64 n] (.int .i64 (x.cnt d n))
  | .mk op arg r name kids, hok, d, n, hd, hd2, hn, hn2 => count_step LW LN L hok hd hd2 hn hn2 fun x hx => by
    have : SizeOf.sizeOf x < SizeOf.sizeOf kids := List.sizeOf_lt_of_mem hx
    exact count_val LW LN L x (Xp.okL_mem (by simp only [Xp.ok] at hok; exact hok.2.2.2) hx)
  termination_by x => SizeOf.sizeOf x
  decreasing_by simp; omega
def Xp.valid (x : Xp) : Bool := decide (x.cnt 1 0 ≤ 300)
theorem Xp.cells_form (x : Xp) : ∃ (o a : Int) (bb : Bool) (u v : List Nat) (s : List UInt8) (k : Nat) (cs : List AV), x.cells = [.int .i64 o, .int .i64 a, .bool bb, R32 u, R32 v, .str s, .row k cs] := by
  cases x; exact ⟨_, _, _, _, _, _, _, _, rfl⟩
theorem closed_cells1 (x : Xp) : closedL [.agg x.cells] = true := by cases x; rfl
theorem valid_val (LW : LibW E) (LN : LibN E) (L : LibX E) (x : Xp) (hok : x.ok) : Val E id_expr_Valid [.agg x.cells] (.bool x.valid) := by
  have cc := fun H nx fz R => wpA_iff (H := H) (nx := nx) (fz := fz) (R := R) (count_val LW LN L x hok 1 0 (by omega) (by omega) (by omega) (by omega)) (closed_cells x 1 0)
  obtain ⟨o, a, bb, u, v, s, k, cs, hxl⟩ := x.cells_form
  rw [hxl] at cc ⊢
  refine val_fn L.valid rfl (by simp) fun T hN hA => ?_
  have h0 := hA 0 _ rfl
  simp [go_sem, h0, hN, cc, Xp.valid]
theorem valid_call (LW : LibW E) (LN : LibN E) (L : LibX E) (x : Xp) (hok : x.ok) : wpA E id_expr_Valid [.agg x.cells] H nx fz R ↔ R ⟨.ret (.bool x.valid), H, nx, fz, false⟩ := wpA_iff (valid_val LW LN L x hok) (closed_cells1 x)
end
end Go.Am
end
section
set_option maxHeartbeats 16000000
namespace Go.Am
open Go Go.Nt
theorem len_two (x k : Nat) : (dig 4294967296 x).length ≤ k ↔ (dig 65536 x).length ≤ 2 * k := by
  rw [dig_len_le hB, dig_len_le hB16, Nat.pow_mul]
theorem read_large (n d : Nat) : readB n d = !large16 n d := by
  have h1 := len_two n 256
  have h2 := len_two d 256
  have h3 := len_two (n / Nat.gcd n (readD d)) 64
  have h4 := len_two (readD d / Nat.gcd n (readD d)) 64
  unfold readB readOk large16 over16
  generalize n / Nat.gcd n (readD d) = p at *
  generalize readD d / Nat.gcd n (readD d) = q at *
  rw [Bool.eq_iff_iff]
  simp only [Bool.and_eq_true, decide_eq_true_eq, Bool.not_eq_true', Bool.or_eq_false_iff, decide_eq_false_iff_not]
  omega
section
variable {E : Env} {n m : Nat} {op arg : Int} {r : Rt} {name : List UInt8} {k : Nat} {cs : List AV} {H : Heap} {nx : Nat} {fz : List Nat} {R : Back → Prop}
theorem rarg_val (L : LibX E) : Val E id_ref04_argument [.agg [.int .i64 op, .int .i64 arg, .bool r.neg, R32 r.num, R32 r.den, .str name, .row k cs]] (.bool (decide (argLo op ≤ arg) && decide (arg ≤ argHi op))) := by
  refine val_fn L.rarg rfl (by simp) fun T hN hA => ?_
  have h0 := hA 0 _ rfl
  by_cases h9 : op = 9
  · subst h9
    by_cases ha : -32 ≤ arg
    · simp [go_sem, h0, hN, argLo, argHi, ha]
    · simp [go_sem, h0, hN, argLo, argHi, ha]
  by_cases h10 : op = 10
  · subst h10
    by_cases ha : 2 ≤ arg
    · simp [go_sem, h0, hN, argLo, argHi, ha]
    · simp [go_sem, h0, hN, argLo, argHi, ha]
  by_cases h11 : op = 11
  · subst h11
    by_cases ha : 1 ≤ arg
    · simp [go_sem, h0, hN, argLo, argHi, ha]
    · simp [go_sem, h0, hN, argLo, argHi, ha]
  have e1 : argLo op = 0 := by simp [argLo, h9, h10, h11]
  have e2 : argHi op = 0 := by simp [argHi, h9, h10, h11]
  simp [go_sem, h0, hN, h9, h10, h11, e1, e2]
  rw [Bool.eq_iff_iff]
  simp
  omega
theorem rarg_call (L : LibX E) : wpA E id_ref04_argument [.agg [.int .i64 op, .int .i64 arg, .bool r.neg, R32 r.num, R32 r.den, .str name, .row k cs]] H nx fz R ↔ R ⟨.ret (.bool (decide (argLo op ≤ arg) && decide (arg ≤ argHi op))), H, nx, fz, false⟩ := wpA_iff (rarg_val L) rfl
theorem node_val (LR : LibR E) (LN : LibN E) (L : LibX E) (hr : r.ok) (hs : name.length < 1000000000000) : Val E id_ref04_node [.agg [.int .i64 op, .int .i64 arg, .bool r.neg, R32 r.num, R32 r.den, .str name, .row k cs]] (.bool (fieldsP op arg r name k)) := by
  have kc := fun H nx fz R => rkids_call (op := op) (H := H) (nx := nx) (fz := fz) (R := R) L
  have ac := fun H nx fz R => rarg_call (op := op) (arg := arg) (r := r) (name := name) (k := k) (cs := cs) (H := H) (nx := nx) (fz := fz) (R := R) L
  have lg := fun H nx fz R => large_call (neg := r.neg) (H := H) (nx := nx) (fz := fz) (R := R) LR hr.num hr.den hr.nl hr.dl
  have ofc := fun H nx fz R => of16_call (neg := r.neg) (H := H) (nx := nx) (fz := fz) (R := R) LR hr.num hr.den hr.nl hr.dl
  have zc := fun H nx fz R => zero16_call (neg := r.neg) (v := r.den) (H := H) (nx := nx) (fz := fz) (R := R) LR hr.num hr.nl
  have nmc := fun H nx fz R => risName_call (s := name) (H := H) (nx := nx) (fz := fz) (R := R) LN hs
  have bv1 := L.rkids.bv rfl
  have bv2 := L.rarg.bv rfl
  have hlr := read_large r.n r.d
  change ∀ H nx fz R, wpA E id_ref01_Large [.agg [.bool r.neg, R32 r.num, R32 r.den]] H nx fz R ↔ R ⟨.ret (.bool (large16 r.n r.d)), H, nx, fz, false⟩ at lg
  change ∀ H nx fz R, wpA E id_ref01_Of [.agg [.bool r.neg, R32 r.num, R32 r.den]] H nx fz R ↔ R ⟨.ret (ofF r.neg r.n r.d), H, nx, fz, false⟩ at ofc
  change ∀ H nx fz R, wpA E id_ref01_Zero [.agg [.bool r.neg, R32 r.num, R32 r.den]] H nx fz R ↔ R ⟨.ret (.bool (decide (r.n = 0))), H, nx, fz, false⟩ at zc
  refine val_fn L.rnode rfl (by simp) fun T hN hA => ?_
  have h0 := hA 0 _ rfl
  by_cases hk : (k : Int) = kidsN op
  · have hk' : kidsN op = (k : Int) := hk.symm
    by_cases ha : (decide (argLo op ≤ arg) && decide (arg ≤ argHi op)) = true
    · have hf : fieldsP op arg r name k = ((if op = 2 then isNm name else name == []) && (if op = 1 then numOk r else decide (r.n = 0))) := by
        unfold fieldsP; rw [ha]; simp [hk]
      rw [hf]
      rw [ha] at ac
      by_cases hop1 : op = 1
      · subst hop1
        unfold ofF at ofc
        have sg := fun H nx fz R => sgn16_call (neg := r.neg && decide (r.n ≠ 0)) (n := r.n / Nat.gcd r.n (readD r.d)) (d := readD r.d / Nat.gcd r.n (readD r.d)) (H := H) (nx := nx) (fz := fz) (R := R) LR
        have hno : numOk r = (!large16 r.n r.d && decide (0 ≤ sgn (r.neg && decide (r.n ≠ 0)) (r.n / Nat.gcd r.n (readD r.d)))) := by unfold numOk; rw [hlr]
        rw [hno]
        generalize (r.neg && decide (r.n ≠ 0)) = ng at *
        by_cases hl : large16 r.n r.d = true
        · simp [go_sem, h0, hN, kc, hk', ac, bv1, bv2, lg, hl]
        · by_cases hsg : 0 ≤ sgn ng (r.n / Nat.gcd r.n (readD r.d))
          · simp [go_sem, h0, hN, kc, hk', ac, bv1, bv2, lg, hl, ofc, sg, hsg]
          · simp [go_sem, h0, hN, kc, hk', ac, bv1, bv2, lg, hl, ofc, sg, hsg]
      by_cases hz : r.n = 0
      · by_cases hop2 : op = 2
        · subst hop2
          simp [go_sem, h0, hN, kc, hk', ac, bv1, bv2, zc, hz, nmc]
        · simp [go_sem, h0, hN, kc, hk', ac, bv1, bv2, zc, hz, hop1, hop2]
      · simp [go_sem, h0, hN, kc, hk', ac, bv1, bv2, zc, hz, hop1]
    · have hf : fieldsP op arg r name k = false := by unfold fieldsP; rw [Bool.eq_false_iff.2 ha]; simp
      rw [Bool.eq_false_iff.2 ha] at ac
      simp [go_sem, h0, hN, kc, hk', ac, bv1, bv2, hf]
  · have hk' : ¬ kidsN op = (k : Int) := fun h => hk h.symm
    have hf : fieldsP op arg r name k = false := by unfold fieldsP; simp [hk]
    simp [go_sem, h0, hN, kc, hk', ac, bv1, bv2, hf]
end
end Go.Am
end
section
set_option maxHeartbeats 16000000
namespace Go.Am
open Go Go.Nt
mutual
def Xp.wlk : Xp → Int → Int → Int
  | .mk op arg r name kids, d, n => if d > 30 ∨ n ≤ 0 ∨ fieldsP op arg r name kids.length = false then -1 else Xp.wlkL kids (d + 1) (n - 1)
def Xp.wlkL : List Xp → Int → Int → Int
  | [], _, n => n
  | x :: l, d, n => if x.wlk d n < 0 then -1 else Xp.wlkL l d (x.wlk d n)
end
mutual
theorem Xp.wlk_cnt : ∀ (x : Xp) (d n : Int), 0 ≤ n → n ≤ 300 → (x.wlk d (300 - n) = if x.cnt d n > 300 then -1 else 300 - x.cnt d n)
  | .mk op arg r name kids, d, n, hn, hn2 => by
    rw [Xp.wlk, Xp.cnt]
    by_cases h : d > 30 ∨ fieldsP op arg r name kids.length = false
    · rw [if_pos (by rcases h with h | h; exact .inl h; exact .inr (.inr h)), if_pos (show n + 1 > 300 ∨ d > 30 ∨ fieldsP op arg r name kids.length = false from .inr h)]
      simp
    · by_cases h2 : n + 1 > 300
      · rw [if_pos (show d > 30 ∨ (300 : Int) - n ≤ 0 ∨ fieldsP op arg r name kids.length = false from .inr (.inl (by omega))), if_pos (show n + 1 > 300 ∨ d > 30 ∨ fieldsP op arg r name kids.length = false from .inl h2)]; simp
      · obtain ⟨k1, k2⟩ := not_or.1 h
        rw [if_neg (by rintro (h3 | h3 | h3); exact k1 h3; omega; exact k2 h3), if_neg (show ¬ (n + 1 > 300 ∨ d > 30 ∨ fieldsP op arg r name kids.length = false) by rintro (h3 | h3 | h3); exact h2 h3; exact k1 h3; exact k2 h3)]
        rw [show (300 : Int) - n - 1 = 300 - (n + 1) by omega]
        exact Xp.wlkL_cnt kids (d + 1) (n + 1) (by omega) (by omega)
theorem Xp.wlkL_cnt : ∀ (l : List Xp) (d n : Int), 0 ≤ n → n ≤ 300 → (Xp.wlkL l d (300 - n) = if Xp.cntL l d n > 300 then -1 else 300 - Xp.cntL l d n)
  | [], d, n, hn, hn2 => by rw [Xp.wlkL, Xp.cntL, if_neg (by omega)]
  | x :: l, d, n, hn, hn2 => by
    have h1 := Xp.wlk_cnt x d n hn hn2
    have hge := Xp.cnt_ge x d n hn
    rw [Xp.wlkL, Xp.cntL, h1]
    by_cases h : x.cnt d n > 300
    · rw [if_pos h, if_pos h, if_pos (by omega), if_pos h]
    · rw [if_neg h, if_neg h, if_neg (by omega)]
      exact Xp.wlkL_cnt l d _ hge (by omega)
end
theorem Xp.wlk_valid (x : Xp) : decide (0 ≤ x.wlk 1 300) = x.valid := by
  have h := Xp.wlk_cnt x 1 0 (by omega) (by omega)
  rw [Int.sub_zero] at h
  unfold Xp.valid
  rw [h, decide_eq_decide]
  split <;> omega
section
variable {E : Env} {H : Heap} {nx : Nat} {fz : List Nat} {R : Back → Prop}
mutual
theorem Xp.wlk_le : ∀ (x : Xp) (d n : Int), x.wlk d n = -1 ∨ (0 ≤ x.wlk d n ∧ x.wlk d n ≤ n)
  | .mk op arg r name kids, d, n => by
    rw [Xp.wlk]
    split
    · exact .inl rfl
    · rename_i h
      rcases Xp.wlkL_le kids (d + 1) (n - 1) (by omega) with h1 | h1
      · exact .inl h1
      · exact .inr (by omega)
theorem Xp.wlkL_le : ∀ (l : List Xp) (d n : Int), 0 ≤ n → (Xp.wlkL l d n = -1 ∨ (0 ≤ Xp.wlkL l d n ∧ Xp.wlkL l d n ≤ n))
  | [], d, n, hn => by rw [Xp.wlkL]; exact .inr (by omega)
  | x :: l, d, n, hn => by
    rw [Xp.wlkL]
    split
    · exact .inl rfl
    · rcases Xp.wlk_le x d n with h | h
      · omega
      · rcases Xp.wlkL_le l d (x.wlk d n) h.1 with h1 | h1
        · exact .inl h1
        · exact .inr (by omega)
end
theorem walk_step (LR : LibR E) (LN : LibN E) (L : LibX E) {op arg : Int} {r : Rt} {name : List UInt8} {kids : List Xp} {d n : Int} (hok : (Xp.mk op arg r name kids).ok) (hd : 1 ≤ d) (hd2 : d ≤ 31) (hn : 0 ≤ n) (hn2 : n ≤ 300)
    (ih : ∀ x ∈ kids, ∀ d n : Int, 1 ≤ d → d ≤ 31 → 0 ≤ n → n ≤ 300 → Val E id_ref04_walk [.agg x.cells, .int .i64 d, .int .i64 n] (.int .i64 (x.wlk d n))) :
    Val E id_ref04_walk [.agg (Xp.mk op arg r name kids).cells, .int .i64 d, .int .i64 n] (.int .i64 ((Xp.mk op arg r name kids).wlk d n)) := by
  simp only [Xp.ok] at hok
  obtain ⟨hr, hnl, hkl, hkids⟩ := hok
  simp only [Xp.cells]
  refine val_fn L.rwalk rfl (by simp) fun T hN hA => ?_
  have h0 := hA 0 _ rfl
  have h1 := hA 1 _ rfl
  have h2 := hA 2 _ rfl
  have nc := fun H nx fz R => wpA_iff (H := H) (nx := nx) (fz := fz) (R := R) (node_val (op := op) (arg := arg) (k := kids.length) (cs := Xp.cellsL kids) LR LN L hr hnl) rfl
  obtain ⟨n1, hn1⟩ : ∃ n1, n1 = n - 1 := ⟨_, rfl⟩
  have w1 : IntKind.i64.wrap (n - 1) = n1 := by rw [wrapI_id (by omega) (by omega)]; omega
  have hcn : (Xp.mk op arg r name kids).wlk d n = if d > 30 ∨ n ≤ 0 ∨ fieldsP op arg r name kids.length = false then -1 else Xp.wlkL kids (d + 1) n1 := by rw [Xp.wlk, hn1]
  rw [hcn]
  by_cases c2 : 30 < d
  · simp [go_sem, h0, h1, h2, hN, c2]
  by_cases c1 : n ≤ 0
  · simp [go_sem, h0, h1, h2, hN, c1, c2]
  by_cases c3 : fieldsP op arg r name kids.length = false
  · simp [go_sem, h0, h1, h2, hN, w1, c1, c2, c3, nc]
  have c3' : fieldsP op arg r name kids.length = true := by simpa using c3
  simp [go_sem, h0, h1, h2, hN, w1, c1, c2, c3', nc]
  obtain ⟨HB, hHB⟩ : ∃ HB, HB = (Blk.cells 27 7 [AV.int .i64 op, .int .i64 arg, .bool r.neg, R32 r.num, R32 r.den, .str name, .row kids.length (Xp.cellsL kids)]) := ⟨_, rfl⟩
  refine loop_v _ rfl (fun m t H nx fz => fz = [] ∧ nx = 1 ∧ H = [some HB] ∧ ∃ (i : Nat) (q : Int), m + i = kids.length ∧ getT t 7 = .int .i64 (i : Int) ∧ getT t 2 = .int .i64 q ∧ 0 ≤ q ∧ q ≤ 300 ∧ Xp.wlkL (kids.drop i) (d + 1) q = Xp.wlkL kids (d + 1) n1) kids.length ?_ ?_
  · exact ⟨rfl, rfl, by rw [hHB], 0, n1, rfl, by simp [go_sem, hN], by simp [go_sem, hN], by omega, by omega, rfl⟩
  rintro m t H nx fz ⟨rfl, rfl, rfl, i, q, hm, t7, t2, hq0, hq, hcl⟩ hF
  have hN' : t.length = 40 := by rw [hF.1]; simp [hN]
  have f1 : getT t 1 = .int .i64 d := by rw [hF.2 1 (by decide)]; simp [go_sem, h1]
  have f3 : getT t 3 = .ptr 0 0 := by rw [hF.2 3 (by decide)]; simp [go_sem, hN]
  clear hF
  by_cases hi : i < kids.length
  · have hil : (i : Int) < kids.length := by omega
    have hp := Xp.cellsL_part hi
    obtain ⟨x, hx⟩ : ∃ x, x = kids[i] := ⟨_, rfl⟩
    rw [← hx] at hp
    have hmem : x ∈ kids := by rw [hx]; exact List.getElem_mem hi
    obtain ⟨d2, hd2'⟩ : ∃ d2, d2 = d + 1 := ⟨_, rfl⟩
    have w2 : IntKind.i64.wrap (d + 1) = d2 := by rw [wrapI_id (by omega) (by omega)]; omega
    obtain ⟨i2, hi2⟩ : ∃ i2, i2 = i + 1 := ⟨_, rfl⟩
    have w3 : IntKind.i64.wrap ((i : Int) + 1) = i2 := by rw [wrapI_id (by omega) (by omega)]; omega
    have cc := fun H nx fz R => wpA_iff (H := H) (nx := nx) (fz := fz) (R := R) (ih x hmem d2 q (by omega) (by omega) hq0 hq) (closed_cells x d2 q)
    have hcl2 : Xp.wlkL kids d2 n1 = if x.wlk d2 q < 0 then -1 else Xp.wlkL (kids.drop (i + 1)) d2 (x.wlk d2 q) := by
      rw [hd2', ← hcl, List.drop_eq_getElem_cons hi, ← hx, Xp.wlkL]
    have hge := Xp.wlk_le x d2 q
    obtain ⟨q2, hq2⟩ : ∃ q2, q2 = x.wlk d2 q := ⟨_, rfl⟩
    rw [← hq2] at cc hcl2 hge
    by_cases hc : q2 < 0
    · simp [go_sem, t7, t2, hN', f1, f3, hHB, hi, hil, hp, w2, w3, cc, hc]
      rw [← hd2', hcl2, if_pos hc]
    · simp [go_sem, t7, t2, hN', f1, f3, hHB, hi, hil, hp, w2, w3, cc, hc]
      exact ⟨m - 1, by omega, i2, by omega, rfl, by omega, by omega, by rw [← hd2', hcl2, if_neg hc, hi2]⟩
  · have hil : ¬ (i : Int) < kids.length := by omega
    rw [List.drop_of_length_le (by omega), Xp.wlkL] at hcl
    simp [go_sem, t7, t2, hN', f3, hHB, hil]
    exact hcl
theorem walk_val (LR : LibR E) (LN : LibN E) (L : LibX E) : ∀ (x : Xp), x.ok → ∀ d n : Int, 1 ≤ d → d ≤ 31 → 0 ≤ n → n ≤ 300 → Val E id_ref04_walk [.agg x.cells, .int .i64 d, .int .i64 n] (.int .i64 (x.wlk d n))
  | .mk op arg r name kids, hok, d, n, hd, hd2, hn, hn2 => walk_step LR LN L hok hd hd2 hn hn2 fun x hx => by
    have : SizeOf.sizeOf x < SizeOf.sizeOf kids := List.sizeOf_lt_of_mem hx
    exact walk_val LR LN L x (Xp.okL_mem (by simp only [Xp.ok] at hok; exact hok.2.2.2) hx)
  termination_by x => SizeOf.sizeOf x
  decreasing_by simp; omega
theorem rvalid_val (LR : LibR E) (LN : LibN E) (L : LibX E) (x : Xp) (hok : x.ok) : Val E id_ref04_Valid [.agg x.cells] (.bool x.valid) := by
  have cc := fun H nx fz R => wpA_iff (H := H) (nx := nx) (fz := fz) (R := R) (walk_val LR LN L x hok 1 300 (by omega) (by omega) (by omega) (by omega)) (closed_cells x 1 300)
  rw [← Xp.wlk_valid]
  obtain ⟨o, a, bb, u, v, s, k, cs, hxl⟩ := x.cells_form
  rw [hxl] at cc ⊢
  refine val_fn L.rvalid rfl (by simp) fun T hN hA => ?_
  have h0 := hA 0 _ rfl
  simp [go_sem, h0, hN, cc]
theorem rvalid_call (LR : LibR E) (LN : LibN E) (L : LibX E) (x : Xp) (hok : x.ok) : wpA E id_ref04_Valid [.agg x.cells] H nx fz R ↔ R ⟨.ret (.bool x.valid), H, nx, fz, false⟩ := wpA_iff (rvalid_val LR LN L x hok) (closed_cells1 x)
end
end Go.Am
end
section
set_option maxHeartbeats 16000000
namespace Go.Am
open Go Go.Nt
structure LibI (E : Env) : Prop where
  must : At E id_interval_must fn_interval_must
  number : At E id_interval_number fn_interval_number
  read : At E id_interval_read fn_interval_read
  tryB : At E id_interval_try_bool fn_interval_try_bool
  tryB1 : At E id_interval_try_bool_1 fn_interval_try_bool_1
  isEmpty : At E id_interval_IsEmpty fn_interval_IsEmpty
  isEmpty1 : At E id_interval_IsEmpty_1 fn_interval_IsEmpty_1
abbrev failV (e : Int) : AV := .iface 355 (.agg [.int .i64 e])
section
variable {E : Env} {r : Rt} {H : Heap} {nx : Nat} {fz : List Nat} {R : Back → Prop}
theorem must_pan (L : LibI E) : Does E id_interval_must [.int .i64 1] (.panic (failV 1)) := by
  refine pan_fn L.must rfl (by simp) fun T hN hA => ?_
  have h0 := hA 0 _ rfl
  simp [go_sem, h0, hN]
theorem must_call (L : LibI E) : wpA E id_interval_must [.int .i64 1] H nx fz R ↔ R ⟨.panic (failV 1), H, nx, fz, false⟩ := wpA_iff (must_pan L) rfl
theorem number_does (LW : LibW E) (L : LibI E) (hr : r.ok) : Does E id_interval_number [.agg r.cells] (if readB r.n r.d then .ret (readF r.neg r.n r.d) else .panic (failV 1)) := by
  have rd := fun H nx fz R => read_call (neg := r.neg) (H := H) (nx := nx) (fz := fz) (R := R) LW hr.num hr.den (by have := hr.nl; omega) (by have := hr.dl; omega)
  change ∀ H nx fz R, wpA E id_word_Read [.agg [.bool r.neg, R32 r.num, R32 r.den]] H nx fz R ↔ R ⟨.ret (.tuple [readF r.neg r.n r.d, .bool (readB r.n r.d)]), H, nx, fz, false⟩ at rd
  obtain ⟨b', n', d', hF⟩ : ∃ b' n' d', readF r.neg r.n r.d = F32 b' n' d' := by unfold readF; split <;> exact ⟨_, _, _, rfl⟩
  rw [hF] at rd ⊢
  simp only [Rt.cells]
  by_cases hb : readB r.n r.d = true
  · rw [if_pos hb]
    refine val_fn L.number rfl (by simp) fun T hN hA => ?_
    have h0 := hA 0 _ rfl
    simp [go_sem, h0, hN, rd, hb]
  · rw [if_neg hb]
    refine pan_fn L.number rfl (by simp) fun T hN hA => ?_
    have h0 := hA 0 _ rfl
    simp [go_sem, h0, hN, rd, hb, must_call L]
end
end Go.Am
end
section
set_option maxHeartbeats 16000000
namespace Go.Am
open Go Go.Nt
def sn (neg : Bool) (n : Nat) : Int := if neg then -(n : Int) else n
def qc (neg1 : Bool) (n1 d1 : Nat) (neg2 : Bool) (n2 d2 : Nat) : Int := Int.sign (sn neg1 n1 * d2 - sn neg2 n2 * d1)
theorem sign_eq (x : Int) : Int.sign x = if x < 0 then -1 else if x = 0 then 0 else 1 := by
  rcases Int.lt_trichotomy x 0 with h | h | h
  · rw [if_pos h, Int.sign_eq_neg_one_of_neg h]
  · subst h; rfl
  · rw [if_neg (by omega), if_neg (by omega), Int.sign_eq_one_of_pos h]
theorem sgn_sign (neg : Bool) (n : Nat) : sgn neg n = Int.sign (sn neg n) := by
  rw [sign_eq]; unfold sgn sn
  cases neg <;> simp <;> split <;> first | omega | (split <;> omega)
theorem ord_sign (a b : Nat) : ord a b = Int.sign ((a : Int) - b) := by
  rw [sign_eq]; unfold ord
  split
  · rw [if_pos (by omega)]
  · split
    · rw [if_neg (by omega), if_pos (by omega)]
    · rw [if_neg (by omega), if_neg (by omega)]
theorem fcmp_qc {neg1 neg2 : Bool} {n1 d1 n2 d2 : Nat} (h1 : 0 < d1) (h2 : 0 < d2) : fcmpV neg1 n1 d1 neg2 n2 d2 = qc neg1 n1 d1 neg2 n2 d2 := by
  have p1 : 0 < n1 → 0 < n1 * d2 := fun h => Nat.mul_pos h h2
  have p2 : 0 < n2 → 0 < n2 * d1 := fun h => Nat.mul_pos h h1
  have z1 : n1 = 0 → n1 * d2 = 0 := fun h => by rw [h, Nat.zero_mul]
  have z2 : n2 = 0 → n2 * d1 = 0 := fun h => by rw [h, Nat.zero_mul]
  have e1 : sn neg1 n1 * (d2 : Int) = if neg1 then -((n1 * d2 : Nat) : Int) else ((n1 * d2 : Nat) : Int) := by unfold sn; cases neg1 <;> simp [Int.neg_mul]
  have e2 : sn neg2 n2 * (d1 : Int) = if neg2 then -((n2 * d1 : Nat) : Int) else ((n2 * d1 : Nat) : Int) := by unfold sn; cases neg2 <;> simp [Int.neg_mul]
  unfold fcmpV qc
  rw [e1, e2, ord_sign]
  simp only [sign_eq]
  unfold sgn
  generalize n1 * d2 = x at *
  generalize n2 * d1 = y at *
  cases neg1 <;> cases neg2 <;> simp only [Bool.false_eq_true, if_true, if_false] <;> (repeat' split) <;> omega
theorem sgn_div {neg : Bool} {n g : Nat} (hg : g ∣ n) : sgn neg (n / g) = sgn neg n := by
  unfold sgn
  obtain ⟨k, rfl⟩ := hg
  by_cases h0 : g = 0
  · subst h0; simp
  · rw [Nat.mul_div_cancel_left _ (by omega)]
    by_cases hk : k = 0
    · subst hk; simp
    · have := Nat.mul_ne_zero h0 hk
      simp [hk, this]
theorem qcmp_qc {neg1 neg2 : Bool} {n1 d1 n2 d2 : Nat} (h1 : 0 < d1) (h2 : 0 < d2) : qcmp neg1 n1 d1 neg2 n2 d2 = qc neg1 n1 d1 neg2 n2 d2 := by
  have p2 : 0 < n2 → 0 < n2 * d1 := fun h => Nat.mul_pos h h1
  have z2 : n2 = 0 → n2 * d1 = 0 := fun h => by rw [h, Nat.zero_mul]
  have e1 : sn neg1 n1 * (d2 : Int) = if neg1 then -((n1 * d2 : Nat) : Int) else ((n1 * d2 : Nat) : Int) := by unfold sn; cases neg1 <;> simp [Int.neg_mul]
  have e2 : sn neg2 n2 * (d1 : Int) = if neg2 then -((n2 * d1 : Nat) : Int) else ((n2 * d1 : Nat) : Int) := by unfold sn; cases neg2 <;> simp [Int.neg_mul]
  unfold qcmp qc
  rw [e1, e2, sgn_div (Nat.gcd_dvd_left _ _), sgn_sign, sign_eq, sign_eq]
  unfold sn sumS sumN
  generalize n1 * d2 = x at *
  generalize n2 * d1 = y at *
  have hz : n2 = 0 ↔ y = 0 := ⟨z2, fun h => by omega⟩
  simp only [hz, ne_eq]
  cases neg1 <;> cases neg2 <;> simp only [Bool.not_true, Bool.not_false, Bool.false_and, Bool.true_and, Bool.false_eq_true, if_true, if_false] <;> (repeat' split) <;> first | omega | (simp_all; done) | (simp_all; omega)
end Go.Am
end
section
set_option maxHeartbeats 16000000
namespace Go.Am
open Go Go.Nt
def Rt.qg (r : Rt) : Bool := r.neg && decide (r.n ≠ 0)
def Rt.qn (r : Rt) : Nat := r.n / Nat.gcd r.n (readD r.d)
def Rt.qd (r : Rt) : Nat := readD r.d / Nat.gcd r.n (readD r.d)
def Rt.fit (r : Rt) : Bool := readB r.n r.d
def Rt.f32 (r : Rt) : AV := F32 r.qg r.qn r.qd
def Rt.f16 (r : Rt) : AV := F16 r.qg r.qn r.qd
theorem readD_pos (d : Nat) : 0 < readD d := by unfold readD; split <;> omega
theorem Rt.qd_pos (r : Rt) : 0 < r.qd := Nat.div_pos (Nat.le_of_dvd (readD_pos _) (Nat.gcd_dvd_right _ _)) (Nat.gcd_pos_of_pos_right _ (readD_pos _))
theorem Rt.readF {r : Rt} (h : r.fit = true) : readF r.neg r.n r.d = r.f32 := by
  have h2 : readB r.n r.d = true := h
  unfold readB at h2
  unfold Go.Am.readF
  rw [if_pos (Bool.and_eq_true_iff.1 h2).1]; rfl
theorem Rt.fit_len {r : Rt} (h : r.fit = true) : (dig 4294967296 r.qn).length ≤ 64 ∧ (dig 4294967296 r.qd).length ≤ 64 := by
  have h2 : readB r.n r.d = true := h
  unfold readB at h2
  have h3 := (Bool.and_eq_true_iff.1 h2).2
  rw [Bool.and_eq_true] at h3
  exact ⟨of_decide_eq_true h3.1, of_decide_eq_true h3.2⟩
theorem Rt.fit_len16 {r : Rt} (h : r.fit = true) : (dig 65536 r.qn).length ≤ 128 ∧ (dig 65536 r.qd).length ≤ 128 := by
  obtain ⟨h1, h2⟩ := r.fit_len h
  exact ⟨(len_two _ 64).1 h1, (len_two _ 64).1 h2⟩
theorem Rt.large {r : Rt} : large16 r.n r.d = !r.fit := by unfold Rt.fit; rw [read_large]; simp
def Rt.cmp (a b : Rt) : Int := qc a.qg a.qn a.qd b.qg b.qn b.qd
structure Iv where
  lo : Rt
  hi : Rt
  li : Bool
  hf : Bool
def Iv.cells (v : Iv) : List AV := [.bool v.lo.neg, R32 v.lo.num, R32 v.lo.den, .bool v.hi.neg, R32 v.hi.num, R32 v.hi.den, .bool v.li, .bool v.hf]
structure Iv.ok (v : Iv) : Prop where
  lo : v.lo.ok
  hi : v.hi.ok
def Iv.fits (v : Iv) : Bool := v.lo.fit && v.hi.fit
def Iv.void (v : Iv) : Bool := !v.li && !v.hf && decide (0 < v.lo.cmp v.hi)
def Iv.set (v : Iv) : AV := .agg [.bool v.lo.qg, N32 v.lo.qn, N32 v.lo.qd, .bool v.hi.qg, N32 v.hi.qn, N32 v.hi.qd, .bool v.li, .bool v.hf, .bool v.void]
section
variable {E : Env} {r : Rt} {H : Heap} {nx : Nat} {fz : List Nat} {R : Back → Prop} {v : Iv}
theorem number_call (LW : LibW E) (L : LibI E) (hr : r.ok) : wpA E id_interval_number [.agg [.bool r.neg, R32 r.num, R32 r.den]] H nx fz R ↔ R ⟨if r.fit then .ret r.f32 else .panic (failV 1), H, nx, fz, false⟩ := by
  have := wpA_iff (H := H) (nx := nx) (fz := fz) (R := R) (number_does LW L hr) rfl
  refine this.trans ?_
  by_cases h : r.fit = true
  · rw [if_pos h, if_pos (show readB r.n r.d = true from h), r.readF h]
  · rw [if_neg h, if_neg (show ¬ readB r.n r.d = true from h)]
section
variable {n : Nat}
attribute [go_sem] getB_nil
@[go_sem] theorem tch_agg {cs : List AV} : tch H (n + 1) (.agg cs) = cs.flatMap (tch H n) := rfl
@[go_sem] theorem tch_tuple {cs : List AV} : tch H (n + 1) (.tuple cs) = cs.flatMap (tch H n) := rfl
@[go_sem] theorem tch_bool {b : Bool} : tch H n (.bool b) = [] := by cases n <;> rfl
@[go_sem] theorem tch_int {k : IntKind} {x : Int} : tch H n (.int k x) = [] := by cases n <;> rfl
@[go_sem] theorem tch_str {x : List UInt8} : tch H n (.str x) = [] := by cases n <;> rfl
@[go_sem] theorem tch_row {m : Nat} {cs : List AV} : tch H n (.row m cs) = [] := by cases n <;> rfl
@[go_sem] theorem tch_sp {cs : List AV} : tch H n (.sp cs) = [] := by cases n <;> rfl
@[go_sem] theorem tch_nils : tch H n .nils = [] := by cases n <;> rfl
@[go_sem] theorem tch_nili : tch H n .nili = [] := by cases n <;> rfl
@[go_sem] theorem tch_nilp : tch H n .nilp = [] := by cases n <;> rfl
@[go_sem] theorem flatMap_nil' {f : AV → List Nat} : ([] : List AV).flatMap f = [] := rfl
@[go_sem] theorem flatMap_cons' {f : AV → List Nat} {x : AV} {l : List AV} : (x :: l).flatMap f = f x ++ l.flatMap f := rfl
end
theorem iread_pan (LW : LibW E) (L : LibI E) (hv : v.ok) (hf : v.fits = false) : Does E id_interval_read [.agg v.cells] (.panic (failV 1)) := by
  have lc := fun H nx fz R => number_call (H := H) (nx := nx) (fz := fz) (R := R) LW L hv.lo
  have hc := fun H nx fz R => number_call (H := H) (nx := nx) (fz := fz) (R := R) LW L hv.hi
  have bv := L.number.bv rfl
  simp only [Iv.cells]
  refine pan_fn L.read rfl (by simp) fun T hN hA => ?_
  have h0 := hA 0 _ rfl
  unfold Rt.f32 at lc hc
  by_cases h1 : v.lo.fit = true
  · have h2 : v.hi.fit = false := by unfold Iv.fits at hf; rw [h1, Bool.true_and] at hf; exact hf
    simp only [h1, h2, if_true, Bool.false_eq_true, if_false] at lc hc
    simp [go_sem, h0, hN, lc, hc, bv]
  · simp only [h1, if_false] at lc
    simp [go_sem, h0, hN, lc, bv]
theorem iread_val (LW : LibW E) (L : LibI E) (hv : v.ok) (hf : v.fits = true) : Val E id_interval_read [.agg v.cells] v.set := by
  unfold Iv.fits at hf
  simp only [Bool.and_eq_true] at hf
  have lc := fun H nx fz R => number_call (H := H) (nx := nx) (fz := fz) (R := R) LW L hv.lo
  have hc := fun H nx fz R => number_call (H := H) (nx := nx) (fz := fz) (R := R) LW L hv.hi
  obtain ⟨s1, s2⟩ := v.lo.fit_len hf.1
  obtain ⟨s3, s4⟩ := v.hi.fit_len hf.2
  have cm := fun H nx fz R => wpA_iff (H := H) (nx := nx) (fz := fz) (R := R) (fcmp_val (neg1 := v.lo.qg) (n1 := v.lo.qn) (d1 := v.lo.qd) (neg2 := v.hi.qg) (n2 := v.hi.qn) (d2 := v.hi.qd) LW (by omega) (by omega) (by omega) (by omega)) rfl
  rw [fcmp_qc v.lo.qd_pos v.hi.qd_pos] at cm
  change ∀ H nx fz R, wpA E id_word_Frac_Cmp [F32 v.lo.qg v.lo.qn v.lo.qd, F32 v.hi.qg v.hi.qn v.hi.qd] H nx fz R ↔ R ⟨.ret (.int .i64 (v.lo.cmp v.hi)), H, nx, fz, false⟩ at cm
  have bv := L.number.bv rfl
  simp only [Iv.cells, Iv.set, Iv.void]
  refine val_fn L.read rfl (by simp) fun T hN hA => ?_
  have h0 := hA 0 _ rfl
  unfold Rt.f32 at lc hc
  simp only [hf, if_true] at lc hc
  generalize v.lo.cmp v.hi = o at *
  obtain ⟨lo, hi, li, hi2⟩ := v
  cases li <;> cases hi2 <;> simp [go_sem, h0, hN, lc, hc, bv, cm]
end
end Go.Am
end
section
set_option maxHeartbeats 16000000
namespace Go.Am
open Go Go.Nt
def holdsB (H : Heap) (l : List (Nat × Blk)) : Prop := ∀ p ∈ l, getB H p.1 = some p.2
def closedB (l : List (Nat × Blk)) : Prop := ∀ p ∈ l, ∃ e s cs, p.2 = .cells e s cs ∧ cs.all closedV = true
section
variable {E : Env} {H : Heap} {nx n : Nat} {fz : List Nat} {R : Back → Prop} {l : List (Nat × Blk)} {rs : List ARes} {tmps : List AV} {p q : Nat}
theorem tch_ptrs (hc : closedB l) : ∀ {m : List (Nat × Blk)}, (∀ p ∈ m, p ∈ l) → holdsB H m → (m.map fun p => AV.ptr p.1 0).flatMap (tch H (n + 2)) = m.map (·.1)
  | [], _, _ => rfl
  | x :: m, hm, hH => by
    obtain ⟨e, s, cs, h1, h2⟩ := hc x (hm x (by simp))
    have h3 := hH x (by simp)
    rw [h1] at h3
    have ih := tch_ptrs hc (m := m) (fun p hp => hm p (by simp [hp])) (fun p hp => hH p (by simp [hp]))
    rw [List.map_cons, List.flatMap_cons, ih]
    have : tch H (n + 2) (.ptr x.1 0) = [x.1] := by
      show x.1 :: (match getB H x.1 with | some (.cells _ _ cs) => (cs.drop 0).flatMap (tch H (n + 1)) | _ => []) = [x.1]
      rw [h3]
      simp only [List.drop_zero, (closedVs h2).2]
    rw [this]; rfl
theorem restrict_mem {T : List Nat} {b : Nat} (h : b ∈ T) : getB (restrict H T) b = getB H b := by
  induction T with
  | nil => simp at h
  | cons x T ih =>
    simp only [restrict, getB_setB]
    split
    · rename_i e; rw [e]
    · rename_i e; exact ih (by simpa [e] using h)
theorem holdsB_restrict {T : List Nat} (h : holdsB H l) (hT : ∀ p ∈ l, p.1 ∈ T) : holdsB (restrict H T) l := fun p hp => by
  rw [restrict_mem (hT p hp)]; exact h p hp
theorem holdsB_new {X : Option Blk} (h : holdsB H l) (hn : ∀ p ∈ l, p.1 < n) : holdsB (setB H n X) l := fun p hp => by
  rw [getB_setB, if_neg (by have := hn p hp; omega)]; exact h p hp
def deferQ (E : Env) (rs : List ARes) (tmps : List AV) (ds : List (FuncId × List AV)) (m : Option AV) (nx : Nat) (rf : List ARes) (rec : Bool) (R : Back → Prop) (y : Ex) (s2 : St) : Prop :=
  (y = .normal ∨ y = .ret) ∧ s2.defers = [] ∧ (resultsA rf s2.tmps s2.H).isSome = true ∧ nx ≤ s2.nx ∧ wpL E rs tmps ds (if rec then none else m) s2.H s2.nx s2.fz R
def deferS (E : Env) (rest : ACode) (rs : List ARes) (tmps : List AV) (ds : List (FuncId × List AV)) (m : Option AV) (nx : Nat) (rf : List ARes) (R : Back → Prop) (x : Ex) (s : St) : Prop := x = .normal ∧ vC E rest s (deferQ E rs tmps ds m nx rf s.recd R)
theorem wpL_deferV {f : FuncId} {a : List AV} {fn : AFn} {N : Nat} {hp : Bool} {rf : List ARes} {ops : List AOp} {rest : ACode} {m : Option AV} {ds : List (FuncId × List AV)} (hf : E.code f = some fn) (hfn : fn = ⟨N, rf, hp, .seq (.region ops none) rest⟩) (ha : a.length ≤ N)
    (h : ∀ T : List AV, T.length = N → (∀ (i : Nat) (x : AV), a[i]? = some x → getT T i = x) → vS E (some m) ops ⟨T, H, nx, fz, [], false⟩ (deferS E rest rs tmps ds m nx rf R)) : wpL E rs tmps ((f, a) :: ds) m H nx fz R := by
  subst hfn
  refine wpL_defer hf rfl ((vS_ok (h _ (len_enter ha) fun i x hx => ?_)).mono fun x s hx => ⟨hx.1, (vC_ok hx.2).mono fun y s2 hy => hy⟩)
  obtain ⟨hi, rfl⟩ := List.getElem?_eq_some_iff.1 hx
  exact getT_enter hi
variable {t : List AV} {ds : List (FuncId × List AV)} {r : Bool} {dd : Option Nat} {v : AV} {Z : Ex → St → Prop}
@[go_sem] theorem s_recover_none : vI E (some none) dd .recover ⟨t, H, nx, fz, ds, r⟩ Z ↔ Z .normal (St.put ⟨t, H, nx, fz, ds, r⟩ dd .nili) := by cases r <;> exact Iff.rfl
@[go_sem] theorem s_recover_some : vI E (some (some v)) dd .recover ⟨t, H, nx, fz, ds, false⟩ Z ↔ Z .normal (St.put ⟨t, H, nx, fz, ds, true⟩ dd v) := Iff.rfl
def vDef (x : AV) (K : FuncId → List AV → List AV → Prop) : Prop := match x with
  | .func f a b => K f a b
  | _ => False
@[go_sem] theorem vDef_func {f : FuncId} {a b : List AV} {K : FuncId → List AV → List AV → Prop} : vDef (.func f a b) K ↔ K f a b := Iff.rfl
@[go_sem] theorem s_defer {pan : Option (Option AV)} {x : Opnd} {xs : List Opnd} : vI E pan dd (.defer x xs) ⟨t, H, nx, fz, ds, r⟩ Z ↔ vDef (opT E t x) fun f a b => Z .normal (St.put ⟨t, H, nx, fz, (f, a ++ xs.map (opT E t) ++ b) :: ds, r⟩ dd undefA) := by
  simp only [vI, vDef]
  cases opT E t x <;> exact Iff.rfl
@[go_sem] theorem deferS_normal {rest : ACode} {m : Option AV} {rf : List ARes} : deferS E rest rs tmps ds m n rf R .normal ⟨t, H, nx, fz, [], r⟩ ↔ vC E rest ⟨t, H, nx, fz, [], r⟩ (deferQ E rs tmps ds m n rf r R) := by simp [deferS]
@[go_sem] theorem deferQ_normal {m : Option AV} {rf : List ARes} {rc : Bool} : deferQ E rs tmps ds m n rf rc R .normal ⟨t, H, nx, fz, [], r⟩ ↔ (resultsA rf t H).isSome = true ∧ n ≤ nx ∧ wpL E rs tmps ds (if rc then none else m) H nx fz R := by simp [deferQ]
@[go_sem] theorem deferQ_ret {m : Option AV} {rf : List ARes} {rc : Bool} : deferQ E rs tmps ds m n rf rc R .ret ⟨t, H, nx, fz, [], r⟩ ↔ (resultsA rf t H).isSome = true ∧ n ≤ nx ∧ wpL E rs tmps ds (if rc then none else m) H nx fz R := by simp [deferQ]
theorem tryb_none (L : LibI E) (hR : wpL E rs tmps [] none H nx fz R) : wpL E rs tmps [(id_interval_try_bool_1, [.ptr p 0, .ptr q 0])] none H nx fz R := by
  refine wpL_deferV L.tryB1.2.2 rfl (by simp) fun T hN hA => ?_
  have h0 := hA 0 _ rfl
  have h1 := hA 1 _ rfl
  simp [go_sem, h0, h1, hN]
  exact hR
theorem tryb_some (L : LibI E) {e : Int} {x y : AV} (hp : getB H p = some (.cells 4 1 [x])) (hq : getB H q = some (.cells 32 1 [y])) (hpq : p ≠ q) (hpn : p < nx) (hqn : q < nx) (hfp : p ∉ fz) (hfq : q ∉ fz) (hfn : nx ∉ fz)
    (hR : ∀ H', getB H' p = some (.cells 4 1 [.bool false]) → getB H' q = some (.cells 32 1 [.int .i64 e]) → wpL E rs tmps [] none H' (nx + 1) fz R) : wpL E rs tmps [(id_interval_try_bool_1, [.ptr p 0, .ptr q 0])] (some (failV e)) H nx fz R := by
  refine wpL_deferV L.tryB1.2.2 rfl (by simp) fun T hN hA => ?_
  have h0 := hA 0 _ rfl
  have h1 := hA 1 _ rfl
  have e1 : p ≠ nx := by omega
  have e2 : q ≠ nx := by omega
  have e3 : nx ≠ p := by omega
  have e4 : nx ≠ q := by omega
  have e5 : q ≠ p := fun h => hpq h.symm
  simp [go_sem, h0, h1, hN, hp, hq, hpq, e1, e2, e3, e4, e5, hfp, hfq, hfn]
  exact hR _ (by simp [getB_setB, hpq]) (by simp [getB_setB])
theorem setB_len {X : Option Blk} : ∀ (G : Heap) (b : Nat), (setB G b X).length ≤ max G.length (b + 1)
  | [], b => by rw [setB_nil_len]; exact Nat.le_max_right _ _
  | y :: G, 0 => by show G.length + 1 ≤ _; exact Nat.le_max_left _ _
  | y :: G, b + 1 => by
    have := setB_len (X := X) G b
    show (setB G b X).length + 1 ≤ max (G.length + 1) (b + 1 + 1)
    omega
theorem restrict_len : ∀ {T : List Nat}, (∀ b ∈ T, b < H.length) → (restrict H T).length ≤ H.length
  | [], _ => Nat.zero_le _
  | x :: T, h => by
    have h1 := restrict_len (T := T) fun b hb => h b (by simp [hb])
    have h2 := h x (by simp)
    have h3 := setB_len (X := getB H x) (restrict H T) x
    simp only [restrict]
    omega
theorem wpA_keep {f : FuncId} {fn : AFn} {res : Res} (hA : At E f fn) (hh : fn.heap = true) (hbl : closedB l) (hH : holdsB H l)
    (h : ∀ H1 fz1 R, holdsB H1 l → R ⟨res, H1, nx, fz1, false⟩ → wpF E f (l.map fun p => .ptr p.1 0) H1 nx fz1 R) (hR : ∀ fz', (∀ b, b ∈ fz' ↔ b ∈ fz) → R ⟨res, H, nx, fz', false⟩) : wpA E f (l.map fun p => .ptr p.1 0) H nx fz R := by
  refine wpA_heap hA.1 hA.2.1 hA.2.2 hh ?_
  have eT : (l.map fun p => AV.ptr p.1 0).flatMap (tch H (depthOf nx)) = l.map (·.1) := tch_ptrs (n := 2 * nx + 4) hbl (fun p hp => hp) hH
  rw [eT]
  refine h _ _ _ (holdsB_restrict (T := l.map (·.1)) hH fun p hp => List.mem_map.2 ⟨p, hp, rfl⟩) ⟨Nat.le_refl _, ?_⟩
  unfold mergeB
  rw [merge_same]
  · refine hR _ fun b => ?_
    simp
  · refine restrict_len fun b hb => ?_
    obtain ⟨p, hp, rfl⟩ := List.mem_map.1 hb
    exact getB_lt (hH p hp)
  · intro j hj
    exact restrict_mem (by simpa using hj)
def tryR (res : Res) : AV := match res with
  | .ret v => .tuple [v, .int .i64 0]
  | .panic (.iface _ (.agg [v])) => .tuple [.bool false, v]
  | _ => .dead
theorem tryb_call (L : LibI E) {cl : FuncId} {res : Res} (hres : (∃ x, res = .ret (.bool x)) ∨ ∃ e, res = .panic (failV e)) (hbl : closedB l) (hH : holdsB H l) (hln : ∀ p ∈ l, p.1 < nx)
    (hcl : ∀ H nx fz R, holdsB H l → (∀ fz', (∀ b, b ∈ fz' ↔ b ∈ fz) → R ⟨res, H, nx, fz', false⟩) → wpA E cl (l.map fun p => .ptr p.1 0) H nx fz R) (hR : ∀ H' nx' fz', R ⟨.ret (tryR res), H', nx', fz', false⟩) : wpA E id_interval_try_bool [.func cl [] (l.map fun p => .ptr p.1 0)] H nx fz R := by
  refine wpA_heap L.tryB.1 L.tryB.2.1 L.tryB.2.2 rfl ?_
  have eT : [AV.func cl [] (l.map fun p => .ptr p.1 0)].flatMap (tch H (depthOf nx)) = l.map (·.1) := by
    show ([].flatMap _ ++ (l.map fun p => AV.ptr p.1 0).flatMap (tch H (2 * nx + 5))) ++ [] = _
    rw [show 2 * nx + 5 = (2 * nx + 3) + 2 from rfl, tch_ptrs hbl (fun p hp => hp) hH]; simp
  rw [eT]
  have hH1 := holdsB_restrict (T := l.map (·.1)) hH fun p hp => List.mem_map.2 ⟨p, hp, rfl⟩
  have hz1 : nx ∉ (l.map (·.1)).filter fun b => fz.contains b := fun h => by
    obtain ⟨p, hp, h2⟩ := List.mem_map.1 (List.mem_filter.1 h).1
    have := hln p hp
    omega
  have hz2 : nx + 1 ∉ (l.map (·.1)).filter fun b => fz.contains b := fun h => by
    obtain ⟨p, hp, h2⟩ := List.mem_map.1 (List.mem_filter.1 h).1
    have := hln p hp
    omega
  have hz3 : nx + 1 + 1 ∉ (l.map (·.1)).filter fun b => fz.contains b := fun h => by
    obtain ⟨p, hp, h2⟩ := List.mem_map.1 (List.mem_filter.1 h).1
    have := hln p hp
    omega
  generalize restrict H (l.map (·.1)) = H1 at *
  generalize (l.map (·.1)).filter (fun b => fz.contains b) = fz1 at *
  have hH2 : ∀ X Y, holdsB (setB (setB H1 nx X) (nx + 1) Y) l := fun X Y => holdsB_new (holdsB_new hH1 hln) fun p hp => by have := hln p hp; omega
  have hm : ∀ b : Back, nx ≤ b.nx → b.res = .ret (tryR res) → b.recd = false → nx ≤ b.nx ∧ R (mergeB (l.map (·.1)) H nx fz b) := fun b h1 h2 h3 => by
    refine ⟨h1, ?_⟩
    unfold mergeB
    rw [h2, h3]
    exact hR _ _ _
  refine wpF_v L.tryB.2.2 rfl (by simp) fun T hN hA => ?_
  have h0 := hA 0 _ rfl
  have en : nx + 1 ≠ nx := by omega
  have en' : nx ≠ nx + 1 := by omega
  simp [go_sem, h0, hN]
  refine hcl _ _ _ _ (hH2 _ _) fun fz2 hfz2 => ?_
  rw [← hfz2] at hz1 hz2 hz3
  rcases hres with ⟨x, rfl⟩ | ⟨e, rfl⟩
  · simp [go_sem, hN, hz1, hz2, hz3, en, en']
    change wpL E _ _ _ none _ _ _ _
    refine tryb_none L (wpL_nil (v := tryR (.ret (.bool x))) ?_ (hm _ (by simp; omega) rfl rfl))
    simp [go_sem, hN, en, en', tryR]
  · simp [go_sem, hN, hz1, hz2, hz3, en, en']
    change wpL E _ _ _ (some (failV e)) _ _ _ _
    refine tryb_some L (x := .bool false) (y := .int .i64 0) (by simp [getB_setB]) (by simp [getB_setB]) (by omega) (by show nx < nx + 1 + 1; omega) (by show nx + 1 < nx + 1 + 1; omega) hz1 hz2 hz3 fun H' h1 h2 => wpL_nil (v := tryR (.panic (failV e))) ?_ (hm _ (by simp; omega) rfl rfl)
    simp [go_sem, hN, en, en', tryR, h1, h2]
theorem isEmpty_val (LW : LibW E) (L : LibI E) {v : Iv} (hv : v.ok) : Val E id_interval_IsEmpty [.agg v.cells] (if v.fits then .tuple [.bool v.void, .int .i64 0] else .tuple [.bool false, .int .i64 1]) := by
  have hcb : closedB [(0, .cells 39 8 v.cells)] := fun p hp => by
    rw [List.mem_singleton.1 hp]; exact ⟨_, _, _, rfl, rfl⟩
  have hcl : ∀ H nx fz R, holdsB H [(0, .cells 39 8 v.cells)] → (∀ fz', (∀ b, b ∈ fz' ↔ b ∈ fz) → R ⟨if v.fits then .ret (.bool v.void) else .panic (failV 1), H, nx, fz', false⟩) → wpA E id_interval_IsEmpty_1 [.ptr 0 0] H nx fz R := fun H nx fz R hH hR => by
    refine wpA_keep (l := [(0, .cells 39 8 v.cells)]) L.isEmpty1 rfl hcb hH (fun H1 fz1 R1 hH1 hR1 => ?_) hR
    have hg := hH1 _ (List.mem_singleton.2 rfl)
    simp only at hg
    refine wpF_v L.isEmpty1.2.2 rfl (by simp) fun T hN hA => ?_
    have h0 := hA 0 _ rfl
    by_cases hf : v.fits = true
    · have rd := fun H nx fz R => wpA_iff (H := H) (nx := nx) (fz := fz) (R := R) (iread_val LW L hv hf) rfl
      rw [if_pos hf] at hR1
      simp only [Iv.cells, Iv.set] at rd hg
      simp [go_sem, h0, hN, hg, rd, partA]
      exact hR1
    · have rd := fun H nx fz R => wpA_iff (H := H) (nx := nx) (fz := fz) (R := R) (iread_pan LW L hv (by simpa using hf)) rfl
      rw [if_neg hf] at hR1
      simp only [Iv.cells] at rd hg
      simp [go_sem, h0, hN, hg, rd]
      exact hR1
  have e : (if v.fits then AV.tuple [.bool v.void, .int .i64 0] else .tuple [.bool false, .int .i64 1]) = tryR (if v.fits then .ret (.bool v.void) else .panic (failV 1)) := by split <;> rfl
  rw [e]
  refine val_fn L.isEmpty rfl (by simp) fun T hN hA => ?_
  have h0 := hA 0 _ rfl
  simp only [Iv.cells] at h0
  simp [go_sem, h0, hN]
  refine tryb_call L (l := [(0, .cells 39 8 v.cells)]) (res := if v.fits then .ret (.bool v.void) else .panic (failV 1)) ?_ hcb ?_ ?_ hcl fun H' nx' fz' => ?_
  · split
    · exact .inl ⟨_, rfl⟩
    · exact .inr ⟨_, rfl⟩
  · intro p hp; rw [List.mem_singleton.1 hp]; rfl
  · intro p hp; rw [List.mem_singleton.1 hp]; exact Nat.zero_lt_one
  · split
    · simp [go_sem, hN, tryR]
    · simp [go_sem, hN, tryR]
end
end Go.Am
end
