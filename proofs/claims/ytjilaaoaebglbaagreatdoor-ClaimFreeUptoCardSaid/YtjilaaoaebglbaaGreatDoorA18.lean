/- Parts of the proof. -/
import Derived.Test.YtjilaaoaebglbaaGreatDoorA10
set_option linter.unusedVariables false
set_option linter.unusedSimpArgs false
set_option linter.unnecessarySimpa false
set_option linter.unusedSectionVars false
section
set_option maxHeartbeats 16000000
namespace Go.Am
open Go Go.Nt
def cat {α : Type} (f : α → List AV) (l : List α) : List AV := l.flatMap f
section
variable {α : Type} {f : α → List AV} {w : Nat}
theorem cat_len (hw : ∀ x, (f x).length = w) : ∀ (l : List α), (cat f l).length = l.length * w
  | [] => by simp [cat]
  | x :: l => by
    have := cat_len hw l
    simp only [cat, List.flatMap_cons, List.length_append, hw, List.length_cons, Nat.add_mul, Nat.one_mul] at this ⊢
    omega
theorem cat_drop (hw : ∀ x, (f x).length = w) : ∀ {l : List α} {i : Nat} (h : i < l.length), (cat f l).drop (i * w) = f l[i] ++ cat f (l.drop (i + 1))
  | [], i, h => by simp at h
  | x :: l, 0, h => by simp [cat]
  | x :: l, i + 1, h => by
    have := cat_drop hw (l := l) (i := i) (by simpa using h)
    simp only [cat, List.flatMap_cons, List.getElem_cons_succ, List.drop_succ_cons] at this ⊢
    rw [show (i + 1) * w = (f x).length + i * w by rw [hw, Nat.add_mul, Nat.one_mul, Nat.add_comm], ← List.drop_drop, List.drop_left]
    exact this
theorem cat_append (l m : List α) : cat f (l ++ m) = cat f l ++ cat f m := by simp [cat]
end
structure Sd where
  name : List UInt8
  iv : Iv
def Sd.cells (s : Sd) : List AV := .str s.name :: s.iv.cells
structure Sd.ok (s : Sd) : Prop where
  iv : s.iv.ok
  nl : s.name.length < 1000000000000
abbrev Bx (l : List Sd) : AV := .row l.length (cat Sd.cells l)
theorem Sd.cells_len (s : Sd) : s.cells.length = 9 := rfl
def bxv : Option (List UInt8) → List Sd → Bool
  | _, [] => true
  | p, s :: l => isNm s.name && (match p with | none => true | some q => Op.bytesLess q s.name) && s.iv.fits && !s.iv.void && bxv (some s.name) l
theorem bxv_nil (p : Option (List UInt8)) : bxv p [] = true := by cases p <;> rfl
theorem bxv_cons (p : Option (List UInt8)) (s : Sd) (l : List Sd) : bxv p (s :: l) = (isNm s.name && (match p with | none => true | some q => Op.bytesLess q s.name) && s.iv.fits && !s.iv.void && bxv (some s.name) l) := by cases p <;> rfl
def bxValid (l : List Sd) : Bool := decide (l.length ≤ 6) && bxv none l
def prevN (l : List Sd) (i : Nat) : Option (List UInt8) := if h : 0 < i ∧ i - 1 < l.length then some (l[i - 1]'h.2).name else none
structure LibB (E : Env) : Prop where
  valid : At E id_enclose_Valid fn_enclose_Valid
  rnone : At E id_ref03_None fn_ref03_None
  rof : At E id_ref03_Of fn_ref03_Of
  rlarge : At E id_ref03_Large fn_ref03_Large
  rvalid : At E id_ref05_Valid fn_ref05_Valid
section
variable {E : Env} {H : Heap} {nx n : Nat} {fz : List Nat} {R : Back → Prop} {l : List Sd} {v : Iv}
theorem bytesLess_irrefl (s : List UInt8) : Op.bytesLess s s = false := by
  induction s with
  | nil => rfl
  | cons x s ih => simp [Op.bytesLess, ih]
theorem isEmpty_call (LW : LibW E) (L : LibI E) (hv : v.ok) : wpA E id_interval_IsEmpty [.agg v.cells] H nx fz R ↔ R ⟨.ret (if v.fits then .tuple [.bool v.void, .int .i64 0] else .tuple [.bool false, .int .i64 1]), H, nx, fz, false⟩ := wpA_iff (isEmpty_val LW L hv) rfl
theorem bxvalid_val (LW : LibW E) (LN : LibN E) (LI : LibI E) (L : LibB E) (hl : ∀ s ∈ l, s.ok) (hn : l.length < 1000000000) : Val E id_enclose_Valid [Bx l] (.bool (bxValid l)) := by
  have bv1 := LN.isName2.bv rfl
  refine val_fn L.valid rfl (by simp) fun T hN hA => ?_
  have h0 := hA 0 _ rfl
  by_cases h6 : 6 < l.length
  · have h6' : (6 : Int) < l.length := by omega
    have hf : bxValid l = false := by unfold bxValid; rw [decide_eq_false (by omega)]; rfl
    simp [go_sem, h0, hN, h6, h6', hf]
  have h6' : ¬ (6 : Int) < l.length := by omega
  have hf : bxValid l = bxv none l := by unfold bxValid; rw [decide_eq_true (by omega)]; rfl
  rw [hf]
  simp [go_sem, h0, hN, h6, h6']
  refine loop_v _ rfl (fun m t H nx fz => fz = [] ∧ ∃ (i : Nat), m + i = l.length ∧ getT t 12 = .int .i64 (i : Int) ∧ bxv (prevN l i) (l.drop i) = bxv none l) l.length ?_ ?_
  · exact ⟨rfl, 0, rfl, by simp [go_sem, hN], rfl⟩
  rintro m t H nx fz ⟨rfl, i, hm, t12, hb⟩ hF
  have hN' : t.length = 48 := by rw [hF.1]; simp [hN]
  have f0 : getT t 0 = Bx l := by rw [hF.2 0 (by decide)]; simp [go_sem, h0]
  have f10 : getT t 10 = Bx l := by rw [hF.2 10 (by decide)]; simp [go_sem, hN]
  have f11 : getT t 11 = .int .i64 (l.length : Int) := by rw [hF.2 11 (by decide)]; simp [go_sem, hN]
  clear hF
  by_cases hi : i < l.length
  · have hil : (i : Int) < l.length := by omega
    have hd := cat_drop Sd.cells_len hi
    obtain ⟨s, hs⟩ : ∃ s, s = l[i] := ⟨_, rfl⟩
    rw [← hs] at hd
    have hok : s.ok := hl s (by rw [hs]; exact List.getElem_mem hi)
    obtain ⟨i2, hi2⟩ : ∃ i2, i2 = i + 1 := ⟨_, rfl⟩
    have w3 : IntKind.i64.wrap ((i : Int) + 1) = i2 := by rw [wrapI_id (by omega) (by omega)]; omega
    have nmc := fun H nx fz R => isName2_call (s := s.name) (H := H) (nx := nx) (fz := fz) (R := R) LN hok.nl
    have ec := fun H nx fz R => isEmpty_call (H := H) (nx := nx) (fz := fz) (R := R) LW LI hok.iv
    have hpr : prevN l i2 = some s.name := by unfold prevN; rw [dif_pos ⟨by omega, by omega⟩, hs]; simp [hi2]
    rw [List.drop_eq_getElem_cons hi, ← hs, bxv_cons] at hb
    rw [← hi2] at hb hd
    generalize cat Sd.cells (l.drop i2) = tl at hd
    obtain ⟨nm, v⟩ := s
    simp only [Sd.cells, Iv.cells, List.cons_append, List.nil_append] at hd hb hpr nmc ec
    by_cases hnm : isNm nm = true
    · by_cases hp : 0 < i
      · have hp' : (0 : Int) < i := by omega
        have hd1 := cat_drop (i := i - 1) (l := l) Sd.cells_len (by omega)
        obtain ⟨i1, hi1⟩ : ∃ i1, i1 = i - 1 := ⟨_, rfl⟩
        have w1 : IntKind.i64.wrap ((i : Int) - 1) = i1 := by rw [wrapI_id (by omega) (by omega)]; omega
        have hi1l : (i1 : Int) < l.length := by omega
        obtain ⟨q, hq⟩ : ∃ q, q = l[i - 1]'(by omega) := ⟨_, rfl⟩
        have hpq : prevN l i = some q.name := by unfold prevN; rw [dif_pos ⟨by omega, by omega⟩, hq]
        rw [← hq, ← hi1] at hd1
        generalize cat Sd.cells (l.drop (i1 + 1)) = tl1 at hd1
        obtain ⟨nq, vq⟩ := q
        simp only [Sd.cells, Iv.cells, List.cons_append, List.nil_append] at hd1
        rw [hpq] at hb
        simp only at hb
        by_cases hlt : Op.bytesLess nq nm = true
        · by_cases hft : v.fits = true
          · by_cases hvo : v.void = true
            · simp [go_sem, t12, hN', f0, f10, f11, hi, hil, hp, hp', hd, hd1, w1, hi1l, w3, nmc, hnm, bv1, partA, ec, hft, hvo, hlt]
              rw [← hb]; simp [hvo]
            · simp [go_sem, t12, hN', f0, f10, f11, hi, hil, hp, hp', hd, hd1, w1, hi1l, w3, nmc, hnm, bv1, partA, ec, hft, hvo, hlt]
              exact ⟨m - 1, by omega, i2, by omega, rfl, by rw [hpr, ← hb]; simp [hnm, hft, hvo, hlt]⟩
          · simp [go_sem, t12, hN', f0, f10, f11, hi, hil, hp, hp', hd, hd1, w1, hi1l, w3, nmc, hnm, bv1, partA, ec, hft, hlt]
            rw [← hb]; simp [hft]
        · simp [go_sem, t12, hN', f0, f10, f11, hi, hil, hp, hp', hd, hd1, w1, hi1l, w3, nmc, hnm, hlt, bv1, partA]
          rw [← hb]; simp [hlt]
      · have hp' : ¬ (0 : Int) < i := by omega
        have hpq : prevN l i = none := by unfold prevN; rw [dif_neg (by omega)]
        rw [hpq] at hb
        simp only at hb
        by_cases hft : v.fits = true
        · by_cases hvo : v.void = true
          · simp [go_sem, t12, hN', f0, f10, f11, hi, hil, hp, hp', hd, w3, nmc, hnm, bv1, partA, ec, hft, hvo]
            rw [← hb]; simp [hvo]
          · simp [go_sem, t12, hN', f0, f10, f11, hi, hil, hp, hp', hd, w3, nmc, hnm, bv1, partA, ec, hft, hvo]
            exact ⟨m - 1, by omega, i2, by omega, rfl, by rw [hpr, ← hb]; simp [hnm, hft, hvo]⟩
        · simp [go_sem, t12, hN', f0, f10, f11, hi, hil, hp, hp', hd, w3, nmc, hnm, bv1, partA, ec, hft]
          rw [← hb]; simp [hft]
    · simp [go_sem, t12, hN', f0, f10, f11, hi, hil, hd, w3, nmc, hnm, bv1, partA]
      rw [← hb]; simp [hnm]
  · have hil : ¬ (i : Int) < l.length := by omega
    rw [List.drop_of_length_le (by omega), bxv_nil] at hb
    simp [go_sem, t12, hN', f11, hil]
    exact hb.symm
end
end Go.Am
end
section
set_option maxHeartbeats 16000000
namespace Go.Am
open Go Go.Nt
def Rt.c16 (r : Rt) : List AV := [.bool r.qg, N16 r.qn, N16 r.qd]
def zc16 : List AV := [.bool false, .row 0 [], .row 0 []]
def Iv.rset (v : Iv) : AV := if v.void then .agg (zc16 ++ zc16 ++ [.bool false, .bool false, .bool true]) else .agg ((if v.li then zc16 else v.lo.c16) ++ (if v.hf then zc16 else v.hi.c16) ++ [.bool v.li, .bool v.hf, .bool false])
section
variable {E : Env} {H : Heap} {nx n : Nat} {fz : List Nat} {R : Back → Prop} {l : List Sd} {v : Iv} {r : Rt}
theorem of_rt_call (LR : LibR E) (hr : r.ok) : wpA E id_ref01_Of [.agg [.bool r.neg, R32 r.num, R32 r.den]] H nx fz R ↔ R ⟨.ret (.agg [.bool r.qg, N16 r.qn, N16 r.qd]), H, nx, fz, false⟩ := of16_call (neg := r.neg) LR hr.num hr.den hr.nl hr.dl
theorem large_rt_call (LR : LibR E) (hr : r.ok) : wpA E id_ref01_Large [.agg [.bool r.neg, R32 r.num, R32 r.den]] H nx fz R ↔ R ⟨.ret (.bool (!r.fit)), H, nx, fz, false⟩ := by
  have := large_call (neg := r.neg) (H := H) (nx := nx) (fz := fz) (R := R) LR hr.num hr.den hr.nl hr.dl
  rw [show large16 (val 4294967296 r.num) (val 4294967296 r.den) = !r.fit from r.large] at this
  exact this
theorem rnone_val (L : LibB E) : Val E id_ref03_None [] (.agg (zc16 ++ zc16 ++ [.bool false, .bool false, .bool true])) := by
  refine val_fn L.rnone rfl (by simp) fun T hN hA => ?_
  simp [go_sem, hN, zc16]
theorem rnone_call (L : LibB E) : wpA E id_ref03_None [] H nx fz R ↔ R ⟨.ret (.agg (zc16 ++ zc16 ++ [.bool false, .bool false, .bool true])), H, nx, fz, false⟩ := wpA_iff (rnone_val L) rfl
theorem rlarge_val (LR : LibR E) (L : LibB E) (hv : v.ok) : Val E id_ref03_Large [.agg v.cells] (.bool (!v.fits)) := by
  have lg := fun H nx fz R => large_rt_call (H := H) (nx := nx) (fz := fz) (R := R) LR hv.lo
  have hg := fun H nx fz R => large_rt_call (H := H) (nx := nx) (fz := fz) (R := R) LR hv.hi
  simp only [Iv.cells, Iv.fits]
  refine val_fn L.rlarge rfl (by simp) fun T hN hA => ?_
  have h0 := hA 0 _ rfl
  by_cases h1 : v.lo.fit = true
  · simp [go_sem, h0, hN, lg, hg, h1]
  · simp [go_sem, h0, hN, lg, hg, h1]
theorem rlarge_call (LR : LibR E) (L : LibB E) (hv : v.ok) : wpA E id_ref03_Large [.agg v.cells] H nx fz R ↔ R ⟨.ret (.bool (!v.fits)), H, nx, fz, false⟩ := wpA_iff (rlarge_val LR L hv) rfl
theorem rof_val (LR : LibR E) (L : LibB E) (hv : v.ok) (hf : v.fits = true) : Val E id_ref03_Of [.agg v.cells] v.rset := by
  unfold Iv.fits at hf
  simp only [Bool.and_eq_true] at hf
  have lc := fun H nx fz R => of_rt_call (H := H) (nx := nx) (fz := fz) (R := R) LR hv.lo
  have hc := fun H nx fz R => of_rt_call (H := H) (nx := nx) (fz := fz) (R := R) LR hv.hi
  have nc := fun H nx fz R => rnone_call (H := H) (nx := nx) (fz := fz) (R := R) L
  obtain ⟨s1, s2⟩ := v.lo.fit_len16 hf.1
  obtain ⟨s3, s4⟩ := v.hi.fit_len16 hf.2
  have cm := fun H nx fz R => wpA_iff (H := H) (nx := nx) (fz := fz) (R := R) (cmpQ_val (neg1 := v.lo.qg) (n1 := v.lo.qn) (d1 := v.lo.qd) (neg2 := v.hi.qg) (n2 := v.hi.qn) (d2 := v.hi.qd) LR v.lo.qd_pos v.hi.qd_pos (by omega) (by omega) (by omega) (by omega)) rfl
  rw [qcmp_qc v.lo.qd_pos v.hi.qd_pos] at cm
  change ∀ H nx fz R, wpA E id_ref01_Cmp [F16 v.lo.qg v.lo.qn v.lo.qd, F16 v.hi.qg v.hi.qn v.hi.qd] H nx fz R ↔ R ⟨.ret (.int .i64 (v.lo.cmp v.hi)), H, nx, fz, false⟩ at cm
  simp only [Iv.cells, Iv.rset, Iv.void, Rt.c16, zc16]
  refine val_fn L.rof rfl (by simp) fun T hN hA => ?_
  have h0 := hA 0 _ rfl
  obtain ⟨lo, hi, li, hi2⟩ := v
  simp only [zc16, List.cons_append, List.nil_append] at nc
  cases li
  · cases hi2
    · by_cases ho : 0 < lo.cmp hi
      · simp [go_sem, h0, hN, lc, hc, cm, nc, ho]
      · simp [go_sem, h0, hN, lc, hc, cm, nc, ho]
    · simp [go_sem, h0, hN, lc, hc, cm, nc]
  · cases hi2
    · simp [go_sem, h0, hN, lc, hc, cm, nc]
    · simp [go_sem, h0, hN, lc, hc, cm, nc]
theorem rset_form (v : Iv) : ∃ b0 n0 d0 b1 n1 d1 b2 b3, v.rset = .agg [.bool b0, R32 n0, R32 d0, .bool b1, R32 n1, R32 d1, .bool b2, .bool b3, .bool v.void] := by
  unfold Iv.rset zc16 Rt.c16
  cases v.void <;> cases v.li <;> cases v.hf <;> first
    | exact ⟨_, _, _, _, _, _, _, _, rfl⟩
    | exact ⟨false, [], [], false, [], [], _, _, rfl⟩
    | exact ⟨false, [], [], _, _, _, _, _, rfl⟩
    | exact ⟨_, _, _, false, [], [], _, _, rfl⟩
theorem rof_call (LR : LibR E) (L : LibB E) (hv : v.ok) (hf : v.fits = true) : wpA E id_ref03_Of [.agg v.cells] H nx fz R ↔ R ⟨.ret v.rset, H, nx, fz, false⟩ := wpA_iff (rof_val LR L hv hf) rfl
theorem rbxvalid_val (LR : LibR E) (LN : LibN E) (L : LibB E) (hl : ∀ s ∈ l, s.ok) (hn : l.length < 1000000000) : Val E id_ref05_Valid [Bx l] (.bool (bxValid l)) := by
  have bv1 := LN.risName.bv rfl
  have bv2 := L.rlarge.bv rfl
  have bv3 := L.rof.bv rfl
  refine val_fn L.rvalid rfl (by simp) fun T hN hA => ?_
  have h0 := hA 0 _ rfl
  by_cases h6 : 6 < l.length
  · have h6' : (6 : Int) < l.length := by omega
    have hf : bxValid l = false := by unfold bxValid; rw [decide_eq_false (by omega)]; rfl
    simp [go_sem, h0, hN, h6, h6', hf]
  have h6' : ¬ (6 : Int) < l.length := by omega
  have hf : bxValid l = bxv none l := by unfold bxValid; rw [decide_eq_true (by omega)]; rfl
  rw [hf]
  simp [go_sem, h0, hN, h6, h6']
  refine loop_v _ rfl (fun m t H nx fz => fz = [] ∧ ∃ (i : Nat), m + i = l.length ∧ getT t 10 = .int .i64 (i : Int) ∧ bxv (prevN l i) (l.drop i) = bxv none l) l.length ?_ ?_
  · exact ⟨rfl, 0, rfl, by simp [go_sem, hN], rfl⟩
  rintro m t H nx fz ⟨rfl, i, hm, t10, hb⟩ hF
  have hN' : t.length = 46 := by rw [hF.1]; simp [hN]
  have f0 : getT t 0 = Bx l := by rw [hF.2 0 (by decide)]; simp [go_sem, h0]
  have f8 : getT t 8 = Bx l := by rw [hF.2 8 (by decide)]; simp [go_sem, hN]
  have f9 : getT t 9 = .int .i64 (l.length : Int) := by rw [hF.2 9 (by decide)]; simp [go_sem, hN]
  clear hF
  by_cases hi : i < l.length
  · have hil : (i : Int) < l.length := by omega
    have hd := cat_drop Sd.cells_len hi
    obtain ⟨s, hs⟩ : ∃ s, s = l[i] := ⟨_, rfl⟩
    rw [← hs] at hd
    have hok : s.ok := hl s (by rw [hs]; exact List.getElem_mem hi)
    obtain ⟨i2, hi2⟩ : ∃ i2, i2 = i + 1 := ⟨_, rfl⟩
    have w3 : IntKind.i64.wrap ((i : Int) + 1) = i2 := by rw [wrapI_id (by omega) (by omega)]; omega
    have nmc := fun H nx fz R => risName_call (s := s.name) (H := H) (nx := nx) (fz := fz) (R := R) LN hok.nl
    have lc := fun H nx fz R => rlarge_call (H := H) (nx := nx) (fz := fz) (R := R) LR L hok.iv
    have oc := fun H nx fz R hf => rof_call (H := H) (nx := nx) (fz := fz) (R := R) LR L hok.iv hf
    obtain ⟨b0, n0, d0, b1, n1, d1, b2, b3, hrs⟩ := rset_form s.iv
    rw [hrs] at oc
    have hpr : prevN l i2 = some s.name := by unfold prevN; rw [dif_pos ⟨by omega, by omega⟩, hs]; simp [hi2]
    rw [List.drop_eq_getElem_cons hi, ← hs, bxv_cons] at hb
    rw [← hi2] at hb hd
    generalize cat Sd.cells (l.drop i2) = tl at hd
    obtain ⟨nm, v⟩ := s
    simp only [Sd.cells, Iv.cells, List.cons_append, List.nil_append] at hd hb hpr nmc lc oc
    by_cases hnm : isNm nm = true
    · by_cases hp : 0 < i
      · have hp' : (0 : Int) < i := by omega
        have hd1 := cat_drop (i := i - 1) (l := l) Sd.cells_len (by omega)
        obtain ⟨i1, hi1⟩ : ∃ i1, i1 = i - 1 := ⟨_, rfl⟩
        have w1 : IntKind.i64.wrap ((i : Int) - 1) = i1 := by rw [wrapI_id (by omega) (by omega)]; omega
        have hi1l : (i1 : Int) < l.length := by omega
        obtain ⟨q, hq⟩ : ∃ q, q = l[i - 1]'(by omega) := ⟨_, rfl⟩
        have hpq : prevN l i = some q.name := by unfold prevN; rw [dif_pos ⟨by omega, by omega⟩, hq]
        rw [← hq, ← hi1] at hd1
        generalize cat Sd.cells (l.drop (i1 + 1)) = tl1 at hd1
        obtain ⟨nq, vq⟩ := q
        simp only [Sd.cells, Iv.cells, List.cons_append, List.nil_append] at hd1
        rw [hpq] at hb
        simp only at hb
        by_cases hlt : Op.bytesLess nq nm = true
        · by_cases hft : v.fits = true
          · by_cases hvo : v.void = true
            · simp [go_sem, t10, hN', f0, f8, f9, hi, hil, hp, hp', hd, hd1, w1, hi1l, w3, nmc, hnm, hlt, bv1, bv2, bv3, partA, lc, oc, hft, hvo]
              rw [← hb]; simp [hvo]
            · simp [go_sem, t10, hN', f0, f8, f9, hi, hil, hp, hp', hd, hd1, w1, hi1l, w3, nmc, hnm, hlt, bv1, bv2, bv3, partA, lc, oc, hft, hvo]
              exact ⟨m - 1, by omega, i2, by omega, rfl, by rw [hpr, ← hb]; simp [hnm, hft, hvo, hlt]⟩
          · simp [go_sem, t10, hN', f0, f8, f9, hi, hil, hp, hp', hd, hd1, w1, hi1l, w3, nmc, hnm, hlt, bv1, bv2, bv3, partA, lc, oc, hft]
            rw [← hb]; simp [hft]
        · simp [go_sem, t10, hN', f0, f8, f9, hi, hil, hp, hp', hd, hd1, w1, hi1l, w3, nmc, hnm, hlt, bv1, bv2, bv3, partA]
          rw [← hb]; simp [hlt]
      · have hp' : ¬ (0 : Int) < i := by omega
        have hpq : prevN l i = none := by unfold prevN; rw [dif_neg (by omega)]
        rw [hpq] at hb
        simp only at hb
        by_cases hft : v.fits = true
        · by_cases hvo : v.void = true
          · simp [go_sem, t10, hN', f0, f8, f9, hi, hil, hp, hp', hd, w3, nmc, hnm, bv1, bv2, bv3, partA, lc, oc, hft, hvo]
            rw [← hb]; simp [hvo]
          · simp [go_sem, t10, hN', f0, f8, f9, hi, hil, hp, hp', hd, w3, nmc, hnm, bv1, bv2, bv3, partA, lc, oc, hft, hvo]
            exact ⟨m - 1, by omega, i2, by omega, rfl, by rw [hpr, ← hb]; simp [hnm, hft, hvo]⟩
        · simp [go_sem, t10, hN', f0, f8, f9, hi, hil, hp, hp', hd, w3, nmc, hnm, bv1, bv2, bv3, partA, lc, oc, hft]
          rw [← hb]; simp [hft]
    · simp [go_sem, t10, hN', f0, f8, f9, hi, hil, hd, w3, nmc, hnm, bv1, partA]
      rw [← hb]; simp [hnm]
  · have hil : ¬ (i : Int) < l.length := by omega
    rw [List.drop_of_length_le (by omega), bxv_nil] at hb
    simp [go_sem, t10, hN', f9, hil]
    exact hb.symm
end
end Go.Am
end
section
set_option maxHeartbeats 16000000
namespace Go.Am
open Go Go.Nt
def idxFn (w : Nat) (agg : Bool) : AFn := ⟨19, [.tmp 4], false,
  .seq (.region [⟨some 4, none, .mov (.const (.int .i64 0))⟩] none) <|
  .seq (.seq (.region [⟨some 6, none, .mov (.tmp 0)⟩,
    ⟨some 7, none, .len 1 (.tmp 6)⟩,
    ⟨some 8, none, .mov (.const (.int .i64 0))⟩] none) <|
  .block 0 <|
  .loop <|
  .seq (.region [⟨some 9, none, .bin .lss (.tmp 8) (.tmp 7)⟩] none) <|
  .seq (.cond (.tmp 9)
   (.skip)
   (.exit 0)) <|
  .seq (.block 1 <|
  .seq (.region [⟨some 10, none, .mov (.tmp 8)⟩,
    ⟨some 5, none, .mov (.tmp 10)⟩] none) <|
  .seq (.region [⟨some 11, none, .mov (.tmp 1)⟩,
    ⟨some 12, none, .mov (.tmp 0)⟩,
    ⟨some 13, none, .mov (.tmp 5)⟩,
    ⟨some 14, none, .iaddr w (.tmp 12) (.tmp 13)⟩,
    ⟨some 15, none, .load agg w (.tmp 14)⟩,
    ⟨some 16, none, .callv (.tmp 11) [.tmp 15]⟩] none) <|
  .cond (.tmp 16)
   (.seq (.region [⟨some 17, none, .mov (.tmp 5)⟩,
     ⟨some 4, none, .mov (.tmp 17)⟩] none) <|
   .ret)
   (.skip)) <|
  .region [⟨some 18, none, .bin .add (.tmp 8) (.const (.int .i64 1))⟩,
    ⟨some 8, none, .mov (.tmp 18)⟩] none) <|
  .seq (.region [⟨some 4, none, .mov (.const (.int .i64 (-1)))⟩] none) <|
  .ret⟩
def conFn (f : FuncId) : AFn := ⟨9, [.tmp 4], false,
  .seq (.region [⟨some 4, none, .mov (.const (.bool false))⟩] none) <|
  .seq (.region [⟨some 5, none, .mov (.tmp 0)⟩,
    ⟨some 6, none, .mov (.tmp 1)⟩,
    ⟨some 7, none, .callf f [.tmp 5, .tmp 6]⟩,
    ⟨some 8, none, .bin .geq (.tmp 7) (.const (.int .i64 0))⟩,
    ⟨some 4, none, .mov (.tmp 8)⟩] none) <|
  .ret⟩
def idxV {α : Type} (P : α → Bool) : List α → Nat → Int
  | [], _ => -1
  | x :: l, i => if P x then i else idxV P l (i + 1)
section
variable {α : Type} {P : α → Bool}
theorem idxV_any : ∀ (l : List α) (i : Nat), decide (0 ≤ idxV P l i) = l.any P
  | [], i => by simp [idxV]
  | x :: l, i => by
    by_cases h : P x = true
    · simp [idxV, h]
    · simp [idxV, h, idxV_any l (i + 1)]
end
section
variable {E : Env} {H : Heap} {nx n : Nat} {fz : List Nat} {R : Back → Prop} {α : Type} {g : α → List AV} {w : Nat} {agg : Bool} {ev : α → AV} {P : α → Bool} {f cl : FuncId} {caps : List AV} {l : List α}
theorem getB_idx (hA : At E f (idxFn w agg)) (hw : ∀ x, (g x).length = w) (hev : ∀ x rest, partA agg (g x ++ rest) 0 w = some (ev x)) (hn : l.length < 1000000000000)
    (hcl : ∀ x ∈ l, ∀ H nx R, (∀ H' nx', R ⟨.ret (.bool (P x)), H', nx', [], false⟩) → wpA E cl (ev x :: caps) H nx [] R) : Val E f [.row l.length (cat g l), .func cl [] caps] (.int .i64 (idxV P l 0)) := by
  refine val_fn hA rfl (by simp) fun T hN hA => ?_
  have h0 := hA 0 _ rfl
  have h1 := hA 1 _ rfl
  simp [go_sem, h0, hN]
  refine loop_v _ rfl (fun m t H nx fz => fz = [] ∧ ∃ (i : Nat), m + i = l.length ∧ getT t 8 = .int .i64 (i : Int) ∧ idxV P (l.drop i) i = idxV P l 0) l.length ?_ ?_
  · exact ⟨rfl, 0, rfl, by simp [go_sem, hN], rfl⟩
  rintro m t H nx fz ⟨rfl, i, hm, t8, hb⟩ hF
  have hN' : t.length = 19 := by rw [hF.1]; simp [hN]
  have f0 : getT t 0 = .row l.length (cat g l) := by rw [hF.2 0 (by simp [dstsC, dstsO])]; simp [go_sem, h0]
  have f1 : getT t 1 = .func cl [] caps := by rw [hF.2 1 (by simp [dstsC, dstsO])]; simp [go_sem, h1]
  have f7 : getT t 7 = .int .i64 (l.length : Int) := by rw [hF.2 7 (by simp [dstsC, dstsO])]; simp [go_sem, hN]
  clear hF
  by_cases hi : i < l.length
  · have hil : (i : Int) < l.length := by omega
    have hd := cat_drop hw hi
    obtain ⟨x, hx⟩ : ∃ x, x = l[i] := ⟨_, rfl⟩
    rw [← hx] at hd
    have hxm : x ∈ l := by rw [hx]; exact List.getElem_mem hi
    obtain ⟨i2, hi2⟩ : ∃ i2, i2 = i + 1 := ⟨_, rfl⟩
    have w3 : IntKind.i64.wrap ((i : Int) + 1) = i2 := by rw [wrapI_id (by omega) (by omega)]; omega
    rw [List.drop_eq_getElem_cons hi, ← hx, idxV, ← hi2] at hb
    have hp := hev x (cat g (l.drop (i + 1)))
    rw [← hd] at hp
    simp [go_sem, t8, hN', f0, f1, f7, hi, hil, hp]
    refine hcl x hxm _ _ _ fun H' nx' => ?_
    by_cases hP : P x = true
    · rw [if_pos hP] at hb
      simp [go_sem, hN', hP]
      exact hb
    · rw [if_neg hP] at hb
      simp [go_sem, hN', hP, t8, w3]
      exact ⟨m - 1, by omega, i2, by omega, rfl, hb⟩
  · have hil : ¬ (i : Int) < l.length := by omega
    rw [List.drop_of_length_le (by omega), idxV] at hb
    simp [go_sem, t8, hN', f7, hil]
    exact hb
theorem wpA_free {args : List AV} {fn : AFn} {res : Res} (hA : At E f fn) (hh : fn.heap = true) (hT : ∀ n, args.flatMap (tch H (n + 2)) = []) (h : wpF E f args [] nx [] fun b => nx ≤ b.nx ∧ b.res = res ∧ b.fz = [] ∧ b.recd = false) (hR : ∀ H' nx', nx ≤ nx' → R ⟨res, H', nx', fz, false⟩) : wpA E f args H nx fz R := by
  refine wpA_heap hA.1 hA.2.1 hA.2.2 hh ?_
  rw [show args.flatMap (tch H (depthOf nx)) = [] from hT (2 * nx + 4)]
  refine h.mono fun b hb => ⟨hb.1, ?_⟩
  unfold mergeB
  rw [hb.2.1, hb.2.2.1, hb.2.2.2]
  exact hR _ _ hb.1
theorem con_val {i : Int} {a b : AV} (hA : At E f (conFn cl)) (hi : Val E cl [a, b] (.int .i64 i)) (hc : closedL [a, b] = true) : Val E f [a, b] (.bool (decide (0 ≤ i))) := by
  refine val_fn hA rfl (by simp) fun T hN hA => ?_
  have h0 := hA 0 _ rfl
  have h1 := hA 1 _ rfl
  have ic := fun H nx fz R => wpA_iff (H := H) (nx := nx) (fz := fz) (R := R) hi hc
  simp [go_sem, h0, h1, hN, ic]
end
end Go.Am
end
section
set_option maxHeartbeats 16000000
namespace Go.Am
open Go Go.Nt
structure Cd where
  e : Xp
  strict : Bool
def Cd.cells (c : Cd) : List AV := c.e.cells ++ [.bool c.strict]
theorem Cd.cells_len (c : Cd) : c.cells.length = 8 := by simp [Cd.cells, Xp.cells_len]
structure Cl where
  goal : Xp
  strict : Bool
  box : List Sd
  conds : List Cd
abbrev Cds (l : List Cd) : AV := .row l.length (cat Cd.cells l)
def Cl.cells (c : Cl) : List AV := c.goal.cells ++ [.bool c.strict, Bx c.box, Cds c.conds]
structure Cl.ok (c : Cl) : Prop where
  goal : c.goal.ok
  box : ∀ s ∈ c.box, s.ok
  bl : c.box.length < 1000000000
  conds : ∀ k ∈ c.conds, k.e.ok
  cl : c.conds.length < 1000000000
def putN (s : List UInt8) : List (List UInt8) → List (List UInt8)
  | [] => [s]
  | x :: l => if Op.bytesLess x s then x :: putN s l else if x == s then x :: l else s :: x :: l
mutual
def Xp.nms : Xp → List (List UInt8) → List (List UInt8)
  | .mk op arg r name kids, l => if op = 2 then putN name l else Xp.nmsL kids l
def Xp.nmsL : List Xp → List (List UInt8) → List (List UInt8)
  | [], l => l
  | x :: xs, l => Xp.nmsL xs (x.nms l)
end
mutual
def Xp.has (n : List UInt8) : Xp → Bool
  | .mk op arg r name kids => if op = 2 then name == n else Xp.hasL n kids
def Xp.hasL (n : List UInt8) : List Xp → Bool
  | [] => false
  | x :: xs => x.has n || Xp.hasL n xs
end
theorem putN_mem (s n : List UInt8) : ∀ (l : List (List UInt8)), (putN s l).contains n = (l.contains n || s == n)
  | [] => by rw [putN]; simp only [List.contains_cons, List.contains_nil, Bool.or_false, Bool.false_or]; exact Bool.beq_comm
  | x :: l => by
    have hc : (n == s) = (s == n) := Bool.beq_comm
    have ih := putN_mem s n l
    rw [putN]
    split
    · rw [List.contains_cons, List.contains_cons, ih, Bool.or_assoc]
    · split
      · rename_i h1 h2
        have : x = s := by simpa using h2
        subst this
        rw [List.contains_cons, hc]
        cases (x == n) <;> simp
      · rw [List.contains_cons, hc, Bool.or_comm]
mutual
theorem Xp.nms_has (n : List UInt8) : ∀ (x : Xp) (l : List (List UInt8)), (x.nms l).contains n = (l.contains n || x.has n)
  | .mk op arg r name kids, l => by
    rw [Xp.nms, Xp.has]
    split
    · exact putN_mem _ _ _
    · exact Xp.nmsL_has n kids l
theorem Xp.nmsL_has (n : List UInt8) : ∀ (xs : List Xp) (l : List (List UInt8)), (Xp.nmsL xs l).contains n = (l.contains n || Xp.hasL n xs)
  | [], l => by rw [Xp.nmsL, Xp.hasL, Bool.or_false]
  | x :: xs, l => by rw [Xp.nmsL, Xp.hasL, Xp.nmsL_has n xs, Xp.nms_has n x, Bool.or_assoc]
end
theorem putN_len (s : List UInt8) : ∀ (l : List (List UInt8)), (putN s l).length ≤ l.length + 1
  | [] => by simp [putN]
  | x :: l => by
    have := putN_len s l
    rw [putN]
    split
    · simp; omega
    · split <;> simp
mutual
def Xp.size : Xp → Nat
  | .mk op arg r name kids => 1 + Xp.sizeL kids
def Xp.sizeL : List Xp → Nat
  | [] => 0
  | x :: xs => x.size + Xp.sizeL xs
end
mutual
theorem Xp.nms_len : ∀ (x : Xp) (l : List (List UInt8)), (x.nms l).length ≤ l.length + x.size
  | .mk op arg r name kids, l => by
    rw [Xp.nms, Xp.size]
    split
    · have := putN_len name l; omega
    · have := Xp.nmsL_len kids l; omega
theorem Xp.nmsL_len : ∀ (xs : List Xp) (l : List (List UInt8)), (Xp.nmsL xs l).length ≤ l.length + Xp.sizeL xs
  | [], l => by rw [Xp.nmsL]; omega
  | x :: xs, l => by
    have h1 := Xp.nmsL_len xs (x.nms l)
    have h2 := Xp.nms_len x l
    rw [Xp.nmsL, Xp.sizeL]; omega
end
mutual
theorem Xp.cnt_size : ∀ (x : Xp) (d n : Int), x.cnt d n ≤ 300 → x.cnt d n = n + x.size
  | .mk op arg r name kids, d, n, h => by
    rw [Xp.cnt] at h ⊢
    rw [Xp.size]
    split at h
    · omega
    · rename_i hc
      rw [if_neg hc, Xp.cntL_size kids _ _ h]
      omega
theorem Xp.cntL_size : ∀ (l : List Xp) (d n : Int), Xp.cntL l d n ≤ 300 → Xp.cntL l d n = n + Xp.sizeL l
  | [], d, n, h => by rw [Xp.cntL, Xp.sizeL]; omega
  | x :: l, d, n, h => by
    rw [Xp.cntL] at h ⊢
    rw [Xp.sizeL]
    split at h
    · omega
    · rename_i hc
      rw [if_neg hc, Xp.cntL_size l _ _ h, Xp.cnt_size x d n (by omega)]
      omega
end
theorem Xp.valid_size {x : Xp} (h : x.valid = true) : x.size ≤ 300 := by
  unfold Xp.valid at h
  have h1 := of_decide_eq_true h
  have := Xp.cnt_size x 1 0 h1
  omega
theorem Xp.valid_names {x : Xp} (h : x.valid = true) : (x.nms []).length ≤ 300 := by
  have h1 := Xp.nms_len x []
  have h2 := Xp.valid_size h
  simp at h1; omega
abbrev Ss (l : List (List UInt8)) : AV := .row l.length (l.map .str)
def sideV (b : List Sd) (n : List UInt8) : Int := idxV (fun s => s.name == n) b 0
def covB (e : Xp) (b : List Sd) : Bool := !((e.nms []).any fun n => decide (sideV b n < 0))
def clValid (c : Cl) : Bool := bxValid c.box && decide (c.conds.length ≤ 12) && c.goal.valid && covB c.goal c.box && c.conds.all fun k => k.e.valid && covB k.e c.box
structure LibC (E : Env) : Prop where
  vars : ∀ x : Xp, x.ok → x.valid = true → Val E id_expr_Vars [.agg x.cells] (.tuple [Ss (x.nms []), .int .i64 0])
  idxSide : At E id_slices_IndexFunc_Side fn_slices_IndexFunc_Side
  idxStr : At E id_slices_IndexFunc_string fn_slices_IndexFunc_string
  conStr : At E id_slices_ContainsFunc_string fn_slices_ContainsFunc_string
  idxCond : At E id_slices_IndexFunc_Cond fn_slices_IndexFunc_Cond
  conCond : At E id_slices_ContainsFunc_Cond fn_slices_ContainsFunc_Cond
  index : At E id_slices_Index_string fn_slices_Index_string
  contains : At E id_slices_Contains_string fn_slices_Contains_string
  side : At E id_claim_side fn_claim_side
  side1 : At E id_claim_side_1 fn_claim_side_1
  covered : At E id_claim_covered fn_claim_covered
  covered1 : At E id_claim_covered_1 fn_claim_covered_1
  valid : At E id_claim_Valid fn_claim_Valid
  mentions : At E id_claim_mentions fn_claim_mentions
  named : At E id_claim_named fn_claim_named
  free : At E id_claim_Free fn_claim_Free
  free1 : At E id_claim_Free_1 fn_claim_Free_1
section
variable {E : Env} {H : Heap} {nx n : Nat} {fz : List Nat} {R : Back → Prop} {b : List Sd} {nm : List UInt8} {x : Xp} {c : Cl} {l : List (List UInt8)}
theorem frz_ptr_eq {b off : Nat} : frz H (n + 1) (.ptr b off) = (match getB H b with | some (.cells _ _ cs) => ((cs.drop off).mapM (frz H n)).map .sp | _ => none) := rfl
theorem tch_ptr_eq {b off : Nat} : tch H (n + 1) (.ptr b off) = b :: (match getB H b with | some (.cells _ _ cs) => (cs.drop off).flatMap (tch H n) | _ => []) := rfl
theorem frz_sl_eq {b off len : Nat} : frz H (n + 1) (.sl b off len) = (match getB H b with | some (.cells _ sz cs) => if off + len * sz ≤ cs.length then (((cs.drop off).take (len * sz)).mapM (frz H n)).map (.row len) else none | _ => none) := rfl
theorem tch_sl_eq {b off len : Nat} : tch H (n + 1) (.sl b off len) = b :: (match getB H b with | some (.cells _ sz cs) => ((cs.drop off).take (len * sz)).flatMap (tch H n) | _ => []) := rfl
@[go_sem] theorem fzOf_int {T : List Nat} {k : IntKind} {z : Int} : fzOf T fz (.int k z) = fz := rfl
@[go_sem] theorem fzOf_bool {T : List Nat} {z : Bool} : fzOf T fz (.bool z) = fz := rfl
@[go_sem] theorem fzOf_str {T : List Nat} {z : List UInt8} : fzOf T fz (.str z) = fz := rfl
@[go_sem] theorem resV_ret {v : AV} : resV (.ret v) = v := rfl
@[go_sem] theorem resV_panic {v : AV} : resV (.panic v) = v := rfl
theorem cat_str (l : List (List UInt8)) : cat (fun s => [AV.str s]) l = l.map .str := by
  induction l with
  | nil => rfl
  | cons x l ih => simp [cat] at ih ⊢; exact ih
theorem side1_call (L : LibC E) {s : Sd} (hR : ∀ H' nx', nx ≤ nx' → R ⟨.ret (.bool (s.name == nm)), H', nx', fz, false⟩) : wpA E id_claim_side_1 [.agg s.cells, .sp [.str nm]] H nx fz R := by
  obtain ⟨n2, v⟩ := s
  simp only [Sd.cells, Iv.cells]
  refine wpA_free L.side1 rfl (fun n => by simp [go_sem]) ?_ hR
  refine wpF_v L.side1.2.2 rfl (by simp) fun T hN hA => ?_
  have h0 := hA 0 _ rfl
  have h1 := hA 1 _ rfl
  simp [go_sem, h0, h1, hN]
theorem side_val (L : LibC E) (hb : b.length < 1000000000) : Val E id_claim_side [Bx b, .str nm] (.int .i64 (sideV b nm)) := by
  refine val_fn L.side rfl (by simp) fun T hN hA => ?_
  have h0 := hA 0 _ rfl
  have h1 := hA 1 _ rfl
  have iv := getB_idx (f := id_slices_IndexFunc_Side) (cl := id_claim_side_1) (caps := [.sp [.str nm]]) (P := fun s : Sd => s.name == nm) (ev := fun s => .agg s.cells) (l := b) L.idxSide Sd.cells_len (fun x rest => by simp [partA, Sd.cells, Iv.cells]) (by omega)
    fun s hs H nx R hR => side1_call L fun H' nx' _ => hR H' nx'
  simp [go_sem, h0, h1, hN]
  rw [wpA_frz_iff iv (by simp [go_sem, frz_ptr_eq])]
  simp [go_sem, hN, sideV]
theorem side_call (L : LibC E) (hb : b.length < 1000000000) : wpA E id_claim_side [Bx b, .str nm] H nx fz R ↔ R ⟨.ret (.int .i64 (sideV b nm)), H, nx, fz, false⟩ := wpA_iff (side_val L hb) rfl
theorem covered1_call (L : LibC E) (hb : b.length < 1000000000) (hR : ∀ H' nx', nx ≤ nx' → R ⟨.ret (.bool (decide (sideV b nm < 0))), H', nx', fz, false⟩) : wpA E id_claim_covered_1 [.str nm, .sp [Bx b]] H nx fz R := by
  refine wpA_free L.covered1 rfl (fun n => by simp [go_sem]) ?_ hR
  refine wpF_v L.covered1.2.2 rfl (by simp) fun T hN hA => ?_
  have h0 := hA 0 _ rfl
  have h1 := hA 1 _ rfl
  simp [go_sem, h0, h1, hN, side_call L hb]
theorem covered_val (L : LibC E) (hx : x.ok) (hv : x.valid = true) (hb : b.length < 1000000000) : Val E id_claim_covered [.agg x.cells, Bx b] (.bool (covB x b)) := by
  have vc := fun H nx fz R => wpA_iff (H := H) (nx := nx) (fz := fz) (R := R) (L.vars x hx hv) (closed_cells1 x)
  have hlen := Xp.valid_names hv
  have iv := getB_idx (f := id_slices_IndexFunc_string) (cl := id_claim_covered_1) (caps := [.sp [Bx b]]) (P := fun n => decide (sideV b n < 0)) (ev := fun s => .str s) (g := fun s => [.str s]) (l := x.nms []) L.idxStr (fun _ => rfl) (fun x rest => by simp [partA]) (by omega)
    fun s hs H nx R hR => covered1_call L hb fun H' nx' _ => hR H' nx'
  rw [cat_str] at iv
  have cc := con_val (f := id_slices_ContainsFunc_string) (cl := id_slices_IndexFunc_string) L.conStr iv rfl
  rw [idxV_any] at cc
  unfold covB
  obtain ⟨o, a, bb, u, v, s, k, cs, hxl⟩ := x.cells_form
  rw [hxl] at vc ⊢
  refine val_fn L.covered rfl (by simp) fun T hN hA => ?_
  have h0 := hA 0 _ rfl
  have h1 := hA 1 _ rfl
  generalize x.nms [] = N at *
  simp [go_sem, h0, h1, hN, vc]
  rw [wpA_frz_iff cc (by simp [go_sem, frz_ptr_eq])]
  simp [go_sem, hN]
theorem covered_call (L : LibC E) (hx : x.ok) (hv : x.valid = true) (hb : b.length < 1000000000) : wpA E id_claim_covered [.agg x.cells, Bx b] H nx fz R ↔ R ⟨.ret (.bool (covB x b)), H, nx, fz, false⟩ := wpA_iff (covered_val L hx hv hb) (by cases x; rfl)
end
end Go.Am
end
section
set_option maxHeartbeats 16000000
namespace Go.Am
open Go Go.Nt
section
variable {E : Env} {H : Heap} {nx n : Nat} {fz : List Nat} {R : Back → Prop} {b : List Sd} {nm : List UInt8} {x : Xp} {c : Cl} {l : List (List UInt8)}
theorem index_val (L : LibC E) (hn : l.length < 1000000000000) : Val E id_slices_Index_string [Ss l, .str nm] (.int .i64 (idxV (fun s => nm == s) l 0)) := by
  refine val_fn L.index rfl (by simp) fun T hN hA => ?_
  have h0 := hA 0 _ rfl
  have h1 := hA 1 _ rfl
  simp [go_sem, h0, hN]
  refine loop_v _ rfl (fun m t H nx fz => fz = [] ∧ ∃ (i : Nat), m + i = l.length ∧ getT t 8 = .int .i64 (i : Int) ∧ idxV (fun s => nm == s) (l.drop i) i = idxV (fun s => nm == s) l 0) l.length ?_ ?_
  · exact ⟨rfl, 0, rfl, by simp [go_sem, hN], rfl⟩
  rintro m t H nx fz ⟨rfl, i, hm, t8, hb⟩ hF
  have hN' : t.length = 19 := by rw [hF.1]; simp [hN]
  have f0 : getT t 0 = Ss l := by rw [hF.2 0 (by decide)]; simp [go_sem, h0]
  have f1 : getT t 1 = .str nm := by rw [hF.2 1 (by decide)]; simp [go_sem, h1]
  have f7 : getT t 7 = .int .i64 (l.length : Int) := by rw [hF.2 7 (by decide)]; simp [go_sem, hN]
  clear hF
  by_cases hi : i < l.length
  · have hil : (i : Int) < l.length := by omega
    obtain ⟨x, hx⟩ : ∃ x, x = l[i] := ⟨_, rfl⟩
    have hp := part_strs hi
    rw [List.getD_eq_getElem?_getD, List.getElem?_eq_getElem hi, Option.getD_some, ← hx] at hp
    obtain ⟨i2, hi2⟩ : ∃ i2, i2 = i + 1 := ⟨_, rfl⟩
    have w3 : IntKind.i64.wrap ((i : Int) + 1) = i2 := by rw [wrapI_id (by omega) (by omega)]; omega
    rw [List.drop_eq_getElem_cons hi, ← hx, idxV, ← hi2] at hb
    by_cases hP : nm = x
    · have hP' : (nm == x) = true := by simpa using hP
      rw [if_pos hP'] at hb
      simp [go_sem, t8, hN', f0, f1, f7, hi, hil, hp, hP']
      exact hb
    · have hP' : ¬ (nm == x) = true := by simpa using hP
      rw [if_neg hP'] at hb
      simp [go_sem, t8, hN', f0, f1, f7, hi, hil, hp, hP, hP', w3]
      exact ⟨m - 1, by omega, i2, by omega, rfl, hb⟩
  · have hil : ¬ (i : Int) < l.length := by omega
    rw [List.drop_of_length_le (by omega), idxV] at hb
    simp [go_sem, t8, hN', f7, hil]
    exact hb
theorem contains_val (L : LibC E) (hn : l.length < 1000000000000) : Val E id_slices_Contains_string [Ss l, .str nm] (.bool (l.contains nm)) := by
  have := con_val (f := id_slices_Contains_string) (cl := id_slices_Index_string) L.contains (index_val (nm := nm) L hn) rfl
  rw [idxV_any] at this
  rw [List.contains_eq_any_beq]
  exact this
theorem mentions_val (L : LibC E) (hx : x.ok) (hv : x.valid = true) : Val E id_claim_mentions [.agg x.cells, .str nm] (.bool (x.has nm)) := by
  have vc := fun H nx fz R => wpA_iff (H := H) (nx := nx) (fz := fz) (R := R) (L.vars x hx hv) (closed_cells1 x)
  have hlen := Xp.valid_names hv
  have hh := Xp.nms_has nm x []
  rw [show ([] : List (List UInt8)).contains nm = false from rfl, Bool.false_or] at hh
  have cc := fun H nx fz R => wpA_iff (H := H) (nx := nx) (fz := fz) (R := R) (contains_val (l := x.nms []) (nm := nm) L (by omega)) rfl
  rw [hh] at cc
  obtain ⟨o, a, bb, u, v, s, k, cs, hxl⟩ := x.cells_form
  rw [hxl] at vc ⊢
  refine val_fn L.mentions rfl (by simp) fun T hN hA => ?_
  have h0 := hA 0 _ rfl
  have h1 := hA 1 _ rfl
  generalize x.nms [] = N at *
  simp [go_sem, h0, h1, hN, vc, cc]
theorem mentions_call (L : LibC E) (hx : x.ok) (hv : x.valid = true) : wpA E id_claim_mentions [.agg x.cells, .str nm] H nx fz R ↔ R ⟨.ret (.bool (x.has nm)), H, nx, fz, false⟩ := wpA_iff (mentions_val L hx hv) (by cases x; rfl)
theorem bxvalid_call (LW : LibW E) (LN : LibN E) (LI : LibI E) (L : LibB E) (hl : ∀ s ∈ b, s.ok) (hn : b.length < 1000000000) : wpA E id_enclose_Valid [Bx b] H nx fz R ↔ R ⟨.ret (.bool (bxValid b)), H, nx, fz, false⟩ := wpA_iff (bxvalid_val LW LN LI L hl hn) rfl
structure LibP (E : Env) : Prop where
  w : LibW E
  n : LibN E
  x : LibX E
  i : LibI E
  b : LibB E
  c : LibC E
theorem clvalid_val (L : LibP E) (hc : c.ok) : Val E id_claim_Valid [.agg c.cells] (.bool (clValid c)) := by
  have bc := fun H nx fz R => bxvalid_call (H := H) (nx := nx) (fz := fz) (R := R) L.w L.n L.i L.b hc.box hc.bl
  have gv := fun H nx fz R => valid_call (H := H) (nx := nx) (fz := fz) (R := R) L.w L.n L.x c.goal hc.goal
  have gc := fun hv H nx fz R => covered_call (H := H) (nx := nx) (fz := fz) (R := R) L.c hc.goal hv hc.bl
  obtain ⟨e, st, b, k⟩ := c
  have he := hc.conds
  have hcl := hc.cl
  have hbl := hc.bl
  simp only at bc gv gc he hcl hbl
  clear hc
  simp only [Cl.cells, clValid]
  obtain ⟨o, a, bb, u, v, s, kk, cs, hxl⟩ := e.cells_form
  rw [hxl] at gv gc ⊢
  simp only [List.cons_append, List.nil_append]
  refine val_fn L.c.valid rfl (by simp) fun T hN hA => ?_
  have h0 := hA 0 _ rfl
  obtain ⟨A, hAl⟩ : ∃ A, A = k.all fun k => k.e.valid && covB k.e b := ⟨_, rfl⟩
  rw [← hAl]
  by_cases c1 : bxValid b = true
  · by_cases c2 : 12 < k.length
    · have c2' : (12 : Int) < k.length := by omega
      have c2n : ¬ k.length ≤ 12 := by omega
      simp [go_sem, h0, hN, bc, c1, c2, c2', c2n]
    · have c2' : ¬ (12 : Int) < k.length := by omega
      have c2n : k.length ≤ 12 := by omega
      by_cases c3 : e.valid = true
      · have gc := gc c3
        by_cases c4 : covB e b = true
        · simp [go_sem, h0, hN, bc, c1, c2, c2', c2n, gv, c3, gc, c4]
          obtain ⟨HB, hHB⟩ : ∃ HB, HB = (Blk.cells 31 10 [AV.int .i64 o, .int .i64 a, .bool bb, R32 u, R32 v, .str s, .row kk cs, .bool st, Bx b, Cds k]) := ⟨_, rfl⟩
          refine loop_v _ rfl (fun m t H nx fz => fz = [] ∧ 1 ≤ nx ∧ getB H 0 = some HB ∧ ∃ (i : Nat), m + i = k.length ∧ getT t 32 = .int .i64 (i : Int) ∧ ((k.drop i).all fun k => k.e.valid && covB k.e b) = A) k.length ?_ ?_
          · exact ⟨rfl, by omega, by rw [hHB]; rfl, 0, rfl, by simp [go_sem, hN], hAl.symm⟩
          rintro m t H nx fz ⟨rfl, hnx, hH, i, hm, t32, hal⟩ hF
          have hN' : t.length = 49 := by rw [hF.1]; simp [hN]
          have f1 : getT t 1 = .ptr 0 0 := by rw [hF.2 1 (by decide)]; simp [go_sem, hN]
          have f30 : getT t 30 = Cds k := by rw [hF.2 30 (by decide)]; simp [go_sem, hN]
          have f31 : getT t 31 = .int .i64 (k.length : Int) := by rw [hF.2 31 (by decide)]; simp [go_sem, hN]
          clear hF
          rw [hHB] at hH
          have n0 : ¬ 0 = nx := by omega
          have n1 : ¬ nx = 0 := by omega
          by_cases hi : i < k.length
          · have hil : (i : Int) < k.length := by omega
            have hd := cat_drop Cd.cells_len hi
            obtain ⟨q, hq⟩ : ∃ q, q = k[i] := ⟨_, rfl⟩
            rw [← hq] at hd
            have hqok := he q (by rw [hq]; exact List.getElem_mem hi)
            obtain ⟨i2, hi2⟩ : ∃ i2, i2 = i + 1 := ⟨_, rfl⟩
            have w3 : IntKind.i64.wrap ((i : Int) + 1) = i2 := by rw [wrapI_id (by omega) (by omega)]; omega
            rw [List.drop_eq_getElem_cons hi, ← hq, List.all_cons, ← hi2] at hal
            have vc := fun H nx fz R => valid_call (H := H) (nx := nx) (fz := fz) (R := R) L.w L.n L.x q.e hqok
            have qc := fun hv H nx fz R => covered_call (b := b) (H := H) (nx := nx) (fz := fz) (R := R) L.c hqok hv hbl
            rw [← hi2] at hd
            generalize cat Cd.cells (k.drop i2) = tl at hd
            obtain ⟨qe, qs⟩ := q
            obtain ⟨qo, qa, qb, qu, qv, qn, qk, qcs, hql⟩ := qe.cells_form
            simp only [Cd.cells, hql, List.cons_append, List.nil_append] at hd hal vc qc
            by_cases d1 : qe.valid = true
            · have qc := qc d1
              by_cases d2 : covB qe b = true
              · simp [go_sem, t32, hN', f1, f30, f31, hi, hil, hd, w3, n0, n1, hH, vc, qc, d1, d2, partA]
                exact ⟨m - 1, by omega, hHB.symm, i2, by omega, rfl, by rw [← hal, d1, d2]; simp⟩
              · simp [go_sem, t32, hN', f1, f30, f31, hi, hil, hd, w3, n0, n1, hH, vc, qc, d1, d2, partA]
                rw [← hal]; simp [d2]
            · simp [go_sem, t32, hN', f1, f30, f31, hi, hil, hd, w3, n0, n1, hH, vc, qc, d1, partA]
              rw [← hal]; simp [d1]
          · have hil : ¬ (i : Int) < k.length := by omega
            rw [List.drop_of_length_le (by omega), List.all_nil] at hal
            simp [go_sem, t32, hN', f31, hil]
            exact hal.symm
        · simp [go_sem, h0, hN, bc, c1, c2, c2', c2n, gv, c3, gc, c4]
      · simp [go_sem, h0, hN, bc, c1, c2, c2', c2n, gv, c3]
  · simp [go_sem, h0, hN, bc, c1]
theorem closed_claim (c : Cl) : closedL [.agg c.cells] = true := by
  obtain ⟨e, st, b, k⟩ := c
  cases e; rfl
theorem clvalid_call (L : LibP E) (hc : c.ok) : wpA E id_claim_Valid [.agg c.cells] H nx fz R ↔ R ⟨.ret (.bool (clValid c)), H, nx, fz, false⟩ := wpA_iff (clvalid_val L hc) (closed_claim c)
theorem Cl.cells_form (c : Cl) : ∃ (o a : Int) (bb : Bool) (u v : List Nat) (s : List UInt8) (k : Nat) (cs : List AV), c.goal.cells = [.int .i64 o, .int .i64 a, .bool bb, R32 u, R32 v, .str s, .row k cs] ∧ c.cells = [.int .i64 o, .int .i64 a, .bool bb, R32 u, R32 v, .str s, .row k cs, .bool c.strict, Bx c.box, Cds c.conds] := by
  obtain ⟨o, a, bb, u, v, s, k, cs, h⟩ := c.goal.cells_form
  exact ⟨o, a, bb, u, v, s, k, cs, h, by unfold Cl.cells; rw [h]; rfl⟩
def namedV (c : Cl) (nm : List UInt8) : Int := if clValid c = true then (if sideV c.box nm < 0 then 51 else 0) else 60
theorem named_val (L : LibP E) (hc : c.ok) : Val E id_claim_named [.agg c.cells, .row 1 [.str nm]] (.int .i64 (namedV c nm)) := by
  have vc := fun H nx fz R => clvalid_call (H := H) (nx := nx) (fz := fz) (R := R) L hc
  have sc := fun H nx fz R => side_call (nm := nm) (H := H) (nx := nx) (fz := fz) (R := R) L.c hc.bl
  obtain ⟨o, a, bb, u, v, s, k, cs, _, h⟩ := c.cells_form
  rw [h] at vc ⊢
  refine val_fn L.c.named rfl (by simp) fun T hN hA => ?_
  have h0 := hA 0 _ rfl
  have h1 := hA 1 _ rfl
  unfold namedV
  by_cases hv : clValid c = true
  · rw [if_pos hv]
    simp [go_sem, h0, h1, hN, vc, hv]
    obtain ⟨HB, hHB⟩ : ∃ HB, HB = (Blk.cells 31 10 [AV.int .i64 o, .int .i64 a, .bool bb, R32 u, R32 v, .str s, .row k cs, .bool c.strict, Bx c.box, Cds c.conds]) := ⟨_, rfl⟩
    refine loop_v _ rfl (fun m t H nx fz => fz = [] ∧ getB H 0 = some HB ∧ ∃ (i : Nat), m + i = 1 ∧ getT t 12 = .int .i64 (i : Int) ∧ (i = 1 → ¬ sideV c.box nm < 0)) 1 ?_ ?_
    · exact ⟨rfl, by rw [hHB]; rfl, 0, rfl, by simp [go_sem, hN], by omega⟩
    rintro m t H nx fz ⟨rfl, hH, i, hm, t12, hi1⟩ hF
    have hN' : t.length = 22 := by rw [hF.1]; simp [hN]
    have f2 : getT t 2 = .ptr 0 0 := by rw [hF.2 2 (by decide)]; simp [go_sem, hN]
    have f10 : getT t 10 = .row 1 [.str nm] := by rw [hF.2 10 (by decide)]; simp [go_sem, hN]
    have f11 : getT t 11 = .int .i64 1 := by rw [hF.2 11 (by decide)]; simp [go_sem, hN]
    clear hF
    rw [hHB] at hH
    by_cases hi : i = 0
    · subst hi
      have w3 : IntKind.i64.wrap (0 + 1) = 1 := rfl
      by_cases hs : sideV c.box nm < 0
      · simp [go_sem, t12, hN', f2, f10, f11, hH, sc, hs]
      · simp [go_sem, t12, hN', f2, f10, f11, hH, sc, hs]
        exact ⟨0, by omega, hHB.symm, 1, rfl, rfl⟩
    · have hi : i = 1 := by omega
      subst hi
      simp [go_sem, t12, hN', f2, f10, f11, hi1 rfl]
  · rw [if_neg hv]
    simp [go_sem, h0, h1, hN, vc, hv]
theorem named_call (L : LibP E) (hc : c.ok) : wpA E id_claim_named [.agg c.cells, .row 1 [.str nm]] H nx fz R ↔ R ⟨.ret (.int .i64 (namedV c nm)), H, nx, fz, false⟩ := wpA_iff (named_val L hc) (by have := closed_claim c; simp [closedL] at this ⊢; exact ⟨this, by simp [closedV]⟩)
theorem free1_call (L : LibP E) {k : Cd} (hk : k.e.ok) (hv : k.e.valid = true) (hR : ∀ H' nx', nx ≤ nx' → R ⟨.ret (.bool (k.e.has nm)), H', nx', fz, false⟩) : wpA E id_claim_Free_1 [.agg k.cells, .sp [.str nm]] H nx fz R := by
  have mc := fun H nx fz R => mentions_call (nm := nm) (H := H) (nx := nx) (fz := fz) (R := R) L.c hk hv
  obtain ⟨e, st⟩ := k
  obtain ⟨o, a, bb, u, v, s, k, cs, h⟩ := e.cells_form
  simp only [Cd.cells, h, List.cons_append, List.nil_append] at mc ⊢
  refine wpA_free L.c.free1 rfl (fun n => by simp [go_sem]) ?_ hR
  refine wpF_v L.c.free1.2.2 rfl (by simp) fun T hN hA => ?_
  have h0 := hA 0 _ rfl
  have h1 := hA 1 _ rfl
  simp [go_sem, h0, h1, hN, mc]
def freeV (c : Cl) (nm : List UInt8) : AV := if namedV c nm = 0 then .tuple [.bool (!(c.conds.any fun k => k.e.has nm)), .int .i64 0] else .tuple [.bool false, .int .i64 (namedV c nm)]
theorem free_val (L : LibP E) (hc : c.ok) : Val E id_claim_Free [.agg c.cells, .str nm] (freeV c nm) := by
  have nc := fun H nx fz R => wpA_frz_iff (args := [.agg c.cells, .sl 2 0 1]) (H := H) (nx := nx) (fz := fz) (R := R) (named_val (nm := nm) L hc)
  obtain ⟨o, a, bb, u, v, s, k, cs, hg, h⟩ := c.cells_form
  rw [h] at nc ⊢
  refine val_fn L.c.free rfl (by simp) fun T hN hA => ?_
  have h0 := hA 0 _ rfl
  have h1 := hA 1 _ rfl
  unfold freeV
  by_cases hv : namedV c nm = 0
  · rw [if_pos hv]
    simp [go_sem, h0, h1, hN]
    rw [nc _ _ _ _ (by simp [go_sem, frz_sl_eq])]
    have hcv : clValid c = true := by
      unfold namedV at hv
      split at hv
      · assumption
      · omega
    have hck : ∀ k ∈ c.conds, k.e.valid = true := fun k hk => by
      unfold clValid at hcv
      simp only [Bool.and_eq_true] at hcv
      have := List.all_eq_true.1 hcv.2 k hk
      simp only [Bool.and_eq_true] at this
      exact this.1
    have iv := getB_idx (f := id_slices_IndexFunc_Cond) (cl := id_claim_Free_1) (caps := [.sp [.str nm]]) (P := fun k : Cd => k.e.has nm) (ev := fun k => .agg k.cells) (l := c.conds) L.c.idxCond Cd.cells_len
      (fun x rest => by simp [partA, Cd.cells_len, List.take_append_of_le_length]) (by have := hc.cl; omega) fun k hk H nx R hR => free1_call L (hc.conds k hk) (hck k hk) fun H' nx' _ => hR H' nx'
    have cc := con_val (f := id_slices_ContainsFunc_Cond) (cl := id_slices_IndexFunc_Cond) L.c.conCond iv rfl
    rw [idxV_any] at cc
    generalize (c.conds.any fun k => k.e.has nm) = A at *
    simp [go_sem, hN, hv]
    rw [wpA_frz_iff cc (by simp [go_sem, frz_ptr_eq])]
    simp [go_sem, hN]
  · rw [if_neg hv]
    simp [go_sem, h0, h1, hN]
    rw [nc _ _ _ _ (by simp [go_sem, frz_sl_eq])]
    simp [go_sem, hN, hv]
end
end Go.Am
end
section
set_option maxHeartbeats 16000000
namespace Go.Am
open Go Go.Nt
def isA (ty : TypeId) (sz lo : Nat) (H : Heap) (nx : Nat) (v : AV) (n : Nat) (M : List AV) : Prop :=
  M.length = n * sz ∧ ((v = .nils ∧ n = 0) ∨ ∃ b cs, v = .sl b 0 n ∧ lo ≤ b ∧ b < nx ∧ getB H b = some (.cells ty sz cs) ∧ cs.take (n * sz) = M)
section
variable {ty sz lo : Nat} {H H' : Heap} {nx nx' n k by' d : Nat} {v : AV} {M new : List AV} {fz : List Nat}
theorem isA_nils : isA ty sz lo H nx .nils 0 [] := ⟨by simp, .inl ⟨rfl, rfl⟩⟩
theorem isA_frz (h : isA ty sz lo H nx v n M) (hc : M.all closedV = true) (hd : 2 ≤ d) : frz H d v = some (.row n M) := by
  obtain ⟨j, rfl⟩ : ∃ j, d = j + 2 := ⟨d - 2, by omega⟩
  obtain ⟨hl, ⟨rfl, rfl⟩ | ⟨b, cs, rfl, _, hb, hg, hcs⟩⟩ := h
  · have : M = [] := by rw [Nat.zero_mul] at hl; exact List.eq_nil_of_length_eq_zero hl
    subst this; rfl
  · have h2 : n * sz ≤ cs.length := by
      have := congrArg List.length hcs
      rw [List.length_take] at this; omega
    rw [frz_sl hg, Nat.zero_add, if_pos h2, List.drop_zero, hcs, (closedVs hc).1]; rfl
theorem isA_keep (h : isA ty sz lo H nx v n M) (hn : nx ≤ nx') (hk : ∀ c, lo ≤ c → c < nx → getB H' c = getB H c) : isA ty sz lo H' nx' v n M := by
  obtain ⟨hl, h | ⟨b, cs, rfl, h1, hb, hg, hcs⟩⟩ := h
  · exact ⟨hl, .inl h⟩
  · exact ⟨hl, .inr ⟨b, cs, rfl, h1, by omega, by rw [hk b h1 hb]; exact hg, hcs⟩⟩
theorem isA_new {X : Option Blk} (h : isA ty sz lo H nx v n M) : isA ty sz lo (setB H nx X) (nx + 1) v n M :=
  isA_keep h (by omega) fun c _ h2 => by rw [getB_setB, if_neg (by omega)]
theorem isA_app (h : isA ty sz lo H nx v n M) (hlo : lo ≤ nx) (hnew : new.length = k * sz) (hl : (n + k) * by' ≤ room) (hfz : fz = []) : ∃ v' H' nx', appendA fz nx H ty sz by' v new k = some (v', H', nx') ∧ nx ≤ nx' ∧ isA ty sz lo H' nx' v' (n + k) (M ++ new) ∧ ∀ c, c < lo → getB H' c = getB H c := by
  subst hfz
  obtain ⟨hM, ⟨rfl, rfl⟩ | ⟨b, cs, rfl, h1, hb, hg, hcs⟩⟩ := h
  · have : M = [] := by rw [Nat.zero_mul] at hM; exact List.eq_nil_of_length_eq_zero hM
    subst this
    by_cases hk : k = 0
    · subst hk
      have : new = [] := by rw [Nat.zero_mul] at hnew; exact List.eq_nil_of_length_eq_zero hnew
      subst this
      exact ⟨.nils, H, nx, by simp [appendA], Nat.le_refl _, isA_nils, fun c _ => rfl⟩
    · refine ⟨.sl nx 0 k, setB H nx (some (.cells ty sz new)), nx + 1, ?_, by omega, ⟨by simp [hnew], .inr ⟨nx, new, by rw [Nat.zero_add], hlo, by omega, by rw [getB_setB, if_pos rfl], by rw [Nat.zero_add, List.nil_append, ← hnew, List.take_length]⟩⟩, fun c hc => by rw [getB_setB, if_neg (by omega)]⟩
      simp only [appendA]
      rw [if_neg hk, if_pos (by simpa using hl)]
  · have h2 : n * sz ≤ cs.length := by
      have := congrArg List.length hcs
      rw [List.length_take] at this; omega
    have e : (M ++ new).length = (n + k) * sz := by rw [List.length_append, hM, hnew, Nat.add_mul]
    refine ⟨.sl nx 0 (n + k), setB (setB H b none) nx (some (.cells ty sz (M ++ new))), nx + 1, ?_, by omega, ⟨e, .inr ⟨nx, M ++ new, rfl, hlo, by omega, by rw [getB_setB, if_pos rfl], by rw [← e, List.take_length]⟩⟩, fun c hc => by rw [getB_setB, if_neg (by omega), getB_setB, if_neg (by omega)]⟩
    simp only [appendA, hg]
    rw [if_pos ⟨trivial, trivial, h2, hl, rfl⟩, hcs]
theorem isA_len (h : isA ty sz lo H nx v n M) : lenA v = n := by
  obtain ⟨hl, ⟨rfl, rfl⟩ | ⟨b, cs, rfl, h1, hb, hg, hcs⟩⟩ := h <;> rfl
theorem isA_row (h : isA ty sz lo H nx v n M) : rowOf H sz v = some M := by
  obtain ⟨hl, ⟨rfl, rfl⟩ | ⟨b, cs, rfl, h1, hb, hg, hcs⟩⟩ := h
  · have : M = [] := by rw [Nat.zero_mul] at hl; exact List.eq_nil_of_length_eq_zero hl
    subst this; rfl
  · have h2 : n * sz ≤ cs.length := by
      have := congrArg List.length hcs
      rw [List.length_take] at this; omega
    simp only [rowOf, hg]
    rw [Nat.zero_add, if_pos ⟨trivial, h2⟩, List.drop_zero, hcs]
end
end Go.Am
end
section
set_option maxHeartbeats 16000000
namespace Go.Am
open Go Go.Nt
def putAt (s : List UInt8) : List (List UInt8) → Nat
  | [] => 0
  | x :: l => if Op.bytesLess x s then putAt s l + 1 else 0
theorem putN_at (s : List UInt8) : ∀ (l : List (List UInt8)), putAt s l ≤ l.length ∧ putN s l = if l[putAt s l]? = some s then l else l.take (putAt s l) ++ ([s] ++ l.drop (putAt s l))
  | [] => by simp [putAt, putN]
  | x :: l => by
    obtain ⟨h1, h2⟩ := putN_at s l
    rw [putAt, putN]
    by_cases h : Op.bytesLess x s = true
    · rw [if_pos h, if_pos h]
      refine ⟨by simp; omega, ?_⟩
      rw [List.getElem?_cons_succ, h2]
      split <;> simp
    · rw [if_neg h, if_neg h]
      refine ⟨by simp, ?_⟩
      rw [List.getElem?_cons_zero]
      by_cases hx : x = s
      · subst hx; simp
      · simp [hx]
section
variable {E : Env} {H : Heap} {nx n : Nat} {fz : List Nat} {R : Back → Prop} {b : List Sd} {nm s : List UInt8} {x : Xp} {c : Cl} {l : List (List UInt8)}
theorem closed_strs (l : List (List UInt8)) : (l.map AV.str).all closedV = true := by simp [closedV]
theorem putAt_step {i : Nat} (hi : i < l.length) (hle : i ≤ putAt s l) : (Op.bytesLess l[i] s = true ↔ i < putAt s l) := by
  induction l generalizing i with
  | nil => simp at hi
  | cons x l ih =>
    rw [putAt] at hle ⊢
    cases i with
    | zero =>
      rw [List.getElem_cons_zero]
      split <;> rename_i h <;> simp [h]
    | succ i =>
      split at hle
      · rename_i h
        rw [if_pos h, List.getElem_cons_succ, ih (by simpa using hi) (by omega)]
        omega
      · omega
theorem put_tail {T : List AV} {i : Nat} (hl : l.length < 1000000000) (hi : i ≤ l.length) (hN : T.length = 49) (h0 : getT T 0 = Ss l) (h1 : getT T 1 = .str s) (h5 : getT T 5 = .int .i64 (i : Int)) :
    vC E (restC (restC (restC (restC fn_ref04_put.body)))) ⟨T, H, nx, [], [], false⟩ (leaveV E [.tmp 4] (retV (Ss (l.take i ++ ([s] ++ l.drop i))))) := by
  simp only [restC, fn_ref04_put]
  have hii : (i : Int) ≤ l.length := by omega
  have hmin : min i l.length = i := by omega
  obtain ⟨S, hS⟩ : ∃ S, S = l.map AV.str := ⟨_, rfl⟩
  have hSl : S.length = l.length := by rw [hS]; simp
  have hSc : S.all closedV = true := by rw [hS]; exact closed_strs l
  obtain ⟨v1, H1, nx1, a1, n1, A1, _⟩ := isA_app (ty := 9) (sz := 1) (lo := 0) (H := H) (nx := nx) (by' := 16) (new := S.take i) (k := i) isA_nils (Nat.zero_le _) (by simp; omega) (by simp [room]; omega) rfl
  have A1' := isA_new (X := some (.cells 9 1 [.str s])) A1
  obtain ⟨v2, H2, nx2, a2, n2, A2, _⟩ := isA_app (by' := 16) (new := [AV.str s]) (k := 1) A1' (Nat.zero_le _) rfl (by simp [room]; omega) rfl
  obtain ⟨v3, H3, nx3, a3, n3, A3, _⟩ := isA_app (by' := 16) (new := S.drop i) (k := l.length - i) A2 (Nat.zero_le _) (by simp [hSl]) (by simp [room]; omega) rfl
  have hca : ([] ++ S.take i ++ [AV.str s] ++ S.drop i).all closedV = true := by
    refine List.all_eq_true.2 fun x hx => ?_
    have hS' := List.all_eq_true.1 hSc
    simp only [List.nil_append, List.mem_append, List.mem_singleton] at hx
    rcases hx with (hx | hx) | hx
    · exact hS' x (List.mem_of_mem_take hx)
    · rw [hx]; rfl
    · exact hS' x (List.mem_of_mem_drop hx)
  have fr := isA_frz (d := 2 * nx3 + 5 + 1) A3 hca (by omega)
  have e2 : (S.drop i).take (l.length - i) = S.drop i := List.take_of_length_le (by simp [hSl])
  have e3 : (Ss (l.take i ++ ([s] ++ l.drop i))) = .row (0 + i + 1 + (l.length - i)) ([] ++ S.take i ++ [AV.str s] ++ S.drop i) := by
    rw [hS]; simp; omega
  rw [e3]
  have h0' : getT T 0 = .row l.length S := by rw [hS]; exact h0
  simp [go_sem, hN, h0', h1, h5, hi, hii, hmin, hSl, a1, a2, a3, e2]
  simpa using fr
theorem put_val (L : LibX E) (hl : l.length < 1000000000) : Val E id_ref04_put [Ss l, .str s] (Ss (putN s l)) := by
  obtain ⟨hp1, hp2⟩ := putN_at s l
  rw [hp2]
  refine val_fn (body := .seq (firstC fn_ref04_put.body) (.seq (firstC (restC fn_ref04_put.body)) (.seq (firstC (restC (restC fn_ref04_put.body))) (.seq (firstC (restC (restC (restC fn_ref04_put.body)))) (restC (restC (restC (restC fn_ref04_put.body)))))))) L.rput rfl (by simp) fun T hN hA => ?_
  have h0 := hA 0 _ rfl
  have h1 := hA 1 _ rfl
  have key := fun H nx T i hi hN h0 h1 h5 => put_tail (E := E) (H := H) (nx := nx) (l := l) (s := s) (T := T) (i := i) hl hi hN h0 h1 h5
  generalize restC (restC (restC (restC fn_ref04_put.body))) = rest at key ⊢
  simp only [firstC, restC, fn_ref04_put]
  simp [go_sem, h0, h1, hN]
  refine loop_v _ rfl (fun m t H nx fz => fz = [] ∧ ∃ (i : Nat), m + i = l.length ∧ getT t 5 = .int .i64 (i : Int) ∧ i ≤ putAt s l) l.length ?_ ?_
  · exact ⟨rfl, 0, rfl, by simp [go_sem, hN], by omega⟩
  rintro m t H nx fz ⟨rfl, i, hm, t5, hia⟩ hF
  have hN' : t.length = 49 := by rw [hF.1]; simp [hN]
  have f0 : getT t 0 = Ss l := by rw [hF.2 0 (by decide)]; simp [go_sem, h0]
  have f1 : getT t 1 = .str s := by rw [hF.2 1 (by decide)]; simp [go_sem, h1]
  clear hF
  by_cases hi : i < l.length
  · have hil : (i : Int) < l.length := by omega
    have hps := putAt_step hi hia
    have hp := part_strs hi
    rw [List.getD_eq_getElem?_getD, List.getElem?_eq_getElem hi, Option.getD_some] at hp
    obtain ⟨y, hy⟩ : ∃ y, y = l[i] := ⟨_, rfl⟩
    rw [← hy] at hp hps
    by_cases hlt : Op.bytesLess y s = true
    · obtain ⟨i2, hi2⟩ : ∃ i2, i2 = i + 1 := ⟨_, rfl⟩
      have w3 : IntKind.i64.wrap ((i : Int) + 1) = i2 := by rw [wrapI_id (by omega) (by omega)]; omega
      have := hps.1 hlt
      simp [go_sem, t5, hN', f0, f1, hi, hil, hp, hlt, w3]
      exact ⟨m - 1, by omega, i2, by omega, rfl, by omega⟩
    · have hie : putAt s l = i := by
        refine Nat.le_antisymm ?_ hia
        refine Nat.le_of_not_lt fun h => hlt (hps.2 h)
      rw [hie]
      by_cases hys : y = s
      · have hq : l[i]? = some s := by rw [List.getElem?_eq_getElem hi, ← hy, hys]
        subst hys
        simp [go_sem, t5, hN', f0, f1, hi, hil, hp, hlt]
        rw [if_pos hy.symm]; exact ⟨rfl, rfl⟩
      · have hq : ¬ l[i]? = some s := by rw [List.getElem?_eq_getElem hi, ← hy]; simpa using hys
        rw [if_neg hq]
        simp [go_sem, t5, hN', f0, f1, hi, hil, hp, hlt, hys]
        exact key _ _ _ i (by omega) (by simp [hN']) (by simp [go_sem, f0]) (by simp [go_sem, f1]) (by simp [go_sem, t5])
  · have hil : ¬ (i : Int) < l.length := by omega
    have hie : putAt s l = i := by omega
    rw [hie]
    have hq : ¬ l[i]? = some s := by rw [List.getElem?_eq_none (by omega)]; simp
    rw [if_neg hq]
    simp [go_sem, t5, hN', f0, f1, hil]
    exact key _ _ _ i (by omega) (by simp [hN']) (by simp [go_sem, f0]) (by simp [go_sem, f1]) (by simp [go_sem, t5])
theorem put_call (L : LibX E) (hl : l.length < 1000000000) : wpA E id_ref04_put [Ss l, .str s] H nx fz R ↔ R ⟨.ret (Ss (putN s l)), H, nx, fz, false⟩ := wpA_iff (put_val L hl) rfl
theorem names_step (L : LibX E) {op arg : Int} {r : Rt} {name : List UInt8} {kids : List Xp} (hok : (Xp.mk op arg r name kids).ok) (hl : l.length + (Xp.mk op arg r name kids).size < 1000000000)
    (ih : ∀ x ∈ kids, ∀ l : List (List UInt8), l.length + x.size < 1000000000 → Val E id_ref04_Names [.agg x.cells, Ss l] (Ss (x.nms l))) :
    Val E id_ref04_Names [.agg (Xp.mk op arg r name kids).cells, Ss l] (Ss ((Xp.mk op arg r name kids).nms l)) := by
  simp only [Xp.ok] at hok
  obtain ⟨hr, hnl, hkl, hkids⟩ := hok
  rw [Xp.nms]
  rw [Xp.size] at hl
  simp only [Xp.cells]
  refine val_fn L.rnames rfl (by simp) fun T hN hA => ?_
  have h0 := hA 0 _ rfl
  have h1 := hA 1 _ rfl
  have pc := fun H nx fz R => put_call (s := name) (l := l) (H := H) (nx := nx) (fz := fz) (R := R) L (by omega)
  by_cases hop : op = 2
  · subst hop
    simp [go_sem, h0, h1, hN, pc]
  · rw [if_neg hop]
    simp [go_sem, h0, h1, hN, hop]
    obtain ⟨HB, hHB⟩ : ∃ HB, HB = (Blk.cells 27 7 [AV.int .i64 op, AV.int .i64 arg, .bool r.neg, R32 r.num, R32 r.den, .str name, .row kids.length (Xp.cellsL kids)]) := ⟨_, rfl⟩
    refine loop_v _ rfl (fun m t H nx fz => fz = [] ∧ nx = 1 ∧ H = [some HB] ∧ ∃ (i : Nat) (q : List (List UInt8)), m + i = kids.length ∧ getT t 5 = .int .i64 (i : Int) ∧ getT t 1 = Ss q ∧ q.length + Xp.sizeL (kids.drop i) < 1000000000 ∧ Xp.nmsL (kids.drop i) q = Xp.nmsL kids l) kids.length ?_ ?_
    · exact ⟨rfl, rfl, by rw [hHB], 0, l, rfl, by simp [go_sem, hN], by simp [go_sem, h1], by simp; omega, rfl⟩
    rintro m t H nx fz ⟨rfl, rfl, rfl, i, q, hm, t5, t1, hql, hcl⟩ hF
    have hN' : t.length = 28 := by rw [hF.1]; simp [hN]
    have f2 : getT t 2 = .ptr 0 0 := by rw [hF.2 2 (by decide)]; simp [go_sem, hN]
    clear hF
    by_cases hi : i < kids.length
    · have hil : (i : Int) < kids.length := by omega
      have hp := Xp.cellsL_part hi
      obtain ⟨x, hx⟩ : ∃ x, x = kids[i] := ⟨_, rfl⟩
      rw [← hx] at hp
      have hmem : x ∈ kids := by rw [hx]; exact List.getElem_mem hi
      obtain ⟨i2, hi2⟩ : ∃ i2, i2 = i + 1 := ⟨_, rfl⟩
      have w3 : IntKind.i64.wrap ((i : Int) + 1) = i2 := by rw [wrapI_id (by omega) (by omega)]; omega
      rw [List.drop_eq_getElem_cons hi, ← hx, Xp.sizeL] at hql
      rw [List.drop_eq_getElem_cons hi, ← hx, Xp.nmsL] at hcl
      have cc := fun H nx fz R => wpA_iff (H := H) (nx := nx) (fz := fz) (R := R) (ih x hmem q (by omega)) (by cases x; rfl)
      have hnl2 := Xp.nms_len x q
      generalize x.nms q = q2 at *
      simp [go_sem, t5, t1, hN', f2, hHB, hi, hil, hp, w3, cc]
      exact ⟨m - 1, by omega, i2, by omega, rfl, q2, ⟨rfl, rfl⟩, by rw [hi2]; omega, by rw [hi2]; exact hcl⟩
    · have hil : ¬ (i : Int) < kids.length := by omega
      rw [List.drop_of_length_le (by omega), Xp.nmsL] at hcl
      subst hcl
      simp [go_sem, t5, t1, hN', f2, hHB, hil]
theorem names_val' (L : LibX E) : ∀ (x : Xp), x.ok → ∀ l : List (List UInt8), l.length + x.size < 1000000000 → Val E id_ref04_Names [.agg x.cells, Ss l] (Ss (x.nms l))
  | .mk op arg r name kids, hok, l, hl => names_step L hok hl fun x hx l hl => by
    have : SizeOf.sizeOf x < SizeOf.sizeOf kids := List.sizeOf_lt_of_mem hx
    exact names_val' L x (Xp.okL_mem (by simp only [Xp.ok] at hok; exact hok.2.2.2) hx) l hl
  termination_by x => SizeOf.sizeOf x
  decreasing_by simp; omega
theorem has_step (L : LibX E) {op arg : Int} {r : Rt} {name : List UInt8} {kids : List Xp} (hok : (Xp.mk op arg r name kids).ok)
    (ih : ∀ x ∈ kids, Val E id_ref04_Has [.agg x.cells, .str nm] (.bool (x.has nm))) :
    Val E id_ref04_Has [.agg (Xp.mk op arg r name kids).cells, .str nm] (.bool ((Xp.mk op arg r name kids).has nm)) := by
  simp only [Xp.ok] at hok
  obtain ⟨hr, hnl, hkl, hkids⟩ := hok
  rw [Xp.has]
  simp only [Xp.cells]
  refine val_fn L.rhas rfl (by simp) fun T hN hA => ?_
  have h0 := hA 0 _ rfl
  have h1 := hA 1 _ rfl
  by_cases hop : op = 2
  · subst hop
    simp [go_sem, h0, h1, hN]
  · rw [if_neg hop]
    simp [go_sem, h0, h1, hN, hop]
    obtain ⟨HB, hHB⟩ : ∃ HB, HB = (Blk.cells 27 7 [AV.int .i64 op, AV.int .i64 arg, .bool r.neg, R32 r.num, R32 r.den, .str name, .row kids.length (Xp.cellsL kids)]) := ⟨_, rfl⟩
    refine loop_v _ rfl (fun m t H nx fz => fz = [] ∧ nx = 1 ∧ H = [some HB] ∧ ∃ (i : Nat), m + i = kids.length ∧ getT t 5 = .int .i64 (i : Int) ∧ Xp.hasL nm (kids.drop i) = Xp.hasL nm kids) kids.length ?_ ?_
    · exact ⟨rfl, rfl, by rw [hHB], 0, rfl, by simp [go_sem, hN], rfl⟩
    rintro m t H nx fz ⟨rfl, rfl, rfl, i, hm, t5, hcl⟩ hF
    have hN' : t.length = 27 := by rw [hF.1]; simp [hN]
    have f1 : getT t 1 = .str nm := by rw [hF.2 1 (by decide)]; simp [go_sem, h1]
    have f2 : getT t 2 = .ptr 0 0 := by rw [hF.2 2 (by decide)]; simp [go_sem, hN]
    clear hF
    by_cases hi : i < kids.length
    · have hil : (i : Int) < kids.length := by omega
      have hp := Xp.cellsL_part hi
      obtain ⟨x, hx⟩ : ∃ x, x = kids[i] := ⟨_, rfl⟩
      rw [← hx] at hp
      have hmem : x ∈ kids := by rw [hx]; exact List.getElem_mem hi
      obtain ⟨i2, hi2⟩ : ∃ i2, i2 = i + 1 := ⟨_, rfl⟩
      have w3 : IntKind.i64.wrap ((i : Int) + 1) = i2 := by rw [wrapI_id (by omega) (by omega)]; omega
      rw [List.drop_eq_getElem_cons hi, ← hx, Xp.hasL] at hcl
      have cc := fun H nx fz R => wpA_iff (H := H) (nx := nx) (fz := fz) (R := R) (ih x hmem) (by cases x; rfl)
      by_cases hh : x.has nm = true
      · simp [go_sem, t5, hN', f1, f2, hHB, hi, hil, hp, w3, cc, hh]
        rw [← hcl, hh]; rfl
      · simp [go_sem, t5, hN', f1, f2, hHB, hi, hil, hp, w3, cc, hh]
        exact ⟨m - 1, by omega, i2, by omega, rfl, by rw [hi2, ← hcl]; simp [hh]⟩
    · have hil : ¬ (i : Int) < kids.length := by omega
      rw [List.drop_of_length_le (by omega), Xp.hasL] at hcl
      simp [go_sem, t5, hN', f2, hHB, hil]
      exact hcl.symm
theorem has_val (L : LibX E) : ∀ (x : Xp), x.ok → Val E id_ref04_Has [.agg x.cells, .str nm] (.bool (x.has nm))
  | .mk op arg r name kids, hok => has_step L hok fun x hx => by
    have : SizeOf.sizeOf x < SizeOf.sizeOf kids := List.sizeOf_lt_of_mem hx
    exact has_val L x (Xp.okL_mem (by simp only [Xp.ok] at hok; exact hok.2.2.2) hx)
  termination_by x => SizeOf.sizeOf x
  decreasing_by simp; omega
end
end Go.Am
end
section
set_option maxHeartbeats 16000000
namespace Go.Am
open Go Go.Nt
structure LibQ (E : Env) : Prop where
  side : At E id_ref06_side fn_ref06_side
  covered : At E id_ref06_covered fn_ref06_covered
  valid : At E id_ref06_Valid fn_ref06_Valid
  named : At E id_ref06_named fn_ref06_named
  free : At E id_ref06_free fn_ref06_free
  freeT : At E id_ref06_Free fn_ref06_Free
structure LibRP (E : Env) : Prop where
  r : LibR E
  n : LibN E
  x : LibX E
  b : LibB E
  q : LibQ E
section
variable {E : Env} {H : Heap} {nx n : Nat} {fz : List Nat} {R : Back → Prop} {b : List Sd} {nm s : List UInt8} {x : Xp} {c : Cl} {l : List (List UInt8)}
theorem rside_val (L : LibQ E) (hb : b.length < 1000000000) : Val E id_ref06_side [Bx b, .str nm] (.int .i64 (sideV b nm)) := by
  refine val_fn L.side rfl (by simp) fun T hN hA => ?_
  have h0 := hA 0 _ rfl
  have h1 := hA 1 _ rfl
  unfold sideV
  simp [go_sem, h0, hN]
  refine loop_v _ rfl (fun m t H nx fz => fz = [] ∧ ∃ (i : Nat), m + i = b.length ∧ getT t 5 = .int .i64 (i : Int) ∧ idxV (fun s => s.name == nm) (b.drop i) i = idxV (fun s => s.name == nm) b 0) b.length ?_ ?_
  · exact ⟨rfl, 0, rfl, by simp [go_sem, hN], rfl⟩
  rintro m t H nx fz ⟨rfl, i, hm, t5, hb'⟩ hF
  have hN' : t.length = 20 := by rw [hF.1]; simp [hN]
  have f0 : getT t 0 = Bx b := by rw [hF.2 0 (by decide)]; simp [go_sem, h0]
  have f1 : getT t 1 = .str nm := by rw [hF.2 1 (by decide)]; simp [go_sem, h1]
  clear hF
  by_cases hi : i < b.length
  · have hil : (i : Int) < b.length := by omega
    have hd := cat_drop Sd.cells_len hi
    obtain ⟨q, hq⟩ : ∃ q, q = b[i] := ⟨_, rfl⟩
    rw [← hq] at hd
    obtain ⟨i2, hi2⟩ : ∃ i2, i2 = i + 1 := ⟨_, rfl⟩
    have w3 : IntKind.i64.wrap ((i : Int) + 1) = i2 := by rw [wrapI_id (by omega) (by omega)]; omega
    rw [List.drop_eq_getElem_cons hi, ← hq, idxV, ← hi2] at hb'
    generalize cat Sd.cells (b.drop (i + 1)) = tl at hd
    obtain ⟨qn, qv⟩ := q
    simp only [Sd.cells, Iv.cells, List.cons_append, List.nil_append] at hd hb'
    by_cases hP : qn = nm
    · have hP' : (qn == nm) = true := by simpa using hP
      rw [if_pos hP'] at hb'
      simp [go_sem, t5, hN', f0, f1, hi, hil, hd, hP', partA]
      exact hb'
    · have hP' : ¬ (qn == nm) = true := by simpa using hP
      rw [if_neg hP'] at hb'
      simp [go_sem, t5, hN', f0, f1, hi, hil, hd, hP, hP', w3, partA]
      exact ⟨m - 1, by omega, i2, by omega, rfl, hb'⟩
  · have hil : ¬ (i : Int) < b.length := by omega
    rw [List.drop_of_length_le (by omega), idxV] at hb'
    simp [go_sem, t5, hN', f0, hil]
    exact hb'
theorem rside_call (L : LibQ E) (hb : b.length < 1000000000) : wpA E id_ref06_side [Bx b, .str nm] H nx fz R ↔ R ⟨.ret (.int .i64 (sideV b nm)), H, nx, fz, false⟩ := wpA_iff (rside_val L hb) rfl
theorem rcovered_val (LX : LibX E) (L : LibQ E) (hx : x.ok) (hv : x.valid = true) (hb : b.length < 1000000000) : Val E id_ref06_covered [.agg x.cells, Bx b] (.bool (covB x b)) := by
  have hs := Xp.valid_size hv
  have hlen := Xp.valid_names hv
  have nc := fun H nx fz R => wpA_frz_iff (args := [.agg x.cells, .nils]) (H := H) (nx := nx) (fz := fz) (R := R) (names_val' LX x hx [] (by simp; omega))
  have sc := fun n H nx fz R => rside_call (nm := n) (H := H) (nx := nx) (fz := fz) (R := R) L hb
  unfold covB
  obtain ⟨o, a, bb, u, v, s, k, cs, hxl⟩ := x.cells_form
  rw [hxl] at nc ⊢
  refine val_fn L.covered rfl (by simp) fun T hN hA => ?_
  have h0 := hA 0 _ rfl
  have h1 := hA 1 _ rfl
  generalize x.nms [] = N at *
  simp [go_sem, h0, h1, hN]
  rw [nc _ _ _ _ (by simp [go_sem])]
  have hfz : ∀ T fz n cs, fzOf (T : List Nat) fz (.row n cs) = T.filter (fun b => !fz.contains b) ++ fz := fun _ _ _ _ => rfl
  simp [go_sem, hN, hfz]
  obtain ⟨A, hAl⟩ : ∃ A, A = N.any fun n => decide (sideV b n < 0) := ⟨_, rfl⟩
  rw [← hAl]
  refine loop_v _ rfl (fun m t H nx fz => fz = [] ∧ ∃ (i : Nat), m + i = N.length ∧ getT t 6 = .int .i64 (i : Int) ∧ ((N.drop i).any fun n => decide (sideV b n < 0)) = A) N.length ?_ ?_
  · exact ⟨rfl, 0, rfl, by simp [go_sem, hN], hAl.symm⟩
  rintro m t H nx fz ⟨rfl, i, hm, t6, hal⟩ hF
  have hN' : t.length = 22 := by rw [hF.1]; simp [hN]
  have f1 : getT t 1 = Bx b := by rw [hF.2 1 (by decide)]; simp [go_sem, h1]
  have f5 : getT t 5 = Ss N := by rw [hF.2 5 (by decide)]; simp [go_sem, hN]
  clear hF
  by_cases hi : i < N.length
  · have hil : (i : Int) < N.length := by omega
    have hp := part_strs hi
    rw [List.getD_eq_getElem?_getD, List.getElem?_eq_getElem hi, Option.getD_some] at hp
    obtain ⟨y, hy⟩ : ∃ y, y = N[i] := ⟨_, rfl⟩
    rw [← hy] at hp
    obtain ⟨i2, hi2⟩ : ∃ i2, i2 = i + 1 := ⟨_, rfl⟩
    have w3 : IntKind.i64.wrap ((i : Int) + 1) = i2 := by rw [wrapI_id (by omega) (by omega)]; omega
    rw [List.drop_eq_getElem_cons hi, ← hy, List.any_cons, ← hi2] at hal
    by_cases hs : sideV b y < 0
    · simp [go_sem, t6, hN', f1, f5, hi, hil, hp, sc, hs]
      rw [← hal]; simp [hs]
    · simp [go_sem, t6, hN', f1, f5, hi, hil, hp, sc, hs, w3]
      exact ⟨m - 1, by omega, i2, by omega, rfl, by rw [← hal]; simp [hs]⟩
  · have hil : ¬ (i : Int) < N.length := by omega
    rw [List.drop_of_length_le (by omega), List.any_nil] at hal
    simp [go_sem, t6, hN', f5, hil]
    exact hal.symm
theorem rcovered_call (LX : LibX E) (L : LibQ E) (hx : x.ok) (hv : x.valid = true) (hb : b.length < 1000000000) : wpA E id_ref06_covered [.agg x.cells, Bx b] H nx fz R ↔ R ⟨.ret (.bool (covB x b)), H, nx, fz, false⟩ := wpA_iff (rcovered_val LX L hx hv hb) (by cases x; rfl)
theorem rclvalid_val (L : LibRP E) (hc : c.ok) : Val E id_ref06_Valid [.agg c.cells] (.bool (clValid c)) := by
  have bc := fun H nx fz R => wpA_iff (H := H) (nx := nx) (fz := fz) (R := R) (rbxvalid_val L.r L.n L.b hc.box hc.bl) rfl
  have gv := fun H nx fz R => rvalid_call (H := H) (nx := nx) (fz := fz) (R := R) L.r L.n L.x c.goal hc.goal
  have gc := fun hv H nx fz R => rcovered_call (H := H) (nx := nx) (fz := fz) (R := R) L.x L.q hc.goal hv hc.bl
  obtain ⟨e, st, b, k⟩ := c
  have he := hc.conds
  have hcl := hc.cl
  have hbl := hc.bl
  simp only at bc gv gc he hcl hbl
  clear hc
  simp only [Cl.cells, clValid]
  obtain ⟨o, a, bb, u, v, s, kk, cs, hxl⟩ := e.cells_form
  rw [hxl] at gv gc ⊢
  simp only [List.cons_append, List.nil_append]
  have bv1 := L.x.rvalid.bv rfl
  have bv2 := L.q.covered.bv rfl
  refine val_fn L.q.valid rfl (by simp) fun T hN hA => ?_
  have h0 := hA 0 _ rfl
  obtain ⟨A, hAl⟩ : ∃ A, A = k.all fun k => k.e.valid && covB k.e b := ⟨_, rfl⟩
  rw [← hAl]
  by_cases c3 : e.valid = true
  · by_cases c1 : bxValid b = true
    · by_cases c2 : 12 < k.length
      · have c2' : (12 : Int) < k.length := by omega
        have c2n : ¬ k.length ≤ 12 := by omega
        simp [go_sem, h0, hN, bc, c1, c2, c2', c2n, gv, c3]
      · have c2' : ¬ (12 : Int) < k.length := by omega
        have c2n : k.length ≤ 12 := by omega
        have gc := gc c3
        by_cases c4 : covB e b = true
        · simp [go_sem, h0, hN, bc, c1, c2, c2', c2n, gv, c3, gc, c4]
          obtain ⟨HB, hHB⟩ : ∃ HB, HB = (Blk.cells 31 10 [AV.int .i64 o, .int .i64 a, .bool bb, R32 u, R32 v, .str s, .row kk cs, .bool st, Bx b, Cds k]) := ⟨_, rfl⟩
          refine loop_v _ rfl (fun m t H nx fz => fz = [] ∧ getB H 0 = some HB ∧ ∃ (i : Nat), m + i = k.length ∧ getT t 3 = .int .i64 (i : Int) ∧ ((k.drop i).all fun k => k.e.valid && covB k.e b) = A) k.length ?_ ?_
          · exact ⟨rfl, by rw [hHB]; rfl, 0, rfl, by simp [go_sem, hN], hAl.symm⟩
          rintro m t H nx fz ⟨rfl, hH, i, hm, t3, hal⟩ hF
          have hN' : t.length = 55 := by rw [hF.1]; simp [hN]
          have f1 : getT t 1 = .ptr 0 0 := by rw [hF.2 1 (by decide)]; simp [go_sem, hN]
          clear hF
          rw [hHB] at hH
          by_cases hi : i < k.length
          · have hil : (i : Int) < k.length := by omega
            have hd := cat_drop Cd.cells_len hi
            obtain ⟨q, hq⟩ : ∃ q, q = k[i] := ⟨_, rfl⟩
            rw [← hq] at hd
            have hqok := he q (by rw [hq]; exact List.getElem_mem hi)
            obtain ⟨i2, hi2⟩ : ∃ i2, i2 = i + 1 := ⟨_, rfl⟩
            have w3 : IntKind.i64.wrap ((i : Int) + 1) = i2 := by rw [wrapI_id (by omega) (by omega)]; omega
            rw [List.drop_eq_getElem_cons hi, ← hq, List.all_cons, ← hi2] at hal
            have vc := fun H nx fz R => rvalid_call (H := H) (nx := nx) (fz := fz) (R := R) L.r L.n L.x q.e hqok
            have qc := fun hv H nx fz R => rcovered_call (b := b) (H := H) (nx := nx) (fz := fz) (R := R) L.x L.q hqok hv hbl
            rw [← hi2] at hd
            generalize cat Cd.cells (k.drop i2) = tl at hd
            obtain ⟨qe, qs⟩ := q
            obtain ⟨qo, qa, qb, qu, qv, qn, qk, qcs, hql⟩ := qe.cells_form
            simp only [Cd.cells, hql, List.cons_append, List.nil_append] at hd hal vc qc
            by_cases d1 : qe.valid = true
            · have qc := qc d1
              by_cases d2 : covB qe b = true
              · simp [go_sem, t3, hN', f1, hi, hil, hd, w3, hH, vc, qc, d1, d2, partA, bv1, bv2]
                exact ⟨m - 1, by omega, hHB.symm, i2, by omega, rfl, by rw [← hal, d1, d2]; simp⟩
              · simp [go_sem, t3, hN', f1, hi, hil, hd, w3, hH, vc, qc, d1, d2, partA, bv1, bv2]
                rw [← hal]; simp [d2]
            · simp [go_sem, t3, hN', f1, hi, hil, hd, w3, hH, vc, qc, d1, partA, bv1, bv2]
              rw [← hal]; simp [d1]
          · have hil : ¬ (i : Int) < k.length := by omega
            rw [List.drop_of_length_le (by omega), List.all_nil] at hal
            simp [go_sem, t3, hN', f1, hH, hil]
            exact hal.symm
        · simp [go_sem, h0, hN, bc, c1, c2, c2', c2n, gv, c3, gc, c4]
    · simp [go_sem, h0, hN, bc, c1, gv, c3]
  · simp [go_sem, h0, hN, bc, gv, c3]
theorem rclvalid_call (L : LibRP E) (hc : c.ok) : wpA E id_ref06_Valid [.agg c.cells] H nx fz R ↔ R ⟨.ret (.bool (clValid c)), H, nx, fz, false⟩ := wpA_iff (rclvalid_val L hc) (closed_claim c)
theorem rnamed_val (L : LibRP E) (hc : c.ok) : Val E id_ref06_named [.agg c.cells, .str nm] (.int .i64 (namedV c nm)) := by
  have vc := fun H nx fz R => rclvalid_call (H := H) (nx := nx) (fz := fz) (R := R) L hc
  have sc := fun H nx fz R => rside_call (nm := nm) (H := H) (nx := nx) (fz := fz) (R := R) L.q hc.bl
  obtain ⟨o, a, bb, u, v, s, k, cs, _, h⟩ := c.cells_form
  rw [h] at vc ⊢
  refine val_fn L.q.named rfl (by simp) fun T hN hA => ?_
  have h0 := hA 0 _ rfl
  have h1 := hA 1 _ rfl
  unfold namedV
  by_cases hv : clValid c = true
  · by_cases hs : sideV c.box nm < 0
    · simp [go_sem, h0, h1, hN, vc, hv, sc, hs]
    · simp [go_sem, h0, h1, hN, vc, hv, sc, hs]
  · simp [go_sem, h0, h1, hN, vc, hv]
theorem rnamed_call (L : LibRP E) (hc : c.ok) : wpA E id_ref06_named [.agg c.cells, .str nm] H nx fz R ↔ R ⟨.ret (.int .i64 (namedV c nm)), H, nx, fz, false⟩ := wpA_iff (rnamed_val L hc) (by have := closed_claim c; simp [closedL] at this ⊢; exact ⟨this, by simp [closedV]⟩)
theorem rfree_val (L : LibRP E) (hc : c.ok) : Val E id_ref06_free [.agg c.cells, .str nm] (.bool (!(c.conds.any fun k => k.e.has nm))) := by
  have hcc := hc.conds
  have hcl := hc.cl
  obtain ⟨o, a, bb, u, v, s, k, cs, _, h⟩ := c.cells_form
  rw [h]
  obtain ⟨e, st, b, K⟩ := c
  simp only at hcc hcl h ⊢
  refine val_fn L.q.free rfl (by simp) fun T hN hA => ?_
  have h0 := hA 0 _ rfl
  have h1 := hA 1 _ rfl
  obtain ⟨A, hAl⟩ : ∃ A, A = K.any fun k => k.e.has nm := ⟨_, rfl⟩
  rw [← hAl]
  simp [go_sem, h0, h1, hN]
  obtain ⟨HB, hHB⟩ : ∃ HB, HB = (Blk.cells 31 10 [AV.int .i64 o, .int .i64 a, .bool bb, R32 u, R32 v, .str s, .row k cs, .bool st, Bx b, Cds K]) := ⟨_, rfl⟩
  refine loop_v _ rfl (fun m t H nx fz => fz = [] ∧ getB H 0 = some HB ∧ ∃ (i : Nat), m + i = K.length ∧ getT t 5 = .int .i64 (i : Int) ∧ ((K.drop i).any fun k => k.e.has nm) = A) K.length ?_ ?_
  · exact ⟨rfl, by rw [hHB]; rfl, 0, rfl, by simp [go_sem, hN], hAl.symm⟩
  rintro m t H nx fz ⟨rfl, hH, i, hm, t5, hal⟩ hF
  have hN' : t.length = 21 := by rw [hF.1]; simp [hN]
  have f1 : getT t 1 = .str nm := by rw [hF.2 1 (by decide)]; simp [go_sem, h1]
  have f2 : getT t 2 = .ptr 0 0 := by rw [hF.2 2 (by decide)]; simp [go_sem, hN]
  clear hF
  rw [hHB] at hH
  by_cases hi : i < K.length
  · have hil : (i : Int) < K.length := by omega
    have hd := cat_drop Cd.cells_len hi
    obtain ⟨q, hq⟩ : ∃ q, q = K[i] := ⟨_, rfl⟩
    rw [← hq] at hd
    have hqok := hcc q (by rw [hq]; exact List.getElem_mem hi)
    obtain ⟨i2, hi2⟩ : ∃ i2, i2 = i + 1 := ⟨_, rfl⟩
    have w3 : IntKind.i64.wrap ((i : Int) + 1) = i2 := by rw [wrapI_id (by omega) (by omega)]; omega
    rw [List.drop_eq_getElem_cons hi, ← hq, List.any_cons, ← hi2] at hal
    have hcall := fun H nx fz R => wpA_iff (H := H) (nx := nx) (fz := fz) (R := R) (has_val (nm := nm) L.x q.e hqok) (by cases q.e; rfl)
    rw [← hi2] at hd
    generalize cat Cd.cells (K.drop i2) = tl at hd
    obtain ⟨qe, qs⟩ := q
    obtain ⟨qo, qa, qb, qu, qv, qn, qk, qcs, hql⟩ := qe.cells_form
    simp only [Cd.cells, hql, List.cons_append, List.nil_append] at hd hal hcall
    by_cases d1 : qe.has nm = true
    · simp [go_sem, t5, hN', f1, f2, hi, hil, hd, w3, hH, hcall, d1, partA]
      rw [← hal]; simp [d1]
    · simp [go_sem, t5, hN', f1, f2, hi, hil, hd, w3, hH, hcall, d1, partA]
      exact ⟨m - 1, by omega, hHB.symm, i2, by omega, rfl, by rw [← hal]; simp [d1]⟩
  · have hil : ¬ (i : Int) < K.length := by omega
    rw [List.drop_of_length_le (by omega), List.any_nil] at hal
    simp [go_sem, t5, hN', f2, hH, hil]
    exact hal.symm
theorem rfreeT_val (L : LibRP E) (hc : c.ok) : Val E id_ref06_Free [.agg c.cells, .str nm] (freeV c nm) := by
  have nc := fun H nx fz R => rnamed_call (nm := nm) (H := H) (nx := nx) (fz := fz) (R := R) L hc
  have fc := fun H nx fz R => wpA_iff (H := H) (nx := nx) (fz := fz) (R := R) (rfree_val (nm := nm) L hc) (by have := closed_claim c; simp [closedL] at this ⊢; exact ⟨this, by simp [closedV]⟩)
  obtain ⟨o, a, bb, u, v, s, k, cs, _, h⟩ := c.cells_form
  rw [h] at nc fc ⊢
  refine val_fn L.q.freeT rfl (by simp) fun T hN hA => ?_
  have h0 := hA 0 _ rfl
  have h1 := hA 1 _ rfl
  unfold freeV
  generalize (c.conds.any fun k => k.e.has nm) = A at *
  generalize namedV c nm = w at *
  by_cases hv : w = 0
  · subst hv
    simp [go_sem, h0, h1, hN, nc, fc]
  · simp [go_sem, h0, h1, hN, nc, fc, hv]
end
end Go.Am
end
