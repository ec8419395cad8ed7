/- Parts of the proof. -/
import Derived.Test.YtjilaaoaebglbaaGreatDoorA25
set_option linter.unusedVariables false
set_option linter.unusedSimpArgs false
set_option linter.unnecessarySimpa false
set_option linter.unusedSectionVars false
section
namespace Go.Am
open Go Go.Proofs
set_option maxRecDepth 1000000
theorem ints_inj {k : IntKind} : ∀ {u v : List Nat}, ints k u = ints k v → u = v
  | [], [], _ => rfl
  | [], _ :: _, h => by simp [ints] at h
  | _ :: _, [], h => by simp [ints] at h
  | a :: u, b :: v, h => by
    simp only [ints, List.map_cons, List.cons.injEq, AV.int.injEq, true_and] at h
    rw [ints_inj (u := u) (v := v) h.2, show a = b by omega]
theorem R32_inj {u v : List Nat} (h : R32 u = R32 v) : u = v := by
  simp only [R32, AV.row.injEq] at h
  exact ints_inj h.2
mutual
theorem Xp.cells_inj : ∀ {x y : Xp}, x.cells = y.cells → x = y
  | .mk op arg r name kids, .mk op' arg' r' name' kids', h => by
    simp only [Xp.cells, List.cons.injEq, AV.int.injEq, AV.bool.injEq, AV.str.injEq, AV.row.injEq, and_true, true_and] at h
    obtain ⟨h1, h2, h3, h4, h5, h6, h7, h8⟩ := h
    have e1 := R32_inj (u := r.num) (v := r'.num) (by simp only [R32, AV.row.injEq]; exact h4)
    have e2 := R32_inj (u := r.den) (v := r'.den) (by simp only [R32, AV.row.injEq]; exact h5)
    have e3 := Xp.cellsL_inj h7 h8
    cases r; cases r'
    simp only at e1 e2 h3
    subst e1 e2 h3 h1 h2 h6 e3
    rfl
theorem Xp.cellsL_inj : ∀ {x y : List Xp}, x.length = y.length → Xp.cellsL x = Xp.cellsL y → x = y
  | [], [], _, _ => rfl
  | [], _ :: _, h, _ => by simp at h
  | _ :: _, [], h, _ => by simp at h
  | a :: x, b :: y, h, k => by
    simp only [Xp.cellsL] at k
    have h1 := List.append_inj k (by rw [Xp.cells_len, Xp.cells_len])
    rw [Xp.cells_inj h1.1, Xp.cellsL_inj (by simpa using h) h1.2]
end
def litXp : Xp := .mk 6 0 ⟨false, [], []⟩ [] [.mk 2 0 ⟨false, [], []⟩ [120] [], .mk 1 0 ⟨false, [1], []⟩ [] []]
theorem litVar_eq {e : List AV} (h : litVar e = true) : e = litXp.cells := by
  unfold litVar at h
  split at h
  · rfl
  · cases h
theorem varsC_eq {x : Xp} (hx : x.ok) (hv : x.valid = true) : varsC x.cells = some (.tuple [Ss (x.nms []), .int .i64 0]) := by
  unfold varsC
  have h : ∃ y : Xp, y.ok ∧ y.valid = true ∧ y.cells = x.cells := ⟨x, hx, hv, rfl⟩
  rw [dif_pos h, Xp.cells_inj h.choose_spec.2.2]
theorem primVars_eq {x : Xp} (hx : x.ok) (hv : x.valid = true) : primVars [.agg x.cells] = some (.tuple [Ss (x.nms []), .int .i64 0]) := by
  show (bif litVar x.cells then some (.tuple [.row 1 [.str [120]], .int .i64 0]) else varsC x.cells) = _
  cases h : litVar x.cells with
  | false => exact varsC_eq hx hv
  | true =>
    have := Xp.cells_inj (litVar_eq h)
    subst this
    rfl
theorem vars_val (x : Xp) (hx : x.ok) (hv : x.valid = true) : Val E0 id_expr_Vars [.agg x.cells] (.tuple [Ss (x.nms []), .int .i64 0]) := by
  have hp : E0.prim id_expr_Vars = some primVars := rfl
  refine ⟨rfl, (fun h => by rw [hp] at h; cases h), .of fun k => ?_⟩
  unfold callV
  rw [hp]
  simp only [primVars_eq hx hv]
  rfl
theorem libW : LibW E0 where
  glob := rfl
  of := ⟨rfl, rfl, by kernel_rfl⟩
  small := ⟨rfl, rfl, by kernel_rfl⟩
  zero := ⟨rfl, rfl, by kernel_rfl⟩
  one := ⟨rfl, rfl, by kernel_rfl⟩
  cmp := ⟨rfl, rfl, by kernel_rfl⟩
  bits := ⟨rfl, rfl, by kernel_rfl⟩
  twos := ⟨rfl, rfl, by kernel_rfl⟩
  add := ⟨rfl, rfl, by kernel_rfl⟩
  shl := ⟨rfl, rfl, by kernel_rfl⟩
  shr := ⟨rfl, rfl, by kernel_rfl⟩
  mul := ⟨rfl, rfl, by kernel_rfl⟩
  divs := ⟨rfl, rfl, by kernel_rfl⟩
  div := ⟨rfl, rfl, by kernel_rfl⟩
  digit := ⟨rfl, rfl, by kernel_rfl⟩
  gcd := ⟨rfl, rfl, by kernel_rfl⟩
  reduce := ⟨rfl, rfl, by kernel_rfl⟩
  read := ⟨rfl, rfl, by kernel_rfl⟩
  fits := ⟨rfl, rfl, by kernel_rfl⟩
  sign := ⟨rfl, rfl, by kernel_rfl⟩
  fcmp := ⟨rfl, rfl, by kernel_rfl⟩
  len32 := ⟨rfl, rfl, by kernel_rfl⟩
  ctz32 := ⟨rfl, rfl, by kernel_rfl⟩
  clz32 := ⟨rfl, rfl, by kernel_rfl⟩
theorem libR : LibR E0 where
  trim := ⟨rfl, rfl, by kernel_rfl⟩
  natOf := ⟨rfl, rfl, by kernel_rfl⟩
  cmp := ⟨rfl, rfl, by kernel_rfl⟩
  add := ⟨rfl, rfl, by kernel_rfl⟩
  sub := ⟨rfl, rfl, by kernel_rfl⟩
  mul := ⟨rfl, rfl, by kernel_rfl⟩
  shl := ⟨rfl, rfl, by kernel_rfl⟩
  shr := ⟨rfl, rfl, by kernel_rfl⟩
  small := ⟨rfl, rfl, by kernel_rfl⟩
  digit := ⟨rfl, rfl, by kernel_rfl⟩
  less := ⟨rfl, rfl, by kernel_rfl⟩
  div := ⟨rfl, rfl, by kernel_rfl⟩
  gcd := ⟨rfl, rfl, by kernel_rfl⟩
  make := ⟨rfl, rfl, by kernel_rfl⟩
  words := ⟨rfl, rfl, by kernel_rfl⟩
  of := ⟨rfl, rfl, by kernel_rfl⟩
  over := ⟨rfl, rfl, by kernel_rfl⟩
  large := ⟨rfl, rfl, by kernel_rfl⟩
  sgn := ⟨rfl, rfl, by kernel_rfl⟩
  zero := ⟨rfl, rfl, by kernel_rfl⟩
  sum := ⟨rfl, rfl, by kernel_rfl⟩
  opp := ⟨rfl, rfl, by kernel_rfl⟩
  diff := ⟨rfl, rfl, by kernel_rfl⟩
  cmpQ := ⟨rfl, rfl, by kernel_rfl⟩
  den := ⟨rfl, rfl, by kernel_rfl⟩
theorem libN : LibN E0 where
  letter := ⟨rfl, rfl, by kernel_rfl⟩
  digit := ⟨rfl, rfl, by kernel_rfl⟩
  word := ⟨rfl, rfl, by kernel_rfl⟩
  isName := ⟨rfl, rfl, by kernel_rfl⟩
  reserved := ⟨rfl, rfl, by kernel_rfl⟩
  find := ⟨rfl, rfl, by kernel_rfl⟩
  names := ⟨rfl, rfl, by kernel_rfl⟩
  isName2 := ⟨rfl, rfl, by kernel_rfl⟩
  rreserved := ⟨rfl, rfl, by kernel_rfl⟩
  rword := ⟨rfl, rfl, by kernel_rfl⟩
  risName := ⟨rfl, rfl, by kernel_rfl⟩
theorem libX : LibX E0 where
  kids := ⟨rfl, rfl, by kernel_rfl⟩
  fields := ⟨rfl, rfl, by kernel_rfl⟩
  count := ⟨rfl, rfl, by kernel_rfl⟩
  valid := ⟨rfl, rfl, by kernel_rfl⟩
  rkids := ⟨rfl, rfl, by kernel_rfl⟩
  rarg := ⟨rfl, rfl, by kernel_rfl⟩
  rnode := ⟨rfl, rfl, by kernel_rfl⟩
  rwalk := ⟨rfl, rfl, by kernel_rfl⟩
  rvalid := ⟨rfl, rfl, by kernel_rfl⟩
  rhas := ⟨rfl, rfl, by kernel_rfl⟩
  rnames := ⟨rfl, rfl, by kernel_rfl⟩
  rput := ⟨rfl, rfl, by kernel_rfl⟩
theorem libI : LibI E0 where
  must := ⟨rfl, rfl, by kernel_rfl⟩
  number := ⟨rfl, rfl, by kernel_rfl⟩
  read := ⟨rfl, rfl, by kernel_rfl⟩
  tryB := ⟨rfl, rfl, by kernel_rfl⟩
  tryB1 := ⟨rfl, rfl, by kernel_rfl⟩
  isEmpty := ⟨rfl, rfl, by kernel_rfl⟩
  isEmpty1 := ⟨rfl, rfl, by kernel_rfl⟩
theorem libB : LibB E0 where
  valid := ⟨rfl, rfl, by kernel_rfl⟩
  rnone := ⟨rfl, rfl, by kernel_rfl⟩
  rof := ⟨rfl, rfl, by kernel_rfl⟩
  rlarge := ⟨rfl, rfl, by kernel_rfl⟩
  rvalid := ⟨rfl, rfl, by kernel_rfl⟩
theorem libC : LibC E0 where
  vars := vars_val
  idxSide := ⟨rfl, rfl, by kernel_rfl⟩
  idxStr := ⟨rfl, rfl, by kernel_rfl⟩
  conStr := ⟨rfl, rfl, by kernel_rfl⟩
  idxCond := ⟨rfl, rfl, by kernel_rfl⟩
  conCond := ⟨rfl, rfl, by kernel_rfl⟩
  index := ⟨rfl, rfl, by kernel_rfl⟩
  contains := ⟨rfl, rfl, by kernel_rfl⟩
  side := ⟨rfl, rfl, by kernel_rfl⟩
  side1 := ⟨rfl, rfl, by kernel_rfl⟩
  covered := ⟨rfl, rfl, by kernel_rfl⟩
  covered1 := ⟨rfl, rfl, by kernel_rfl⟩
  valid := ⟨rfl, rfl, by kernel_rfl⟩
  mentions := ⟨rfl, rfl, by kernel_rfl⟩
  named := ⟨rfl, rfl, by kernel_rfl⟩
  free := ⟨rfl, rfl, by kernel_rfl⟩
  free1 := ⟨rfl, rfl, by kernel_rfl⟩
theorem libQ : LibQ E0 where
  side := ⟨rfl, rfl, by kernel_rfl⟩
  covered := ⟨rfl, rfl, by kernel_rfl⟩
  valid := ⟨rfl, rfl, by kernel_rfl⟩
  named := ⟨rfl, rfl, by kernel_rfl⟩
  free := ⟨rfl, rfl, by kernel_rfl⟩
  freeT := ⟨rfl, rfl, by kernel_rfl⟩
theorem libRP : LibRP E0 where
  r := libR
  n := libN
  x := libX
  b := libB
  q := libQ
theorem libP : LibP E0 where
  w := libW
  n := libN
  x := libX
  i := libI
  b := libB
  c := libC
end Go.Am
end
