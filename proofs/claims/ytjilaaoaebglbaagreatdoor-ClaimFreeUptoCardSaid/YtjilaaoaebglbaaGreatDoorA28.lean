/- Parts of the proof. -/
import Derived.Test.YtjilaaoaebglbaaGreatDoorA19
import Derived.Test.YtjilaaoaebglbaaGreatDoorA26
import Derived.Test.YtjilaaoaebglbaaGreatDoorA27
set_option linter.unusedVariables false
set_option linter.unusedSimpArgs false
set_option linter.unnecessarySimpa false
set_option linter.unusedSectionVars false
section
set_option maxRecDepth 1000000
namespace Go.Am
open Go Go.Proofs Go.RowKit
theorem follows_t : Tryz.prog.follows .mixedOrders = true := by kernel_rfl
theorem pure_of_does {E : Env} {hm : FuncId → Bool} {f : FuncId} {a : List AV} {r : Res} {fn : AFn} (hE : EnvOK Tryz.prog E) (hC : CodeOK Tryz.prog E hm) (hd : Does E f a r) (h1 : E.prim f = none) (h2 : E.code f = some fn) (h3 : fn.heap = false) : PureOK Tryz.prog E f a r := by
  obtain ⟨hb, _, n, hn⟩ := hd
  have h := hn n (Nat.le_refl _)
  have hc := calls_ok follows_t hE hC n
  unfold callV at h
  rw [h1] at h
  simp only at h
  cases hv : evalFn E n f a [] 0 [] none with
  | none => rw [hv] at h; simp at h
  | some b =>
    rw [hv] at h
    simp only at h
    cases hres : b.res with
    | ret v =>
      rw [hres] at h
      simp only [Option.map_eq_some_iff] at h
      obtain ⟨y, hy, rfl⟩ := h
      have := pure_of_call (E := E) (hc f a [] 0 [] b hv) (.inl hres) hy
      rw [hres] at this; exact this
    | panic v =>
      rw [hres] at h
      simp only [Option.map_eq_some_iff] at h
      obtain ⟨y, hy, rfl⟩ := h
      have := pure_of_call (E := E) (hc f a [] 0 [] b hv) (.inr hres) hy
      rw [hres] at this; exact this
noncomputable def E1 : Env := { code := E0.code, glob := globS, prim := fun f => if f = 136 then none else primS f, hprim := hprimS }
theorem libW1 : LibW E1 where
  glob := rfl
  of := ⟨rfl, rfl, libW.of.2.2⟩
  small := ⟨rfl, rfl, libW.small.2.2⟩
  zero := ⟨rfl, rfl, libW.zero.2.2⟩
  one := ⟨rfl, rfl, libW.one.2.2⟩
  cmp := ⟨rfl, rfl, libW.cmp.2.2⟩
  bits := ⟨rfl, rfl, libW.bits.2.2⟩
  twos := ⟨rfl, rfl, libW.twos.2.2⟩
  add := ⟨rfl, rfl, libW.add.2.2⟩
  shl := ⟨rfl, rfl, libW.shl.2.2⟩
  shr := ⟨rfl, rfl, libW.shr.2.2⟩
  mul := ⟨rfl, rfl, libW.mul.2.2⟩
  divs := ⟨rfl, rfl, libW.divs.2.2⟩
  div := ⟨rfl, rfl, libW.div.2.2⟩
  digit := ⟨rfl, rfl, libW.digit.2.2⟩
  gcd := ⟨rfl, rfl, libW.gcd.2.2⟩
  reduce := ⟨rfl, rfl, libW.reduce.2.2⟩
  read := ⟨rfl, rfl, libW.read.2.2⟩
  fits := ⟨rfl, rfl, libW.fits.2.2⟩
  sign := ⟨rfl, rfl, libW.sign.2.2⟩
  fcmp := ⟨rfl, rfl, libW.fcmp.2.2⟩
  len32 := ⟨rfl, rfl, libW.len32.2.2⟩
  ctz32 := ⟨rfl, rfl, libW.ctz32.2.2⟩
  clz32 := ⟨rfl, rfl, libW.clz32.2.2⟩
theorem libN1 : LibN E1 where
  letter := ⟨rfl, rfl, libN.letter.2.2⟩
  digit := ⟨rfl, rfl, libN.digit.2.2⟩
  word := ⟨rfl, rfl, libN.word.2.2⟩
  isName := ⟨rfl, rfl, libN.isName.2.2⟩
  reserved := ⟨rfl, rfl, libN.reserved.2.2⟩
  find := ⟨rfl, rfl, libN.find.2.2⟩
  names := ⟨rfl, rfl, libN.names.2.2⟩
  isName2 := ⟨rfl, rfl, libN.isName2.2.2⟩
  rreserved := ⟨rfl, rfl, libN.rreserved.2.2⟩
  rword := ⟨rfl, rfl, libN.rword.2.2⟩
  risName := ⟨rfl, rfl, libN.risName.2.2⟩
theorem libX1 : LibX E1 where
  kids := ⟨rfl, rfl, libX.kids.2.2⟩
  fields := ⟨rfl, rfl, libX.fields.2.2⟩
  count := ⟨rfl, rfl, libX.count.2.2⟩
  valid := ⟨rfl, rfl, libX.valid.2.2⟩
  rkids := ⟨rfl, rfl, libX.rkids.2.2⟩
  rarg := ⟨rfl, rfl, libX.rarg.2.2⟩
  rnode := ⟨rfl, rfl, libX.rnode.2.2⟩
  rwalk := ⟨rfl, rfl, libX.rwalk.2.2⟩
  rvalid := ⟨rfl, rfl, libX.rvalid.2.2⟩
  rhas := ⟨rfl, rfl, libX.rhas.2.2⟩
  rnames := ⟨rfl, rfl, libX.rnames.2.2⟩
  rput := ⟨rfl, rfl, libX.rput.2.2⟩
theorem code_ok0 : CodeOK Tryz.prog E0 hmS := by
  intro f af h
  have h' : (match Tryz.prog.funcs[f]? with | some fn => compFn Tryz.prog glS hmS f fn | none => none) = some af := h
  cases hf : Tryz.prog.funcs[f]? with
  | none => rw [hf] at h'; cases h'
  | some fn => rw [hf] at h'; exact ⟨fn, rfl, h'⟩
theorem code_ok1 : CodeOK Tryz.prog E1 hmS := code_ok0
theorem prim_cases {E : Env} {f : FuncId} {g : List AV → Option AV} {a : List AV} {v : AV} (hp : primS f = some g) (h : g a = some v) (h136 : f = 136 → primVars a = some v → PureOK Tryz.prog E 136 a (.ret v)) : PureOK Tryz.prog E f a (.ret v) := by
  unfold primS at hp
  split at hp
  · rename_i e; subst e; cases hp; exact indexByte_pure h
  · split at hp
    · rename_i e; subst e; cases hp; exact h136 rfl h
    · split at hp
      · rename_i e; subst e; cases hp; exact clone_pure h
      · cases hp
theorem hprim_ok {E : Env} {f : FuncId} {g : List AV → Heap → Nat → List Nat → Option Back} {a : List AV} {H : Heap} {nx : Nat} {fz : List Nat} {b : Back} (hp : hprimS f = some g) (h : g a H nx fz = some b) : CallOK Tryz.prog E f a H nx fz b := by
  unfold hprimS at hp
  split at hp
  · rename_i e; subst e; cases hp; exact hpString_ok h
  · split at hp
    · rename_i e; subst e; cases hp; exact hpCopy_ok h
    · cases hp
theorem env_ok1 : EnvOK Tryz.prog E1 where
  prim f g a v hp h := by
    have hp' : (if f = 136 then none else primS f) = some g := hp
    split at hp'
    · cases hp'
    · rename_i hne; exact prim_cases hp' h fun e => absurd e hne
  hprim f g a H nx fz b hp h := hprim_ok hp h
theorem valid_pure (x : Xp) (hok : x.ok) : PureOK Tryz.prog E1 77 [.agg x.cells] (.ret (.bool x.valid)) :=
  pure_of_does env_ok1 code_ok1 (valid_val libW1 libN1 libX1 x hok) rfl libX1.valid.2.2 rfl
theorem primVars_some {a : List AV} {v : AV} (h : primVars a = some v) : ∃ x : Xp, x.ok ∧ x.valid = true ∧ a = [.agg x.cells] ∧ v = .tuple [Ss (x.nms []), .int .i64 0] := by
  unfold primVars at h
  split at h
  · rename_i e
    cases hl : litVar e with
    | true =>
      rw [hl] at h
      simp only [cond_true, Option.some.injEq] at h
      refine ⟨litXp, ?_, by kernel_rfl, by rw [litVar_eq hl], h.symm⟩
      simp only [litXp, Xp.ok, Xp.okL, and_true]
      refine ⟨⟨?_, ?_, ?_, ?_⟩, ?_, ?_, ⟨⟨?_, ?_, ?_, ?_⟩, ?_, ?_⟩, ⟨?_, ?_, ?_, ?_⟩, ?_, ?_⟩ <;> simp [Nt.digs]
    | false =>
      rw [hl] at h
      simp only [cond_false] at h
      unfold varsC at h
      split at h
      · rename_i hx
        have hs := hx.choose_spec
        simp only [Option.some.injEq] at h
        exact ⟨hx.choose, hs.1, hs.2.1, by rw [hs.2.2], h.symm⟩
      · cases h
  · cases h
end Go.Am
end
